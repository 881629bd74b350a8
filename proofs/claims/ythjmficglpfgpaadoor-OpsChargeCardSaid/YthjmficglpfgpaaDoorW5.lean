/- Payments: what an op makes of one. -/
import Derived.Test.YthjmficglpfgpaaDoorBase2
namespace Go.Proofs.YthjmficglpfgpaaDoor
set_option linter.unusedVariables false
set_option linter.unusedSimpArgs false
open Go Go.RowKit Enc
set_option maxRecDepth 100000

/-- A payment that may be. -/
structure PayOk (p : Pay) : Prop where
  auth : 1 ≤ p.auth ∧ p.auth ≤ 1099511627776
  capt : 0 ≤ p.capt ∧ p.capt ≤ p.auth
  refd : 0 ≤ p.refd
  chgd : 0 ≤ p.chgd
  gave : p.refd + p.chgd ≤ p.capt
  til : 0 ≤ p.til ∧ p.til ≤ 1073741824
  stage : p.stage = 0 ∨ p.stage = 1
def left (p : Pay) : Int := if p.stage = 0 then p.auth - p.capt else 0
def gave (p : Pay) : Int := p.capt - p.refd - p.chgd
def payDo (p : Pay) (op n : Int) : Except Int Pay :=
  if ¬(4 ≤ op ∧ op ≤ 7) then .error 13
  else if ¬ op = 5 ∧ n < 1 then .error 1
  else if op = 4 then (if n ≤ left p then .ok { p with capt := p.capt + n, stage := if p.capt + n = p.auth then 1 else p.stage } else .error 6)
  else if op = 5 then (if p.stage = 0 then .ok { p with stage := 1 } else .error 6)
  else if op = 6 then (if n ≤ gave p then .ok { p with refd := p.refd + n } else .error 6)
  else (if n ≤ gave p then .ok { p with chgd := p.chgd + n } else .error 6)

theorem left_any (p : Pay) (w : World) (hp : PayOk p) : Calls Tryd.prog 35 #[p.val] w fun e w' => e = .returned (.int .i64 (left p)) ∧ Below w.heap.size w w' := by
  obtain ⟨⟨a1, a2⟩, ⟨b1, b2⟩, c1, d1, g1, t1, s1⟩ := hp
  unfold left
  rcases s1 with s1 | s1
  · simp only [s1, if_true]
    go_enter Tryd.func35, Tryd.ntmps35
    go_wp2
    go_ret
    exact ⟨rfl, below_alloc (Below.refl _ _) _⟩
  · simp only [s1]
    go_enter Tryd.func35, Tryd.ntmps35
    go_wp2
    go_ret
    exact ⟨rfl, below_alloc (Below.refl _ _) _⟩
theorem gave_any (p : Pay) (w : World) (hp : PayOk p) : Calls Tryd.prog 17 #[p.val] w fun e w' => e = .returned (.int .i64 (gave p)) ∧ Below w.heap.size w w' := by
  obtain ⟨⟨a1, a2⟩, ⟨b1, b2⟩, c1, d1, g1, t1, s1⟩ := hp
  unfold gave
  go_enter Tryd.func17, Tryd.ntmps17
  go_wp2
  go_ret
  exact ⟨rfl, below_alloc (Below.refl _ _) _⟩

/-- What a doer hands back. -/
def DoerRes (w w' : World) (r : Option Pay) (e : Ending) : Prop :=
  Below w.heap.size w w' ∧ match r with
  | some q => e = .returned (.tuple #[q.val, .bool true])
  | none => ∃ q : Pay, e = .returned (.tuple #[q.val, .bool false])
def cap1 (p : Pay) (n : Int) : Option Pay := if n ≤ left p then some { p with capt := p.capt + n, stage := if p.capt + n = p.auth then 1 else p.stage } else none
theorem left_bd {p : Pay} (hp : PayOk p) : 0 ≤ left p ∧ left p ≤ 1099511627776 ∧ (left p = 0 ∨ (p.stage = 0 ∧ left p = p.auth - p.capt)) := by
  obtain ⟨⟨a1, a2⟩, ⟨b1, b2⟩, c1, d1, g1, t1, s1⟩ := hp
  unfold left
  split <;> omega
theorem capture_yes (p : Pay) (n : Int) (w : World) (hp : PayOk p) (hn : 1 ≤ n) (hl : n ≤ left p) :
    Calls Tryd.prog 95 #[p.val, .int .i64 n] w fun e w' => DoerRes w w' (some { p with capt := p.capt + n, stage := if p.capt + n = p.auth then 1 else p.stage }) e := by
  have hb := left_bd hp
  have HL := Lib.hid (fun w => left_any p w hp)
  obtain ⟨⟨a1, a2⟩, ⟨b1, b2⟩, c1, d1, g1, t1, s1⟩ := hp
  obtain ⟨frm, to, auth, capt, refd, chgd, til, stage⟩ := p
  simp only at *
  obtain rfl : stage = 0 := by omega
  have hla : n ≤ auth - capt := by omega
  clear hb s1
  generalize hle : left ⟨frm, to, auth, capt, refd, chgd, til, 0⟩ = l at *
  clear hle
  by_cases h : capt + n = auth
  · subst h
    rw [if_pos rfl]
    go_enter Tryd.func95, Tryd.ntmps95
    go_wp2_with (go_at_call 35; refine (HL.out _).mono ?_; rintro e w' ⟨rfl, hz⟩; have hk := ((Blk.new w _ _).alloc _).next hz; have hj := (Blk.new1 w _ _ _).next hz; obtain ⟨k0, k1, k2, k3, k4, k5, k6, k7⟩ := hk.c8; obtain ⟨j0, j1, j2, j3, j4, j5, j6, j7⟩ := hj.c8; have kf := hk.frozen; have jf := hj.frozen; have zs := hz.size)
    refine bodyPost_ret (v := .tuple #[Pay.val (Pay.mk frm to (capt + n) (capt + n) refd chgd til 1), .bool true]) (by simp [results, Tryd.results95, go_sem, j0, j1, j2, j3, j4, j5, j6, j7]) rfl ⟨?_, rfl⟩
    exact (by (repeat (refine Below.setCell ?_ (by simp) _)); exact below_next (below_alloc (below_alloc (Below.refl _ _) _) _) hz)
  · rw [if_neg h]
    have hbq : (capt + n == auth) = false := by simpa using h
    go_enter Tryd.func95, Tryd.ntmps95
    go_wp2_with (go_at_call 35; refine (HL.out _).mono ?_; rintro e w' ⟨rfl, hz⟩; have hk := ((Blk.new w _ _).alloc _).next hz; have hj := (Blk.new1 w _ _ _).next hz; obtain ⟨k0, k1, k2, k3, k4, k5, k6, k7⟩ := hk.c8; obtain ⟨j0, j1, j2, j3, j4, j5, j6, j7⟩ := hj.c8; have kf := hk.frozen; have jf := hj.frozen; have zs := hz.size)
    refine bodyPost_ret (v := .tuple #[Pay.val (Pay.mk frm to auth (capt + n) refd chgd til 0), .bool true]) (by simp [results, Tryd.results95, go_sem, j0, j1, j2, j3, j4, j5, j6, j7]) rfl ⟨?_, rfl⟩
    exact (by (repeat (refine Below.setCell ?_ (by simp) _)); exact below_next (below_alloc (below_alloc (Below.refl _ _) _) _) hz)
theorem capture_no (p : Pay) (n : Int) (w : World) (hp : PayOk p) (hn : 1 ≤ n) (hl : ¬ n ≤ left p) :
    Calls Tryd.prog 95 #[p.val, .int .i64 n] w fun e w' => DoerRes w w' none e := by
  have HL := Lib.hid (fun w => left_any p w hp)
  obtain ⟨⟨a1, a2⟩, ⟨b1, b2⟩, c1, d1, g1, t1, s1⟩ := hp
  obtain ⟨frm, to, auth, capt, refd, chgd, til, stage⟩ := p
  simp only at *
  generalize hle : left ⟨frm, to, auth, capt, refd, chgd, til, stage⟩ = l at *
  clear hle
  have hd : decide (n ≤ l) = false := by simpa using hl
  clear s1
  go_enter Tryd.func95, Tryd.ntmps95
  go_wp2_with (go_at_call 35; refine (HL.out _).mono ?_; rintro e w' ⟨rfl, hz⟩; have hk := ((Blk.new w _ _).alloc _).next hz; have hj := (Blk.new1 w _ _ _).next hz; obtain ⟨k0, k1, k2, k3, k4, k5, k6, k7⟩ := hk.c8; obtain ⟨j0, j1, j2, j3, j4, j5, j6, j7⟩ := hj.c8; have kf := hk.frozen; have jf := hj.frozen; have zs := hz.size)
  · refine bodyPost_ret (v := .tuple #[Pay.val (Pay.mk frm to auth (wrap64 (capt + n)) refd chgd til 1), .bool false]) (by simp [results, Tryd.results95, go_sem, j0, j1, j2, j3, j4, j5, j6, j7]) rfl ⟨?_, _, rfl⟩
    exact (by (repeat (refine Below.setCell ?_ (by simp) _)); exact below_next (below_alloc (below_alloc (Below.refl _ _) _) _) hz)
  · refine bodyPost_ret (v := .tuple #[Pay.val (Pay.mk frm to auth (wrap64 (capt + n)) refd chgd til stage), .bool false]) (by simp [results, Tryd.results95, go_sem, j0, j1, j2, j3, j4, j5, j6, j7]) rfl ⟨?_, _, rfl⟩
    exact (by (repeat (refine Below.setCell ?_ (by simp) _)); exact below_next (below_alloc (below_alloc (Below.refl _ _) _) _) hz)
theorem refund_yes (p : Pay) (n : Int) (w : World) (hp : PayOk p) (hn : 1 ≤ n) (hl : n ≤ gave p) :
    Calls Tryd.prog 96 #[p.val, .int .i64 n] w fun e w' => DoerRes w w' (some { p with refd := p.refd + n }) e := by
  have HL := Lib.hid (fun w => gave_any p w hp)
  have hg : n ≤ p.capt := by have := hp.refd; have := hp.chgd; unfold gave at hl; omega
  obtain ⟨⟨a1, a2⟩, ⟨b1, b2⟩, c1, d1, g1, t1, s1⟩ := hp
  obtain ⟨frm, to, auth, capt, refd, chgd, til, stage⟩ := p
  simp only at *
  generalize hle : gave ⟨frm, to, auth, capt, refd, chgd, til, stage⟩ = l at *
  clear hle s1
  · go_enter Tryd.func96, Tryd.ntmps96
    go_wp2_with (go_at_call 17; refine (HL.out _).mono ?_; rintro e w' ⟨rfl, hz⟩; have hk := ((Blk.new w _ _).alloc _).next hz; have hj := (Blk.new1 w _ _ _).next hz; obtain ⟨k0, k1, k2, k3, k4, k5, k6, k7⟩ := hk.c8; obtain ⟨j0, j1, j2, j3, j4, j5, j6, j7⟩ := hj.c8; have kf := hk.frozen; have jf := hj.frozen; have zs := hz.size)
    refine bodyPost_ret (v := .tuple #[Pay.val (Pay.mk frm to auth capt (refd + n) chgd til stage), .bool true]) (by simp [results, Tryd.results96, go_sem, j0, j1, j2, j3, j4, j5, j6, j7]) rfl ⟨?_, rfl⟩
    exact (by (repeat (refine Below.setCell ?_ (by simp) _)); exact below_next (below_alloc (below_alloc (Below.refl _ _) _) _) hz)
theorem refund_no (p : Pay) (n : Int) (w : World) (hp : PayOk p) (hn : 1 ≤ n) (hl : ¬ n ≤ gave p) :
    Calls Tryd.prog 96 #[p.val, .int .i64 n] w fun e w' => DoerRes w w' none e := by
  have HL := Lib.hid (fun w => gave_any p w hp)
  obtain ⟨⟨a1, a2⟩, ⟨b1, b2⟩, c1, d1, g1, t1, s1⟩ := hp
  obtain ⟨frm, to, auth, capt, refd, chgd, til, stage⟩ := p
  simp only at *
  generalize hle : gave ⟨frm, to, auth, capt, refd, chgd, til, stage⟩ = l at *
  clear hle s1
  have hd : decide (n ≤ l) = false := by simpa using hl
  · go_enter Tryd.func96, Tryd.ntmps96
    go_wp2_with (go_at_call 17; refine (HL.out _).mono ?_; rintro e w' ⟨rfl, hz⟩; have hk := ((Blk.new w _ _).alloc _).next hz; have hj := (Blk.new1 w _ _ _).next hz; obtain ⟨k0, k1, k2, k3, k4, k5, k6, k7⟩ := hk.c8; obtain ⟨j0, j1, j2, j3, j4, j5, j6, j7⟩ := hj.c8; have kf := hk.frozen; have jf := hj.frozen; have zs := hz.size)
    refine bodyPost_ret (v := .tuple #[Pay.val (Pay.mk frm to auth capt (wrap64 (refd + n)) chgd til stage), .bool false]) (by simp [results, Tryd.results96, go_sem, j0, j1, j2, j3, j4, j5, j6, j7]) rfl ⟨?_, _, rfl⟩
    exact (by (repeat (refine Below.setCell ?_ (by simp) _)); exact below_next (below_alloc (below_alloc (Below.refl _ _) _) _) hz)
theorem charge_yes (p : Pay) (n : Int) (w : World) (hp : PayOk p) (hn : 1 ≤ n) (hl : n ≤ gave p) :
    Calls Tryd.prog 97 #[p.val, .int .i64 n] w fun e w' => DoerRes w w' (some { p with chgd := p.chgd + n }) e := by
  have HL := Lib.hid (fun w => gave_any p w hp)
  have hg : n ≤ p.capt := by have := hp.refd; have := hp.chgd; unfold gave at hl; omega
  obtain ⟨⟨a1, a2⟩, ⟨b1, b2⟩, c1, d1, g1, t1, s1⟩ := hp
  obtain ⟨frm, to, auth, capt, refd, chgd, til, stage⟩ := p
  simp only at *
  generalize hle : gave ⟨frm, to, auth, capt, refd, chgd, til, stage⟩ = l at *
  clear hle s1
  · go_enter Tryd.func97, Tryd.ntmps97
    go_wp2_with (go_at_call 17; refine (HL.out _).mono ?_; rintro e w' ⟨rfl, hz⟩; have hk := ((Blk.new w _ _).alloc _).next hz; have hj := (Blk.new1 w _ _ _).next hz; obtain ⟨k0, k1, k2, k3, k4, k5, k6, k7⟩ := hk.c8; obtain ⟨j0, j1, j2, j3, j4, j5, j6, j7⟩ := hj.c8; have kf := hk.frozen; have jf := hj.frozen; have zs := hz.size)
    refine bodyPost_ret (v := .tuple #[Pay.val (Pay.mk frm to auth capt refd (chgd + n) til stage), .bool true]) (by simp [results, Tryd.results97, go_sem, j0, j1, j2, j3, j4, j5, j6, j7]) rfl ⟨?_, rfl⟩
    exact (by (repeat (refine Below.setCell ?_ (by simp) _)); exact below_next (below_alloc (below_alloc (Below.refl _ _) _) _) hz)
theorem charge_no (p : Pay) (n : Int) (w : World) (hp : PayOk p) (hn : 1 ≤ n) (hl : ¬ n ≤ gave p) :
    Calls Tryd.prog 97 #[p.val, .int .i64 n] w fun e w' => DoerRes w w' none e := by
  have HL := Lib.hid (fun w => gave_any p w hp)
  obtain ⟨⟨a1, a2⟩, ⟨b1, b2⟩, c1, d1, g1, t1, s1⟩ := hp
  obtain ⟨frm, to, auth, capt, refd, chgd, til, stage⟩ := p
  simp only at *
  generalize hle : gave ⟨frm, to, auth, capt, refd, chgd, til, stage⟩ = l at *
  clear hle s1
  have hd : decide (n ≤ l) = false := by simpa using hl
  · go_enter Tryd.func97, Tryd.ntmps97
    go_wp2_with (go_at_call 17; refine (HL.out _).mono ?_; rintro e w' ⟨rfl, hz⟩; have hk := ((Blk.new w _ _).alloc _).next hz; have hj := (Blk.new1 w _ _ _).next hz; obtain ⟨k0, k1, k2, k3, k4, k5, k6, k7⟩ := hk.c8; obtain ⟨j0, j1, j2, j3, j4, j5, j6, j7⟩ := hj.c8; have kf := hk.frozen; have jf := hj.frozen; have zs := hz.size)
    refine bodyPost_ret (v := .tuple #[Pay.val (Pay.mk frm to auth capt refd (wrap64 (chgd + n)) til stage), .bool false]) (by simp [results, Tryd.results97, go_sem, j0, j1, j2, j3, j4, j5, j6, j7]) rfl ⟨?_, _, rfl⟩
    exact (by (repeat (refine Below.setCell ?_ (by simp) _)); exact below_next (below_alloc (below_alloc (Below.refl _ _) _) _) hz)
theorem shut_yes (p : Pay) (n : Int) (w : World) (h : p.stage = 0) :
    Calls Tryd.prog 98 #[p.val, .int .i64 n] w fun e w' => DoerRes w w' (some { p with stage := 1 }) e := by
  obtain ⟨frm, to, auth, capt, refd, chgd, til, stage⟩ := p
  simp only at h
  subst h
  go_enter Tryd.func98, Tryd.ntmps98
  go_wp2
  exact bodyPost_ret (v := .tuple #[Pay.val (Pay.mk frm to auth capt refd chgd til 1), .bool true]) (by simp [results, Tryd.results98, go_sem]) rfl ⟨below_alloc (below_alloc (Below.refl _ _) _) _, rfl⟩
theorem shut_no (p : Pay) (n : Int) (w : World) (h : p.stage = 1) :
    Calls Tryd.prog 98 #[p.val, .int .i64 n] w fun e w' => DoerRes w w' none e := by
  obtain ⟨frm, to, auth, capt, refd, chgd, til, stage⟩ := p
  simp only at h
  subst h
  go_enter Tryd.func98, Tryd.ntmps98
  go_wp2
  exact bodyPost_ret (v := .tuple #[Pay.val (Pay.mk frm to auth capt refd chgd til 1), .bool false]) (by simp [results, Tryd.results98, go_sem]) rfl ⟨below_alloc (below_alloc (Below.refl _ _) _) _, _, rfl⟩
end Go.Proofs.YthjmficglpfgpaaDoor
