/- The desk: deposit and transfer. -/
import Derived.Test.YthjmficglpfgpaaDoorOps5
namespace Go.Proofs.YthjmficglpfgpaaDoor
set_option linter.unusedVariables false
set_option linter.unusedSimpArgs false
open Go Go.RowKit Enc
set_option maxRecDepth 100000
set_option maxHeartbeats 800000

theorem allCl_one (xs : List Acc) (a : Int) : allCl xs [a] = isCl xs a := by simp [allCl]
theorem allCl_two (xs : List Acc) (a b : Int) : allCl xs [a, b] = (isCl xs a && isCl xs b) := by simp [allCl]
theorem Desk.alloc {w : World} {g : Nat} {a p s kn : Value} {now : Int} {xs : List Acc} {ps : List Pay} (h : Desk w g a p s kn now xs ps) (o : Obj) : Desk (w.alloc o) g a p s kn now xs ps :=
  ⟨h.at_.alloc o, h.accs.alloc o, h.pays.alloc o, h.ne, h.good, h.err.below (below_alloc (Below.refl _ _) o)⟩
theorem Desk.below {w w' : World} {g : Nat} {a p s kn : Value} {now : Int} {xs : List Acc} {ps : List Pay} (h : Desk w g a p s kn now xs ps) (hb : Below w.heap.size w w') : Desk w' g a p s kn now xs ps :=
  ⟨h.at_.next hb, h.accs.below hb, h.pays.below hb, h.ne, h.good, h.err.below hb⟩
/-- What is told, carried over into the box of the call's own answer. -/
theorem DeskRes.out {w0 w w' : World} {g : Nat} {p s kn : Value} {now : Int} {ps : List Pay} {r : Except Int (List Acc × List Pay × Int)} {e : Ending} (h : DeskRes w w' g p s kn now ps r e) (hb : Below w0.heap.size w0 w) (hg : g < w0.heap.size) :
    ∃ err id, e = .returned (Rep.val ⟨err, id⟩) ∧ w.grownBy w' (some g) ∧ ∀ (j : Nat) (u v : Value), w0.heap.size ≤ j → j < w.heap.size → DeskRes w0 ((w'.setCell ⟨j, 0, none⟩ u).setCell ⟨j, 1, none⟩ v) g p s kn now ps r (.returned (Rep.val ⟨err, id⟩)) := by
  unfold DeskRes at h ⊢
  have hs := hb.size
  cases r with
  | error c =>
    obtain ⟨rfl, hz⟩ := h
    refine ⟨_, _, rfl, only_of_below hz g, fun j u v hj hj2 => ⟨rfl, ?_⟩⟩
    exact ((below_next hb hz).setCell (by simpa using hj) _).setCell (by simpa using hj) _
  | ok t =>
    obtain ⟨ys, qs, id⟩ := t
    obtain ⟨rfl, ⟨a', p', hd, ha, hp⟩, hg2⟩ := h
    refine ⟨_, _, rfl, hg2, fun j u v hj hj2 => ⟨rfl, ⟨a', p', ?_, ?_, ?_⟩, ?_⟩⟩
    · exact (hd.far (p := ⟨j, 0, none⟩) (by simp; omega) _).far (p := ⟨j, 1, none⟩) (by simp; omega) _
    · have hn : some j ≠ a'.ownBlock := ha.ne hj2
      exact ((ha.kept ((World.grownBy.refl w' _).setCell (a := ⟨j, 0, none⟩) (g := j) rfl u) (.inr hn.symm)).kept ((World.grownBy.refl _ _).setCell (a := ⟨j, 1, none⟩) (g := j) rfl v) (.inr hn.symm)).lower hs
    · refine hp.imp (fun h => h) fun hp => ?_
      have hn : some j ≠ p'.ownBlock := hp.ne hj2
      exact ((hp.kept ((World.grownBy.refl w' _).setCell (a := ⟨j, 0, none⟩) (g := j) rfl u) (.inr hn.symm)).kept ((World.grownBy.refl _ _).setCell (a := ⟨j, 1, none⟩) (g := j) rfl v) (.inr hn.symm)).lower hs
    · exact (((only_of_below hb g).trans hg2).setNew (a := ⟨j, 0, none⟩) hj u).setNew (a := ⟨j, 1, none⟩) hj v

def deskTransfer (xs : List Acc) (ps : List Pay) (r : Req) : Except Int (List Acc × List Pay × Int) :=
  if isCl xs r.a && isCl xs r.b then deskPost xs ps r.a r.b r.amt else .error 2
theorem transfer_desk (g : Nat) (a p s kn : Value) (now : Int) (xs : List Acc) (ps : List Pay) (r : Req) (w : World) (hD : Desk w g a p s kn now xs ps) :
    Calls Tryd.prog 61 #[.pointer (some ⟨g, 0, none⟩), r.val] w fun e w' => DeskRes w w' g p s kn now ps (deskTransfer xs ps r) e := by
  obtain ⟨key, op, ra, rb, amt, legs, til⟩ := r
  have gl := hD.at_.lt
  have hD2 := ((hD.alloc (.cells #[.int .i64 key, .int .i64 op, .int .i64 ra, .int .i64 rb, .int .i64 amt, .int .i64 legs, .int .i64 til] 29)).alloc (.cells #[.int .i64 0, .int .i64 0] 40)).alloc (.cells #[.int .i64 ra, .int .i64 rb] 3)
  have hk : Row ((((w.alloc (.cells #[.int .i64 key, .int .i64 op, .int .i64 ra, .int .i64 rb, .int .i64 amt, .int .i64 legs, .int .i64 til] 29)).alloc (.cells #[.int .i64 0, .int .i64 0] 40))).alloc (.cells #[.int .i64 ra, .int .i64 rb] 3)) (.slice (some ⟨w.heap.size + 1 + 1, 0, none⟩) 2 2) [ra, rb] := by
    have := Row.lit ((w.alloc (.cells #[.int .i64 key, .int .i64 op, .int .i64 ra, .int .i64 rb, .int .i64 amt, .int .i64 legs, .int .i64 til] 29)).alloc (.cells #[.int .i64 0, .int .i64 0] 40)) [ra, rb] #[.int .i64 ra, .int .i64 rb] rfl 3 2 rfl (by decide)
    simpa using this
  have HC := Lib.hid (clients_any g a p s kn now xs [ra, rb] _ _ hD2.at_ hD2.accs hk)
  cases hc : allCl xs [ra, rb] with
  | false =>
    have hr := Lib.hid (show deskTransfer xs ps ⟨key, op, ra, rb, amt, legs, til⟩ = .error 2 by simp [deskTransfer, ← allCl_two, hc])
    have hcc := Lib.hid hc
    clear hc
    go_enter Tryd.func61, Tryd.ntmps61
    go_wp2_with fail
    refine HC.out.mono ?_
    rintro e w' ⟨rfl, rfl⟩
    rw [hcc.out]
    have hj := (Blk.new1 w (.cells #[.int .i64 key, .int .i64 op, .int .i64 ra, .int .i64 rb, .int .i64 amt, .int .i64 legs, .int .i64 til] 29) 40 #[.int .i64 0, .int .i64 0]).alloc (.cells #[.int .i64 ra, .int .i64 rb] 3)
    have j0 := hj.at 0 _ rfl
    have j1 := hj.at 1 _ rfl
    have jf := hj.frozen
    go_wp2_with fail
    refine bodyPost_ret (res_cell rfl _ rfl agg_rep rfl ((Blk.new1 _ _ _ _).alloc _)) rfl ?_
    rw [hr.out]
    refine ⟨rfl, ?_⟩
    (repeat (first | (with_reducible refine below_drew ?_) | (with_reducible refine below_drewN ?_ _) | (with_reducible refine below_alloc ?_ _) | ((with_reducible refine Below.setCell ?_ ?_ _); rotate_left; (focus (first | (simp; done) | (simp; omega))))))
    exact Below.refl _ _
  | true =>
    have hr := Lib.hid (show deskTransfer xs ps ⟨key, op, ra, rb, amt, legs, til⟩ = deskPost xs ps ra rb amt by simp [deskTransfer, ← allCl_two, hc])
    have hcc := Lib.hid hc
    clear hc
    go_enter Tryd.func61, Tryd.ntmps61
    go_wp2_with fail
    refine HC.out.mono ?_
    rintro e w' ⟨rfl, rfl⟩
    rw [hcc.out]
    obtain ⟨k0, k1, k2, k3, k4, k5, k6⟩ := (((Blk.new w 29 #[.int .i64 key, .int .i64 op, .int .i64 ra, .int .i64 rb, .int .i64 amt, .int .i64 legs, .int .i64 til]).alloc (.cells #[.int .i64 0, .int .i64 0] 40)).alloc (.cells #[.int .i64 ra, .int .i64 rb] 3)).c7
    go_wp2_with fail
    refine (post_desk g a p s kn now xs ps ra rb amt _ hD2).mono ?_
    intro e w1 hres
    obtain ⟨err, id, rfl, hg1, hall⟩ := hres.out (w0 := w) (below_alloc (below_alloc (below_alloc (Below.refl _ _) _) _) _) gl
    have hj := ((Blk.new1 w (.cells #[.int .i64 key, .int .i64 op, .int .i64 ra, .int .i64 rb, .int .i64 amt, .int .i64 legs, .int .i64 til] 29) 40 #[.int .i64 0, .int .i64 0]).alloc (.cells #[.int .i64 ra, .int .i64 rb] 3)).grown hg1 (by intro h; injection h with h; omega)
    have j0 := hj.at 0 _ rfl
    have j1 := hj.at 1 _ rfl
    have jf := hj.frozen
    go_wp2_with fail
    refine bodyPost_ret (res_cell rfl _ rfl agg_rep rfl (hj.chain2)) rfl ?_
    rw [hr.out]
    exact hall _ _ _ (by omega) (by simp)

theorem _root_.Go.Calls.still {P : Program} {f : FuncId} {args : Array Value} {w : World} {v : Value} (h : Calls P f args w fun e w' => w = w' ∧ e = .returned v) : Calls P f args w fun e w' => e = .returned v ∧ w' = w := h.mono fun _ _ ⟨h1, h2⟩ => ⟨h2, h1.symm⟩
def deskDeposit (xs : List Acc) (ps : List Pay) (r : Req) : Except Int (List Acc × List Pay × Int) :=
  if isCl xs r.a then deskPost xs ps (3 * (rd xs r.a).cur) r.a r.amt else .error 2
theorem deposit_desk (g : Nat) (a p s kn : Value) (now : Int) (xs : List Acc) (ps : List Pay) (r : Req) (w : World) (hD : Desk w g a p s kn now xs ps) :
    Calls Tryd.prog 60 #[.pointer (some ⟨g, 0, none⟩), r.val] w fun e w' => DeskRes w w' g p s kn now ps (deskDeposit xs ps r) e := by
  obtain ⟨key, op, ra, rb, amt, legs, til⟩ := r
  have gl := hD.at_.lt
  have hD2 := ((hD.alloc (.cells #[.int .i64 key, .int .i64 op, .int .i64 ra, .int .i64 rb, .int .i64 amt, .int .i64 legs, .int .i64 til] 29)).alloc (.cells #[.int .i64 0, .int .i64 0] 40)).alloc (.cells #[.int .i64 ra] 3)
  have hk : Row ((((w.alloc (.cells #[.int .i64 key, .int .i64 op, .int .i64 ra, .int .i64 rb, .int .i64 amt, .int .i64 legs, .int .i64 til] 29)).alloc (.cells #[.int .i64 0, .int .i64 0] 40))).alloc (.cells #[.int .i64 ra] 3)) (.slice (some ⟨w.heap.size + 1 + 1, 0, none⟩) 1 1) [ra] := by
    have := Row.lit ((w.alloc (.cells #[.int .i64 key, .int .i64 op, .int .i64 ra, .int .i64 rb, .int .i64 amt, .int .i64 legs, .int .i64 til] 29)).alloc (.cells #[.int .i64 0, .int .i64 0] 40)) [ra] #[.int .i64 ra] rfl 3 1 rfl (by decide)
    simpa using this
  have HC := Lib.hid (clients_any g a p s kn now xs [ra] _ _ hD2.at_ hD2.accs hk)
  cases hc : allCl xs [ra] with
  | false =>
    have hr := Lib.hid (show deskDeposit xs ps ⟨key, op, ra, rb, amt, legs, til⟩ = .error 2 by simp [deskDeposit, ← allCl_one, hc])
    have hcc := Lib.hid hc
    clear hc
    go_enter Tryd.func60, Tryd.ntmps60
    go_wp2_with fail
    refine HC.out.mono ?_
    rintro e w' ⟨rfl, rfl⟩
    rw [hcc.out]
    have hj := (Blk.new1 w (.cells #[.int .i64 key, .int .i64 op, .int .i64 ra, .int .i64 rb, .int .i64 amt, .int .i64 legs, .int .i64 til] 29) 40 #[.int .i64 0, .int .i64 0]).alloc (.cells #[.int .i64 ra] 3)
    have j0 := hj.at 0 _ rfl
    have j1 := hj.at 1 _ rfl
    have jf := hj.frozen
    go_wp2_with fail
    refine bodyPost_ret (res_cell rfl _ rfl agg_rep rfl ((Blk.new1 _ _ _ _).alloc _)) rfl ?_
    rw [hr.out]
    refine ⟨rfl, ?_⟩
    (repeat (first | (with_reducible refine below_drew ?_) | (with_reducible refine below_drewN ?_ _) | (with_reducible refine below_alloc ?_ _) | ((with_reducible refine Below.setCell ?_ ?_ _); rotate_left; (focus (first | (simp; done) | (simp; omega))))))
    exact Below.refl _ _
  | true =>
    have hr := Lib.hid (show deskDeposit xs ps ⟨key, op, ra, rb, amt, legs, til⟩ = deskPost xs ps (3 * (rd xs ra).cur) ra amt by simp [deskDeposit, ← allCl_one, hc])
    have hcc := Lib.hid hc
    have hcl : 9 ≤ ra ∧ ra < xs.length := by rw [allCl_one] at hc; simpa [isCl] using hc
    clear hc
    obtain ⟨hcl0, hcl1⟩ := hcl
    have hra0 : 0 ≤ ra := by omega
    obtain ⟨hcr0, hcr3⟩ := hD.good.cur ra hra0 hcl1
    go_enter Tryd.func60, Tryd.ntmps60
    go_wp2_with fail
    refine HC.out.mono ?_
    rintro e w' ⟨rfl, rfl⟩
    rw [hcc.out]
    obtain ⟨k0, k1, k2, k3, k4, k5, k6⟩ := (((Blk.new w 29 #[.int .i64 key, .int .i64 op, .int .i64 ra, .int .i64 rb, .int .i64 amt, .int .i64 legs, .int .i64 til]).alloc (.cells #[.int .i64 0, .int .i64 0] 40)).alloc (.cells #[.int .i64 ra] 3)).c7
    go_wp2_with fail
    have hb := below_alloc (below_alloc (below_alloc (Below.refl w.heap.size w) (.cells #[.int .i64 key, .int .i64 op, .int .i64 ra, .int .i64 rb, .int .i64 amt, .int .i64 legs, .int .i64 til] 29)) (.cells #[.int .i64 0, .int .i64 0] 40)) (.cells #[.int .i64 ra] 3)
    have hj := (Blk.new1 w (.cells #[.int .i64 key, .int .i64 op, .int .i64 ra, .int .i64 rb, .int .i64 amt, .int .i64 legs, .int .i64 til] 29) 40 #[.int .i64 0, .int .i64 0]).alloc (.cells #[.int .i64 ra] 3)
    refine abs_world (fun W => Desk W g a p s kn now xs ps ∧ Blk W (w.heap.size + 1) 40 #[.int .i64 0, .int .i64 0] ∧ Blk W w.heap.size 29 #[.int .i64 key, .int .i64 op, .int .i64 ra, .int .i64 rb, .int .i64 amt, .int .i64 legs, .int .i64 til] ∧ Below w.heap.size w W) ⟨hD2, hj, ((Blk.new w _ _).alloc _).alloc _, hb⟩ ?_
    clear hD2 hk HC k0 k1 k2 k3 k4 k5 k6 hj hb
    rintro W ⟨hD2, hj, hbx, hb⟩
    obtain ⟨b, o, c, hav, c1, c2, c3, hl⟩ := hD2.accs.accI ra hra0 hcl1
    obtain ⟨g0, g1, g2, g3, g4⟩ := hD2.at_.c5
    obtain ⟨k0, k1, k2, k3, k4, k5, k6⟩ := hbx.c7
    rw [hav] at g0
    refine still_tail 16 (by kernel_rfl) (by kernel_rfl) (fun wd hwd hwc hwf hws => ?_); simp only [List.take_succ_cons, List.take_zero, List.drop_succ_cons, List.drop_zero]; (repeat still_step); still_call (Go.Calls.still (number_any 0 (rd xs ra).cur _ (by omega) (by omega) hcr0 hcr3)); (repeat still_step); refine wpStill_nil ?_
    have hDd : Desk wd g a p s kn now xs ps := by rw [hwd.out]; exact hD2.below (below_drew (Below.refl _ _))
    have hbd : Below w.heap.size w wd := by rw [hwd.out]; exact below_drew hb
    have hjd : Blk wd (w.heap.size + 1) 40 #[.int .i64 0, .int .i64 0] := by rw [hwd.out]; exact hj.drew
    go_wp2_with fail
    refine (post_desk g a p s kn now xs ps _ ra amt _ hDd).mono ?_
    intro e w1 hres
    obtain ⟨err, id, rfl, hg1, hall⟩ := hres.out (w0 := w) hbd gl
    have hj1 := hjd.grown hg1 (by intro h; injection h with h; omega)
    have j0 := hj1.at 0 _ rfl
    have j1 := hj1.at 1 _ rfl
    have jf := hj1.frozen
    go_wp2_with fail
    refine bodyPost_ret (res_cell rfl _ rfl agg_rep rfl (hj1.chain2)) rfl ?_
    rw [hr.out]
    exact hall _ _ _ (by omega) hjd.lt
end Go.Proofs.YthjmficglpfgpaaDoor
