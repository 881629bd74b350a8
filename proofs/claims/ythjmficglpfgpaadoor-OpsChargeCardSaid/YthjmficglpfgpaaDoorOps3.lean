/- The desk: a payment, and it behind an op; the entries by which an amount goes back. -/
import Derived.Test.YthjmficglpfgpaaDoorOps2
namespace Go.Proofs.YthjmficglpfgpaaDoor
set_option linter.unusedVariables false
set_option linter.unusedSimpArgs false
open Go Go.RowKit Enc
set_option maxRecDepth 100000
set_option maxHeartbeats 800000

theorem agg_pay' : AggT Tryd.prog 47 8 := agg_pay
theorem pay_no (g : Nat) (k c : Int) (q : Pay) (x : Value) (w : World) (hg : GT w) (hgl : 0 < w.heap.size) :
    Calls Tryd.prog 91 #[.pointer (some ⟨g, 0, none⟩), .int .i64 k, q.val, x, .iface 38 (.int .i64 c)] w fun e w' => e = .returned (Rep.val ⟨c, 0⟩) ∧ Below w.heap.size w w' := by
  have hg2 := (hg.below (below_alloc (Below.refl _ _) (.cells #[.int .i64 q.frm, .int .i64 q.to, .int .i64 q.auth, .int .i64 q.capt, .int .i64 q.refd, .int .i64 q.chgd, .int .i64 q.til, .int .i64 q.stage] 47))).below (below_alloc (Below.refl _ _) (.cells #[.int .i64 0, .int .i64 0] 40))
  go_enter Tryd.func91, Tryd.ntmps91
  go_wp2_with (go_at_call 86; refine (take_no g c 0 x _ hg2).mono ?_; rintro e w' ⟨rfl, hz⟩; have hj := (Blk.new1 w _ _ _).next hz; have j0 := hj.at 0 _ rfl; have j1 := hj.at 1 _ rfl; have jf := hj.frozen; have zs : w.heap.size + 1 < w'.heap.size := by have := hz.size; simp at this; omega)
  refine bodyPost_ret (res_cell rfl _ rfl agg_rep rfl (hj.chain2.alloc _)) rfl ⟨rfl, ?_⟩
  refine below_alloc ?_ _
  repeat (refine Below.setCell ?_ (by simp) _)
  exact below_next (below_alloc (below_alloc (Below.refl _ _) _) _) hz

def z8 : Pay := ⟨0, 0, 0, 0, 0, 0, 0, 0⟩
/-- What both hands back. -/
def BothRes (w w' : World) (ps : List Pay) (r : Req) (e : Ending) : Prop :=
  Below w.heap.size w w' ∧
  if ¬(0 ≤ r.a ∧ r.a < ps.length) then e = .returned (.tuple #[z8.val, z8.val, .iface 38 (.int .i64 2)])
  else match payDo (rd ps r.a) r.op r.amt with
    | .error c => e = .returned (.tuple #[(rd ps r.a).val, z8.val, .iface 38 (.int .i64 c)])
    | .ok q => e = .returned (.tuple #[(rd ps r.a).val, q.val, .nilIface])
abbrev zc8 : Array Value := #[.int .i64 0, .int .i64 0, .int .i64 0, .int .i64 0, .int .i64 0, .int .i64 0, .int .i64 0, .int .i64 0]
theorem both_out (g : Nat) (a p s kn : Value) (now : Int) (r : Req) (ps : List Pay) (w : World) (hd : DeskAt w g a p s kn now) (hp : Row w p ps) (h : ¬(0 ≤ r.a ∧ r.a < ps.length)) :
    Calls Tryd.prog 89 #[.pointer (some ⟨g, 0, none⟩), r.val] w fun e w' => BothRes w w' ps r e := by
  obtain ⟨key, op, ra, rb, amt, legs, til⟩ := r
  simp only at h
  have hr := Lib.hid h
  have hm := hp.max
  obtain ⟨A, c, rfl⟩ := hp.slice
  obtain ⟨g0, g1, g2, g3, g4⟩ := hd.c5
  have gl := hd.lt
  have gl1 : g < w.heap.size + 1 := by omega
  have gl2 : g < w.heap.size + 1 + 1 := by omega
  by_cases h1 : ra < 0
  · clear h
    go_enter Tryd.func89, Tryd.ntmps89
    go_wp2
    go_quiet (fail)
    go_wp2
    refine bodyPost_ret (v := .tuple #[z8.val, z8.val, .iface 38 (.int .i64 2)]) (by simp [results, Tryd.results89, go_sem, z8]) rfl ⟨?_, ?_⟩
    · (repeat ((with_reducible refine Below.setCell ?_ ?_ _); rotate_left; (focus (first | (simp; done) | (simp; omega)))))
      exact below_drewN (below_alloc (below_alloc (below_alloc (Below.refl _ _) _) _) _) nq
    · rw [if_pos hr.out]
  · have h2 : (ps.length : Int) ≤ ra := by omega
    have h3 : decide (ra < 0) = false := by simpa using h1
    have h4 : 0 ≤ ra := by omega
    clear h h1
    go_enter Tryd.func89, Tryd.ntmps89
    go_wp2
    go_quiet (fail)
    go_wp2
    refine bodyPost_ret (v := .tuple #[z8.val, z8.val, .iface 38 (.int .i64 2)]) (by simp [results, Tryd.results89, go_sem, z8]) rfl ⟨?_, ?_⟩
    · (repeat ((with_reducible refine Below.setCell ?_ ?_ _); rotate_left; (focus (first | (simp; done) | (simp; omega)))))
      exact below_drewN (below_alloc (below_alloc (below_alloc (Below.refl _ _) _) _) _) nq
    · rw [if_pos hr.out]
theorem both_in (g : Nat) (a p s kn : Value) (now : Int) (r : Req) (ps : List Pay) (w : World) (hd : DeskAt w g a p s kn now) (hp : Row w p ps) (h0 : 0 ≤ r.a) (h1 : r.a < ps.length) (hok : PayOk (rd ps r.a)) :
    Calls Tryd.prog 89 #[.pointer (some ⟨g, 0, none⟩), r.val] w fun e w' => BothRes w w' ps r e := by
  obtain ⟨key, op, ra, rb, amt, legs, til⟩ := r
  simp only at h0 h1 hok
  have HP := Lib.hid (fun w => payDo_any (rd ps ra) op amt w hok)
  have hm := hp.max
  obtain ⟨A, c, hpv⟩ := hp.slice
  subst hpv
  have gl := hd.lt
  have gl1 : g < w.heap.size + 1 := by omega
  have gl2 : g < w.heap.size + 1 + 1 := by omega
  have h2 : decide (ra < 0) = false := by simp; omega
  obtain ⟨g0, g1, g2, g3, g4⟩ := hd.c5
  go_enter Tryd.func89, Tryd.ntmps89
  go_wp2
  go_quiet (fail)
  go_wp2
  refine abs_world (fun W => DeskAt W g a (.slice A ps.length c) s kn now ∧ Row W (.slice A ps.length c) ps ∧ Blk W w.heap.size 29 #[.int .i64 key, .int .i64 op, .int .i64 ra, .int .i64 rb, .int .i64 amt, .int .i64 legs, .int .i64 til] ∧ Blk W (w.heap.size + 1) 47 zc8 ∧ Blk W (w.heap.size + 1 + 1) 47 zc8 ∧ Below w.heap.size w W)
    ⟨((hd.alloc _).alloc _).alloc _, ((hp.alloc _).alloc _).alloc _, ((Blk.new _ _ _).alloc _).alloc _, (Blk.new1 _ _ _ _).alloc _, Blk.new2' _ _ _ _ _, below_drewN (below_alloc (below_alloc (below_alloc (Below.refl _ _) _) _) _) nq⟩ ?_
  clear hd hp g0 g1 g2 g3 g4
  rintro W ⟨hd, hp, hb0, hb1, hb2, hbl⟩
  obtain ⟨b, o, c', hv, c0, c1, c2, c3, c4, c5, c6, c7, hl⟩ := hp.payI ra h0 h1
  injection hv with hv1 _ hv3
  subst hv1 hv3
  obtain ⟨g0, g1, g2, g3, g4⟩ := hd.c5
  obtain ⟨k0, k1, k2, k3, k4, k5, k6⟩ := hb0.c7
  have l0 := hb0.lt
  have l1 := hb1.lt
  have l2 := hb2.lt
  have lg := hd.lt
  go_region_held3 (fun w' => w'.cell? ⟨g, 1, none⟩ = some (.slice (some ⟨b, o, none⟩) ps.length c) ∧ w'.cell? ⟨w.heap.size, 2, none⟩ = some (.int .i64 ra) ∧ w'.cell? ⟨b, o + ra.toNat * 8, none⟩ = some (.int .i64 (rd ps ra).frm) ∧ w'.cell? ⟨b, o + ra.toNat * 8 + 1, none⟩ = some (.int .i64 (rd ps ra).to) ∧ w'.cell? ⟨b, o + ra.toNat * 8 + 2, none⟩ = some (.int .i64 (rd ps ra).auth) ∧ w'.cell? ⟨b, o + ra.toNat * 8 + 3, none⟩ = some (.int .i64 (rd ps ra).capt) ∧ w'.cell? ⟨b, o + ra.toNat * 8 + 4, none⟩ = some (.int .i64 (rd ps ra).refd) ∧ w'.cell? ⟨b, o + ra.toNat * 8 + 5, none⟩ = some (.int .i64 (rd ps ra).chgd) ∧ w'.cell? ⟨b, o + ra.toNat * 8 + 6, none⟩ = some (.int .i64 (rd ps ra).til) ∧ w'.cell? ⟨b, o + ra.toNat * 8 + 7, none⟩ = some (.int .i64 (rd ps ra).stage)) (go_keep) ((fail))
  clear c0 c1 c2 c3 c4 c5 c6 c7 g0 g1 g2 g3 g4
  cases hpd : payDo (rd ps ra) op amt with
  | error ec =>
    go_wp2_with fail
    refine (HP.out _).mono ?_
    intro e w' hres
    rw [hpd] at hres
    obtain ⟨hz, rfl⟩ := hres
    go_wp2_with fail
    refine abs_world (fun W' => Blk W' (w.heap.size + 1) 47 zc8 ∧ Blk W' (w.heap.size + 1 + 1) 47 zc8 ∧ Blk W' W.heap.size 47 #[.int .i64 (rd ps ra).frm, .int .i64 (rd ps ra).to, .int .i64 (rd ps ra).auth, .int .i64 (rd ps ra).capt, .int .i64 (rd ps ra).refd, .int .i64 (rd ps ra).chgd, .int .i64 (rd ps ra).til, .int .i64 (rd ps ra).stage] ∧ Blk W' w'.heap.size 47 zc8 ∧ Below w.heap.size w W')
      ⟨((hb1.alloc _).drew.next hz).alloc _, ((hb2.alloc _).drew.next hz).alloc _, ((Blk.new W _ _).drew.next hz).alloc _, Blk.new _ _ _, below_alloc (below_next (below_drew (below_alloc hbl _)) hz) _⟩ ?_
    rintro W' ⟨e1, e2, e3, e4, hbl'⟩
    obtain ⟨m0, m1, m2, m3, m4, m5, m6, m7⟩ := e3.c8
    obtain ⟨n0, n1, n2, n3, n4, n5, n6, n7⟩ := e4.c8
    have ne1 : w.heap.size + 1 ≠ W.heap.size := by omega
    have ne2 : w.heap.size + 1 ≠ w'.heap.size := by have := hz.size; simp at this; omega
    have ne3 : w.heap.size + 1 + 1 ≠ W.heap.size := by omega
    have ne4 : w.heap.size + 1 + 1 ≠ w'.heap.size := by have := hz.size; simp at this; omega
    have ef1 := e1.frozen
    have ef2 := e2.frozen
    obtain ⟨r0, r1, r2, r3, r4, r5, r6, r7⟩ := e1.c8
    obtain ⟨t0, t1, t2, t3, t4, t5, t6, t7⟩ := e2.c8
    go_region_held3 (fun w9 => w9.cell? ⟨W.heap.size, 0, none⟩ = some (.int .i64 (rd ps ra).frm) ∧ w9.cell? ⟨W.heap.size, 1, none⟩ = some (.int .i64 (rd ps ra).to) ∧ w9.cell? ⟨W.heap.size, 2, none⟩ = some (.int .i64 (rd ps ra).auth) ∧ w9.cell? ⟨W.heap.size, 3, none⟩ = some (.int .i64 (rd ps ra).capt) ∧ w9.cell? ⟨W.heap.size, 4, none⟩ = some (.int .i64 (rd ps ra).refd) ∧ w9.cell? ⟨W.heap.size, 5, none⟩ = some (.int .i64 (rd ps ra).chgd) ∧ w9.cell? ⟨W.heap.size, 6, none⟩ = some (.int .i64 (rd ps ra).til) ∧ w9.cell? ⟨W.heap.size, 7, none⟩ = some (.int .i64 (rd ps ra).stage) ∧ w9.cell? ⟨w'.heap.size, 0, none⟩ = some (.int .i64 0) ∧ w9.cell? ⟨w'.heap.size, 1, none⟩ = some (.int .i64 0) ∧ w9.cell? ⟨w'.heap.size, 2, none⟩ = some (.int .i64 0) ∧ w9.cell? ⟨w'.heap.size, 3, none⟩ = some (.int .i64 0) ∧ w9.cell? ⟨w'.heap.size, 4, none⟩ = some (.int .i64 0) ∧ w9.cell? ⟨w'.heap.size, 5, none⟩ = some (.int .i64 0) ∧ w9.cell? ⟨w'.heap.size, 6, none⟩ = some (.int .i64 0) ∧ w9.cell? ⟨w'.heap.size, 7, none⟩ = some (.int .i64 0)) (go_keep) ((fail))
    go_wp2
    refine bodyPost_ret (v := .tuple #[(rd ps ra).val, z8.val, .iface 38 (.int .i64 ec)]) (by simp [results, Tryd.results89, go_sem, r0, r1, r2, r3, r4, r5, r6, r7, t0, t1, t2, t3, t4, t5, t6, t7, z8]) rfl ⟨?_, ?_⟩
    · (repeat (first | (with_reducible refine below_drew ?_) | (with_reducible refine below_drewN ?_ _) | (with_reducible refine below_alloc ?_ _) | ((with_reducible refine Below.setCell ?_ ?_ _); rotate_left; (focus (first | (simp; done) | (simp; omega))))))
      exact hbl'
    · rw [if_neg (by simp; omega), hpd]
  | ok q =>
    obtain ⟨q0, q1, q2, q3, q4, q5, q6, q7⟩ := q
    go_wp2_with fail
    refine (HP.out _).mono ?_
    intro e w' hres
    rw [hpd] at hres
    obtain ⟨hz, rfl⟩ := hres
    go_wp2_with fail
    refine abs_world (fun W' => Blk W' (w.heap.size + 1) 47 zc8 ∧ Blk W' (w.heap.size + 1 + 1) 47 zc8 ∧ Blk W' W.heap.size 47 #[.int .i64 (rd ps ra).frm, .int .i64 (rd ps ra).to, .int .i64 (rd ps ra).auth, .int .i64 (rd ps ra).capt, .int .i64 (rd ps ra).refd, .int .i64 (rd ps ra).chgd, .int .i64 (rd ps ra).til, .int .i64 (rd ps ra).stage] ∧ Blk W' w'.heap.size 47 #[.int .i64 q0, .int .i64 q1, .int .i64 q2, .int .i64 q3, .int .i64 q4, .int .i64 q5, .int .i64 q6, .int .i64 q7] ∧ Below w.heap.size w W')
      ⟨((hb1.alloc _).drew.next hz).alloc _, ((hb2.alloc _).drew.next hz).alloc _, ((Blk.new W _ _).drew.next hz).alloc _, Blk.new _ _ _, below_alloc (below_next (below_drew (below_alloc hbl _)) hz) _⟩ ?_
    rintro W' ⟨e1, e2, e3, e4, hbl'⟩
    obtain ⟨m0, m1, m2, m3, m4, m5, m6, m7⟩ := e3.c8
    obtain ⟨n0, n1, n2, n3, n4, n5, n6, n7⟩ := e4.c8
    have ne1 : w.heap.size + 1 ≠ W.heap.size := by omega
    have ne2 : w.heap.size + 1 ≠ w'.heap.size := by have := hz.size; simp at this; omega
    have ne3 : w.heap.size + 1 + 1 ≠ W.heap.size := by omega
    have ne4 : w.heap.size + 1 + 1 ≠ w'.heap.size := by have := hz.size; simp at this; omega
    have ef1 := e1.frozen
    have ef2 := e2.frozen
    obtain ⟨r0, r1, r2, r3, r4, r5, r6, r7⟩ := e1.c8
    obtain ⟨t0, t1, t2, t3, t4, t5, t6, t7⟩ := e2.c8
    go_region_held3 (fun w9 => w9.cell? ⟨W.heap.size, 0, none⟩ = some (.int .i64 (rd ps ra).frm) ∧ w9.cell? ⟨W.heap.size, 1, none⟩ = some (.int .i64 (rd ps ra).to) ∧ w9.cell? ⟨W.heap.size, 2, none⟩ = some (.int .i64 (rd ps ra).auth) ∧ w9.cell? ⟨W.heap.size, 3, none⟩ = some (.int .i64 (rd ps ra).capt) ∧ w9.cell? ⟨W.heap.size, 4, none⟩ = some (.int .i64 (rd ps ra).refd) ∧ w9.cell? ⟨W.heap.size, 5, none⟩ = some (.int .i64 (rd ps ra).chgd) ∧ w9.cell? ⟨W.heap.size, 6, none⟩ = some (.int .i64 (rd ps ra).til) ∧ w9.cell? ⟨W.heap.size, 7, none⟩ = some (.int .i64 (rd ps ra).stage) ∧ w9.cell? ⟨w'.heap.size, 0, none⟩ = some (.int .i64 q0) ∧ w9.cell? ⟨w'.heap.size, 1, none⟩ = some (.int .i64 q1) ∧ w9.cell? ⟨w'.heap.size, 2, none⟩ = some (.int .i64 q2) ∧ w9.cell? ⟨w'.heap.size, 3, none⟩ = some (.int .i64 q3) ∧ w9.cell? ⟨w'.heap.size, 4, none⟩ = some (.int .i64 q4) ∧ w9.cell? ⟨w'.heap.size, 5, none⟩ = some (.int .i64 q5) ∧ w9.cell? ⟨w'.heap.size, 6, none⟩ = some (.int .i64 q6) ∧ w9.cell? ⟨w'.heap.size, 7, none⟩ = some (.int .i64 q7)) (go_keep) ((fail))
    go_wp2
    refine bodyPost_ret (v := .tuple #[(rd ps ra).val, Pay.val (Pay.mk q0 q1 q2 q3 q4 q5 q6 q7), .nilIface]) (by simp [results, Tryd.results89, go_sem, r0, r1, r2, r3, r4, r5, r6, r7, t0, t1, t2, t3, t4, t5, t6, t7]) rfl ⟨?_, ?_⟩
    · (repeat (first | (with_reducible refine below_drew ?_) | (with_reducible refine below_drewN ?_ _) | (with_reducible refine below_alloc ?_ _) | ((with_reducible refine Below.setCell ?_ ?_ _); rotate_left; (focus (first | (simp; done) | (simp; omega))))))
      exact hbl'
    · rw [if_neg (by simp; omega), hpd]
theorem both_any (g : Nat) (a p s kn : Value) (now : Int) (r : Req) (ps : List Pay) (w : World) (hd : DeskAt w g a p s kn now) (hp : Row w p ps) (hok : ∀ k : Int, 0 ≤ k → k < ps.length → PayOk (rd ps k)) :
    Calls Tryd.prog 89 #[.pointer (some ⟨g, 0, none⟩), r.val] w fun e w' => BothRes w w' ps r e := by
  by_cases h : 0 ≤ r.a ∧ r.a < ps.length
  · exact both_in g a p s kn now r ps w hd hp h.1 h.2 (hok _ h.1 h.2)
  · exact both_out g a p s kn now r ps w hd hp h
end Go.Proofs.YthjmficglpfgpaaDoor
