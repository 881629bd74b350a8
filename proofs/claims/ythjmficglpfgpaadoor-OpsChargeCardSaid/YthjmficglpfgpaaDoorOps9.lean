/- The desk: capture (printed by tools/deskpay.py). -/
import Derived.Test.YthjmficglpfgpaaDoorOps8
namespace Go.Proofs.YthjmficglpfgpaaDoor
set_option linter.unusedVariables false
set_option linter.unusedSimpArgs false
open Go Go.RowKit Enc
set_option maxRecDepth 100000
set_option maxHeartbeats 800000

/-- What a capture makes of accounts. -/
def capF (xs : List Acc) (n : Int) (p : Pay) : Except Int (List Acc) :=
  match move xs p.frm p.to n with
  | .error c => .error c
  | .ok es => spend xs n es
theorem capture_desk (g : Nat) (a p s kn : Value) (now : Int) (xs : List Acc) (ps : List Pay) (r : Req) (w : World) (hD : Desk w g a p s kn now xs ps) (hP : PaysOk xs ps) :
    Calls Tryd.prog 63 #[.pointer (some ⟨g, 0, none⟩), r.val] w fun e w' => DeskRes w w' g p s kn now ps (deskPay (capF xs r.amt) ps r) e := by
  have gl := hD.at_.lt
  have HB := Lib.hid (both_any g a p s kn now r ps _ ((hD.at_.alloc (.cells (rcells r) 29)).alloc (.cells #[.int .i64 0, .int .i64 0] 40)) ((hD.pays.alloc (.cells (rcells r) 29)).alloc (.cells #[.int .i64 0, .int .i64 0] 40)) fun k h0 h1 => (hP.2 k h0 h1).1)
  obtain ⟨key, op, ra, rb, amt, legs, til⟩ := r
  go_enter Tryd.func63, Tryd.ntmps63
  go_wp2_with fail
  refine HB.out.mono ?_
  intro e w1 hres
  obtain ⟨hz, x, y, z, rfl, hway⟩ := both_way hres
  clear hres HB
  have hD1 := ((hD.alloc (.cells (rcells ⟨key, op, ra, rb, amt, legs, til⟩) 29)).alloc (.cells #[.int .i64 0, .int .i64 0] 40)).below hz
  have hj1 := (Blk.new1 w (.cells (rcells ⟨key, op, ra, rb, amt, legs, til⟩) 29) 40 #[.int .i64 0, .int .i64 0]).next hz
  have hr1 := ((Blk.new w 29 (rcells ⟨key, op, ra, rb, amt, legs, til⟩)).alloc (.cells #[.int .i64 0, .int .i64 0] 40)).next hz
  have hb1 : Below w.heap.size w w1 := below_next (below_alloc (below_alloc (Below.refl _ _) _) _) hz
  cases hway with
  | no c p' q' hf =>
    obtain ⟨m0, m1, m2, m3, m4, m5, m6, m7⟩ := p'
    obtain ⟨n0, n1, n2, n3, n4, n5, n6, n7⟩ := q'
    go_wp2_with fail
    have hbn := below_alloc (below_alloc hb1 (.cells (pcells ⟨m0, m1, m2, m3, m4, m5, m6, m7⟩) 47)) (.cells (pcells ⟨n0, n1, n2, n3, n4, n5, n6, n7⟩) 47)
    refine (number_err c _ ((hD1.alloc _).alloc _).err).mono ?_
    rintro e w2 ⟨rfl, hz2⟩
    have hj := ((hj1.alloc _).alloc _).next hz2
    have j0 := hj.at 0 _ rfl
    have j1 := hj.at 1 _ rfl
    have jf := hj.frozen
    go_wp2_with fail
    refine bodyPost_ret (res_cell rfl _ rfl agg_rep rfl (hj.chain2)) rfl ?_
    rw [hf]
    refine ⟨rfl, ?_⟩
    (repeat (first | (with_reducible refine below_drew ?_) | (with_reducible refine below_drewN ?_ _) | (with_reducible refine below_alloc ?_ _) | ((with_reducible refine Below.setCell ?_ ?_ _); rotate_left; (focus (first | (simp; done) | (simp; omega))))))
    exact below_next hbn hz2
  | yes q h0 h1 hq =>
    obtain ⟨q0, q1, q2, q3, q4, q5, q6, q7⟩ := q
    have hok := hP.2 _ h0 h1
    have HX : deskPay (capF xs amt) ps ⟨key, op, ra, rb, amt, legs, til⟩ = match capF xs amt (rd ps ra) with | .error c => .error c | .ok ys => .ok (ys, ps.set ra.toNat ⟨q0, q1, q2, q3, q4, q5, q6, q7⟩, 0) := by
      simp only [deskPay]
      rw [if_neg (by simp only at h0 h1 ⊢; omega), hq]
      first | done | rfl
    simp only at h0 h1 hok hq
    clear hq
    obtain ⟨k, rfl⟩ := Int.eq_ofNat_of_zero_le h0
    rw [Int.toNat_natCast] at HX
    have hk : k < ps.length := by omega
    obtain ⟨pp, hpp⟩ : ∃ pp, rd ps (k : Int) = pp := ⟨_, rfl⟩
    rw [show rd ps (Req.mk key op (k : Int) rb amt legs til).a = pp from hpp]
    rw [hpp] at HX hok
    clear hpp
    obtain ⟨p0, p1, p2, p3, p4, p5, p6, p7⟩ := pp
    have HX' := Lib.hid HX
    clear HX
    go_wp2_with fail
    refine abs_world (fun W => Desk W g a p s kn now xs ps ∧ Blk W (w.heap.size + 1) 40 #[.int .i64 0, .int .i64 0] ∧ Blk W w.heap.size 29 (rcells ⟨key, op, k, rb, amt, legs, til⟩) ∧ Blk W w1.heap.size 47 (pcells ⟨p0, p1, p2, p3, p4, p5, p6, p7⟩) ∧ Blk W (w1.heap.size + 1) 47 (pcells ⟨q0, q1, q2, q3, q4, q5, q6, q7⟩) ∧ Below w.heap.size w W)
      ⟨(hD1.alloc _).alloc _, (hj1.alloc _).alloc _, (hr1.alloc _).alloc _, (Blk.new w1 _ _).alloc _, Blk.new1 _ _ _ _, below_alloc (below_alloc hb1 _) _⟩ ?_
    clear hD1 hj1 hr1 hb1
    rintro W ⟨hD2, hj, hbr, hbp, hbq, hb⟩
    obtain ⟨g0, g1, g2, g3, g4⟩ := hD2.at_.c5
    obtain ⟨k0, k1, k2, k3, k4, k5, k6⟩ := hbr.c7
    obtain ⟨c0, c1, c2, c3, c4, c5, c6, c7⟩ := hbp.c8
    have lgW := hD2.at_.lt
    have ljW := hj.lt
    have hbW : Below W.heap.size W W.drew := below_drew (Below.refl _ _)
    have hSof : ∀ w', Below W.heap.size W w' → (Below W.heap.size W w' ∧ w'.cell? ⟨g, 0, none⟩ = some a ∧ w'.cell? ⟨w1.heap.size, 0, none⟩ = some (.int .i64 p0) ∧ w'.cell? ⟨w1.heap.size, 1, none⟩ = some (.int .i64 p1) ∧ w'.cell? ⟨w.heap.size, 4, none⟩ = some (.int .i64 amt)) :=
      fun w' hb => ⟨hb, cell_below hb g0, cell_below hb c0, cell_below hb c1, cell_below hb k4⟩
    cases hmv : move xs p0 p1 amt with
    | error c =>
      have hr := Lib.hid (HX'.out.trans (by first | (simp only [capF, hmv]; done) | (simp only [capF, hmv]; rfl) | simp [capF, hmv]))
      have hm := Lib.hid hmv
      clear hmv HX'
      go_region_held3 (fun w' => Below W.heap.size W w' ∧ w'.cell? ⟨g, 0, none⟩ = some a ∧ w'.cell? ⟨w1.heap.size, 0, none⟩ = some (.int .i64 p0) ∧ w'.cell? ⟨w1.heap.size, 1, none⟩ = some (.int .i64 p1) ∧ w'.cell? ⟨w.heap.size, 4, none⟩ = some (.int .i64 amt))
        (first | exact hSof _ hbW | exact hSof _ hbA | assumption)
        ((go_at_call 39; refine (move_any a xs p0 p1 amt _ hD2.accs.drew hD2.good.curOk).mono ?_; intro e w2 hres; rw [hm.out] at hres; obtain ⟨hz2, rfl⟩ := hres; have hbA : Below W.heap.size W w2 := below_next hbW hz2))
      have hbE := hbA
      have hjE := hj.next hbE
      go_wp2_with fail
      refine (number_err c _ (hD2.err.below hbE)).mono ?_
      rintro e w8 ⟨rfl, hz8⟩
      have hj8 := hjE.next hz8
      have j0 := hj8.at 0 _ rfl
      have j1 := hj8.at 1 _ rfl
      have jf := hj8.frozen
      go_wp2_with fail
      refine bodyPost_ret (res_cell rfl _ rfl agg_rep rfl (hj8.chain2)) rfl ?_
      rw [hr.out]
      refine ⟨rfl, ?_⟩
      (repeat (first | (with_reducible refine below_drew ?_) | (with_reducible refine below_drewN ?_ _) | (with_reducible refine below_alloc ?_ _) | ((with_reducible refine Below.setCell ?_ ?_ _); rotate_left; (focus (first | (simp; done) | (simp; omega))))))
      exact below_next (below_next hb hbE) hz8
    | ok es =>
      have hB := (move_moveOk hD2.good hmv).bal hD2.good
      have hm := Lib.hid hmv
      cases hsp : spend xs amt es with
      | error c =>
        have hr := Lib.hid (HX'.out.trans (by first | (simp only [capF, hmv, hsp]; done) | (simp only [capF, hmv, hsp]; rfl) | simp [capF, hmv, hsp]))
        have hm2 := Lib.hid hsp
        clear hmv hsp HX'
        go_region_held3 (fun w' => Below W.heap.size W w' ∧ w'.cell? ⟨g, 0, none⟩ = some a ∧ w'.cell? ⟨w1.heap.size, 0, none⟩ = some (.int .i64 p0) ∧ w'.cell? ⟨w1.heap.size, 1, none⟩ = some (.int .i64 p1) ∧ w'.cell? ⟨w.heap.size, 4, none⟩ = some (.int .i64 amt))
          (first | exact hSof _ hbW | exact hSof _ hbA | assumption)
          ((go_at_call 39; refine (move_any a xs p0 p1 amt _ hD2.accs.drew hD2.good.curOk).mono ?_; intro e w2 hres; rw [hm.out] at hres; obtain ⟨hz2, v2, rfl, ho2⟩ := hres; have hbA : Below W.heap.size W w2 := below_next hbW hz2))
        go_wp2_with fail
        go_region_held3 (fun w' => Below W.heap.size W w' ∧ w'.cell? ⟨g, 0, none⟩ = some a ∧ w'.cell? ⟨w1.heap.size, 0, none⟩ = some (.int .i64 p0) ∧ w'.cell? ⟨w1.heap.size, 1, none⟩ = some (.int .i64 p1) ∧ w'.cell? ⟨w.heap.size, 4, none⟩ = some (.int .i64 amt))
          (first | exact hSof _ (below_drew hbA) | exact hSof _ hbB | assumption)
          ((go_at_call 44; refine (spend_any a v2 xs amt es _ (hD2.accs.below (below_drew hbA)) ho2.row.drew hB hD2.good.abs).mono ?_; intro e w3 hres; rw [hm2.out] at hres; obtain ⟨hz3, rfl⟩ := hres; have hbB : Below W.heap.size W w3 := below_next (below_drew hbA) hz3))
        clear k0 k1 k2 k3 k4 k5 k6 g0 g1 g2 g3 g4
        have hj3 := hj.next hbB
        obtain ⟨k0, k1, k2, k3, k4, k5, k6⟩ := (hbr.next hbB).c7
        obtain ⟨d0, d1, d2, d3, d4, d5, d6, d7⟩ := (hbq.next hbB).c8
        have hpos := hj3.lt
        go_wp2_with fail
        refine (pay_no g k c ⟨q0, q1, q2, q3, q4, q5, q6, q7⟩ _ _ (hD2.err.below hbB) (by omega)).mono ?_
        rintro e w4 ⟨rfl, hz4⟩
        have hj4 := hj3.next hz4
        have j0 := hj4.at 0 _ rfl
        have j1 := hj4.at 1 _ rfl
        have jf := hj4.frozen
        go_wp2_with fail
        refine bodyPost_ret (res_cell rfl _ rfl agg_rep rfl (hj4.chain2)) rfl ?_
        rw [hr.out]
        refine ⟨rfl, ?_⟩
        (repeat (first | (with_reducible refine below_drew ?_) | (with_reducible refine below_drewN ?_ _) | (with_reducible refine below_alloc ?_ _) | ((with_reducible refine Below.setCell ?_ ?_ _); rotate_left; (focus (first | (simp; done) | (simp; omega))))))
        exact below_next (below_next hb hbB) hz4
      | ok ys =>
        have hr := Lib.hid (HX'.out.trans (by first | (simp only [capF, hmv, hsp]; done) | (simp only [capF, hmv, hsp]; rfl) | simp [capF, hmv, hsp]))
        have hm2 := Lib.hid hsp
        clear hmv hsp HX'
        go_region_held3 (fun w' => Below W.heap.size W w' ∧ w'.cell? ⟨g, 0, none⟩ = some a ∧ w'.cell? ⟨w1.heap.size, 0, none⟩ = some (.int .i64 p0) ∧ w'.cell? ⟨w1.heap.size, 1, none⟩ = some (.int .i64 p1) ∧ w'.cell? ⟨w.heap.size, 4, none⟩ = some (.int .i64 amt))
          (first | exact hSof _ hbW | exact hSof _ hbA | assumption)
          ((go_at_call 39; refine (move_any a xs p0 p1 amt _ hD2.accs.drew hD2.good.curOk).mono ?_; intro e w2 hres; rw [hm.out] at hres; obtain ⟨hz2, v2, rfl, ho2⟩ := hres; have hbA : Below W.heap.size W w2 := below_next hbW hz2))
        go_wp2_with fail
        go_region_held3 (fun w' => Below W.heap.size W w' ∧ w'.cell? ⟨g, 0, none⟩ = some a ∧ w'.cell? ⟨w1.heap.size, 0, none⟩ = some (.int .i64 p0) ∧ w'.cell? ⟨w1.heap.size, 1, none⟩ = some (.int .i64 p1) ∧ w'.cell? ⟨w.heap.size, 4, none⟩ = some (.int .i64 amt))
          (first | exact hSof _ (below_drew hbA) | exact hSof _ hbB | assumption)
          ((go_at_call 44; refine (spend_any a v2 xs amt es _ (hD2.accs.below (below_drew hbA)) ho2.row.drew hB hD2.good.abs).mono ?_; intro e w3 hres; rw [hm2.out] at hres; obtain ⟨hz3, v3, rfl, ho3⟩ := hres; have hbB : Below W.heap.size W w3 := below_next (below_drew hbA) hz3))
        clear k0 k1 k2 k3 k4 k5 k6 g0 g1 g2 g3 g4
        have hj3 := hj.next hbB
        obtain ⟨k0, k1, k2, k3, k4, k5, k6⟩ := (hbr.next hbB).c7
        obtain ⟨d0, d1, d2, d3, d4, d5, d6, d7⟩ := (hbq.next hbB).c8
        have hD3 := hD2.below hbB
        have hs3 := hbA.size
        obtain ⟨A3, c3, rfl⟩ := ho3.row.slice
        go_wp2_with fail
        refine (pay_yes g a p s kn A3 _ c3 now k ⟨q0, q1, q2, q3, q4, q5, q6, q7⟩ ps _ hD3.at_ hD3.pays hD3.ne hk (by have := hP.1; omega)).mono ?_
        rintro e w4 ⟨rfl, ⟨p', hd4, hp4⟩, hg4⟩
        have hj4 := hj3.grown hg4 (by intro h; injection h with h; omega)
        have j0 := hj4.at 0 _ rfl
        have j1 := hj4.at 1 _ rfl
        have jf := hj4.frozen
        go_wp2_with fail
        refine bodyPost_ret (res_cell rfl _ rfl agg_rep rfl (hj4.chain2)) rfl ?_
        rw [hr.out]
        exact pay_res (below_next hb hbB) gl (by first | omega | (simp; omega)) hj3.lt ho3 hd4 hp4 hg4
end Go.Proofs.YthjmficglpfgpaaDoor
