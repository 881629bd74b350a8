/- The desk: what is done with a payment: void. -/
import Derived.Test.YthjmficglpfgpaaDoorOps7
namespace Go.Proofs.YthjmficglpfgpaaDoor
set_option linter.unusedVariables false
set_option linter.unusedSimpArgs false
open Go Go.RowKit Enc
set_option maxRecDepth 100000
set_option maxHeartbeats 800000

/-- Payments that are right, of clients. -/
def PaysOk (xs : List Acc) (ps : List Pay) : Prop := ps.length ≤ 64 ∧ ∀ k : Int, 0 ≤ k → k < ps.length → PayOk (rd ps k) ∧ (9 ≤ (rd ps k).frm ∧ (rd ps k).frm < xs.length) ∧ (9 ≤ (rd ps k).to ∧ (rd ps k).to < xs.length)
def deskPay (f : Pay → Except Int (List Acc)) (ps : List Pay) (r : Req) : Except Int (List Acc × List Pay × Int) :=
  if ¬(0 ≤ r.a ∧ r.a < ps.length) then .error 2
  else match payDo (rd ps r.a) r.op r.amt with
    | .error c => .error c
    | .ok q => match f (rd ps r.a) with
      | .error c => .error c
      | .ok ys => .ok (ys, ps.set r.a.toNat q, 0)
abbrev rcells (r : Req) : Array Value := #[.int .i64 r.key, .int .i64 r.op, .int .i64 r.a, .int .i64 r.b, .int .i64 r.amt, .int .i64 r.legs, .int .i64 r.til]
abbrev pcells (p : Pay) : Array Value := #[.int .i64 p.frm, .int .i64 p.to, .int .i64 p.auth, .int .i64 p.capt, .int .i64 p.refd, .int .i64 p.chgd, .int .i64 p.til, .int .i64 p.stage]
/-- What both hands back, in words for a walk. -/
inductive BothWay (ps : List Pay) (r : Req) : Value → Value → Value → Prop
  | no (c : Int) (p q : Pay) (h : ∀ f, deskPay f ps r = .error c) : BothWay ps r p.val q.val (.iface 38 (.int .i64 c))
  | yes (q : Pay) (h0 : 0 ≤ r.a) (h1 : r.a < ps.length) (h : payDo (rd ps r.a) r.op r.amt = .ok q) : BothWay ps r (rd ps r.a).val q.val .nilIface
theorem both_way {w w' : World} {ps : List Pay} {r : Req} {e : Ending} (h : BothRes w w' ps r e) : Below w.heap.size w w' ∧ ∃ x y z, e = .returned (.tuple #[x, y, z]) ∧ BothWay ps r x y z := by
  refine ⟨h.1, ?_⟩
  have h2 := h.2
  split at h2
  · rename_i hn
    exact ⟨_, _, _, h2, .no 2 z8 z8 fun f => by simp only [deskPay]; rw [if_pos hn]⟩
  · rename_i hn
    have hn' : 0 ≤ r.a ∧ r.a < ps.length := Decidable.not_not.1 hn
    cases hp : payDo (rd ps r.a) r.op r.amt with
    | error c =>
      rw [hp] at h2
      exact ⟨_, _, _, h2, .no c _ z8 fun f => by simp only [deskPay]; rw [if_neg hn, hp]⟩
    | ok q =>
      rw [hp] at h2
      exact ⟨_, _, _, h2, .yes q hn'.1 hn'.2 hp⟩

theorem pay_res {w w3 w4 : World} {g B : Nat} {p s kn v p' x y : Value} {now : Int} {ys : List Acc} {ps qs : List Pay} (hb : Below w.heap.size w w3) (gl : g < w.heap.size) (hB : w.heap.size + 1 < B) (hB3 : w.heap.size + 1 < w3.heap.size)
    (ho : Own w3 B 50 v ys) (hd4 : DeskAt w4 g v p' s kn now) (hp4 : Own w4 w3.heap.size 47 p' qs) (hg4 : w3.grownBy w4 (some g)) :
    DeskRes w ((w4.setCell ⟨w.heap.size + 1, 0, none⟩ x).setCell ⟨w.heap.size + 1, 1, none⟩ y) g p s kn now ps (.ok (ys, qs, 0)) (.returned (Rep.val ⟨0, 0⟩)) := by
  have hv3 : some (w.heap.size + 1) ≠ v.ownBlock := ho.ne hB
  have hvg : some g ≠ v.ownBlock := ho.ne (by omega)
  have hq3 : some (w.heap.size + 1) ≠ p'.ownBlock := hp4.ne hB3
  refine ⟨rfl, ⟨v, p', (hd4.far (p := ⟨w.heap.size + 1, 0, none⟩) (by simp; omega) _).far (p := ⟨w.heap.size + 1, 1, none⟩) (by simp; omega) _, ?_, .inr ?_⟩, ?_⟩
  · exact (((ho.kept hg4 (.inr hvg.symm)).kept ((World.grownBy.refl w4 _).setCell (a := ⟨w.heap.size + 1, 0, none⟩) (g := w.heap.size + 1) rfl x) (.inr hv3.symm)).kept ((World.grownBy.refl _ _).setCell (a := ⟨w.heap.size + 1, 1, none⟩) (g := w.heap.size + 1) rfl y) (.inr hv3.symm)).lower (by omega)
  · exact ((hp4.kept ((World.grownBy.refl w4 _).setCell (a := ⟨w.heap.size + 1, 0, none⟩) (g := w.heap.size + 1) rfl x) (.inr hq3.symm)).kept ((World.grownBy.refl _ _).setCell (a := ⟨w.heap.size + 1, 1, none⟩) (g := w.heap.size + 1) rfl y) (.inr hq3.symm)).lower (by omega)
  · exact (((only_of_below hb g).trans hg4).setNew (a := ⟨w.heap.size + 1, 0, none⟩) (Nat.le_succ _) x).setNew (a := ⟨w.heap.size + 1, 1, none⟩) (Nat.le_succ _) y

theorem void_desk (g : Nat) (a p s kn : Value) (now : Int) (xs : List Acc) (ps : List Pay) (r : Req) (w : World) (hD : Desk w g a p s kn now xs ps) (hP : PaysOk xs ps) :
    Calls Tryd.prog 64 #[.pointer (some ⟨g, 0, none⟩), r.val] w fun e w' => DeskRes w w' g p s kn now ps (deskPay (fun p => release xs p.frm (left p)) ps r) e := by
  have gl := hD.at_.lt
  have HB := Lib.hid (both_any g a p s kn now r ps _ ((hD.at_.alloc (.cells (rcells r) 29)).alloc (.cells #[.int .i64 0, .int .i64 0] 40)) ((hD.pays.alloc (.cells (rcells r) 29)).alloc (.cells #[.int .i64 0, .int .i64 0] 40)) fun k h0 h1 => (hP.2 k h0 h1).1)
  obtain ⟨key, op, ra, rb, amt, legs, til⟩ := r
  go_enter Tryd.func64, Tryd.ntmps64
  go_wp2_with fail
  refine HB.out.mono ?_
  intro e w1 hres
  obtain ⟨hz, x, y, z, rfl, hway⟩ := both_way hres
  clear hres HB
  have hD1 := ((hD.alloc (.cells (rcells ⟨key, op, ra, rb, amt, legs, til⟩) 29)).alloc (.cells #[.int .i64 0, .int .i64 0] 40)).below hz
  have hj1 := (Blk.new1 w (.cells (rcells ⟨key, op, ra, rb, amt, legs, til⟩) 29) 40 #[.int .i64 0, .int .i64 0]).next hz
  have hr1 := ((Blk.new w 29 (rcells ⟨key, op, ra, rb, amt, legs, til⟩)).alloc (.cells #[.int .i64 0, .int .i64 0] 40)).next hz
  have hb1 : Below w.heap.size w w1 := below_next (below_alloc (below_alloc (Below.refl _ _) _) _) hz
  cases hway with
  | no c p' q' hf =>
    obtain ⟨m0, m1, m2, m3, m4, m5, m6, m7⟩ := p'
    obtain ⟨n0, n1, n2, n3, n4, n5, n6, n7⟩ := q'
    go_wp2_with fail
    have hbn := below_alloc (below_alloc hb1 (.cells (pcells ⟨m0, m1, m2, m3, m4, m5, m6, m7⟩) 47)) (.cells (pcells ⟨n0, n1, n2, n3, n4, n5, n6, n7⟩) 47)
    refine (number_err c _ ((hD1.alloc _).alloc _).err).mono ?_
    rintro e w2 ⟨rfl, hz2⟩
    have hj := ((hj1.alloc _).alloc _).next hz2
    have j0 := hj.at 0 _ rfl
    have j1 := hj.at 1 _ rfl
    have jf := hj.frozen
    go_wp2_with fail
    refine bodyPost_ret (res_cell rfl _ rfl agg_rep rfl (hj.chain2)) rfl ?_
    rw [hf]
    refine ⟨rfl, ?_⟩
    (repeat (first | (with_reducible refine below_drew ?_) | (with_reducible refine below_drewN ?_ _) | (with_reducible refine below_alloc ?_ _) | ((with_reducible refine Below.setCell ?_ ?_ _); rotate_left; (focus (first | (simp; done) | (simp; omega))))))
    exact below_next hbn hz2
  | yes q h0 h1 hq =>
    obtain ⟨q0, q1, q2, q3, q4, q5, q6, q7⟩ := q
    have hok := hP.2 _ h0 h1
    have HX : deskPay (fun p => release xs p.frm (left p)) ps ⟨key, op, ra, rb, amt, legs, til⟩ = match release xs (rd ps ra).frm (left (rd ps ra)) with | .error c => .error c | .ok ys => .ok (ys, ps.set ra.toNat ⟨q0, q1, q2, q3, q4, q5, q6, q7⟩, 0) := by
      simp only [deskPay]
      rw [if_neg (by simp only at h0 h1 ⊢; omega), hq]
    simp only at h0 h1 hok hq
    clear hq
    obtain ⟨k, rfl⟩ := Int.eq_ofNat_of_zero_le h0
    rw [Int.toNat_natCast] at HX
    have hk : k < ps.length := by omega
    obtain ⟨pp, hpp⟩ : ∃ pp, rd ps (k : Int) = pp := ⟨_, rfl⟩
    rw [show rd ps (Req.mk key op (k : Int) rb amt legs til).a = pp from hpp]
    rw [hpp] at HX hok
    clear hpp
    obtain ⟨p0, p1, p2, p3, p4, p5, p6, p7⟩ := pp
    have HX' := Lib.hid HX
    clear HX
    go_wp2_with fail
    refine abs_world (fun W => Desk W g a p s kn now xs ps ∧ Blk W (w.heap.size + 1) 40 #[.int .i64 0, .int .i64 0] ∧ Blk W w.heap.size 29 (rcells ⟨key, op, k, rb, amt, legs, til⟩) ∧ Blk W w1.heap.size 47 (pcells ⟨p0, p1, p2, p3, p4, p5, p6, p7⟩) ∧ Blk W (w1.heap.size + 1) 47 (pcells ⟨q0, q1, q2, q3, q4, q5, q6, q7⟩) ∧ Below w.heap.size w W)
      ⟨(hD1.alloc _).alloc _, (hj1.alloc _).alloc _, (hr1.alloc _).alloc _, (Blk.new w1 _ _).alloc _, Blk.new1 _ _ _ _, below_alloc (below_alloc hb1 _) _⟩ ?_
    clear hD1 hj1 hr1 hb1
    rintro W ⟨hD2, hj, hbr, hbp, hbq, hb⟩
    obtain ⟨g0, g1, g2, g3, g4⟩ := hD2.at_.c5
    obtain ⟨k0, k1, k2, k3, k4, k5, k6⟩ := hbr.c7
    obtain ⟨c0, c1, c2, c3, c4, c5, c6, c7⟩ := hbp.c8
    have hSof : ∀ w', Below W.heap.size W w' → (Below W.heap.size W w' ∧ w'.cell? ⟨g, 0, none⟩ = some a ∧ w'.cell? ⟨w1.heap.size, 0, none⟩ = some (.int .i64 p0) ∧ w'.cell? ⟨w1.heap.size, 1, none⟩ = some (.int .i64 p1) ∧ w'.cell? ⟨w1.heap.size, 2, none⟩ = some (.int .i64 p2) ∧ w'.cell? ⟨w1.heap.size, 3, none⟩ = some (.int .i64 p3) ∧ w'.cell? ⟨w1.heap.size, 4, none⟩ = some (.int .i64 p4) ∧ w'.cell? ⟨w1.heap.size, 5, none⟩ = some (.int .i64 p5) ∧ w'.cell? ⟨w1.heap.size, 6, none⟩ = some (.int .i64 p6) ∧ w'.cell? ⟨w1.heap.size, 7, none⟩ = some (.int .i64 p7)) :=
      fun w' hb => ⟨hb, cell_below hb g0, cell_below hb c0, cell_below hb c1, cell_below hb c2, cell_below hb c3, cell_below hb c4, cell_below hb c5, cell_below hb c6, cell_below hb c7⟩
    have hbW : Below W.heap.size W W.drew := below_drew (Below.refl _ _)
    cases hrl : release xs p0 (left ⟨p0, p1, p2, p3, p4, p5, p6, p7⟩) with
    | error c =>
      have hr := Lib.hid (HX'.out.trans (by rw [show release xs (Pay.mk p0 p1 p2 p3 p4 p5 p6 p7).frm (left ⟨p0, p1, p2, p3, p4, p5, p6, p7⟩) = .error c from hrl]))
      have hm := Lib.hid hrl
      clear hrl HX'
      go_region_held3 (fun w' => Below W.heap.size W w' ∧ w'.cell? ⟨g, 0, none⟩ = some a ∧ w'.cell? ⟨w1.heap.size, 0, none⟩ = some (.int .i64 p0) ∧ w'.cell? ⟨w1.heap.size, 1, none⟩ = some (.int .i64 p1) ∧ w'.cell? ⟨w1.heap.size, 2, none⟩ = some (.int .i64 p2) ∧ w'.cell? ⟨w1.heap.size, 3, none⟩ = some (.int .i64 p3) ∧ w'.cell? ⟨w1.heap.size, 4, none⟩ = some (.int .i64 p4) ∧ w'.cell? ⟨w1.heap.size, 5, none⟩ = some (.int .i64 p5) ∧ w'.cell? ⟨w1.heap.size, 6, none⟩ = some (.int .i64 p6) ∧ w'.cell? ⟨w1.heap.size, 7, none⟩ = some (.int .i64 p7))
        (first | exact hSof _ hbW | exact hSof _ hbB | exact hSof _ hbA | assumption)
        ((first
          | (go_at_call 35; refine (left_any ⟨p0, p1, p2, p3, p4, p5, p6, p7⟩ _ hok.1).mono ?_; rintro e w2 ⟨rfl, hz2⟩; have hbA : Below W.heap.size W w2 := below_next hbW hz2)
          | (go_at_call 43; refine (release_any a xs _ _ _ (hD2.accs.below hbA) hD2.good.abs).mono ?_; intro e w3 hres; rw [hm.out] at hres; obtain ⟨hz3, rfl⟩ := hres; have hbB : Below W.heap.size W w3 := below_next hbA hz3)))
      clear k0 k1 k2 k3 k4 k5 k6 g0 g1 g2 g3 g4
      have hj3 := hj.next hbB
      obtain ⟨k0, k1, k2, k3, k4, k5, k6⟩ := (hbr.next hbB).c7
      obtain ⟨d0, d1, d2, d3, d4, d5, d6, d7⟩ := (hbq.next hbB).c8
      have hpos := hj3.lt
      go_wp2_with fail
      refine (pay_no g k c ⟨q0, q1, q2, q3, q4, q5, q6, q7⟩ _ _ (hD2.err.below hbB) (by omega)).mono ?_
      rintro e w4 ⟨rfl, hz4⟩
      have hj4 := hj3.next hz4
      have j0 := hj4.at 0 _ rfl
      have j1 := hj4.at 1 _ rfl
      have jf := hj4.frozen
      go_wp2_with fail
      refine bodyPost_ret (res_cell rfl _ rfl agg_rep rfl (hj4.chain2)) rfl ?_
      rw [hr.out]
      refine ⟨rfl, ?_⟩
      (repeat (first | (with_reducible refine below_drew ?_) | (with_reducible refine below_drewN ?_ _) | (with_reducible refine below_alloc ?_ _) | ((with_reducible refine Below.setCell ?_ ?_ _); rotate_left; (focus (first | (simp; done) | (simp; omega))))))
      exact below_next (below_next hb hbB) hz4
    | ok ys =>
      have hr := Lib.hid (HX'.out.trans (by rw [show release xs (Pay.mk p0 p1 p2 p3 p4 p5 p6 p7).frm (left ⟨p0, p1, p2, p3, p4, p5, p6, p7⟩) = .ok ys from hrl]))
      have hm := Lib.hid hrl
      clear hrl HX'
      go_region_held3 (fun w' => Below W.heap.size W w' ∧ w'.cell? ⟨g, 0, none⟩ = some a ∧ w'.cell? ⟨w1.heap.size, 0, none⟩ = some (.int .i64 p0) ∧ w'.cell? ⟨w1.heap.size, 1, none⟩ = some (.int .i64 p1) ∧ w'.cell? ⟨w1.heap.size, 2, none⟩ = some (.int .i64 p2) ∧ w'.cell? ⟨w1.heap.size, 3, none⟩ = some (.int .i64 p3) ∧ w'.cell? ⟨w1.heap.size, 4, none⟩ = some (.int .i64 p4) ∧ w'.cell? ⟨w1.heap.size, 5, none⟩ = some (.int .i64 p5) ∧ w'.cell? ⟨w1.heap.size, 6, none⟩ = some (.int .i64 p6) ∧ w'.cell? ⟨w1.heap.size, 7, none⟩ = some (.int .i64 p7))
        (first | exact hSof _ hbW | exact hSof _ hbB | exact hSof _ hbA | assumption)
        ((first
          | (go_at_call 35; refine (left_any ⟨p0, p1, p2, p3, p4, p5, p6, p7⟩ _ hok.1).mono ?_; rintro e w2 ⟨rfl, hz2⟩; have hbA : Below W.heap.size W w2 := below_next hbW hz2)
          | (go_at_call 43; refine (release_any a xs _ _ _ (hD2.accs.below hbA) hD2.good.abs).mono ?_; intro e w3 hres; rw [hm.out] at hres; obtain ⟨hz3, v3, rfl, ho3⟩ := hres; have hbB : Below W.heap.size W w3 := below_next hbA hz3)))
      clear k0 k1 k2 k3 k4 k5 k6 g0 g1 g2 g3 g4
      have hj3 := hj.next hbB
      obtain ⟨k0, k1, k2, k3, k4, k5, k6⟩ := (hbr.next hbB).c7
      obtain ⟨d0, d1, d2, d3, d4, d5, d6, d7⟩ := (hbq.next hbB).c8
      have hD3 := hD2.below hbB
      have hs3 := hbA.size
      have lgW := hD2.at_.lt
      have ljW := hj.lt
      obtain ⟨A3, c3, rfl⟩ := ho3.row.slice
      go_wp2_with fail
      refine (pay_yes g a p s kn A3 _ c3 now k ⟨q0, q1, q2, q3, q4, q5, q6, q7⟩ ps _ hD3.at_ hD3.pays hD3.ne hk (by have := hP.1; omega)).mono ?_
      rintro e w4 ⟨rfl, ⟨p', hd4, hp4⟩, hg4⟩
      have hj4 := hj3.grown hg4 (by intro h; injection h with h; omega)
      have j0 := hj4.at 0 _ rfl
      have j1 := hj4.at 1 _ rfl
      have jf := hj4.frozen
      go_wp2_with fail
      refine bodyPost_ret (res_cell rfl _ rfl agg_rep rfl (hj4.chain2)) rfl ?_
      rw [hr.out]
      exact pay_res (below_next hb hbB) gl (by omega) hj3.lt ho3 hd4 hp4 hg4
end Go.Proofs.YthjmficglpfgpaaDoor
