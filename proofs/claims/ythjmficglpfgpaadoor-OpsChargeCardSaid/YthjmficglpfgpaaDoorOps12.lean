/- The desk: charge (printed by tools/deskpay.py). -/
import Derived.Test.YthjmficglpfgpaaDoorOps11
import Derived.Test.YthjmficglpfgpaaDoorChg
namespace Go.Proofs.YthjmficglpfgpaaDoor
set_option linter.unusedVariables false
set_option linter.unusedSimpArgs false
open Go Go.RowKit Enc
set_option maxRecDepth 100000
set_option maxHeartbeats 800000

theorem abs_g {G : World → Prop} {w : World} (F : World → Prop) (hF : F w) (h : ∀ W, F W → G W) : G w := h w hF
theorem Blk.c3 {w : World} {g : Nat} {t : TypeId} {a0 a1 a2 : Value} (h : Blk w g t #[a0, a1, a2]) : w.cell? ⟨g, 0, none⟩ = some a0 ∧ w.cell? ⟨g, 1, none⟩ = some a1 ∧ w.cell? ⟨g, 2, none⟩ = some a2 := ⟨h.cell 0, h.cell 1, h.cell 2⟩
theorem Own.ent0 {w : World} {B e : Nat} {v : Value} {es : List Ent} (h : Own w B e v es) (hl : 0 < es.length) : ∃ b o c, v = .slice (some ⟨b, o, none⟩) es.length c ∧
    w.cell? ⟨b, o, none⟩ = some (.int .i64 (rd es 0).acct) ∧ w.cell? ⟨b, o + 1, none⟩ = some (.int .i64 (rd es 0).amt) ∧ w.frozen? ⟨b, o + 1, none⟩ = false ∧ B ≤ b ∧ b < w.heap.size ∧
    Hid (∀ z, Own (w.setCell ⟨b, o + 1, none⟩ (.int .i64 z)) B e v (es.set 0 { rd es 0 with amt := z })) := by
  obtain ⟨b, o, c, hv, c1, c2, hl2⟩ := h.row.ent 0 hl
  rw [Nat.zero_mul, Nat.add_zero] at c1 c2
  have hrd : rd es ((0 : Nat) : Int) = es[0] := rd_nat es 0 hl
  have s1 := fun z => h.set 0 hl 1 (by decide) (.int .i64 z) { rd es 0 with amt := z } (by rw [show rd es 0 = es[0] from hrd]; rfl) hv
  simp only [Nat.zero_mul, Nat.add_zero] at s1
  exact ⟨b, o, c, hv, c1, c2, (s1 0).2.1, (s1 0).2.2, hl2, fun z => (s1 z).1⟩
theorem charge_desk (g : Nat) (a p s kn : Value) (now : Int) (xs : List Acc) (ps : List Pay) (r : Req) (w : World) (hD : Desk w g a p s kn now xs ps) (hP : PaysOk xs ps) :
    Calls Tryd.prog 66 #[.pointer (some ⟨g, 0, none⟩), r.val] w fun e w' => DeskRes w w' g p s kn now ps (deskPay (chargeF xs r.amt) ps r) e := by
  have gl := hD.at_.lt
  have HB := Lib.hid (both_any g a p s kn now r ps _ ((hD.at_.alloc (.cells (rcells r) 29)).alloc (.cells #[.int .i64 0, .int .i64 0] 40)) ((hD.pays.alloc (.cells (rcells r) 29)).alloc (.cells #[.int .i64 0, .int .i64 0] 40)) fun k h0 h1 => (hP.2 k h0 h1).1)
  obtain ⟨key, op, ra, rb, amt, legs, til⟩ := r
  go_enter Tryd.func66, Tryd.ntmps66
  go_wp2_with fail
  refine HB.out.mono ?_
  intro e w1 hres
  obtain ⟨hz, x, y, z, rfl, hway⟩ := both_way hres
  clear hres HB
  have hD1 := ((hD.alloc (.cells (rcells ⟨key, op, ra, rb, amt, legs, til⟩) 29)).alloc (.cells #[.int .i64 0, .int .i64 0] 40)).below hz
  have hj1 := (Blk.new1 w (.cells (rcells ⟨key, op, ra, rb, amt, legs, til⟩) 29) 40 #[.int .i64 0, .int .i64 0]).next hz
  have hr1 := ((Blk.new w 29 (rcells ⟨key, op, ra, rb, amt, legs, til⟩)).alloc (.cells #[.int .i64 0, .int .i64 0] 40)).next hz
  have hb1 : Below w.heap.size w w1 := below_next (below_alloc (below_alloc (Below.refl _ _) _) _) hz
  cases hway with
  | no c p' q' hf =>
    obtain ⟨m0, m1, m2, m3, m4, m5, m6, m7⟩ := p'
    obtain ⟨n0, n1, n2, n3, n4, n5, n6, n7⟩ := q'
    go_wp2_with fail
    have hbn := below_alloc (below_alloc hb1 (.cells (pcells ⟨m0, m1, m2, m3, m4, m5, m6, m7⟩) 47)) (.cells (pcells ⟨n0, n1, n2, n3, n4, n5, n6, n7⟩) 47)
    refine (number_err c _ ((hD1.alloc _).alloc _).err).mono ?_
    rintro e w2 ⟨rfl, hz2⟩
    have hj := ((hj1.alloc _).alloc _).next hz2
    have j0 := hj.at 0 _ rfl
    have j1 := hj.at 1 _ rfl
    have jf := hj.frozen
    go_wp2_with fail
    refine bodyPost_ret (res_cell rfl _ rfl agg_rep rfl (hj.chain2)) rfl ?_
    rw [hf]
    refine ⟨rfl, ?_⟩
    (repeat (first | (with_reducible refine below_drew ?_) | (with_reducible refine below_drewN ?_ _) | (with_reducible refine below_alloc ?_ _) | ((with_reducible refine Below.setCell ?_ ?_ _); rotate_left; (focus (first | (simp; done) | (simp; omega))))))
    exact below_next hbn hz2
  | yes q h0 h1 hq =>
    obtain ⟨q0, q1, q2, q3, q4, q5, q6, q7⟩ := q
    have hok := hP.2 _ h0 h1
    have HX : deskPay (chargeF xs amt) ps ⟨key, op, ra, rb, amt, legs, til⟩ = match chargeF xs amt (rd ps ra) with | .error c => .error c | .ok ys => .ok (ys, ps.set ra.toNat ⟨q0, q1, q2, q3, q4, q5, q6, q7⟩, 0) := by
      simp only [deskPay]
      rw [if_neg (by simp only at h0 h1 ⊢; omega), hq]
      first | done | rfl
    simp only at h0 h1 hok hq
    clear hq
    obtain ⟨k, rfl⟩ := Int.eq_ofNat_of_zero_le h0
    rw [Int.toNat_natCast] at HX
    have hk : k < ps.length := by omega
    obtain ⟨pp, hpp⟩ : ∃ pp, rd ps (k : Int) = pp := ⟨_, rfl⟩
    rw [show rd ps (Req.mk key op (k : Int) rb amt legs til).a = pp from hpp]
    rw [hpp] at HX hok
    clear hpp
    obtain ⟨p0, p1, p2, p3, p4, p5, p6, p7⟩ := pp
    have HX' := Lib.hid HX
    clear HX
    have hD2 := (hD1.alloc (.cells #[.int .i64 p0, .int .i64 p1, .int .i64 p2, .int .i64 p3, .int .i64 p4, .int .i64 p5, .int .i64 p6, .int .i64 p7] 47)).alloc (.cells #[.int .i64 q0, .int .i64 q1, .int .i64 q2, .int .i64 q3, .int .i64 q4, .int .i64 q5, .int .i64 q6, .int .i64 q7] 47)
    have hj := (hj1.alloc (.cells #[.int .i64 p0, .int .i64 p1, .int .i64 p2, .int .i64 p3, .int .i64 p4, .int .i64 p5, .int .i64 p6, .int .i64 p7] 47)).alloc (.cells #[.int .i64 q0, .int .i64 q1, .int .i64 q2, .int .i64 q3, .int .i64 q4, .int .i64 q5, .int .i64 q6, .int .i64 q7] 47)
    have hbr := (hr1.alloc (.cells #[.int .i64 p0, .int .i64 p1, .int .i64 p2, .int .i64 p3, .int .i64 p4, .int .i64 p5, .int .i64 p6, .int .i64 p7] 47)).alloc (.cells #[.int .i64 q0, .int .i64 q1, .int .i64 q2, .int .i64 q3, .int .i64 q4, .int .i64 q5, .int .i64 q6, .int .i64 q7] 47)
    have hbp := (Blk.new w1 47 #[.int .i64 p0, .int .i64 p1, .int .i64 p2, .int .i64 p3, .int .i64 p4, .int .i64 p5, .int .i64 p6, .int .i64 p7]).alloc (.cells #[.int .i64 q0, .int .i64 q1, .int .i64 q2, .int .i64 q3, .int .i64 q4, .int .i64 q5, .int .i64 q6, .int .i64 q7] 47)
    have hbq := Blk.new1 w1 (.cells #[.int .i64 p0, .int .i64 p1, .int .i64 p2, .int .i64 p3, .int .i64 p4, .int .i64 p5, .int .i64 p6, .int .i64 p7] 47) 47 #[.int .i64 q0, .int .i64 q1, .int .i64 q2, .int .i64 q3, .int .i64 q4, .int .i64 q5, .int .i64 q6, .int .i64 q7]
    have hb := below_alloc (below_alloc hb1 (.cells #[.int .i64 p0, .int .i64 p1, .int .i64 p2, .int .i64 p3, .int .i64 p4, .int .i64 p5, .int .i64 p6, .int .i64 p7] 47)) (.cells #[.int .i64 q0, .int .i64 q1, .int .i64 q2, .int .i64 q3, .int .i64 q4, .int .i64 q5, .int .i64 q6, .int .i64 q7] 47)
    obtain ⟨e0, e1, e2, e3, e4, e5, e6⟩ := hr1.c7
    have lr1 := hr1.lt
    have lr2 : w.heap.size < w1.heap.size + 1 := by omega
    clear hD1 hj1 hr1 hb1
    go_wp2_with fail
    clear e0 e1 e2 e3 e4 e5 e6
    generalize hWW : (w1.alloc (.cells #[.int .i64 p0, .int .i64 p1, .int .i64 p2, .int .i64 p3, .int .i64 p4, .int .i64 p5, .int .i64 p6, .int .i64 p7] 47)).alloc (.cells #[.int .i64 q0, .int .i64 q1, .int .i64 q2, .int .i64 q3, .int .i64 q4, .int .i64 q5, .int .i64 q6, .int .i64 q7] 47) = W at *
    obtain ⟨g0, g1, g2, g3, g4⟩ := hD2.at_.c5
    obtain ⟨k0, k1, k2, k3, k4, k5, k6⟩ := hbr.c7
    obtain ⟨c0, c1, c2, c3, c4, c5, c6, c7⟩ := hbp.c8
    have lgW := hD2.at_.lt
    have ljW := hj.lt
    have hbW : Below W.heap.size W W.drew := below_drew (Below.refl _ _)
    cases hmv : backE xs ⟨p0, p1, p2, p3, p4, p5, p6, p7⟩ amt with
    | error c =>
      have hr := Lib.hid (HX'.out.trans (by first | (simp only [chargeF, hmv]; done) | (simp only [chargeF, hmv]; rfl) | simp [chargeF, hmv]))
      have hm := Lib.hid hmv
      clear hmv HX'
      refine (back_desk g a p s kn now ⟨p0, p1, p2, p3, p4, p5, p6, p7⟩ amt xs _ hD2.at_ hD2.accs hD2.good.curOk).mono ?_
      intro e w2 hres
      rw [hm.out] at hres
      obtain ⟨c', hc', hz2, v2, rfl⟩ : ∃ c', (Except.error c : Except Int (List Ent)) = .error c' ∧ Below W.heap.size W w2 ∧ ∃ v, e = .returned (.tuple #[v, .iface 38 (.int .i64 c')]) := by
        rcases hres with h | ⟨es, h, _⟩
        · exact h
        · cases h
      injection hc' with hc'
      subst hc'
      have hbA : Below W.heap.size W w2 := hz2
      have hbE := hbA
      have hjE := hj.next hbE
      go_wp2_with fail
      refine (number_err c _ (hD2.err.below hbE)).mono ?_
      rintro e w8 ⟨rfl, hz8⟩
      have hj8 := hjE.next hz8
      have j0 := hj8.at 0 _ rfl
      have j1 := hj8.at 1 _ rfl
      have jf := hj8.frozen
      go_wp2_with fail
      refine bodyPost_ret (res_cell rfl _ rfl agg_rep rfl (hj8.chain2)) rfl ?_
      rw [hr.out]
      refine ⟨rfl, ?_⟩
      (repeat (first | (with_reducible refine below_drew ?_) | (with_reducible refine below_drewN ?_ _) | (with_reducible refine below_alloc ?_ _) | ((with_reducible refine Below.setCell ?_ ?_ _); rotate_left; (focus (first | (simp; done) | (simp; omega))))))
      exact below_next (below_next hb hbE) hz8
    | ok es =>
      have hto : 9 ≤ p1 ∧ p1 < xs.length := hok.2.2
      have hB := chgEs_bal hD2.good hok.2.2 hmv
      obtain ⟨⟨hl0, hl4⟩, hac, ham0, ham1⟩ := back_head hD2.good hmv
      have hlb := lacks_bd hD2.good hok.2.2 hmv
      have hla : lacks xs ⟨p0, p1, p2, p3, p4, p5, p6, p7⟩ es = -(rd es 0).amt - ((rd xs p1).bal - (rd xs p1).held) := rfl
      have hcl := hD2.good.client p1 hto.1 hto.2
      have hbal := hD2.good.bal p1 (by omega) hto.2
      have hcu := hD2.good.cur p1 (by omega) hto.2
      have HX'' := Lib.hid (HX'.out.trans (by first | (simp only [chargeF, hmv]; done) | (simp only [chargeF, hmv]; rfl) | simp [chargeF, hmv]))
      have hm := Lib.hid hmv
      clear hmv HX'
      refine (back_desk g a p s kn now ⟨p0, p1, p2, p3, p4, p5, p6, p7⟩ amt xs _ hD2.at_ hD2.accs hD2.good.curOk).mono ?_
      intro e w2 hres
      rw [hm.out] at hres
      obtain ⟨hz2, v2, rfl, ho2⟩ : Below W.heap.size W w2 ∧ ∃ v, e = .returned (.tuple #[v, .nilIface]) ∧ Own w2 W.heap.size 109 v es := by
        rcases hres with ⟨c, h, _⟩ | ⟨es', h, hE⟩
        · cases h
        · injection h with h
          subst h
          exact hE
      have hbA : Below W.heap.size W w2 := hz2
      clear hres hm
      have hD3 := hD2.below hbA
      obtain ⟨hto1, hto2⟩ := hto
      have hto0 : 0 ≤ p1 := by omega
      clear k0 k1 k2 k3 k4 k5 k6 g0 g1 g2 g3 g4 c0 c1 c2 c3 c4 c5 c6 c7
      obtain ⟨g0, g1, g2, g3, g4⟩ := hD3.at_.c5
      obtain ⟨b5, o5, c5, hav, a0, a1, a2, la5⟩ := hD3.accs.accI p1 hto0 hto2
      obtain ⟨e0, e1, e2, e3, e4, e5, e6, e7⟩ := (hbp.next hbA).c8
      rw [hav] at g0
      clear hav
      obtain ⟨en, hen⟩ : ∃ en, rd es 0 = en := ⟨_, rfl⟩
      have HEN := Lib.hid hen
      obtain ⟨se, hse⟩ : ∃ se, rd xs p1 = se := ⟨_, rfl⟩
      have HSE := Lib.hid hse
      rw [hen] at hac ham0 ham1 hla
      rw [hse] at hla hcl hbal hcu a0 a1 a2
      clear hen hse
      obtain ⟨en1, en2⟩ := en
      obtain ⟨s1, s2, s3⟩ := se
      simp only at hac ham0 ham1 hla hcl hbal hcu a0 a1 a2
      go_wp2_with fail
      go_region_held3 (fun w' => w'.cell? ⟨g, 0, none⟩ = some (.slice (some ⟨b5, o5, none⟩) xs.length c5) ∧ w'.cell? ⟨w1.heap.size, 1, none⟩ = some (.int .i64 p1) ∧ w'.cell? ⟨b5, o5 + p1.toNat * 3, none⟩ = some (.int .i64 s1) ∧ w'.cell? ⟨b5, o5 + p1.toNat * 3 + 1, none⟩ = some (.int .i64 s2) ∧ w'.cell? ⟨b5, o5 + p1.toNat * 3 + 2, none⟩ = some (.int .i64 s3))
        (go_keep) ((fail))
      go_wp2_with fail
      refine abs_world (fun V => Desk V g a p s kn now xs ps ∧ Blk V (w.heap.size + 1) 40 #[.int .i64 0, .int .i64 0] ∧ Blk V w.heap.size 29 (rcells ⟨key, op, k, rb, amt, legs, til⟩) ∧ Blk V (w1.heap.size + 1) 47 (pcells ⟨q0, q1, q2, q3, q4, q5, q6, q7⟩) ∧ Blk V w2.heap.size 50 #[.int .i64 s1, .int .i64 s2, .int .i64 s3] ∧ Own V W.heap.size 109 v2 es ∧ Below W.heap.size W V ∧ w2.heap.size < V.heap.size)
        ⟨(hD3.alloc _).below (below_drew (Below.refl _ _)), ((hj.next hbA).alloc _).drew, ((hbr.next hbA).alloc _).drew, ((hbq.next hbA).alloc _).drew, (Blk.new _ _ _).drew, (ho2.alloc _).drew, below_drew (below_alloc hbA _), by simp⟩ ?_
      clear hD3 a0 a1 a2 g0 g1 g2 g3 g4 e0 e1 e2 e3 e4 e5 e6 e7 ho2 hbp
      rintro V ⟨hD3, hj3, hbr3, hbq3, hbs, ho2, hbV, hV2⟩
      obtain ⟨b6, o6, c6, hv6, n0, n1, ln6⟩ := ho2.row.ent 0 hl0
      rw [Nat.zero_mul, Nat.add_zero] at n0 n1
      rw [show rd es ((0 : Nat) : Int) = ⟨en1, en2⟩ from HEN.out] at n0 n1
      subst hv6
      obtain ⟨a0, a1, a2⟩ := hbs.c3
      have hl0' : (0 : Int) < es.length := by omega
      have hneg : IntKind.i64.wrap (-en2) = -en2 := IntWalk.i64_in _ (by omega)
      have hsub : IntKind.i64.wrap (-en2 - (s2 - s3)) = -en2 - (s2 - s3) := IntWalk.i64_in _ (by omega)
      have hbVV : Below V.heap.size V V.drew := below_drew (Below.refl _ _)
      have hSof : ∀ w', Below V.heap.size V w' → (Below V.heap.size V w' ∧ w'.cell? ⟨b6, o6 + 1, none⟩ = some (.int .i64 en2) ∧ w'.cell? ⟨w2.heap.size, 0, none⟩ = some (.int .i64 s1) ∧ w'.cell? ⟨w2.heap.size, 1, none⟩ = some (.int .i64 s2) ∧ w'.cell? ⟨w2.heap.size, 2, none⟩ = some (.int .i64 s3)) :=
        fun w' hb => ⟨hb, cell_below hb n1, cell_below hb a0, cell_below hb a1, cell_below hb a2⟩
      go_region_held3 (fun w' => Below V.heap.size V w' ∧ w'.cell? ⟨b6, o6 + 1, none⟩ = some (.int .i64 en2) ∧ w'.cell? ⟨w2.heap.size, 0, none⟩ = some (.int .i64 s1) ∧ w'.cell? ⟨w2.heap.size, 1, none⟩ = some (.int .i64 s2) ∧ w'.cell? ⟨w2.heap.size, 2, none⟩ = some (.int .i64 s3))
        (first | exact hSof _ hbVV | exact hSof _ hbF | assumption)
        ((go_at_call 18; refine (free_any ⟨s1, s2, s3⟩ _ hbal (by simp only; omega)).mono ?_; rintro e w3 ⟨rfl, hzF⟩; have hbF : Below V.heap.size V w3 := below_next hbVV hzF))
      clear hneg hsub
      clear hSof n0 n1 a0 a1 a2 hj3 hbr3 hbq3 hD3
      refine abs_g (w := w3) (fun X => Blk X w2.heap.size 50 #[.int .i64 s1, .int .i64 s2, .int .i64 s3] ∧ Own X W.heap.size 109 (.slice (some ⟨b6, o6, none⟩) es.length c6) es ∧ Below W.heap.size W X)
        ⟨hbs.next hbF, ho2.below hbF, below_next hbV hbF⟩ ?_
      clear hbs ho2 hbV hbF hbVV
      rintro X ⟨hbs, ho2, hbX⟩
      by_cases hpos : 0 < -en2 - (s2 - s3)
      · have hce : chgEs xs ⟨p0, p1, p2, p3, p4, p5, p6, p7⟩ es = es.set 0 ⟨en1, en2 + (-en2 - (s2 - s3))⟩ ++ [⟨3 * s1 + 2, -(-en2 - (s2 - s3))⟩] := by
          unfold chgEs
          rw [hla, if_pos hpos]
          unfold lossy
          rw [HEN.out]
          show es.set 0 ⟨en1, en2 + (-en2 - (s2 - s3))⟩ ++ [⟨3 * (rd xs p1).cur + 2, _⟩] = _
          rw [HSE.out]
        have HCE := Lib.hid hce
        have hB' := Lib.hid (hce ▸ hB)
        clear hce
        have HXX := Lib.hid (HCE.out ▸ HX''.out)
        obtain ⟨bb, oo, cc, hvv, n0, n1, nf, nB, ln6, hset⟩ := ho2.ent0 hl0
        injection hvv with hvv1 _ hvv3
        injection hvv1 with hvv1
        injection hvv1 with hvv4 hvv5
        subst hvv3 hvv4 hvv5
        rw [HEN.out] at n0 n1
        simp only at n0 n1
        have hset' := Lib.hid (hset.out (en2 + (-en2 - (s2 - s3))))
        rw [HEN.out] at hset'
        have hne6 : b6 ≠ w2.heap.size := fun e => ho2.blk_ne hbs (by decide) (by simp [Value.ownBlock, e])
        have hne6' := Ne.symm hne6
        obtain ⟨a0, a1, a2⟩ := hbs.c3
        have ls := hbs.lt
        have hlen : es.length ≤ 4 := hl4
        have hbY : Below W.heap.size W (X.setCell ⟨b6, o6 + 1, none⟩ (.int .i64 (en2 + (-en2 - (s2 - s3))))) := hbX.setCell nB _
        have HBY := Lib.hid (show ((es.set 0 (Ent.mk en1 (en2 + (-en2 - (s2 - s3))))).length + [Ent.mk (3 * s1 + 2) (-(-en2 - (s2 - s3)))].length) * 16 ≤ 140737488355328 by simp; omega)
        have hes : ((es.set 0 (Ent.mk en1 (en2 + (-en2 - (s2 - s3))))).length) = es.length := by simp
        have HES := Lib.hid hes
        clear hes hset hla hlb hB
        have hown0 : Own (((X.setCell ⟨b6, o6 + 1, none⟩ (.int .i64 (en2 + (-en2 - (s2 - s3)))))).alloc (.cells #[.int .i64 (3 * s1 + 2), .int .i64 (-(-en2 - (s2 - s3)))] 109)) W.heap.size 109 (.slice (some ⟨b6, o6, none⟩) es.length c6) (es.set 0 (Ent.mk en1 (en2 + (-en2 - (s2 - s3))))) := (hset'.out).alloc _
        have hbox : Row (((X.setCell ⟨b6, o6 + 1, none⟩ (.int .i64 (en2 + (-en2 - (s2 - s3)))))).alloc (.cells #[.int .i64 (3 * s1 + 2), .int .i64 (-(-en2 - (s2 - s3)))] 109)) (.slice (some ⟨X.heap.size, 0, none⟩) 1 1) [Ent.mk (3 * s1 + 2) (-(-en2 - (s2 - s3)))] := by
          have := Row.box (X.setCell ⟨b6, o6 + 1, none⟩ (.int .i64 (en2 + (-en2 - (s2 - s3))))) (Ent.mk (3 * s1 + 2) (-(-en2 - (s2 - s3)))) #[.int .i64 (3 * s1 + 2), .int .i64 (-(-en2 - (s2 - s3)))] rfl 109
          rwa [World.size_setCell] at this
        have HSZ := Lib.hid (below_alloc hbY (.cells #[.int .i64 (3 * s1 + 2), .int .i64 (-(-en2 - (s2 - s3)))] 109)).size
        have hcu1 := hcu.1
        have hcu2 := hcu.2
        cases hsp : post xs (es.set 0 (Ent.mk en1 (en2 + (-en2 - (s2 - s3)))) ++ [Ent.mk (3 * s1 + 2) (-(-en2 - (s2 - s3)))]) with
        | error c =>
          have hr := Lib.hid (HXX.out.trans (by rw [hsp]))
          have hm2 := Lib.hid hsp
          clear hsp HXX HX''
          go_wp2_with fail
          refine (number_any 2 s1 _ (by omega) (by omega) hcu1 hcu2).mono ?_
          rintro e w4 ⟨rfl, rfl⟩
          go_wp2_with (at_builtin; refine wp_append (B := W.heap.size) sT_ent rfl rfl (.slice (some ⟨b6, o6, none⟩) es.length c6) (.slice (some ⟨X.heap.size, 0, none⟩) 1 1) rfl rfl hown0 hbox HBY.out (by decide) HSZ.out ?_; intro v7 w7 hown7 hg7 hat7; have hbZ : Below W.heap.size W w7 := below_grown (below_alloc hbY _) hg7 hown0.base; have hD7 := hD2.below hbZ; obtain ⟨g0, g1, g2, g3, g4⟩ := hD7.at_.c5; clear hown0 hbox hset' n0 n1 nf a0 a1 a2)
          go_wp2_with fail
          refine (post_any a v7 xs _ w7 hD7.accs hown7.row hB'.out hD2.good.abs).mono ?_
          intro e w3 hres
          rw [hm2.out] at hres
          obtain ⟨hz3, rfl⟩ := hres
          have hbB : Below W.heap.size W w3 := below_next hbZ hz3
          clear g0 g1 g2 g3 g4 hD7
          have hj3 := hj.next hbB
          obtain ⟨k0, k1, k2, k3, k4, k5, k6⟩ := (hbr.next hbB).c7
          obtain ⟨d0, d1, d2, d3, d4, d5, d6, d7⟩ := (hbq.next hbB).c8
          have hpos := hj3.lt
          go_wp2_with fail
          refine (pay_no g k c ⟨q0, q1, q2, q3, q4, q5, q6, q7⟩ _ _ (hD2.err.below hbB) (by omega)).mono ?_
          rintro e w4 ⟨rfl, hz4⟩
          have hj4 := hj3.next hz4
          have j0 := hj4.at 0 _ rfl
          have j1 := hj4.at 1 _ rfl
          have jf := hj4.frozen
          go_wp2_with fail
          refine bodyPost_ret (res_cell rfl _ rfl agg_rep rfl (hj4.chain2)) rfl ?_
          rw [hr.out]
          refine ⟨rfl, ?_⟩
          (repeat (first | (with_reducible refine below_drew ?_) | (with_reducible refine below_drewN ?_ _) | (with_reducible refine below_alloc ?_ _) | ((with_reducible refine Below.setCell ?_ ?_ _); rotate_left; (focus (first | (simp; done) | (simp; omega))))))
          exact below_next (below_next hb hbB) hz4
        | ok ys =>
          have hr := Lib.hid (HXX.out.trans (by rw [hsp]))
          have hm2 := Lib.hid hsp
          clear hsp HXX HX''
          go_wp2_with fail
          refine (number_any 2 s1 _ (by omega) (by omega) hcu1 hcu2).mono ?_
          rintro e w4 ⟨rfl, rfl⟩
          go_wp2_with (at_builtin; refine wp_append (B := W.heap.size) sT_ent rfl rfl (.slice (some ⟨b6, o6, none⟩) es.length c6) (.slice (some ⟨X.heap.size, 0, none⟩) 1 1) rfl rfl hown0 hbox HBY.out (by decide) HSZ.out ?_; intro v7 w7 hown7 hg7 hat7; have hbZ : Below W.heap.size W w7 := below_grown (below_alloc hbY _) hg7 hown0.base; have hD7 := hD2.below hbZ; obtain ⟨g0, g1, g2, g3, g4⟩ := hD7.at_.c5; clear hown0 hbox hset' n0 n1 nf a0 a1 a2)
          go_wp2_with fail
          refine (post_any a v7 xs _ w7 hD7.accs hown7.row hB'.out hD2.good.abs).mono ?_
          intro e w3 hres
          rw [hm2.out] at hres
          obtain ⟨hz3, v3, rfl, ho3⟩ := hres
          have hbB : Below W.heap.size W w3 := below_next hbZ hz3
          clear g0 g1 g2 g3 g4 hD7
          have hj3 := hj.next hbB
          obtain ⟨k0, k1, k2, k3, k4, k5, k6⟩ := (hbr.next hbB).c7
          obtain ⟨d0, d1, d2, d3, d4, d5, d6, d7⟩ := (hbq.next hbB).c8
          have hD3 := hD2.below hbB
          have hs3 := hbZ.size
          obtain ⟨A3, c3, rfl⟩ := ho3.row.slice
          go_wp2_with fail
          refine (pay_yes g a p s kn A3 _ c3 now k ⟨q0, q1, q2, q3, q4, q5, q6, q7⟩ ps _ hD3.at_ hD3.pays hD3.ne hk (by have := hP.1; omega)).mono ?_
          rintro e w4 ⟨rfl, ⟨p', hd4, hp4⟩, hg4⟩
          have hj4 := hj3.grown hg4 (by intro h; injection h with h; omega)
          have j0 := hj4.at 0 _ rfl
          have j1 := hj4.at 1 _ rfl
          have jf := hj4.frozen
          go_wp2_with fail
          refine bodyPost_ret (res_cell rfl _ rfl agg_rep rfl (hj4.chain2)) rfl ?_
          rw [hr.out]
          exact pay_res (below_next hb hbB) gl (by first | omega | (simp; omega)) hj3.lt ho3 hd4 hp4 hg4
      · have hce : chgEs xs ⟨p0, p1, p2, p3, p4, p5, p6, p7⟩ es = es := by
          unfold chgEs
          rw [hla, if_neg hpos]
        have HXX := Lib.hid (hce ▸ HX''.out)
        have hB' := Lib.hid (hce ▸ hB)
        have hpos' : -en2 - (s2 - s3) ≤ 0 := by omega
        clear hce hla hlb hB
        cases hsp : post xs es with
        | error c =>
          have hr := Lib.hid (HXX.out.trans (by rw [hsp]))
          have hm2 := Lib.hid hsp
          clear hsp HXX HX''
          have hD7 := hD2.below hbX
          obtain ⟨g0, g1, g2, g3, g4⟩ := hD7.at_.c5
          go_wp2_with fail
          refine (post_any a _ xs es X hD7.accs ho2.row hB'.out hD2.good.abs).mono ?_
          intro e w3 hres
          rw [hm2.out] at hres
          obtain ⟨hz3, rfl⟩ := hres
          have hbB : Below W.heap.size W w3 := below_next hbX hz3
          clear g0 g1 g2 g3 g4 hD7
          have hj3 := hj.next hbB
          obtain ⟨k0, k1, k2, k3, k4, k5, k6⟩ := (hbr.next hbB).c7
          obtain ⟨d0, d1, d2, d3, d4, d5, d6, d7⟩ := (hbq.next hbB).c8
          have hpos := hj3.lt
          go_wp2_with fail
          refine (pay_no g k c ⟨q0, q1, q2, q3, q4, q5, q6, q7⟩ _ _ (hD2.err.below hbB) (by omega)).mono ?_
          rintro e w4 ⟨rfl, hz4⟩
          have hj4 := hj3.next hz4
          have j0 := hj4.at 0 _ rfl
          have j1 := hj4.at 1 _ rfl
          have jf := hj4.frozen
          go_wp2_with fail
          refine bodyPost_ret (res_cell rfl _ rfl agg_rep rfl (hj4.chain2)) rfl ?_
          rw [hr.out]
          refine ⟨rfl, ?_⟩
          (repeat (first | (with_reducible refine below_drew ?_) | (with_reducible refine below_drewN ?_ _) | (with_reducible refine below_alloc ?_ _) | ((with_reducible refine Below.setCell ?_ ?_ _); rotate_left; (focus (first | (simp; done) | (simp; omega))))))
          exact below_next (below_next hb hbB) hz4
        | ok ys =>
          have hr := Lib.hid (HXX.out.trans (by rw [hsp]))
          have hm2 := Lib.hid hsp
          clear hsp HXX HX''
          have hD7 := hD2.below hbX
          obtain ⟨g0, g1, g2, g3, g4⟩ := hD7.at_.c5
          go_wp2_with fail
          refine (post_any a _ xs es X hD7.accs ho2.row hB'.out hD2.good.abs).mono ?_
          intro e w3 hres
          rw [hm2.out] at hres
          obtain ⟨hz3, v3, rfl, ho3⟩ := hres
          have hbB : Below W.heap.size W w3 := below_next hbX hz3
          clear g0 g1 g2 g3 g4 hD7
          have hj3 := hj.next hbB
          obtain ⟨k0, k1, k2, k3, k4, k5, k6⟩ := (hbr.next hbB).c7
          obtain ⟨d0, d1, d2, d3, d4, d5, d6, d7⟩ := (hbq.next hbB).c8
          have hD3 := hD2.below hbB
          have hs3 := hbX.size
          obtain ⟨A3, c3, rfl⟩ := ho3.row.slice
          go_wp2_with fail
          refine (pay_yes g a p s kn A3 _ c3 now k ⟨q0, q1, q2, q3, q4, q5, q6, q7⟩ ps _ hD3.at_ hD3.pays hD3.ne hk (by have := hP.1; omega)).mono ?_
          rintro e w4 ⟨rfl, ⟨p', hd4, hp4⟩, hg4⟩
          have hj4 := hj3.grown hg4 (by intro h; injection h with h; omega)
          have j0 := hj4.at 0 _ rfl
          have j1 := hj4.at 1 _ rfl
          have jf := hj4.frozen
          go_wp2_with fail
          refine bodyPost_ret (res_cell rfl _ rfl agg_rep rfl (hj4.chain2)) rfl ?_
          rw [hr.out]
          exact pay_res (below_next hb hbB) gl (by first | omega | (simp; omega)) hj3.lt ho3 hd4 hp4 hg4
end Go.Proofs.YthjmficglpfgpaaDoor
