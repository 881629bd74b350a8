/- BankBad: the walk. -/
import Derived.Test.YthjmficglpfgpaaDoorX9
namespace Go.Proofs.YthjmficglpfgpaaDoor
set_option linter.unusedVariables false
set_option linter.unusedSimpArgs false
open Go Go.RowKit Enc
set_option maxRecDepth 100000
set_option maxHeartbeats 3200000

theorem bankBad_walk (vc vh vd lv : Value) (cs : List U8) (has : List U32) (ds : List U8) (r : Req) (ls : List Bool) (w : World) (hin : BookIn w vc vh vd (.slice none 0 0) cs has ds []) (hl : Row w lv ls) (hcap : CapOk lv) (hT : GT w) :
    Calls Tryd.prog 8 #[.agg #[vc, vh, vd], r.val, lv] w fun e w' => e = .returned (.bool true) ∧ Below w.heap.size w w' := by
  have hq := eql_rep
  have h0 := ((Env.nil w).alloc 25 [vc, vh, vd]).alloc 29 r.cells
  simp only [List.nil_append, List.cons_append, List.set_cons_zero, List.set_cons_succ, World.size_alloc] at h0
  have HM := Lib.hid (may_req r)
  have HI := Lib.hid hin
  have HT := Lib.hid hT
  have HL := Lib.hid hl
  have HC := Lib.hid hcap
  have HA := Lib.hid (fun (v : Value) (ks : List Kn) => keysAsk_any v ks r)
  have HD := Lib.hid (fun s v => bankDo_st s v r lv ls)
  have HLAW := Lib.hid (fun s (h : StNum s) (hr : ReqOk r) => bad_law (ls := ls) h hr)
  have HBAD := Lib.hid (fun s (hr : ¬ ReqOk r) => (show bankDo s r ls = (s, ⟨1, 0⟩, 0) by unfold bankDo; rw [if_pos hr]))
  clear hin hT hl hcap
  obtain ⟨key, op, ra, rb, amt, legs, til⟩ := r
  simp only [Req.cells] at h0
  have H0 := Lib.hid h0
  (have f0 := h0.facts; simp only [AllF, cellsF, gapF, Nat.zero_add, Nat.reduceAdd, and_true, true_and] at f0)
  clear h0
  go_enter Tryd.func8, Tryd.ntmps8
  go_wp2_with fail
  refine (awake16 _ (HT.out.below H0.out.bel)).mono ?_
  rintro e w1 ⟨rfl, hz⟩
  have h1 := H0.out.next hz
  have H1 := Lib.hid h1
  clear f0
  (have f1 := h1.facts; simp only [AllF, cellsF, gapF, Nat.zero_add, Nat.reduceAdd, and_true, true_and] at f1)
  clear h1 hz H0
  go_wp2_with fail
  refine (state_in (HI.out.below H1.out.bel) 0 (by decide)).mono ?_
  rintro e w2 ⟨v, rfl, ⟨s, hS, -, hv⟩, hz⟩
  obtain ⟨A1, c1, A2, c2, A3, c3, A4, c4, rfl, -⟩ := hv.open
  have h2 := (H1.out.next hz).alloc 36 [.slice A1 s.accs.length c1, .slice A2 s.pays.length c2, .slice A3 s.sagas.length c3, .slice A4 s.known.length c4, .int .i64 s.now]
  simp only [List.nil_append, List.cons_append, List.set_cons_zero, List.set_cons_succ, World.size_alloc] at h2
  have hb2 := H1.out.next hz
  have H2b := Lib.hid hb2
  clear f1
  (have f2 := hb2.facts; simp only [AllF, cellsF, gapF, Nat.zero_add, Nat.reduceAdd, and_true, true_and] at f2)
  have H2 := Lib.hid h2
  have HV2 := Lib.hid hv
  clear h2 hz H1 hb2 hv
  go_wp2_with fail
  refine (HD.out s _ _ (HV2.out.below (below_alloc (Below.refl _ _) _)) (HL.out.below H2.out.bel) HC.out hS.ok.good hS.ok.pays (HT.out.below H2.out.bel) (by rw [hS.known]; simp)).mono ?_
  have hlaw := HLAW.out s hS
  have hbad := HBAD.out s
  generalize bankDo s ⟨key, op, ra, rb, amt, legs, til⟩ ls = X at *
  have HLW := Lib.hid hlaw
  have HBD := Lib.hid hbad
  clear hlaw hbad HLAW HBAD
  obtain ⟨t, ⟨err, id⟩, cnt⟩ := X
  rintro e w3 ⟨hz, v3, rfl, hv3⟩
  obtain ⟨B1, d1, B2, d2, B3, d3, B4, d4, rfl, -⟩ := hv3.open
  have h3 := H2.out.next hz
  have H3 := Lib.hid h3
  have HS3 := Lib.hid ((HV2.out.below (below_alloc (Below.refl _ _) _)).below hz)
  have HV3 := Lib.hid hv3
  clear f2
  (have f3 := h3.facts; simp only [AllF, cellsF, gapF, Nat.zero_add, Nat.reduceAdd, and_true, true_and] at f3)
  clear h3 hz H2 hv3 H2b HV2
  go_wp2_with fail
  have h4 := (H3.out.alloc 36 [.slice B1 t.accs.length d1, .slice B2 t.pays.length d2, .slice B3 t.sagas.length d3, .slice B4 t.known.length d4, .int .i64 t.now]).alloc 40 [.int .i64 err, .int .i64 id]
  simp only [List.nil_append, List.cons_append, List.set_cons_zero, List.set_cons_succ, World.size_alloc] at h4
  have HB4 := Lib.hid (fun W (hb : Below _ _ W) => (show Below w3.heap.size w3 W from below_next (below_alloc (below_alloc (Below.refl _ _) (.cells #[.slice B1 t.accs.length d1, .slice B2 t.pays.length d2, .slice B3 t.sagas.length d3, .slice B4 t.known.length d4, .int .i64 t.now] 36)) (.cells #[.int .i64 err, .int .i64 id] 40)) hb))
  have H4 := Lib.hid h4
  clear h4
  refine (HM.out _).mono ?_
  rintro e w5 ⟨b, rfl, hb, hz⟩
  have h5 := H4.out.next hz
  have H5 := Lib.hid h5
  have HV5 := Lib.hid (HV3.out.below (HB4.out _ hz))
  have HS5 := Lib.hid (HS3.out.below (HB4.out _ hz))
  clear f3
  (have f5 := h5.facts; simp only [AllF, cellsF, gapF, Nat.zero_add, Nat.reduceAdd, and_true, true_and] at f5)
  clear h5 hz H4 H3 HV3 HS3 HB4 HM
  by_cases hr : ReqOk ⟨key, op, ra, rb, amt, legs, til⟩
  · obtain rfl : b = true := hb.2 hr
    obtain ⟨h1, h2, h3⟩ := HLW.out hr
    have HE := Lib.hid h3
    have HAS := Lib.hid h1
    have HK := Lib.hid h2
    clear h1 h2 h3 hb hr HLW HBD
    obtain ⟨-, -, -, hk4⟩ := HV5.out.rows
    have HK4 := Lib.hid hk4
    clear hk4
    go_wp2_with fail
    refine (HA.out _ _ _ HK4.out).mono ?_
    rintro e w6 ⟨rfl, hz⟩
    rw [HAS.out]
    have e0 : askV (some ⟨err, id⟩) = .tuple #[.agg #[.int .i64 err, .int .i64 id], .bool true] := rfl
    rw [e0]
    clear e0
    have h6 := H5.out.next hz
    have H6 := Lib.hid h6
    have HV6 := Lib.hid (HV5.out.below hz)
    have HS6 := Lib.hid (HS5.out.below hz)
    clear f5
    (have f6 := h6.facts; simp only [AllF, cellsF, gapF, Nat.zero_add, Nat.reduceAdd, and_true, true_and] at f6)
    have hk1 : ((t.known.length : Int) == 1) = true := by rw [HK.out]; rfl
    clear h6 hz H5 HV5 HS5 HA HK4
    by_cases he : err = 0
    · subst he
      go_wp2
      go_ret
      exact ⟨rfl, by (repeat (first | (with_reducible refine below_drew ?_) | (with_reducible refine below_drewN ?_ _) | (with_reducible refine below_alloc ?_ _) | ((with_reducible refine Below.setCell ?_ ?_ _); rotate_left; (focus (first | (simp; done) | (simp; omega)))))); exact H6.out.bel⟩
    · have he' : (err == 0) = false := by simpa using he
      have hsm : SameP s t := by
        obtain ⟨a, b, c⟩ := HE.out he
        exact ⟨a.symm, b.symm, c.symm⟩
      have HSM := Lib.hid (decide_eq_true hsm)
      clear hsm he
      go_wp2_with fail
      refine (same_st _ _ s t _ (HS6.out.below (below_alloc (Below.refl _ _) _)) (HV6.out.below (below_alloc (Below.refl _ _) _))).mono ?_
      rintro e w7 ⟨rfl, hz⟩
      rw [HSM.out]
      have HZ := Lib.hid hz
      clear hz
      go_wp2
      go_ret
      exact ⟨rfl, below_next (below_alloc H6.out.bel _) HZ.out⟩
  · obtain rfl : b = false := by
      cases b with
      | false => rfl
      | true => exact absurd (hb.1 rfl) hr
    have hX := HBD.out hr
    simp only [Prod.mk.injEq, Rep.mk.injEq] at hX
    obtain ⟨rfl, ⟨rfl, rfl⟩, rfl⟩ := hX
    have HSM := Lib.hid (show decide (SameK t t) = true from decide_eq_true ⟨⟨rfl, rfl, rfl⟩, rfl⟩)
    clear hb hr HLW HBD
    go_wp2_with fail
    refine (sameK_st _ _ t t _ HV5.out HS5.out).mono ?_
    rintro e w7 ⟨rfl, hz⟩
    rw [HSM.out]
    have HZ := Lib.hid hz
    clear hz
    go_wp2
    go_ret
    exact ⟨rfl, below_next H5.out.bel HZ.out⟩
end Go.Proofs.YthjmficglpfgpaaDoor
