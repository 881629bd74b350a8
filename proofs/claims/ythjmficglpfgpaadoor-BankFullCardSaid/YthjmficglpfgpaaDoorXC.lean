/- BankFull: the walk. -/
import Derived.Test.YthjmficglpfgpaaDoorX9
import Derived.Test.YthjmficglpfgpaaDoorXB
namespace Go.Proofs.YthjmficglpfgpaaDoor
set_option linter.unusedVariables false
set_option linter.unusedSimpArgs false
open Go Go.RowKit Enc
set_option maxRecDepth 100000
set_option maxHeartbeats 3200000

/-- A new state, its rows told. -/
theorem new_st2 (w : World) : Calls Tryd.prog 32 #[] w fun e w' => ∃ A c, e = .returned (.agg #[.slice A 9 c, .slice none 0 0, .slice none 0 0, .slice none 0 0, .int .i64 0]) ∧ Row w' (.slice A 9 c) house ∧ Below w.heap.size w w' := by
  go_enter Tryd.func32, Tryd.ntmps32
  go_wp2_with fail
  refine (new_accs _).mono ?_
  rintro e w1 ⟨v, rfl, hown, hb⟩
  obtain ⟨A, c, rfl⟩ := hown.row.slice
  have hj := (Blk.new w 36 #[.slice none 0 0, .slice none 0 0, .slice none 0 0, .slice none 0 0, .int .i64 0]).next hb
  obtain ⟨x0, x1, x2, x3, x4⟩ := hj.c5
  have jf := hj.frozen
  have lj := hj.lt
  go_wp2_with fail
  refine bodyPost_ret (res_cell rfl _ rfl agg_st rfl (hj.chain5)) rfl ⟨A, c, rfl, ?_, ?_⟩
  · have hs : ∀ (W : World) (i : Nat) (u : Value), Row W (.slice A house.length c) house → Row (W.setCell ⟨w.heap.size, i, none⟩ u) (.slice A house.length c) house := fun W i u h => h.only (fun _ => (hown.ne (by simp)).symm) ((World.grownBy.refl W _).setCell rfl u)
    exact hs _ _ _ (hs _ _ _ (hs _ _ _ (hs _ _ _ (hs _ _ _ hown.row))))
  · (repeat (first | (with_reducible refine below_drew ?_) | (with_reducible refine below_drewN ?_ _) | (with_reducible refine below_alloc ?_ _) | ((with_reducible refine Below.setCell ?_ ?_ _); rotate_left; (focus (first | (simp; done) | (simp; omega))))))
    exact below_next (below_alloc (Below.refl _ _) _) hb
def FullRel (w w2 : World) (ac : List Value) (B gs : Nat) (A : Option Addr) (c : Nat) (n : Nat) (i : Value) (wr : World) : Prop :=
  ∃ (j : Nat) (A4 : Option Addr) (c4 : Nat), j ≤ n ∧ i = .int .i64 j ∧ Own wr B 83 (.slice A4 j c4) (fullKn j) ∧ B ≤ wr.heap.size ∧
    Env w wr [(w.heap.size, 59, ac), (gs, 36, [.slice A 9 c, .slice none 0 0, .slice none 0 0, .slice A4 j c4, .int .i64 0])] ∧
    Env w2 wr [(gs, 36, [.slice A 9 c, .slice none 0 0, .slice none 0 0, .slice A4 j c4, .int .i64 0])]
theorem fullKn_succ (j : Nat) : fullKn (j + 1) = fullKn j ++ [⟨⟨1000 + j, 0, 0, 0, 0, 0, 0⟩, ⟨0, 0⟩, true⟩] := by simp [fullKn, List.range_succ]
theorem bankFull_walk (n : Int) (a : Ask) (w : World) (hn : 0 ≤ n ∧ n < 65536) (ha : AskIn a) (hT : GT w) :
    Calls Tryd.prog 11 #[.int .u16 n, a.val] w fun e w' => e = .returned (.bool true) ∧ Below w.heap.size w w' := by
  have HAR := Lib.hid (fun W => askReq_any a W ha)
  have hr := askR_ok ha
  have HR := Lib.hid hr
  generalize askR a = r at *
  obtain ⟨key, op, ra, rb, amt, legs, til⟩ := r
  clear hr
  obtain ⟨ak, ao, aa, ab, am, al, at'⟩ := a
  have h0 := (Env.nil w).alloc 59 [.int .u8 ak, .int .u8 ao, .int .u8 aa, .int .u8 ab, .int .u16 am, .int .u8 al, .int .u8 at']
  simp only [List.nil_append, List.cons_append, List.set_cons_zero, List.set_cons_succ, World.size_alloc] at h0
  have HT := Lib.hid hT
  clear hT ha
  have H0 := Lib.hid h0
  (have f0 := h0.facts; simp only [AllF, cellsF, gapF, Nat.zero_add, Nat.reduceAdd, and_true, true_and] at f0)
  clear h0
  go_enter Tryd.func11, Tryd.ntmps11
  go_wp2_with fail
  refine (awake16 _ (HT.out.below H0.out.bel)).mono ?_
  rintro e w1 ⟨rfl, hz⟩
  have h1 := H0.out.next hz
  have H1 := Lib.hid h1
  clear f0
  (have f1 := h1.facts; simp only [AllF, cellsF, gapF, Nat.zero_add, Nat.reduceAdd, and_true, true_and] at f1)
  clear h1 hz H0
  go_wp2_with fail
  refine (new_st2 _).mono ?_
  rintro e w2 ⟨A, c, rfl, hrow, hz⟩
  have h2 := H1.out.next hz
  have H2 := Lib.hid h2
  have HH := Lib.hid (show ∀ W, Below w2.heap.size w2 W → Row W (.slice A 9 c) house from fun W hW => hrow.below hW)
  clear f1 hrow hz H1 h2
  have h9 := (Env.nil w2).alloc 36 [.slice A 9 c, .slice none 0 0, .slice none 0 0, .slice none 0 0, .int .i64 0]
  simp only [List.nil_append, List.cons_append, List.set_cons_zero, List.set_cons_succ, World.size_alloc] at h9
  have H9 := Lib.hid h9
  clear h9
  have hN := H2.out.alloc 36 [.slice A 9 c, .slice none 0 0, .slice none 0 0, .slice none 0 0, .int .i64 0]
  simp only [List.nil_append, List.cons_append, List.set_cons_zero, List.set_cons_succ, World.size_alloc] at hN
  have HN := Lib.hid hN
  clear hN H2
  go_wp2_with fail
  obtain ⟨k, hk, hk0, hk1⟩ : ∃ k : Nat, 250 + n % 8 = (k : Int) ∧ 250 ≤ k ∧ k ≤ 257 := ⟨(250 + n % 8).toNat, by omega, by omega, by omega⟩
  rw [hk]
  clear hk
  have HQ : ∃ WN : World, w2.alloc (.cells #[.slice A 9 c, .slice none 0 0, .slice none 0 0, .slice none 0 0, .int .i64 0] 36) = WN := ⟨_, rfl⟩
  obtain ⟨W3, HQ⟩ := HQ
  have h9 := H9.out
  have hN := HN.out
  rw [HQ] at h9 hN ⊢
  have HLT := Lib.hid (h9.at 0 rfl).lt
  have H3 := Lib.hid hN
  have H4 := Lib.hid h9
  clear h9 hN HQ H9 HN
  generalize hgs : w2.heap.size = gs at *
  have HGS := Lib.hid hgs
  clear hgs
  have HWB := Lib.hid H3.out.bel.size
  have HWC := Lib.hid H4.out.bel.size
  have HWD := Lib.hid (H3.out.at 0 rfl).lt
  obtain ⟨m, hm⟩ : ∃ m : Nat, m = min k 256 := ⟨_, rfl⟩
  have hmin := min_run (show min (k : Int) 256 = (m : Int) by omega) Tryd.prog
  have hm2 : m ≤ 256 := by omega
  have HM := Lib.hid hm
  clear hm
  go_loopw [7] (fun i wr => FullRel w w2 [.int .u8 ak, .int .u8 ao, .int .u8 aa, .int .u8 ab, .int .u16 am, .int .u8 al, .int .u8 at'] W3.heap.size gs A c m i wr) (fun i _ => m - (intOf i).toNat)
  case atStart => exact ⟨0, none, 0, Nat.zero_le _, rfl, Own.nil _ _ _, Nat.le_refl _, H3.out, H4.out⟩
  case round =>
    obtain ⟨j, A4, c4, hj, rfl, hown, hB, he1, he2⟩ := hrel
    have HO := Lib.hid hown
    have HB := Lib.hid hB
    have HE1 := Lib.hid he1
    have HE2 := Lib.hid he2
    clear hown hB he2 H3 H4
    (have f1 := he1.facts; simp only [AllF, cellsF, gapF, Nat.zero_add, Nat.reduceAdd, and_true, true_and] at f1)
    clear he1
    by_cases hlt : j < m
    · have hbI : (j : Int) < 256 := by omega
      have hlI : ((j : Int) < (m : Int)) := by omega
      have HBY := Lib.hid (show ((fullKn j).length + [Kn.mk ⟨1000 + j, 0, 0, 0, 0, 0, 0⟩ ⟨0, 0⟩ true].length) * 80 ≤ 140737488355328 by rw [fullKn_len]; simp; omega)
      have HSZ := Lib.hid (show W3.heap.size ≤ (wr.alloc (.cells #[.int .i64 (1000 + j), .int .i64 0, .int .i64 0, .int .i64 0, .int .i64 0, .int .i64 0, .int .i64 0, .int .i64 0, .int .i64 0, .bool true] 83)).heap.size by have := (below_alloc (Below.refl _ wr) (.cells #[.int .i64 (1000 + j), .int .i64 0, .int .i64 0, .int .i64 0, .int .i64 0, .int .i64 0, .int .i64 0, .int .i64 0, .int .i64 0, .bool true] 83)).size; exact Nat.le_trans HB.out this)
      have HKS := Lib.hid (fullKn_succ j)
      have HGE := Lib.hid (fun (X : World) (hg : (wr.alloc (.cells #[.int .i64 (1000 + j), .int .i64 0, .int .i64 0, .int .i64 0, .int .i64 0, .int .i64 0, .int .i64 0, .int .i64 0, .int .i64 0, .bool true] 83)).grownBy X (Value.slice A4 j c4).ownBlock) => And.intro ((HE1.out.skip _).grown hg (fun b hb => Nat.le_trans HWB.out (HO.out.base b hb)) (by
        intro p hp
        simp only [List.mem_cons, List.not_mem_nil, or_false] at hp
        rcases hp with rfl | rfl
        · exact HO.out.ne HWD.out
        · exact HO.out.ne HLT.out)) ((HE2.out.skip _).grown hg (fun b hb => Nat.le_trans HWC.out (HO.out.base b hb)) (by
        intro p hp
        simp only [List.mem_cons, List.not_mem_nil, or_false] at hp
        subst hp
        exact HO.out.ne HLT.out)))
      go_wp2_with (at_builtin; refine Halted.in_ ?_); refine Halted.on ?_
      refine wp_append (B := W3.heap.size) (xs := fullKn j) (ys := [Kn.mk ⟨1000 + j, 0, 0, 0, 0, 0, 0⟩ ⟨0, 0⟩ true]) sT_kn rfl rfl (.slice A4 j c4) (.slice (some ⟨wr.heap.size, 0, none⟩) 1 1) rfl rfl (HO.out.alloc _) (Row.box wr (Kn.mk ⟨1000 + j, 0, 0, 0, 0, 0, 0⟩ ⟨0, 0⟩ true) #[.int .i64 (1000 + j), .int .i64 0, .int .i64 0, .int .i64 0, .int .i64 0, .int .i64 0, .int .i64 0, .int .i64 0, .int .i64 0, .bool true] rfl 83) HBY.out (by decide) HSZ.out ?_
      intro v2 w3 hown2 hg2 hat2
      rw [← HKS.out] at hown2
      obtain ⟨A5, c5, hv2⟩ := hown2.row.slice
      rw [fullKn_len] at hv2
      subst hv2
      have HO3 := Lib.hid hown2
      have HG3 := Lib.hid hg2
      clear hown2 hg2 hat2
      have hE := HGE.out _ HG3.out
      have hE3 := Lib.hid hE.1
      have hE4 := Lib.hid hE.2
      clear hE f1
      have hf3 := hE3.out.facts
      simp only [AllF, cellsF, gapF, Nat.zero_add, Nat.reduceAdd, and_true, true_and] at hf3
      go_wp2
      clear hf3 HGE
      have HB3 := Lib.hid (show W3.heap.size ≤ w3.heap.size from Nat.le_trans HSZ.out HG3.out.size)
      have hg1 := hE3.out.set 1 3 (.slice A5 (j + 1) c5) rfl
      have hg2 := hE4.out.set 0 3 (.slice A5 (j + 1) c5) rfl
      simp only [List.nil_append, List.cons_append, List.set_cons_zero, List.set_cons_succ, World.size_alloc] at hg1
      simp only [List.nil_append, List.cons_append, List.set_cons_zero, List.set_cons_succ, World.size_alloc] at hg2
      exact ⟨⟨j + 1, A5, c5, by omega, by go_num, HO3.out.setLow HLT.out 3 _, (by simpa using HB3.out), hg1, hg2⟩, by simp [intOf]; omega⟩
    · obtain rfl : j = m := by omega
      have HK := Lib.hid (show StV wr (.agg #[.slice A 9 c, .slice none 0 0, .slice none 0 0, .slice A4 j c4, .int .i64 0]) (fullSt j) from ⟨_, _, _, _, rfl, HH.out _ (by rw [← HGS.out]; exact HE2.out.bel), Row.nil _, Row.nil _, HO.out.row⟩)
      clear HO HB HE2 HH
      have hlj : ¬ ((j : Int) < (j : Int)) := by omega
      go_wp2_with fail
      refine (HAR.out _).mono ?_
      rintro e w5 ⟨rfl, hz⟩
      have H5 := Lib.hid (HE1.out.next hz)
      have HK5 := Lib.hid (HK.out.below hz)
      clear f1 HE1 HK HAR hz
      have hf5 := H5.out.facts
      simp only [AllF, cellsF, gapF, Nat.zero_add, Nat.reduceAdd, and_true, true_and] at hf5
      go_wp2_with fail
      -- TAIL
      clear hf5
      have hN := H5.out.alloc 29 [.int .i64 key, .int .i64 op, .int .i64 ra, .int .i64 rb, .int .i64 amt, .int .i64 legs, .int .i64 til]
      simp only [List.nil_append, List.cons_append, List.set_cons_zero, List.set_cons_succ, World.size_alloc] at hN
      have HQ : ∃ WN : World, w5.alloc (.cells #[.int .i64 key, .int .i64 op, .int .i64 ra, .int .i64 rb, .int .i64 amt, .int .i64 legs, .int .i64 til] 29) = WN := ⟨_, rfl⟩
      obtain ⟨W5, HQ⟩ := HQ
      have hbN : Below w5.heap.size w5 W5 := by rw [← HQ]; exact below_alloc (Below.refl _ _) _
      rw [HQ] at hN ⊢
      have HW5 := Lib.hid hN
      have HBW5 := Lib.hid hbN
      clear hN HQ hbN
      have HKW := Lib.hid (HK5.out.below HBW5.out)
      clear H5 HK5 HBW5
      generalize w5.heap.size = gr at *
      have HLAW := Lib.hid (full_law (k := j) HR.out.1 HR.out.2.2.1 hm2)
      refine (bankDo_st (fullSt j) _ ⟨key, op, ra, rb, amt, legs, til⟩ (.slice none 0 0) [] _ HKW.out (Row.nil _) (Nat.le_refl _) house_ok.good house_ok.pays (HT.out.below HW5.out.bel) (by show (fullKn j).length ≤ 900; rw [fullKn_len]; omega)).mono ?_
      generalize bankDo (fullSt j) ⟨key, op, ra, rb, amt, legs, til⟩ [] = X at *
      obtain ⟨x, ⟨err, id⟩, cnt⟩ := X
      rintro e w6 ⟨hz, v6, rfl, hv6⟩
      obtain ⟨B1, d1, B2, d2, B3, d3, B4, d4, rfl, -⟩ := hv6.open
      have H6 := Lib.hid (HW5.out.next hz)
      have HK6 := Lib.hid (HKW.out.below hz)
      have HV6 := Lib.hid hv6
      clear hz hv6 HKW HW5
      have hf6 := H6.out.facts
      simp only [AllF, cellsF, gapF, Nat.zero_add, Nat.reduceAdd, and_true, true_and] at hf6
      by_cases hge : 256 ≤ k
      · obtain rfl : j = 256 := by have := HM.out; omega
        have hX := HLAW.out.1 (Nat.le_refl _)
        simp only [Prod.mk.injEq, Rep.mk.injEq] at hX
        obtain ⟨rfl, ⟨rfl, rfl⟩, rfl⟩ := hX
        have hgI : (256 : Int) ≤ (k : Int) := by omega
        have HSM := Lib.hid (show decide (SameK (fullSt 256) (fullSt 256)) = true from decide_eq_true ⟨⟨rfl, rfl, rfl⟩, rfl⟩)
        have hq := fun W => (eql_rep ⟨7, 0⟩ ⟨7, 0⟩ W).trans (by rw [decide_eq_true rfl])
        simp only [Rep.val] at hq
        have hN := ((H6.out.alloc 36 [.slice B1 (fullSt 256).accs.length d1, .slice B2 (fullSt 256).pays.length d2, .slice B3 (fullSt 256).sagas.length d3, .slice B4 (fullSt 256).known.length d4, .int .i64 (fullSt 256).now]).alloc 40 [.int .i64 7, .int .i64 0])
        simp only [List.nil_append, List.cons_append, List.set_cons_zero, List.set_cons_succ, World.size_alloc] at hN
        have HN := Lib.hid hN
        have hfn := HN.out.facts
        simp only [AllF, cellsF, gapF, Nat.zero_add, Nat.reduceAdd, and_true, true_and] at hfn
        clear hN
        go_wp2_with fail
        clear hf6 hfn
        refine (sameK_st _ _ (fullSt 256) (fullSt 256) _ (HK6.out.below (below_alloc (below_alloc (Below.refl _ _) _) _)) (HV6.out.below (below_alloc (below_alloc (Below.refl _ _) _) _))).mono ?_
        rintro e w7 ⟨rfl, hz⟩
        rw [HSM.out]
        have HZ := Lib.hid hz
        clear hz
        go_wp2
        go_ret
        exact ⟨rfl, below_next HN.out.bel HZ.out⟩
      · obtain rfl : j = k := by have := HM.out; omega
        have hlB : ((x.known.length : Int) == (j : Int) + 1) = true := by have := HLAW.out.2 (by omega); simp only at this; rw [this]; simp
        have hgI : ¬ ((256 : Int) ≤ (j : Int)) := by omega
        have hN := ((H6.out.alloc 36 [.slice B1 x.accs.length d1, .slice B2 x.pays.length d2, .slice B3 x.sagas.length d3, .slice B4 x.known.length d4, .int .i64 x.now]).alloc 40 [.int .i64 err, .int .i64 id])
        simp only [List.nil_append, List.cons_append, List.set_cons_zero, List.set_cons_succ, World.size_alloc] at hN
        have HN := Lib.hid hN
        have hfn := HN.out.facts
        simp only [AllF, cellsF, gapF, Nat.zero_add, Nat.reduceAdd, and_true, true_and] at hfn
        clear hN
        go_wp2
        go_ret
        exact ⟨rfl, HN.out.bel⟩
end Go.Proofs.YthjmficglpfgpaaDoor
