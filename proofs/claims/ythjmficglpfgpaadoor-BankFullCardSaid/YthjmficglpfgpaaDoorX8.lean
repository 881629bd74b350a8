/- keys.Find, keys.Ask. keys.Put, keys.Tell. keys.Tell. Sagas: Begin, Ready, Leg, Turn. ops.Reserve, ops.Settle, ops.Undo. Answers of legs: a slice of bools; what a slice leaves. bank.whole (printed by tools/whole.py). -/
import Derived.Test.YthjmficglpfgpaaDoorX7
import Derived.Test.YthjmficglpfgpaaDoorX4
import Derived.Test.YthjmficglpfgpaaDoorX2
namespace Go.Proofs.YthjmficglpfgpaaDoor
set_option linter.unusedVariables false
set_option linter.unusedSimpArgs false
open Go Go.RowKit Enc
set_option maxRecDepth 100000
set_option maxHeartbeats 1600000

def FindRel (w : World) (ks : List Kn) (key : Int) (i : Value) (wr : World) : Prop := ∃ k : Nat, k ≤ ks.length ∧ i = .int .i64 k ∧ Below w.heap.size w wr ∧ (∀ j : Int, 0 ≤ j → j < k → (rd ks j).req.key ≠ key)
theorem find_at {ks : List Kn} {key : Int} {k : Nat} (hk : k < ks.length) (hl : ∀ j : Int, 0 ≤ j → j < k → (rd ks j).req.key ≠ key) (he : (rd ks (k : Int)).req.key = key) : findK key ks = k :=
  findK_eq ⟨hl, fun _ => ⟨by omega, he⟩, fun h => by omega⟩
theorem find_out {ks : List Kn} {key : Int} (hl : ∀ j : Int, 0 ≤ j → j < ks.length → (rd ks j).req.key ≠ key) : findK key ks = -1 :=
  findK_eq ⟨fun j _ h => by omega, fun h => by omega, fun _ => ⟨rfl, hl⟩⟩
theorem keysFind_any (v : Value) (ks : List Kn) (key : Int) (w : World) (h : Row w v ks) : Calls Tryd.prog 55 #[v, .int .i64 key] w fun e w' => e = .returned (.int .i64 (findK key ks)) ∧ Below w.heap.size w w' := by
  have hm := h.max
  obtain ⟨A, c, rfl⟩ := h.slice
  go_enter Tryd.func55, Tryd.ntmps55
  go_wp2
  go_loopw [9] (fun i wr => FindRel w ks key i wr) (fun i _ => ks.length - (intOf i).toNat)
  case atStart => exact ⟨0, Nat.zero_le _, rfl, Below.refl _ _, fun j _ h => by omega⟩
  case round =>
    obtain ⟨k, hk, rfl, hb, hl⟩ := hrel
    have HL := Lib.hid hl
    clear hl
    by_cases hlt : k < ks.length
    · obtain ⟨b, o, c', hv, k0, k1, k2, k3, k4, k5, k6, k7, k8, k9, hbl⟩ := (h.below hb).kn k hlt
      injection hv with hv
      subst hv
      have HB := Lib.hid (below_alloc hb (.cells #[.int .i64 0, .int .i64 0, .int .i64 0, .int .i64 0, .int .i64 0, .int .i64 0, .int .i64 0, .int .i64 0, .int .i64 0, .bool false] 83))
      by_cases he : (rd ks (k : Int)).req.key = key
      · have hq : ((rd ks (k : Int)).req.key == key) = true := by simpa using he
        have HF := Lib.hid (find_at hlt HL.out he)
        clear he
        go_wp2
        go_ret
        exact ⟨by rw [HF.out]; rfl, below_alloc hb _⟩
      · have hq : ((rd ks (k : Int)).req.key == key) = false := by simpa using he
        have HE := Lib.hid he
        clear he
        go_wp2
        exact ⟨⟨k + 1, by omega, by go_num, below_alloc hb _, fun j j0 hj => by
          rcases Int.lt_or_le j k with h | h
          · exact HL.out j j0 h
          · rw [show j = (k : Int) by omega]; exact HE.out⟩, by simp [intOf]; omega⟩
    · have hq : ¬ (k : Int) < ks.length := by omega
      go_wp2
      go_ret
      exact ⟨by rw [find_out fun j h0 hj => HL.out j h0 (by omega)]; rfl, hb⟩
/-- What Ask hands back. -/
def askV : Option Rep → Value
  | none => .tuple #[Rep.val ⟨0, 0⟩, .bool false]
  | some p => .tuple #[Rep.val p, .bool true]
theorem askK_none {ks : List Kn} {r : Req} (h : findK r.key ks < 0) : askK ks r = none := by unfold askK; rw [if_pos h]
theorem askK_other {ks : List Kn} {r : Req} (h : ¬ findK r.key ks < 0) (h2 : (rd ks (findK r.key ks)).req ≠ r) : askK ks r = some ⟨5, 0⟩ := by unfold askK; rw [if_neg h, if_pos h2]
theorem askK_wait {ks : List Kn} {r : Req} (h : ¬ findK r.key ks < 0) (h2 : (rd ks (findK r.key ks)).req = r) (h3 : (rd ks (findK r.key ks)).told = false) : askK ks r = some ⟨10, 0⟩ := by unfold askK; rw [if_neg h, if_neg (fun h => h h2), if_pos h3]
theorem askK_told {ks : List Kn} {r : Req} (h : ¬ findK r.key ks < 0) (h2 : (rd ks (findK r.key ks)).req = r) (h3 : (rd ks (findK r.key ks)).told = true) : askK ks r = some (rd ks (findK r.key ks)).rep := by unfold askK; rw [if_neg h, if_neg (fun h => h h2), if_neg (by rw [h3]; simp)]
theorem keysAsk_any (v : Value) (ks : List Kn) (r : Req) (w : World) (h : Row w v ks) : Calls Tryd.prog 30 #[v, r.val] w fun e w' => e = .returned (askV (askK ks r)) ∧ Below w.heap.size w w' := by
  have hm := h.max
  obtain ⟨A, c, rfl⟩ := h.slice
  have hA1 := Lib.hid (askK_none (ks := ks) (r := r))
  have hA2 := Lib.hid (askK_other (ks := ks) (r := r))
  have hA3 := Lib.hid (askK_wait (ks := ks) (r := r))
  have hA4 := Lib.hid (askK_told (ks := ks) (r := r))
  have HC := Lib.hid (fun (W : World) (hW : Below w.heap.size w W) => keysFind_any (.slice A ks.length c) ks r.key W (h.below hW))
  have HF := Lib.hid (findK_place r.key ks)
  generalize findK r.key ks = i at *
  generalize hx : askK ks r = x at *
  clear hx
  have h0 : Env w ((w.alloc (.cells (rcells r) 29)).alloc (.cells #[.int .i64 0, .int .i64 0] 40)) _ := ((Env.nil w).alloc 29 r.cells).alloc 40 [.int .i64 0, .int .i64 0]
  simp only [List.nil_append, List.cons_append, List.set_cons_zero, List.set_cons_succ, World.size_alloc] at h0
  have H0 := Lib.hid h0
  clear h0
  have hq := neq_req
  have HR := Lib.hid (show ∀ (W : World), Below w.heap.size w W → Row W (.slice A ks.length c) ks from fun W hW => h.below hW)
  clear h
  obtain ⟨key, op, ra, rb, amt, legs, til⟩ := r
  simp only [Req.cells] at H0
  go_enter Tryd.func30, Tryd.ntmps30
  go_wp2_with fail
  refine (HC.out _ H0.out.bel).mono ?_
  rintro e w1 ⟨rfl, hz⟩
  have h1 := H0.out.next hz
  have hrow := HR.out w1 h1.bel
  have H1 := Lib.hid h1
  (have f1 := h1.facts; simp only [AllF, cellsF, gapF, Nat.zero_add, Nat.reduceAdd, and_true, true_and] at f1)
  clear h1 HC hz H0
  by_cases hi : i < 0
  · have E1 := Lib.hid (hA1.out hi)
    clear hA1 hA2 hA3 hA4
    go_wp2
    refine bodyPost_ret (res_cell_tmp rfl _ rfl agg_rep rfl (H1.out.at 1 rfl).chain2) rfl ⟨by rw [E1.out]; rfl, ?_⟩
    (repeat (first | (with_reducible refine below_drew ?_) | (with_reducible refine below_drewN ?_ _) | (with_reducible refine below_alloc ?_ _) | ((with_reducible refine Below.setCell ?_ ?_ _); rotate_left; (focus (first | (simp; done) | (simp; omega))))))
    exact H1.out.bel
  · obtain ⟨i0, i1⟩ := HF.out.at_ (by omega)
    have I1 := Lib.hid i1
    clear i1
    obtain ⟨b, o, c', hv, k0, k1, k2, k3, k4, k5, k6, k7, k8, k9, hbl⟩ := hrow.knI i (by omega) i0
    injection hv with hv
    subst hv
    have i2 : 0 ≤ i := by omega
    by_cases he : (rd ks i).req = ⟨key, op, ra, rb, amt, legs, til⟩
    · have hq1 := fun w => (neq_req (rd ks i).req ⟨key, op, ra, rb, amt, legs, til⟩ w).trans (by rw [decide_eq_false (fun h => h he)])
      try simp only at hq1
      have HE := Lib.hid he
      clear he hq
      by_cases ht : (rd ks i).told = true
      · have E1 := Lib.hid (hA4.out (by omega) HE.out ht)
        clear hA1 hA2 hA3 hA4
        go_wp2
        go_quiet (fail)
        go_wp2
        refine bodyPost_ret (res_cell_tmp rfl _ rfl agg_rep rfl ((H1.out.drewN nq).at 1 rfl).chain2) rfl ⟨by rw [E1.out]; rfl, ?_⟩
        (repeat (first | (with_reducible refine below_drew ?_) | (with_reducible refine below_drewN ?_ _) | (with_reducible refine below_alloc ?_ _) | ((with_reducible refine Below.setCell ?_ ?_ _); rotate_left; (focus (first | (simp; done) | (simp; omega))))))
        exact H1.out.bel
      · have ht' : (rd ks i).told = false := by simpa using ht
        have E1 := Lib.hid (hA3.out (by omega) HE.out ht')
        clear hA1 hA2 hA3 hA4 ht
        go_wp2
        go_quiet (fail)
        go_wp2
        refine bodyPost_ret (res_cell_tmp rfl _ rfl agg_rep rfl ((H1.out.drewN nq).at 1 rfl).chain2) rfl ⟨by rw [E1.out]; rfl, ?_⟩
        (repeat (first | (with_reducible refine below_drew ?_) | (with_reducible refine below_drewN ?_ _) | (with_reducible refine below_alloc ?_ _) | ((with_reducible refine Below.setCell ?_ ?_ _); rotate_left; (focus (first | (simp; done) | (simp; omega))))))
        exact H1.out.bel
    · have hq1 := fun w => (neq_req (rd ks i).req ⟨key, op, ra, rb, amt, legs, til⟩ w).trans (by rw [decide_eq_true he])
      try simp only at hq1
      have E1 := Lib.hid (hA2.out (by omega) he)
      clear he hq hA1 hA2 hA3 hA4
      go_wp2
      go_quiet (fail)
      go_wp2
      refine bodyPost_ret (res_cell_tmp rfl _ rfl agg_rep rfl ((H1.out.drewN nq).at 1 rfl).chain2) rfl ⟨by rw [E1.out]; rfl, ?_⟩
      (repeat (first | (with_reducible refine below_drew ?_) | (with_reducible refine below_drewN ?_ _) | (with_reducible refine below_alloc ?_ _) | ((with_reducible refine Below.setCell ?_ ?_ _); rotate_left; (focus (first | (simp; done) | (simp; omega))))))
      exact H1.out.bel
end Go.Proofs.YthjmficglpfgpaaDoor
namespace Go.Proofs.YthjmficglpfgpaaDoor
set_option linter.unusedVariables false
set_option linter.unusedSimpArgs false
open Go Go.RowKit Enc
set_option maxRecDepth 100000
set_option maxHeartbeats 1600000

theorem sT_kn : SlT Tryd.prog 34 83 Kn 80 := ⟨Tryd.underlying34, by obtain ⟨i, h1, h2, h3, h4⟩ := info_parts (show (Tryd.prog.info? 83).map (fun i => (i.zero, i.size, i.bytes)) = some (some (.agg #[.int .i64 0, .int .i64 0, .int .i64 0, .int .i64 0, .int .i64 0, .int .i64 0, .int .i64 0, .int .i64 0, .int .i64 0, .bool false]), 10, 80) by kernel_rfl); exact ⟨i, _, h1, h2, h3, h4, rfl⟩⟩
/-- What a function of keys hands back. -/
def KnRes (w w' : World) (r : Except Int (List Kn)) (e : Ending) : Prop :=
  Below w.heap.size w w' ∧ match r with
  | .error c => e = .returned (.tuple #[.slice none 0 0, .iface 38 (.int .i64 c)])
  | .ok out => ∃ v, e = .returned (.tuple #[v, .nilIface]) ∧ Own w' w.heap.size 83 v out
theorem keysPut_any (v : Value) (ks : List Kn) (r : Req) (w : World) (h : Row w v ks) (hn : ks.length ≤ 1000) : Calls Tryd.prog 48 #[v, r.val] w fun e w' => KnRes w w' (putK ks r) e := by
  have hm := h.max
  obtain ⟨A, c, rfl⟩ := h.slice
  have h0 : Env w (w.alloc (.cells (rcells r) 29)) _ := ((Env.nil w).alloc 29 r.cells)
  simp only [List.nil_append, List.cons_append, List.set_cons_zero, List.set_cons_succ, World.size_alloc] at h0
  have H0 := Lib.hid h0
  clear h0
  have HC := Lib.hid (fun (W : World) (hW : Below w.heap.size w W) => keysFind_any (.slice A ks.length c) ks r.key W (h.below hW))
  have HR := Lib.hid (show ∀ (W : World), Below w.heap.size w W → Row W (.slice A ks.length c) ks from fun W hW => h.below hW)
  have HP1 := Lib.hid (show 0 ≤ findK r.key ks → putK ks r = .error 5 from fun h => by unfold putK; rw [if_pos h])
  have HP2 := Lib.hid (show ¬ 0 ≤ findK r.key ks → ks.length ≥ 256 → putK ks r = .error 7 from fun h h2 => by unfold putK; rw [if_neg h, if_pos h2])
  have HP3 := Lib.hid (show ¬ 0 ≤ findK r.key ks → ¬ ks.length ≥ 256 → putK ks r = .ok (ks ++ [⟨r, ⟨0, 0⟩, false⟩]) from fun h h2 => by unfold putK; rw [if_neg h, if_neg h2])
  generalize findK r.key ks = i at *
  generalize hx : putK ks r = x at *
  clear hx h
  obtain ⟨key, op, ra, rb, amt, legs, til⟩ := r
  simp only [Req.cells] at H0
  go_enter Tryd.func48, Tryd.ntmps48
  go_wp2_with fail
  refine (HC.out _ H0.out.bel).mono ?_
  rintro e w1 ⟨rfl, hz⟩
  have h1 := H0.out.next hz
  have H1 := Lib.hid h1
  (have f1 := h1.facts; simp only [AllF, cellsF, gapF, Nat.zero_add, Nat.reduceAdd, and_true, true_and] at f1)
  clear h1 HC hz H0
  by_cases hi : 0 ≤ i
  · have E1 := Lib.hid (HP1.out hi)
    clear HP1 HP2 HP3
    go_wp2
    go_ret2
    rw [E1.out]
    exact ⟨H1.out.bel, rfl⟩
  · by_cases hl : ks.length ≥ 256
    · have hl' : (256 : Int) ≤ ks.length := by omega
      have E1 := Lib.hid (HP2.out (by omega) hl)
      clear HP1 HP2 HP3
      go_wp2
      go_ret2
      rw [E1.out]
      exact ⟨H1.out.bel, rfl⟩
    · have hl' : (ks.length : Int) < 256 := by omega
      have E1 := Lib.hid (HP3.out (by omega) hl)
      have HB0 := Lib.hid H1.out.bel.size
      have HBY := Lib.hid (show (([] : List Kn).length + ks.length) * 80 ≤ 140737488355328 by simp; omega)
      clear HP1 HP2 HP3
      have HX := Lib.hid (show (ks.length + [Kn.mk ⟨key, op, ra, rb, amt, legs, til⟩ ⟨0, 0⟩ false].length) * 80 ≤ 140737488355328 by simp; omega)
      have hSof : ∀ w', Below w1.heap.size w1 w' → (Below w1.heap.size w1 w' ∧ w'.cell? ⟨w.heap.size, 0, none⟩ = some (.int .i64 key) ∧ w'.cell? ⟨w.heap.size, 1, none⟩ = some (.int .i64 op) ∧ w'.cell? ⟨w.heap.size, 2, none⟩ = some (.int .i64 ra) ∧ w'.cell? ⟨w.heap.size, 3, none⟩ = some (.int .i64 rb) ∧ w'.cell? ⟨w.heap.size, 4, none⟩ = some (.int .i64 amt) ∧ w'.cell? ⟨w.heap.size, 5, none⟩ = some (.int .i64 legs) ∧ w'.cell? ⟨w.heap.size, 6, none⟩ = some (.int .i64 til)) := fun w' hb => by
        obtain ⟨⟨k0, k1, k2, k3, k4, k5, k6⟩, _⟩ := f1
        exact ⟨hb, cell_below hb k0, cell_below hb k1, cell_below hb k2, cell_below hb k3, cell_below hb k4, cell_below hb k5, cell_below hb k6⟩
      go_wp2
      have hbd : Below w1.heap.size w1 w1.drew := below_drew (Below.refl _ _)
      refine wp_region_head 5 (fun w' => Below w1.heap.size w1 w' ∧ w'.cell? ⟨w.heap.size, 0, none⟩ = some (.int .i64 key) ∧ w'.cell? ⟨w.heap.size, 1, none⟩ = some (.int .i64 op) ∧ w'.cell? ⟨w.heap.size, 2, none⟩ = some (.int .i64 ra) ∧ w'.cell? ⟨w.heap.size, 3, none⟩ = some (.int .i64 rb) ∧ w'.cell? ⟨w.heap.size, 4, none⟩ = some (.int .i64 amt) ∧ w'.cell? ⟨w.heap.size, 5, none⟩ = some (.int .i64 legs) ∧ w'.cell? ⟨w.heap.size, 6, none⟩ = some (.int .i64 til)) (by kernel_rfl) (by kernel_rfl) (hSof _ hbd) (fun hHeld => ?_)
      refine wpHead_take (i := 0) (v := ?_) rfl (by kernel_rfl) (by kernel_rfl) (by kernel_rfl) (by kernel_rfl) (fun _ _ _ h => h) (Or.inl ⟨by rfl, fun w hSw => ?_⟩) (by assumption) ?_; rotate_left; (focus ((try dsimp only at hSw); go_simp <;> with_reducible rfl)); (try simp only [Act.put, List.setIfInBounds_toArray, List.set_cons_zero, List.set_cons_succ])
      refine wpHead_take (i := 2) (v := ?_) rfl (by kernel_rfl) (by kernel_rfl) (by kernel_rfl) (by kernel_rfl) (fun _ _ _ h => h) (Or.inl ⟨by rfl, fun w hSw => ?_⟩) (by assumption) ?_; rotate_left; (focus ((try dsimp only at hSw); go_simp <;> with_reducible rfl)); (try simp only [Act.put, List.setIfInBounds_toArray, List.set_cons_zero, List.set_cons_succ])
      refine wpHead_take (i := 3) (v := ?_) rfl (by kernel_rfl) (by kernel_rfl) (by kernel_rfl) (by kernel_rfl) (fun _ _ _ h => h) (Or.inl ⟨by rfl, fun w hSw => ?_⟩) (by assumption) ?_; rotate_left; (focus ((try dsimp only at hSw); go_simp <;> with_reducible rfl)); (try simp only [Act.put, List.setIfInBounds_toArray, List.set_cons_zero, List.set_cons_succ])
      refine wpHead_two (i := 1) (j := 4) rfl rfl (by kernel_rfl) (by kernel_rfl) (by kernel_rfl) (by kernel_rfl) (fun v w' => Own w' w1.heap.size 83 v ks) (fun v w' => ∃ g, v = .slice (some ⟨g, 0, none⟩) 1 1 ∧ Row w' v [Kn.mk ⟨key, op, ra, rb, amt, legs, til⟩ ⟨0, 0⟩ false]) (fun v w w' hb h => h.below hb) (fun v w w' hb ⟨g, e, h⟩ => ⟨g, e, h.below hb⟩) (fun w' hb => hSof w' (below_next hbd hb)) ?_ ?_ ?_
      · rintro a' w' (rfl | ⟨u, rfl⟩) hb'
        all_goals exact makes_clone sT_kn (by rfl) (by rfl) _ (by rfl) (by rfl) (HR.out w' (below_next H1.out.bel (below_next hbd hb'))) HBY.out (by decide) (below_next hbd hb').size
      · rintro a' w' (rfl | ⟨u, rfl⟩) hb' K hK
        all_goals
          unfold WStep
          (try simp only [Act.put, List.setIfInBounds_toArray, List.set_cons_zero, List.set_cons_succ])
          go_simp
          exact hK.out _ _ (below_alloc (Below.refl _ _) _) ⟨_, rfl, Row.box _ _ _ rfl _⟩
      · rintro v u w2 hb2 ho ⟨gu, rfl, hu⟩
        (try simp only [Act.put, List.setIfInBounds_toArray, List.set_cons_zero, List.set_cons_succ])
        refine wpHead_done (by kernel_rfl) ?_; simp only [List.drop_succ_cons, List.drop_zero]
        have HW2 := Lib.hid (below_next hbd hb2)
        clear hb2
        go_wp2_with (at_builtin; refine wp_append (B := w1.heap.size) (xs := ks) (ys := [Kn.mk ⟨key, op, ra, rb, amt, legs, til⟩ ⟨0, 0⟩ false]) sT_kn rfl rfl v (.slice (some ⟨gu, 0, none⟩) 1 1) rfl rfl ho hu HX.out (by decide) HW2.out.size ?_; intro v3 w3 hown3 hg3 hat3)
        go_ret2
        rw [E1.out]
        exact ⟨below_next H1.out.bel (below_grown HW2.out hg3 ho.base), _, rfl, hown3.lower HB0.out⟩
end Go.Proofs.YthjmficglpfgpaaDoor
namespace Go.Proofs.YthjmficglpfgpaaDoor
set_option linter.unusedVariables false
set_option linter.unusedSimpArgs false
open Go Go.RowKit Enc
set_option maxRecDepth 100000
set_option maxHeartbeats 1600000

theorem ownTell {w : World} {B e : Nat} {v : Value} {xs : List Kn} (h : Own w B e v xs) (k : Int) (h0 : 0 ≤ k) (hk : k < xs.length) : ∃ b o c, v = .slice (some ⟨b, o, none⟩) xs.length c ∧
    (w.cell? ⟨b, o + k.toNat * 10 + 7, none⟩ = some (.int .i64 (rd xs k).rep.err) ∧ w.cell? ⟨b, o + k.toNat * 10 + 8, none⟩ = some (.int .i64 (rd xs k).rep.id) ∧ w.cell? ⟨b, o + k.toNat * 10 + 9, none⟩ = some (.bool (rd xs k).told)) ∧
    (w.frozen? ⟨b, o + k.toNat * 10 + 7, none⟩ = false ∧ w.frozen? ⟨b, o + k.toNat * 10 + 8, none⟩ = false ∧ w.frozen? ⟨b, o + k.toNat * 10 + 9, none⟩ = false) ∧ B ≤ b ∧ b < w.heap.size ∧
    Hid (∀ y z, Own (((w.setCell ⟨b, o + k.toNat * 10 + 7, none⟩ (.int .i64 y)).setCell ⟨b, o + k.toNat * 10 + 8, none⟩ (.int .i64 z)).setCell ⟨b, o + k.toNat * 10 + 9, none⟩ (.bool true)) B e v (xs.set k.toNat { rd xs k with rep := ⟨y, z⟩, told := true })) := by
  obtain ⟨b, o, c, hv, _, _, _, _, _, _, _, c7, c8, c9, hl⟩ := h.row.knI k h0 hk
  have hk' : k.toNat < xs.length := by omega
  have hrd : rd xs k = xs[k.toNat] := by rw [← rd_nat xs k.toNat hk', show ((k.toNat : Nat) : Int) = k by omega]
  have s7 := fun z => h.set k.toNat hk' 7 (by decide) (.int .i64 z) { rd xs k with rep := ⟨z, (rd xs k).rep.id⟩ } (by rw [hrd]; rfl) hv
  have s8 := fun z => h.set k.toNat hk' 8 (by decide) (.int .i64 z) { rd xs k with rep := ⟨(rd xs k).rep.err, z⟩ } (by rw [hrd]; rfl) hv
  have s9 := fun z => h.set k.toNat hk' 9 (by decide) (.bool z) { rd xs k with told := z } (by rw [hrd]; rfl) hv
  refine ⟨b, o, c, hv, ⟨c7, c8, c9⟩, ⟨(s7 0).2.1, (s8 0).2.1, (s9 true).2.1⟩, (s7 0).2.2, hl, fun y z => ?_⟩
  have t1 := (s7 y).1
  have hl1 : k.toNat < (xs.set k.toNat { rd xs k with rep := ⟨y, (rd xs k).rep.id⟩ }).length := by simpa using hk'
  have hv1 : v = .slice (some ⟨b, o, none⟩) (xs.set k.toNat { rd xs k with rep := ⟨y, (rd xs k).rep.id⟩ }).length c := by simpa using hv
  have t2 := (t1.set k.toNat hl1 8 (by decide) (.int .i64 z) { rd xs k with rep := ⟨y, z⟩ } (by simp; rfl) hv1).1
  rw [List.set_set] at t2
  have hl2 : k.toNat < (xs.set k.toNat { rd xs k with rep := ⟨y, z⟩ }).length := by simpa using hk'
  have hv2 : v = .slice (some ⟨b, o, none⟩) (xs.set k.toNat { rd xs k with rep := ⟨y, z⟩ }).length c := by simpa using hv
  have t3 := (t2.set k.toNat hl2 9 (by decide) (.bool true) { rd xs k with rep := ⟨y, z⟩, told := true } (by simp; rfl) hv2).1
  rw [List.set_set] at t3
  exact t3
theorem keysTell_any (v : Value) (ks : List Kn) (key : Int) (p : Rep) (w : World) (h : Row w v ks) (hn : ks.length ≤ 1000) : Calls Tryd.prog 52 #[v, .int .i64 key, p.val] w fun e w' => KnRes w w' (tellK ks key p) e := by
  have hm := h.max
  obtain ⟨A, c, rfl⟩ := h.slice
  have h0 : Env w (w.alloc (.cells #[.int .i64 p.err, .int .i64 p.id] 40)) _ := ((Env.nil w).alloc 40 p.cells)
  simp only [List.nil_append, List.cons_append, List.set_cons_zero, List.set_cons_succ, World.size_alloc] at h0
  have H0 := Lib.hid h0
  clear h0
  have HC := Lib.hid (fun (W : World) (hW : Below w.heap.size w W) => keysFind_any (.slice A ks.length c) ks key W (h.below hW))
  have HR := Lib.hid (show ∀ (W : World), Below w.heap.size w W → Row W (.slice A ks.length c) ks from fun W hW => h.below hW)
  have HP1 := Lib.hid (show findK key ks < 0 → tellK ks key p = .error 2 from fun h => by unfold tellK; rw [if_pos h])
  have HP2 := Lib.hid (show ¬ findK key ks < 0 → (rd ks (findK key ks)).told = true → tellK ks key p = .error 6 from fun h h2 => by unfold tellK; rw [if_neg h, if_pos h2])
  have HP3 := Lib.hid (show ¬ findK key ks < 0 → ¬ (rd ks (findK key ks)).told = true → tellK ks key p = .ok (ks.set (findK key ks).toNat { rd ks (findK key ks) with rep := p, told := true }) from fun h h2 => by unfold tellK; rw [if_neg h, if_neg h2])
  have HF := Lib.hid (findK_place key ks)
  generalize findK key ks = i at *
  generalize hx : tellK ks key p = x at *
  clear hx h
  obtain ⟨err, id⟩ := p
  simp only [Rep.cells] at H0
  go_enter Tryd.func52, Tryd.ntmps52
  go_wp2_with fail
  refine (HC.out _ H0.out.bel).mono ?_
  rintro e w1 ⟨rfl, hz⟩
  have h1 := H0.out.next hz
  have hrow := HR.out w1 h1.bel
  have H1 := Lib.hid h1
  (have f1 := h1.facts; simp only [AllF, cellsF, gapF, Nat.zero_add, Nat.reduceAdd, and_true, true_and] at f1)
  clear h1 HC hz H0
  by_cases hi : i < 0
  · have E1 := Lib.hid (HP1.out hi)
    clear HP1 HP2 HP3
    go_wp2
    go_ret2
    rw [E1.out]
    exact ⟨H1.out.bel, rfl⟩
  · obtain ⟨i0, i1⟩ := HF.out.at_ (by omega)
    clear i1
    have i2 : 0 ≤ i := by omega
    obtain ⟨b, o, c', hv, _, _, _, _, _, _, _, _, _, k9, hbl⟩ := hrow.knI i i2 i0
    injection hv with e1 e2 e3
    subst e1 e3
    by_cases ht : (rd ks i).told = true
    · have E1 := Lib.hid (HP2.out (by omega) ht)
      clear HP1 HP2 HP3
      go_wp2
      go_ret2
      rw [E1.out]
      exact ⟨H1.out.bel, rfl⟩
    · have ht' : (rd ks i).told = false := by simpa using ht
      have E1 := Lib.hid (HP3.out (by omega) ht)
      have HBY := Lib.hid (show (([] : List Kn).length + ks.length) * 80 ≤ 140737488355328 by simp; omega)
      have HRW := Lib.hid hrow
      have HS := Lib.hid H1.out.bel.size
      clear HP1 HP2 HP3 ht hrow
      go_wp2_with (at_builtin; refine Halted.in_ ?_); refine Halted.on ?_
      refine wp_append (B := w1.heap.size) sT_kn rfl rfl (.slice none 0 0) (.slice (some ⟨b, o, none⟩) ks.length c) rfl rfl (Own.nil _ _ _) HRW.out HBY.out (by decide) (Nat.le_refl _) ?_
      intro v2 w2 ho2 hg2 hat2
      have hb2 := grown_none hg2 rfl
      have h2 := H1.out.next hb2
      (have f2 := h2.facts; simp only [AllF, cellsF, gapF, Nat.zero_add, Nat.reduceAdd, and_true, true_and] at f2)
      simp only [List.nil_append] at ho2
      obtain ⟨b2, o2, c2, rfl, ⟨j7, j8, j9⟩, ⟨q7, q8, q9⟩, hB2, hl2, hset⟩ := ownTell ho2 i i2 i0
      have H2 := Lib.hid h2
      clear h2 k9 f1 hg2 hat2
      go_wp2
      go_ret2
      rw [E1.out]
      refine ⟨?_, _, rfl, (hset.out err id).lower HS.out⟩
      have hw2 : w.heap.size ≤ b2 := by have := HS.out; omega
      (repeat (first | (with_reducible refine below_drew ?_) | (with_reducible refine below_drewN ?_ _) | (with_reducible refine below_alloc ?_ _) | ((with_reducible refine Below.setCell ?_ ?_ _); rotate_left; (focus (first | (simp; done) | (simp; omega))))))
      exact H2.out.bel
end Go.Proofs.YthjmficglpfgpaaDoor
namespace Go.Proofs.YthjmficglpfgpaaDoor
set_option linter.unusedVariables false
set_option linter.unusedSimpArgs false
open Go Go.RowKit Enc
set_option maxRecDepth 100000
set_option maxHeartbeats 1600000

theorem agg_saga : AggT Tryd.prog 156 11 := ⟨⟨_, Tryd.underlying156, rfl⟩, by kernel_rfl⟩
theorem sagaBegin_any (r : Req) (w : World) : Calls Tryd.prog 80 #[r.val] w fun e w' => e = .returned (beginG r).val ∧ Below w.heap.size w w' := by
  obtain ⟨key, op, ra, rb, amt, legs, til⟩ := r
  go_enter Tryd.func80, Tryd.ntmps80
  go_wp2
  refine bodyPost_ret (res_cell rfl _ rfl agg_saga rfl (Blk.new1 _ _ _ _)) rfl ⟨rfl, ?_⟩
  (repeat (first | (with_reducible refine below_drew ?_) | (with_reducible refine below_drewN ?_ _) | (with_reducible refine below_alloc ?_ _) | ((with_reducible refine Below.setCell ?_ ?_ _); rotate_left; (focus (first | (simp; done) | (simp; omega))))))
  exact Below.refl _ _
theorem sagaReady_any (g : Saga) (w : World) : Calls Tryd.prog 81 #[g.val] w fun e w' => e = .returned (.bool (readyB g)) ∧ Below w.heap.size w w' := by
  obtain ⟨⟨key, op, ra, rb, amt, legs, til⟩, phase, leg, tries, why⟩ := g
  by_cases h1 : phase = 0
  · subst h1
    by_cases h2 : legs ≤ leg
    · have H := Lib.hid (show readyB ⟨⟨key, op, ra, rb, amt, legs, til⟩, 0, leg, tries, why⟩ = true by simp [readyB, h2])
      go_enter Tryd.func81, Tryd.ntmps81
      go_wp2
      go_ret
      rw [H.out]
      exact ⟨rfl, below_alloc (Below.refl _ _) _⟩
    · have H := Lib.hid (show readyB ⟨⟨key, op, ra, rb, amt, legs, til⟩, 0, leg, tries, why⟩ = false by simp [readyB]; omega)
      have h3 : decide (legs ≤ leg) = false := by simpa using h2
      go_enter Tryd.func81, Tryd.ntmps81
      go_wp2
      go_ret
      rw [H.out]
      exact ⟨rfl, below_alloc (Below.refl _ _) _⟩
  · have H := Lib.hid (show readyB ⟨⟨key, op, ra, rb, amt, legs, til⟩, phase, leg, tries, why⟩ = false by simp [readyB, h1])
    have h3 : (phase == 0) = false := by simpa using h1
    clear h1
    go_enter Tryd.func81, Tryd.ntmps81
    go_wp2
    go_ret
    rw [H.out]
    exact ⟨rfl, below_alloc (Below.refl _ _) _⟩
theorem sagaAgree_any (g : Saga) (w : World) (h : 0 ≤ g.leg ∧ g.leg ≤ 1000000) : Calls Tryd.prog 106 #[g.val] w fun e w' => e = .returned (agreeG g).val ∧ Below w.heap.size w w' := by
  obtain ⟨⟨key, op, ra, rb, amt, legs, til⟩, phase, leg, tries, why⟩ := g
  simp only at h
  obtain ⟨h1, h2⟩ := h
  go_enter Tryd.func106, Tryd.ntmps106
  go_wp2
  refine bodyPost_ret (res_cell rfl _ rfl agg_saga rfl (Blk.new1 _ _ _ _)) rfl ⟨rfl, ?_⟩
  (repeat (first | (with_reducible refine below_drew ?_) | (with_reducible refine below_drewN ?_ _) | (with_reducible refine below_alloc ?_ _) | ((with_reducible refine Below.setCell ?_ ?_ _); rotate_left; (focus (first | (simp; done) | (simp; omega))))))
  exact Below.refl _ _
theorem sagaRefuse_any (g : Saga) (w : World) (h : 0 ≤ g.tries ∧ g.tries ≤ 1000000) : Calls Tryd.prog 105 #[g.val] w fun e w' => e = .returned (refuseG g).val ∧ Below w.heap.size w w' := by
  obtain ⟨⟨key, op, ra, rb, amt, legs, til⟩, phase, leg, tries, why⟩ := g
  simp only at h
  obtain ⟨h1, h2⟩ := h
  by_cases h3 : 3 < tries + 1
  · have H := Lib.hid (show refuseG ⟨⟨key, op, ra, rb, amt, legs, til⟩, phase, leg, tries, why⟩ = ⟨⟨key, op, ra, rb, amt, legs, til⟩, 1, leg, tries + 1, 9⟩ by simp only [refuseG]; rw [if_pos h3])
    go_enter Tryd.func105, Tryd.ntmps105
    go_wp2
    refine bodyPost_ret (res_cell rfl _ rfl agg_saga rfl (Blk.new1 _ _ _ _)) rfl ⟨by rw [H.out], ?_⟩
    (repeat (first | (with_reducible refine below_drew ?_) | (with_reducible refine below_drewN ?_ _) | (with_reducible refine below_alloc ?_ _) | ((with_reducible refine Below.setCell ?_ ?_ _); rotate_left; (focus (first | (simp; done) | (simp; omega))))))
    exact Below.refl _ _
  · have H := Lib.hid (show refuseG ⟨⟨key, op, ra, rb, amt, legs, til⟩, phase, leg, tries, why⟩ = ⟨⟨key, op, ra, rb, amt, legs, til⟩, phase, leg, tries + 1, why⟩ by simp only [refuseG]; rw [if_neg h3])
    have h4 : tries + 1 ≤ 3 := by omega
    go_enter Tryd.func105, Tryd.ntmps105
    go_wp2
    refine bodyPost_ret (res_cell rfl _ rfl agg_saga rfl (Blk.new1 _ _ _ _)) rfl ⟨by rw [H.out], ?_⟩
    (repeat (first | (with_reducible refine below_drew ?_) | (with_reducible refine below_drewN ?_ _) | (with_reducible refine below_alloc ?_ _) | ((with_reducible refine Below.setCell ?_ ?_ _); rotate_left; (focus (first | (simp; done) | (simp; omega))))))
    exact Below.refl _ _
theorem sagaTurn_any (g : Saga) (c : Int) (w : World) : Calls Tryd.prog 84 #[g.val, .int .i64 c] w fun e w' => e = .returned (turnG g c).val ∧ Below w.heap.size w w' := by
  obtain ⟨⟨key, op, ra, rb, amt, legs, til⟩, phase, leg, tries, why⟩ := g
  by_cases h1 : phase = 0
  · subst h1
    have H := Lib.hid (show turnG ⟨⟨key, op, ra, rb, amt, legs, til⟩, 0, leg, tries, why⟩ c = ⟨⟨key, op, ra, rb, amt, legs, til⟩, 1, leg, tries, c⟩ by simp [turnG])
    go_enter Tryd.func84, Tryd.ntmps84
    go_wp2
    refine bodyPost_ret (res_cell rfl _ rfl agg_saga rfl (Blk.new1 _ _ _ _)) rfl ⟨by rw [H.out], ?_⟩
    (repeat (first | (with_reducible refine below_drew ?_) | (with_reducible refine below_drewN ?_ _) | (with_reducible refine below_alloc ?_ _) | ((with_reducible refine Below.setCell ?_ ?_ _); rotate_left; (focus (first | (simp; done) | (simp; omega))))))
    exact Below.refl _ _
  · have H := Lib.hid (show turnG ⟨⟨key, op, ra, rb, amt, legs, til⟩, phase, leg, tries, why⟩ c = ⟨⟨key, op, ra, rb, amt, legs, til⟩, phase, leg, tries, why⟩ by simp only [turnG]; rw [if_neg h1])
    have h3 : (phase == 0) = false := by simpa using h1
    clear h1
    go_enter Tryd.func84, Tryd.ntmps84
    go_wp2
    refine bodyPost_ret (res_cell rfl _ rfl agg_saga rfl (Blk.new1 _ _ _ _)) rfl ⟨by rw [H.out], ?_⟩
    (repeat (first | (with_reducible refine below_drew ?_) | (with_reducible refine below_drewN ?_ _) | (with_reducible refine below_alloc ?_ _) | ((with_reducible refine Below.setCell ?_ ?_ _); rotate_left; (focus (first | (simp; done) | (simp; omega))))))
    exact Below.refl _ _
theorem sagaLeg_any (g : Saga) (ok : Bool) (w : World) (h : 0 ≤ g.leg ∧ g.leg ≤ 1000000) (h' : 0 ≤ g.tries ∧ g.tries ≤ 1000000) : Calls Tryd.prog 82 #[g.val, .bool ok] w fun e w' => e = .returned (legG g ok).val ∧ Below w.heap.size w w' := by
  have HR := Lib.hid (sagaReady_any g)
  have HA := Lib.hid (fun w => sagaAgree_any g w h)
  have HF := Lib.hid (fun w => sagaRefuse_any g w h')
  have HL := Lib.hid (show legG g ok = if g.phase ≠ 0 ∨ readyB g = true then g else if ok then agreeG g else refuseG g from rfl)
  generalize agreeG g = ga at *
  generalize refuseG g = gr at *
  generalize legG g ok = gl at *
  obtain ⟨⟨key, op, ra, rb, amt, legs, til⟩, phase, leg, tries, why⟩ := g
  clear h h'
  have h0 : Env w ((w.alloc (.cells (Saga.cells ⟨⟨key, op, ra, rb, amt, legs, til⟩, phase, leg, tries, why⟩).toArray 156)).alloc (.cells #[.int .i64 0, .int .i64 0, .int .i64 0, .int .i64 0, .int .i64 0, .int .i64 0, .int .i64 0, .int .i64 0, .int .i64 0, .int .i64 0, .int .i64 0] 156)) _ := ((Env.nil w).alloc 156 (Saga.cells ⟨⟨key, op, ra, rb, amt, legs, til⟩, phase, leg, tries, why⟩)).alloc 156 [.int .i64 0, .int .i64 0, .int .i64 0, .int .i64 0, .int .i64 0, .int .i64 0, .int .i64 0, .int .i64 0, .int .i64 0, .int .i64 0, .int .i64 0]
  simp only [Saga.cells] at h0
  simp only [List.nil_append, List.cons_append, List.set_cons_zero, List.set_cons_succ, World.size_alloc] at h0
  have H0 := Lib.hid h0
  clear h0
  by_cases h1 : phase = 0
  rotate_left
  · have H := Lib.hid (show gl = _ from HL.out.trans (if_pos (.inl h1)))
    have h3 : (phase != 0) = true := by simpa using h1
    clear HL h1
    go_enter Tryd.func82, Tryd.ntmps82
    go_wp2
    refine bodyPost_ret (res_cell rfl _ rfl agg_saga rfl (Blk.new1 _ _ _ _)) rfl ⟨by rw [H.out], ?_⟩
    (repeat (first | (with_reducible refine below_drew ?_) | (with_reducible refine below_drewN ?_ _) | (with_reducible refine below_alloc ?_ _) | ((with_reducible refine Below.setCell ?_ ?_ _); rotate_left; (focus (first | (simp; done) | (simp; omega))))))
    exact Below.refl _ _
  subst h1
  generalize readyB ⟨⟨key, op, ra, rb, amt, legs, til⟩, 0, leg, tries, why⟩ = rdy at *
  have HN := Lib.hid (fun hn : rdy = false => (show gl = _ from HL.out.trans (if_neg (by rw [hn]; simp))))
  have HY := Lib.hid (fun hy : rdy = true => (show gl = _ from HL.out.trans (if_pos (.inr hy))))
  clear HL
  go_enter Tryd.func82, Tryd.ntmps82
  go_wp2_with fail
  refine (HR.out _).mono ?_
  rintro e w1 ⟨rfl, hz⟩
  have h1 := H0.out.next hz
  have H1 := Lib.hid h1
  (have f1 := h1.facts; simp only [AllF, cellsF, gapF, Nat.zero_add, Nat.reduceAdd, and_true, true_and] at f1)
  clear h1 hz HR H0
  cases rdy with
  | true =>
    have HY' := Lib.hid (HY.out rfl)
    clear HY HN
    go_wp2
    refine bodyPost_ret (res_cell rfl _ rfl agg_saga rfl (H1.out.at 1 rfl).chain11) rfl ⟨by rw [HY'.out], ?_⟩
    (repeat (first | (with_reducible refine below_drew ?_) | (with_reducible refine below_drewN ?_ _) | (with_reducible refine below_alloc ?_ _) | ((with_reducible refine Below.setCell ?_ ?_ _); rotate_left; (focus (first | (simp; done) | (simp; omega))))))
    exact H1.out.bel
  | false =>
    have HN' := Lib.hid (HN.out rfl)
    clear HY HN
    cases ok with
    | true =>
      go_wp2_with fail
      refine (HA.out _).mono ?_
      rintro e w2 ⟨rfl, hz⟩
      have h2 := H1.out.next hz
      have H2 := Lib.hid h2
      (have f2 := h2.facts; simp only [AllF, cellsF, gapF, Nat.zero_add, Nat.reduceAdd, and_true, true_and] at f2)
      clear h2 hz H1 f1
      obtain ⟨⟨x0, x1, x2, x3, x4, x5, x6⟩, y1, y2, y3, y4⟩ := ga
      go_wp2
      refine bodyPost_ret (res_cell rfl _ rfl agg_saga rfl (H2.out.at 1 rfl).chain11) rfl ⟨by rw [HN'.out]; rfl, ?_⟩
      (repeat (first | (with_reducible refine below_drew ?_) | (with_reducible refine below_drewN ?_ _) | (with_reducible refine below_alloc ?_ _) | ((with_reducible refine Below.setCell ?_ ?_ _); rotate_left; (focus (first | (simp; done) | (simp; omega))))))
      exact H2.out.bel
    | false =>
      go_wp2_with fail
      refine (HF.out _).mono ?_
      rintro e w2 ⟨rfl, hz⟩
      have h2 := H1.out.next hz
      have H2 := Lib.hid h2
      (have f2 := h2.facts; simp only [AllF, cellsF, gapF, Nat.zero_add, Nat.reduceAdd, and_true, true_and] at f2)
      clear h2 hz H1 f1
      obtain ⟨⟨x0, x1, x2, x3, x4, x5, x6⟩, y1, y2, y3, y4⟩ := gr
      go_wp2
      refine bodyPost_ret (res_cell rfl _ rfl agg_saga rfl (H2.out.at 1 rfl).chain11) rfl ⟨by rw [HN'.out]; rfl, ?_⟩
      (repeat (first | (with_reducible refine below_drew ?_) | (with_reducible refine below_drewN ?_ _) | (with_reducible refine below_alloc ?_ _) | ((with_reducible refine Below.setCell ?_ ?_ _); rotate_left; (focus (first | (simp; done) | (simp; omega))))))
      exact H2.out.bel
end Go.Proofs.YthjmficglpfgpaaDoor
namespace Go.Proofs.YthjmficglpfgpaaDoor
set_option linter.unusedVariables false
set_option linter.unusedSimpArgs false
open Go Go.RowKit Enc
set_option maxRecDepth 100000
set_option maxHeartbeats 1600000

/-- A state, and an error. -/
def StE (w w' : World) (s : St) (x : Except Int (List Acc)) (e : Ending) : Prop := Below w.heap.size w w' ∧ match x with
  | .error c => ∃ v, e = .returned (.tuple #[v, .iface 38 (.int .i64 c)]) ∧ StV w' v s
  | .ok ys => ∃ v, e = .returned (.tuple #[v, .nilIface]) ∧ StV w' v { s with accs := ys }
theorem undo_st (s : St) (v : Value) (r : Req) (w : World) (hv : StV w v s) (hA : ABs s.accs) : Calls Tryd.prog 85 #[v, r.val] w fun e w' => StE w w' s (undoA s.accs r) e := by
  obtain ⟨A1, c1, A2, c2, A3, c3, A4, c4, rfl, q1, q2, q3, q4⟩ := hv.open
  have h0 : Env w (((w.alloc (.cells #[.slice A1 s.accs.length c1, .slice A2 s.pays.length c2, .slice A3 s.sagas.length c3, .slice A4 s.known.length c4, .int .i64 s.now] 36)).alloc (.cells (rcells r) 29)).alloc (.cells #[.slice none 0 0, .slice none 0 0, .slice none 0 0, .slice none 0 0, .int .i64 0] 36)) _ :=
    (((Env.nil w).alloc 36 [.slice A1 s.accs.length c1, .slice A2 s.pays.length c2, .slice A3 s.sagas.length c3, .slice A4 s.known.length c4, .int .i64 s.now]).alloc 29 r.cells).alloc 36 [.slice none 0 0, .slice none 0 0, .slice none 0 0, .slice none 0 0, .int .i64 0]
  simp only [List.nil_append, List.cons_append, List.set_cons_zero, List.set_cons_succ, World.size_alloc] at h0
  have HC := Lib.hid (fun (W : World) (hW : Below w.heap.size w W) => release_any (.slice A1 s.accs.length c1) s.accs r.a r.amt W (q1.below hW) hA)
  have HV := Lib.hid hv
  have hU : undoA s.accs r = release s.accs r.a r.amt := rfl
  rw [hU]
  clear hU q1 q2 q3 q4 hv
  generalize release s.accs r.a r.amt = x at *
  obtain ⟨key, op, ra, rb, amt, legs, til⟩ := r
  simp only [Req.cells] at h0
  have H0 := Lib.hid h0
  clear h0
  go_enter Tryd.func85, Tryd.ntmps85
  go_wp2_with fail
  refine (HC.out _ H0.out.bel).mono ?_
  intro e w1 hres
  obtain ⟨hz, hx⟩ := hres
  have h1 := H0.out.next hz
  have H1 := Lib.hid h1
  (have f1 := h1.facts; simp only [AllF, cellsF, gapF, Nat.zero_add, Nat.reduceAdd, and_true, true_and] at f1)
  have HZ := Lib.hid hz
  clear h1 hz HC H0
  cases x with
  | error c =>
    obtain rfl : e = _ := hx
    go_wp2
    refine bodyPost_ret (res_cell_tmp rfl _ rfl agg_st rfl (H1.out.at 2 rfl).chain5) rfl ?_
    have hb : Below w.heap.size w _ := H1.out.bel
    refine ⟨?_, _, rfl, HV.out.below ?_⟩
    · (repeat (first | (with_reducible refine below_drew ?_) | (with_reducible refine below_drewN ?_ _) | (with_reducible refine below_alloc ?_ _) | ((with_reducible refine Below.setCell ?_ ?_ _); rotate_left; (focus (first | (simp; done) | (simp; omega))))))
      exact hb
    · (repeat (first | (with_reducible refine below_drew ?_) | (with_reducible refine below_drewN ?_ _) | (with_reducible refine below_alloc ?_ _) | ((with_reducible refine Below.setCell ?_ ?_ _); rotate_left; (focus (first | (simp; done) | (simp; omega))))))
      exact hb
  | ok ys =>
    obtain ⟨v, rfl, ho⟩ := hx
    obtain ⟨B1, d1, rfl⟩ := ho.row.slice
    simp only [World.size_alloc] at ho
    have HO := Lib.hid ho
    clear ho
    go_wp2
    refine bodyPost_ret (res_cell_tmp rfl _ rfl agg_st rfl ((H1.out.set 0 0 _ rfl).at 2 rfl).chain5) rfl ?_
    have hb : Below w.heap.size w _ := H1.out.bel
    obtain ⟨k1, k2, k3, k4⟩ := HV.out.rows
    refine (fun (h : Below _ _ _) => ⟨h, _, rfl, StV.mk' (s := { s with accs := ys }) (Own.row (B := w.heap.size + 1 + 1 + 1) (e := 50) ?_) (k2.below h) (k3.below h) (k4.below h)⟩) ?_
    · (repeat (first | (with_reducible refine below_drew ?_) | (with_reducible refine below_drewN ?_ _) | (with_reducible refine below_alloc ?_ _) | ((with_reducible refine Below.setCell ?_ ?_ _); rotate_left; (focus (first | (simp; done) | (simp; omega))))))
      exact hb
    · (repeat (first | (with_reducible refine Own.drew ?_) | (with_reducible refine Own.drewN ?_ _) | (with_reducible refine Own.alloc ?_ _) | ((with_reducible refine Own.setLow ?_ ?_ _ _); rotate_left; (focus (first | (simp; done) | omega | (simp; omega))))))
      exact HO.out
theorem settle_st (s : St) (v : Value) (r : Req) (w : World) (hv : StV w v s) (hG : Good s.accs) (hM : ∀ es, move s.accs r.a r.b r.amt = .ok es → Bal s.accs es) : Calls Tryd.prog 83 #[v, r.val] w fun e w' => StE w w' s (settleA s.accs r) e := by
  obtain ⟨A1, c1, A2, c2, A3, c3, A4, c4, rfl, q1, q2, q3, q4⟩ := hv.open
  have h0 : Env w (((w.alloc (.cells #[.slice A1 s.accs.length c1, .slice A2 s.pays.length c2, .slice A3 s.sagas.length c3, .slice A4 s.known.length c4, .int .i64 s.now] 36)).alloc (.cells (rcells r) 29)).alloc (.cells #[.slice none 0 0, .slice none 0 0, .slice none 0 0, .slice none 0 0, .int .i64 0] 36)) _ :=
    (((Env.nil w).alloc 36 [.slice A1 s.accs.length c1, .slice A2 s.pays.length c2, .slice A3 s.sagas.length c3, .slice A4 s.known.length c4, .int .i64 s.now]).alloc 29 r.cells).alloc 36 [.slice none 0 0, .slice none 0 0, .slice none 0 0, .slice none 0 0, .int .i64 0]
  simp only [List.nil_append, List.cons_append, List.set_cons_zero, List.set_cons_succ, World.size_alloc] at h0
  have HC := Lib.hid (fun (W : World) (hW : Below w.heap.size w W) => move_any (.slice A1 s.accs.length c1) s.accs r.a r.b r.amt W (q1.below hW) hG.cur)
  have HC2 := Lib.hid (fun (y : Value) (es : List Ent) (W : World) (hW : Below w.heap.size w W) (hy : Row W y es) (hB : Bal s.accs es) => spend_any (.slice A1 s.accs.length c1) y s.accs r.amt es W (q1.below hW) hy hB hG.abs)
  have HV := Lib.hid hv
  have hU : settleA s.accs r = match move s.accs r.a r.b r.amt with | .error c => .error c | .ok es => spend s.accs r.amt es := rfl
  rw [hU]
  clear hU q1 q2 q3 q4 hv
  have HM := Lib.hid hM
  clear hM
  generalize move s.accs r.a r.b r.amt = x at *
  generalize spend s.accs r.amt = sp at *
  obtain ⟨key, op, ra, rb, amt, legs, til⟩ := r
  simp only [Req.cells] at h0
  have H0 := Lib.hid h0
  clear h0
  go_enter Tryd.func83, Tryd.ntmps83
  go_wp2_with fail
  refine (HC.out _ H0.out.bel).mono ?_
  intro e w1 hres
  obtain ⟨hz, hx⟩ := hres
  have h1 := H0.out.next hz
  have H1 := Lib.hid h1
  (have f1 := h1.facts; simp only [AllF, cellsF, gapF, Nat.zero_add, Nat.reduceAdd, and_true, true_and] at f1)
  have HZ := Lib.hid hz
  clear h1 hz HC H0
  cases x with
  | error c =>
    obtain rfl : e = _ := hx
    go_wp2
    refine bodyPost_ret (res_cell_tmp rfl _ rfl agg_st rfl (H1.out.at 2 rfl).chain5) rfl ?_
    have hb : Below w.heap.size w _ := H1.out.bel
    refine ⟨?_, _, rfl, HV.out.below ?_⟩
    · (repeat (first | (with_reducible refine below_drew ?_) | (with_reducible refine below_drewN ?_ _) | (with_reducible refine below_alloc ?_ _) | ((with_reducible refine Below.setCell ?_ ?_ _); rotate_left; (focus (first | (simp; done) | (simp; omega))))))
      exact hb
    · (repeat (first | (with_reducible refine below_drew ?_) | (with_reducible refine below_drewN ?_ _) | (with_reducible refine below_alloc ?_ _) | ((with_reducible refine Below.setCell ?_ ?_ _); rotate_left; (focus (first | (simp; done) | (simp; omega))))))
      exact hb
  | ok es =>
    obtain ⟨y, rfl, ho⟩ := hx
    have HO1 := Lib.hid ho.row
    clear ho
    go_wp2_with fail
    refine (HC2.out y es _ H1.out.bel HO1.out (HM.out es rfl)).mono ?_
    intro e w2 hres
    obtain ⟨hz, hx⟩ := hres
    have h2 := H1.out.next hz
    have H2 := Lib.hid h2
    have HW := Lib.hid H1.out.bel.size
    have lw := (H1.out.at 2 rfl).lt
    clear f1
    (have f2 := h2.facts; simp only [AllF, cellsF, gapF, Nat.zero_add, Nat.reduceAdd, and_true, true_and] at f2)
    clear h2 hz HC2 HO1 HM
    have HSX := Lib.hid (Eq.refl (sp es))
    cases hsx : sp es with
    | error c =>
      rw [hsx] at hx
      replace HSX := Lib.hid hsx
      clear hsx
      obtain rfl : e = _ := hx
      go_wp2
      refine bodyPost_ret (res_cell_tmp rfl _ rfl agg_st rfl (H2.out.at 2 rfl).chain5) rfl ?_
      have hb : Below w.heap.size w _ := H2.out.bel
      show StE _ _ s (sp es) _
      rw [HSX.out]
      refine ⟨?_, _, rfl, HV.out.below ?_⟩
      · (repeat (first | (with_reducible refine below_drew ?_) | (with_reducible refine below_drewN ?_ _) | (with_reducible refine below_alloc ?_ _) | ((with_reducible refine Below.setCell ?_ ?_ _); rotate_left; (focus (first | (simp; done) | (simp; omega))))))
        exact hb
      · (repeat (first | (with_reducible refine below_drew ?_) | (with_reducible refine below_drewN ?_ _) | (with_reducible refine below_alloc ?_ _) | ((with_reducible refine Below.setCell ?_ ?_ _); rotate_left; (focus (first | (simp; done) | (simp; omega))))))
        exact hb
    | ok ys =>
      rw [hsx] at hx
      replace HSX := Lib.hid hsx
      clear hsx
      obtain ⟨v, rfl, ho⟩ := hx
      obtain ⟨B1, d1, rfl⟩ := ho.row.slice
      have HO := Lib.hid (ho.lower (B' := w.heap.size + 1 + 1 + 1) (by omega))
      clear ho
      go_wp2
      refine bodyPost_ret (res_cell_tmp rfl _ rfl agg_st rfl ((H2.out.set 0 0 _ rfl).at 2 rfl).chain5) rfl ?_
      have hb : Below w.heap.size w _ := H2.out.bel
      show StE _ _ s (sp es) _
      rw [HSX.out]
      obtain ⟨k1, k2, k3, k4⟩ := HV.out.rows
      refine (fun (h : Below _ _ _) => ⟨h, _, rfl, StV.mk' (s := { s with accs := ys }) (Own.row (B := w.heap.size + 1 + 1 + 1) (e := 50) ?_) (k2.below h) (k3.below h) (k4.below h)⟩) ?_
      · (repeat (first | (with_reducible refine below_drew ?_) | (with_reducible refine below_drewN ?_ _) | (with_reducible refine below_alloc ?_ _) | ((with_reducible refine Below.setCell ?_ ?_ _); rotate_left; (focus (first | (simp; done) | (simp; omega))))))
        exact hb
      · (repeat (first | (with_reducible refine Own.drew ?_) | (with_reducible refine Own.drewN ?_ _) | (with_reducible refine Own.alloc ?_ _) | ((with_reducible refine Own.setLow ?_ ?_ _ _); rotate_left; (focus (first | (simp; done) | omega | (simp; omega))))))
        exact HO.out
theorem reserve_st (s : St) (v : Value) (r : Req) (w : World) (hv : StV w v s) (hG : Good s.accs) : Calls Tryd.prog 78 #[v, r.val] w fun e w' => StE w w' s (reserveA s.accs r) e := by
  obtain ⟨A1, c1, A2, c2, A3, c3, A4, c4, rfl, q1, q2, q3, q4⟩ := hv.open
  have h0 : Env w (((w.alloc (.cells #[.slice A1 s.accs.length c1, .slice A2 s.pays.length c2, .slice A3 s.sagas.length c3, .slice A4 s.known.length c4, .int .i64 s.now] 36)).alloc (.cells (rcells r) 29)).alloc (.cells #[.slice none 0 0, .slice none 0 0, .slice none 0 0, .slice none 0 0, .int .i64 0] 36)) _ :=
    (((Env.nil w).alloc 36 [.slice A1 s.accs.length c1, .slice A2 s.pays.length c2, .slice A3 s.sagas.length c3, .slice A4 s.known.length c4, .int .i64 s.now]).alloc 29 r.cells).alloc 36 [.slice none 0 0, .slice none 0 0, .slice none 0 0, .slice none 0 0, .int .i64 0]
  simp only [List.nil_append, List.cons_append, List.set_cons_zero, List.set_cons_succ, World.size_alloc] at h0
  have HC := Lib.hid (fun (W : World) (hW : Below w.heap.size w W) => move_any (.slice A1 s.accs.length c1) s.accs r.a r.b r.amt W (q1.below hW) hG.cur)
  have HC2 := Lib.hid (fun (W : World) (hW : Below w.heap.size w W) => hold_any (.slice A1 s.accs.length c1) s.accs r.a r.amt W (q1.below hW) hG.abs)
  have HC3 := Lib.hid (fun (g : Nat) (y : Value) (W : World) (hW : Below w.heap.size w W) (hd : DeskAt W g (.slice A1 s.accs.length c1) (.slice A2 s.pays.length c2) (.slice A3 s.sagas.length c3) (.slice A4 s.known.length c4) s.now) (hy : Row W y [r.a, r.b]) => clients_any g _ _ _ _ _ s.accs [r.a, r.b] y W hd (q1.below hW) hy)
  have HV := Lib.hid hv
  have hU : reserveA s.accs r = if allCl s.accs [r.a, r.b] = false then .error 2 else match move s.accs r.a r.b r.amt with | .error c => .error c | .ok es => hold s.accs r.a r.amt := by
    unfold reserveA
    congr 2
    simp [allCl]
  clear q1 q2 q3 q4 hv
  generalize move s.accs r.a r.b r.amt = x at *
  generalize hold s.accs r.a r.amt = x2 at *
  generalize allCl s.accs [r.a, r.b] = al at *
  generalize reserveA s.accs r = X at *
  have HU := Lib.hid hU
  clear hU
  obtain ⟨key, op, ra, rb, amt, legs, til⟩ := r
  simp only [Req.cells] at h0
  have H0 := Lib.hid h0
  clear h0
  have h5 := (H0.out.alloc 97 [.slice A1 s.accs.length c1, .slice A2 s.pays.length c2, .slice A3 s.sagas.length c3, .slice A4 s.known.length c4, .int .i64 s.now]).alloc 3 [.int .i64 ra, .int .i64 rb]
  simp only [List.nil_append, List.cons_append, List.set_cons_zero, List.set_cons_succ, World.size_alloc] at h5
  have H5 := Lib.hid h5
  clear h5 H0
  go_enter Tryd.func78, Tryd.ntmps78
  go_wp2_with fail
  refine (HC3.out _ _ _ H5.out.bel (H5.out.at 3 rfl) (Own.of_blk (xs := [ra, rb]) (B := 0) (H5.out.at 4 rfl) (Nat.zero_le _) rfl rfl (by simp) (by decide)).row).mono ?_
  rintro e w1 ⟨hw1, rfl⟩
  have h1 : Env w w1 _ := hw1 ▸ H5.out
  have H1 := Lib.hid h1
  (have f1 := h1.facts; simp only [AllF, cellsF, gapF, Nat.zero_add, Nat.reduceAdd, and_true, true_and] at f1)
  clear h1 HC3 H5 hw1
  cases al with
  | false =>
    go_wp2
    refine bodyPost_ret (res_cell_tmp rfl _ rfl agg_st rfl (H1.out.at 2 rfl).chain5) rfl ?_
    have hb : Below w.heap.size w _ := H1.out.bel
    rw [show X = _ from HU.out.trans (if_pos (by trivial))]
    refine ⟨?_, _, rfl, HV.out.below ?_⟩
    · (repeat (first | (with_reducible refine below_drew ?_) | (with_reducible refine below_drewN ?_ _) | (with_reducible refine below_alloc ?_ _) | ((with_reducible refine Below.setCell ?_ ?_ _); rotate_left; (focus (first | (simp; done) | (simp; omega))))))
      exact hb
    · (repeat (first | (with_reducible refine below_drew ?_) | (with_reducible refine below_drewN ?_ _) | (with_reducible refine below_alloc ?_ _) | ((with_reducible refine Below.setCell ?_ ?_ _); rotate_left; (focus (first | (simp; done) | (simp; omega))))))
      exact hb
  | true =>
    go_wp2_with fail
    refine (HC.out _ H1.out.bel).mono ?_
    intro e w2 hres
    obtain ⟨hz, hx⟩ := hres
    have h2 := H1.out.next hz
    have H2 := Lib.hid h2
    clear f1
    (have f2 := h2.facts; simp only [AllF, cellsF, gapF, Nat.zero_add, Nat.reduceAdd, and_true, true_and] at f2)
    clear h2 hz HC H1
    cases x with
    | error c =>
      obtain rfl : e = _ := hx
      go_wp2
      refine bodyPost_ret (res_cell_tmp rfl _ rfl agg_st rfl (H2.out.at 2 rfl).chain5) rfl ?_
      have hb : Below w.heap.size w _ := H2.out.bel
      rw [show X = _ from HU.out.trans (if_neg (by simp))]
      refine ⟨?_, _, rfl, HV.out.below ?_⟩
      · (repeat (first | (with_reducible refine below_drew ?_) | (with_reducible refine below_drewN ?_ _) | (with_reducible refine below_alloc ?_ _) | ((with_reducible refine Below.setCell ?_ ?_ _); rotate_left; (focus (first | (simp; done) | (simp; omega))))))
        exact hb
      · (repeat (first | (with_reducible refine below_drew ?_) | (with_reducible refine below_drewN ?_ _) | (with_reducible refine below_alloc ?_ _) | ((with_reducible refine Below.setCell ?_ ?_ _); rotate_left; (focus (first | (simp; done) | (simp; omega))))))
        exact hb
    | ok es =>
      obtain ⟨y, rfl, ho⟩ := hx
      clear ho
      go_wp2_with fail
      refine (HC2.out _ H2.out.bel).mono ?_
      intro e w3 hres
      obtain ⟨hz, hx⟩ := hres
      have h3 := H2.out.next hz
      have H3 := Lib.hid h3
      have lw := (H2.out.at 2 rfl).lt
      clear f2
      (have f3 := h3.facts; simp only [AllF, cellsF, gapF, Nat.zero_add, Nat.reduceAdd, and_true, true_and] at f3)
      clear h3 hz HC2 H2
      cases x2 with
      | error c =>
        obtain rfl : e = _ := hx
        go_wp2
        refine bodyPost_ret (res_cell_tmp rfl _ rfl agg_st rfl (H3.out.at 2 rfl).chain5) rfl ?_
        have hb : Below w.heap.size w _ := H3.out.bel
        rw [show X = _ from HU.out.trans (if_neg (by simp))]
        refine ⟨?_, _, rfl, HV.out.below ?_⟩
        · (repeat (first | (with_reducible refine below_drew ?_) | (with_reducible refine below_drewN ?_ _) | (with_reducible refine below_alloc ?_ _) | ((with_reducible refine Below.setCell ?_ ?_ _); rotate_left; (focus (first | (simp; done) | (simp; omega))))))
          exact hb
        · (repeat (first | (with_reducible refine below_drew ?_) | (with_reducible refine below_drewN ?_ _) | (with_reducible refine below_alloc ?_ _) | ((with_reducible refine Below.setCell ?_ ?_ _); rotate_left; (focus (first | (simp; done) | (simp; omega))))))
          exact hb
      | ok ys =>
        obtain ⟨v, rfl, ho⟩ := hx
        obtain ⟨B1, d1, rfl⟩ := ho.row.slice
        have HO := Lib.hid (ho.lower (B' := w.heap.size + 1 + 1 + 1) (by omega))
        clear ho
        go_wp2
        refine bodyPost_ret (res_cell_tmp rfl _ rfl agg_st rfl ((H3.out.set 0 0 _ rfl).at 2 rfl).chain5) rfl ?_
        have hb : Below w.heap.size w _ := H3.out.bel
        obtain ⟨k1, k2, k3, k4⟩ := HV.out.rows
        rw [show X = _ from HU.out.trans (if_neg (by simp))]
        refine (fun (h : Below _ _ _) => ⟨h, _, rfl, StV.mk' (s := { s with accs := ys }) (Own.row (B := w.heap.size + 1 + 1 + 1) (e := 50) ?_) (k2.below h) (k3.below h) (k4.below h)⟩) ?_
        · (repeat (first | (with_reducible refine below_drew ?_) | (with_reducible refine below_drewN ?_ _) | (with_reducible refine below_alloc ?_ _) | ((with_reducible refine Below.setCell ?_ ?_ _); rotate_left; (focus (first | (simp; done) | (simp; omega))))))
          exact hb
        · (repeat (first | (with_reducible refine Own.drew ?_) | (with_reducible refine Own.drewN ?_ _) | (with_reducible refine Own.alloc ?_ _) | ((with_reducible refine Own.setLow ?_ ?_ _ _); rotate_left; (focus (first | (simp; done) | omega | (simp; omega))))))
          exact HO.out
end Go.Proofs.YthjmficglpfgpaaDoor
namespace Go.Proofs.YthjmficglpfgpaaDoor
set_option linter.unusedVariables false
set_option linter.unusedSimpArgs false
open Go Go.RowKit Enc
set_option maxRecDepth 100000
set_option maxHeartbeats 1600000

instance : Enc Bool where
  sz := 1
  enc x := [.bool x]
  len _ := rfl
  one x u h := by simp only [List.mem_cons, List.not_mem_nil, or_false] at h; subst h; rfl
  pos := by decide
/-- What a slice value leaves, from element k on. -/
def dropV (s k : Nat) : Value → Value
  | .slice a n c => .slice (if c = k then a else a.map (·.add (k * s))) (n - k) (c - k)
  | v => v
/-- A slice's length lies within its capacity. -/
def CapOk : Value → Prop
  | .slice _ n c => n ≤ c
  | _ => True
theorem dropV_cap {v : Value} (s k : Nat) (h : CapOk v) : CapOk (dropV s k v) := by
  cases v <;> simp only [dropV, CapOk] at h ⊢
  omega
theorem Row.drop {α : Type} [Enc α] {w : World} {v : Value} {xs : List α} (h : Row w v xs) (hcap : CapOk v) (k : Nat) (hk : k ≤ xs.length) : Row w (dropV (sz α) k v) (xs.drop k) := by
  obtain ⟨A, c, rfl, hm, hc⟩ := h
  have hcap : xs.length ≤ c := hcap
  refine ⟨if c = k then A else A.map (·.add (k * sz α)), c - k, by simp [dropV], by simp; omega, fun j hj => ?_⟩
  have hj' : k + j < xs.length := by simp at hj; omega
  obtain ⟨b, o, rfl, hx⟩ := hc (k + j) hj'
  rw [if_neg (by omega)]
  refine ⟨b, o + k * sz α, by simp [add_plain], fun i u hu => ?_⟩
  have := hx i u (by simpa using hu)
  rw [show o + k * sz α + j * sz α + i = o + (k + j) * sz α + i by rw [Nat.add_mul]; omega]
  exact this
theorem run_dropV {α : Type} [Enc α] {P : Program} {T e bytes : Nat} (hT : SlT P T e α bytes) {w : World} {v : Value} {xs : List α} (h : Row w v xs) (k : Nat) (hk : k ≤ xs.length) (W : World) :
    (Instr.slice T v (some (.int .i64 (k : Int))) none none).run P W = .ok (dropV (sz α) k v) W := by
  obtain ⟨A, c, rfl, hm, hc⟩ := h
  obtain ⟨i, z, hi, hz, hs, -⟩ := hT.inf
  have he : P.underlying T = some (.slice (P.elem T)) := by rw [hT.und]; simp [Program.elem, hT.und]
  have hel : P.elem T = e := by simp [Program.elem, hT.und]
  rw [run_slice_l (P := P) (w := W) (t := T) (a := A) (len := xs.length) (cap := c) (ht := he) (kl := .i64) (l := (k : Int)) (by omega) (by omega)]
  simp [hel, sizeOf, typeInfo, hi, hs, sliced, dropV]
theorem sT_bool : SlT Tryd.prog 113 4 Bool 1 := ⟨by kernel_rfl, by obtain ⟨i, h1, h2, h3, h4⟩ := info_parts (show (Tryd.prog.info? 4).map (fun i => (i.zero, i.size, i.bytes)) = some (some (.bool false), 1, 1) by kernel_rfl); exact ⟨i, _, h1, h2, h3, h4, rfl⟩⟩
theorem Row.boolAt {w : World} {v : Value} {xs : List Bool} (h : Row w v xs) (k : Nat) (hk : k < xs.length) : ∃ b o c, v = .slice (some ⟨b, o, none⟩) xs.length c ∧ w.cell? ⟨b, o + k, none⟩ = some (.bool xs[k]) ∧ b < w.heap.size := by
  obtain ⟨A, c, rfl, hm, hc⟩ := h
  obtain ⟨b, o, rfl, hx⟩ := hc k hk
  have h0 : w.cell? ⟨b, o + k, none⟩ = some (.bool xs[k]) := by
    have := hx 0 _ rfl
    simpa [sz] using this
  exact ⟨b, o, c, rfl, h0, cell_lt h0⟩
/-- The next answer. -/
theorem next_any (g : Nat) (v : Value) (ls : List Bool) (w : World) (hb : Blk w g 113 #[v]) (hr : Row w v ls) :
    Calls Tryd.prog 79 #[.pointer (some ⟨g, 0, none⟩)] w fun e w' => e = .returned (.bool (ls.headD true)) ∧ w.grownBy w' (some g) ∧ Blk w' g 113 #[if ls = [] then v else dropV 1 1 v] := by
  obtain ⟨A, c, rfl⟩ := hr.slice
  have c0 : w.cell? ⟨g, 0, none⟩ = some (.slice A ls.length c) := hb.at 0 _ rfl
  have cf := hb.frozen
  by_cases h0 : ls.length = 0
  · obtain rfl := List.eq_nil_of_length_eq_zero h0
    rw [if_pos rfl]
    have HB := Lib.hid hb
    clear hb
    go_enter Tryd.func79, Tryd.ntmps79
    go_wp2
    go_ret
    exact ⟨rfl, World.grownBy.refl _ _, HB.out⟩
  · rw [if_neg (by rintro rfl; exact h0 rfl)]
    obtain ⟨bb, o, c', hv, k0, kl⟩ := hr.boolAt 0 (by omega)
    injection hv with e1 e2 e3
    subst e1 e3
    have hh : ls.headD true = ls[0] := by cases ls with | nil => exact absurd rfl h0 | cons b ls => rfl
    rw [hh]
    generalize ls[0] = b at *
    replace k0 : w.cell? ⟨bb, o, none⟩ = some (.bool b) := k0
    have hsl := fun W => run_dropV sT_bool hr 1 (by omega) W
    have hd : ∃ A' n' c', dropV 1 1 (.slice (some ⟨bb, o, none⟩) ls.length c) = .slice A' n' c' := ⟨_, _, _, rfl⟩
    change ∀ W, (Instr.slice 113 (.slice (some ⟨bb, o, none⟩) ls.length c) (some (.int .i64 1)) none none).run Tryd.prog W = .ok (dropV 1 1 (.slice (some ⟨bb, o, none⟩) ls.length c)) W at hsl
    generalize dropV 1 1 (.slice (some ⟨bb, o, none⟩) ls.length c) = v' at *
    obtain ⟨A', n', d', rfl⟩ := hd
    have HB := Lib.hid hb
    have hne : ((ls.length : Int) == 0) = false := beq_eq_false_iff_ne.2 (by omega)
    have h1 : (1 : Int) ≤ ls.length := by omega
    have h2 : (0 : Int) < ls.length := by omega
    clear hb hh h0
    go_enter Tryd.func79, Tryd.ntmps79
    go_wp2
    go_ret
    exact ⟨rfl, (World.grownBy.refl _ _).setCell rfl _, by simpa using HB.out.set_ 0 (.slice A' n' d')⟩
theorem next_row {w : World} {v : Value} {ls : List Bool} (h : Row w v ls) (hc : CapOk v) : Row w (if ls = [] then v else dropV 1 1 v) ls.tail := by
  by_cases h0 : ls = []
  · subst h0
    simpa using h
  · rw [if_neg h0]
    have := h.drop hc 1 (List.length_pos_iff.2 h0)
    rw [List.drop_one] at this
    exact this
theorem next_cap {v : Value} {ls : List Bool} (hc : CapOk v) : CapOk (if ls = [] then v else dropV 1 1 v) := by
  split
  · exact hc
  · exact dropV_cap 1 1 hc
theorem Env.less {w X : World} {L : BL} (h : Env w X L) {i j : Nat} (hij : i < j) {p q : Nat × TypeId × List Value} (hi : L[i]? = some p) (hj : L[j]? = some q) : p.1 < q.1 := by
  have := List.pairwise_iff_getElem.1 h.inc i j (List.getElem?_eq_some_iff.1 hi).1 (List.getElem?_eq_some_iff.1 hj).1 hij
  rwa [(List.getElem?_eq_some_iff.1 hi).2, (List.getElem?_eq_some_iff.1 hj).2] at this
theorem set11_grown (w : World) (g : Nat) (a0 a1 a2 a3 a4 a5 a6 a7 a8 a9 a10 : Value) : w.grownBy (((((((((((w.setCell ⟨g, 0, none⟩ a0).setCell ⟨g, 1, none⟩ a1).setCell ⟨g, 2, none⟩ a2).setCell ⟨g, 3, none⟩ a3).setCell ⟨g, 4, none⟩ a4).setCell ⟨g, 5, none⟩ a5).setCell ⟨g, 6, none⟩ a6).setCell ⟨g, 7, none⟩ a7).setCell ⟨g, 8, none⟩ a8).setCell ⟨g, 9, none⟩ a9).setCell ⟨g, 10, none⟩ a10) (some g) := ((((((((((((World.grownBy.refl w (some g)).setCell (a := ⟨g, 0, none⟩) (g := g) rfl a0).setCell (a := ⟨g, 1, none⟩) (g := g) rfl a1).setCell (a := ⟨g, 2, none⟩) (g := g) rfl a2).setCell (a := ⟨g, 3, none⟩) (g := g) rfl a3).setCell (a := ⟨g, 4, none⟩) (g := g) rfl a4).setCell (a := ⟨g, 5, none⟩) (g := g) rfl a5).setCell (a := ⟨g, 6, none⟩) (g := g) rfl a6).setCell (a := ⟨g, 7, none⟩) (g := g) rfl a7).setCell (a := ⟨g, 8, none⟩) (g := g) rfl a8).setCell (a := ⟨g, 9, none⟩) (g := g) rfl a9).setCell (a := ⟨g, 10, none⟩) (g := g) rfl a10)
/-- A state's rows lie elsewhere. -/
def StOff (g : Nat) (v : Value) (s : St) : Prop := ∀ a p sg kn n, v = .agg #[a, p, sg, kn, n] → (s.accs ≠ [] → a.ownBlock ≠ some g) ∧ (s.pays ≠ [] → p.ownBlock ≠ some g) ∧ (s.sagas ≠ [] → sg.ownBlock ≠ some g) ∧ (s.known ≠ [] → kn.ownBlock ≠ some g)
theorem StV.keep {w w' : World} {v : Value} {s : St} {g : Nat} (h : StV w v s) (ho : StOff g v s) (hg : w.grownBy w' (some g)) : StV w' v s := by
  obtain ⟨a, p, sg, k, rfl, ha, hp, hs, hk⟩ := h
  obtain ⟨o1, o2, o3, o4⟩ := ho _ _ _ _ _ rfl
  exact ⟨a, p, sg, k, rfl, ha.only o1 hg, hp.only o2 hg, hs.only o3 hg, hk.only o4 hg⟩
theorem StV.offNew {w : World} {v : Value} {s : St} {g : Nat} (h : StV w v s) (hg : w.heap.size ≤ g) : StOff g v s := by
  rintro a p sg kn n rfl
  obtain ⟨ha, hp, hs, hk⟩ := h.rows
  exact ⟨ha.apart hg, hp.apart hg, hs.apart hg, hk.apart hg⟩
theorem Row.offLeg {w : World} {v : Value} {α : Type} [Enc α] [Two α] {xs : List α} {g : Nat} {t : TypeId} {A : Option Addr} {n c : Nat} (h : Row w v xs) (hb : Blk w g t #[.slice A n c]) : xs ≠ [] → v.ownBlock ≠ some g := fun hne he => by
  obtain ⟨A', c', rfl, hm, hc⟩ := h
  obtain ⟨b, o, rfl, hj⟩ := hc 0 (List.length_pos_iff.2 hne)
  obtain ⟨i, j, h0, h1⟩ := Two.two (xs[0]'(List.length_pos_iff.2 hne))
  have e0 := hj 0 _ h0
  simp only [Value.ownBlock] at he
  injection he with he
  subst he
  rw [hb.cell] at e0
  simp only [Nat.zero_mul, Nat.add_zero] at e0
  rcases o with _ | o <;> simp at e0
theorem StV.offLeg {w : World} {v : Value} {s : St} {g : Nat} {t : TypeId} {A : Option Addr} {n c : Nat} (h : StV w v s) (hb : Blk w g t #[.slice A n c]) : StOff g v s := by
  rintro a p sg kn n rfl
  obtain ⟨ha, hp, hs, hk⟩ := h.rows
  exact ⟨ha.offLeg hb, hp.offLeg hb, hs.offLeg hb, hk.offLeg hb⟩
theorem Row.offFew {w : World} {v : Value} {α : Type} [Enc α] {xs : List α} {g : Nat} {t : TypeId} {cs : Array Value} (h : Row w v xs) (hb : Blk w g t cs) (hs : cs.size < sz α) : xs ≠ [] → v.ownBlock ≠ some g := fun hne he => by
  obtain ⟨A', c', rfl, hm, hc⟩ := h
  obtain ⟨b, o, rfl, hj⟩ := hc 0 (List.length_pos_iff.2 hne)
  have hl : (enc (xs[0]'(List.length_pos_iff.2 hne))).length = sz α := len _
  have hp : 0 < sz α := pos
  have e0 := hj (sz α - 1) _ (List.getElem?_eq_getElem (by omega))
  simp only [Value.ownBlock] at he
  injection he with he
  subst he
  rw [hb.cell] at e0
  have := (Array.getElem?_eq_some_iff.1 e0).1
  omega
theorem StV.offFew {w : World} {v : Value} {s : St} {g : Nat} {t : TypeId} {cs : Array Value} (h : StV w v s) (hb : Blk w g t cs) (hs : cs.size < 3) : StOff g v s := by
  rintro a p sg kn n rfl
  obtain ⟨ha, hp, hs', hk⟩ := h.rows
  exact ⟨ha.offFew hb hs, hp.offFew hb (Nat.lt_trans hs (by decide)), hs'.offFew hb (Nat.lt_trans hs (by decide)), hk.offFew hb (Nat.lt_trans hs (by decide))⟩
theorem StV.offSt {w : World} {v : Value} {s : St} {g : Nat} {t : TypeId} {A1 A2 A3 A4 : Option Addr} {n1 c1 n2 c2 n3 c3 n4 c4 : Nat} {now : Int} (h : StV w v s) (hb : Blk w g t (stCells A1 n1 c1 A2 n2 c2 A3 n3 c3 A4 n4 c4 now)) : StOff g v s := by
  rintro a p sg kn n rfl
  obtain ⟨ha, hp, hs', hk⟩ := h.rows
  exact ⟨ha.off hb, hp.off hb, hs'.off hb, hk.off hb⟩
theorem min_run {a b m : Int} (h : min a b = m) (P : Program) (ts : Array TypeId) (t : TypeId) (W : World) : (Builtin.min_ ts t #[.int .i64 a, .int .i64 b]).run P W = .ok (.int .i64 m) W := by
  rw [run_min_int2, ← h]
  congr 2
  split <;> omega
theorem set2_grown (w : World) (g : Nat) (a0 a1 : Value) : w.grownBy ((w.setCell ⟨g, 0, none⟩ a0).setCell ⟨g, 1, none⟩ a1) (some g) := ((World.grownBy.refl w (some g)).setCell (a := ⟨g, 0, none⟩) (g := g) rfl a0).setCell (a := ⟨g, 1, none⟩) rfl a1
end Go.Proofs.YthjmficglpfgpaaDoor
namespace Go.Proofs.YthjmficglpfgpaaDoor
set_option linter.unusedVariables false
set_option linter.unusedSimpArgs false
open Go Go.RowKit Enc
set_option maxRecDepth 100000
set_option maxHeartbeats 3200000

/-- A state, what is told, and how many answers it took. -/
def BankRes (w w' : World) (x : St × Rep × Int) (e : Ending) : Prop := Below w.heap.size w w' ∧ ∃ v, e = .returned (.tuple #[v, x.2.1.val, .int .i64 x.2.2]) ∧ StV w' v x.1
theorem whole_err (s : St) (v : Value) (r : Req) (lv : Value) (ls : List Bool) (w : World) (hv : StV w v s) (hl : Row w lv ls) (hG : Good s.accs) (hT : GT w) (c : Int) (hr : reserveA s.accs r = .error c) :
    Calls Tryd.prog 51 #[v, r.val, lv] w fun e w' => BankRes w w' (s, ⟨c, 0⟩, 0) e := by
  obtain ⟨A1, c1, A2, c2, A3, c3, A4, c4, rfl, q1, q2, q3, q4⟩ := hv.open
  obtain ⟨L, lc, rfl⟩ := hl.slice
  have h0 := ((((Env.nil w).alloc 36 [.slice A1 s.accs.length c1, .slice A2 s.pays.length c2, .slice A3 s.sagas.length c3, .slice A4 s.known.length c4, .int .i64 s.now]).alloc 29 r.cells).alloc 113 [.slice L ls.length lc]).alloc 36 [.slice none 0 0, .slice none 0 0, .slice none 0 0, .slice none 0 0, .int .i64 0]
  replace h0 := h0.alloc 40 [.int .i64 0, .int .i64 0]
  simp only [List.nil_append, List.cons_append, List.set_cons_zero, List.set_cons_succ, World.size_alloc] at h0
  have HC := Lib.hid (fun (W : World) (hW : Below w.heap.size w W) => hr ▸ reserve_st s _ r W (hv.below hW) hG)
  have HV := Lib.hid hv
  have HT := Lib.hid hT
  clear q1 q2 q3 q4 hv hT hr hl
  obtain ⟨key, op, ra, rb, amt, legs, til⟩ := r
  simp only [Req.cells] at h0
  have H0 := Lib.hid h0
  clear h0
  go_enter Tryd.func51, Tryd.ntmps51
  go_wp2_with fail
  refine (HC.out _ H0.out.bel).mono ?_
  intro e w1 hres
  obtain ⟨hz, v1, rfl, hv1⟩ := hres
  obtain ⟨B1, d1, B2, d2, B3, d3, B4, d4, rfl, -⟩ := hv1.open
  have h1 := H0.out.next hz
  have H1 := Lib.hid h1
  (have f1 := h1.facts; simp only [AllF, cellsF, gapF, Nat.zero_add, Nat.reduceAdd, and_true, true_and] at f1)
  clear h1 hz HC H0 hv1
  go_wp2_with fail
  have h2 := H1.out.alloc 36 [.slice B1 s.accs.length d1, .slice B2 s.pays.length d2, .slice B3 s.sagas.length d3, .slice B4 s.known.length d4, .int .i64 s.now]
  simp only [List.nil_append, List.cons_append, List.set_cons_zero, List.set_cons_succ, World.size_alloc] at h2
  have HQ : ∃ W2 : World, w1.alloc (.cells #[.slice B1 s.accs.length d1, .slice B2 s.pays.length d2, .slice B3 s.sagas.length d3, .slice B4 s.known.length d4, .int .i64 s.now] 36) = W2 := ⟨_, rfl⟩
  obtain ⟨W2, HQ⟩ := HQ
  rw [HQ] at h2
  rw [HQ]
  have H2 := Lib.hid h2
  clear f1
  (have f2 := h2.facts; simp only [AllF, cellsF, gapF, Nat.zero_add, Nat.reduceAdd, and_true, true_and] at f2)
  clear h2 H1 HQ
  have hSof : ∀ w', Below W2.heap.size W2 w' → (w'.cell? ⟨w.heap.size, 0, none⟩ = some (.slice A1 s.accs.length c1) ∧ w'.cell? ⟨w.heap.size, 1, none⟩ = some (.slice A2 s.pays.length c2) ∧ w'.cell? ⟨w.heap.size, 2, none⟩ = some (.slice A3 s.sagas.length c3) ∧ w'.cell? ⟨w.heap.size, 3, none⟩ = some (.slice A4 s.known.length c4) ∧ w'.cell? ⟨w.heap.size, 4, none⟩ = some (.int .i64 s.now)) := fun w' hb => by
    obtain ⟨⟨⟨k0, k1, k2, k3, k4⟩, _⟩, _⟩ := f2
    exact ⟨cell_below hb k0, cell_below hb k1, cell_below hb k2, cell_below hb k3, cell_below hb k4⟩
  have hbd : Below W2.heap.size W2 W2.drew := below_drew (Below.refl _ _)
  refine wp_region_head 5 (fun w' => (w'.cell? ⟨w.heap.size, 0, none⟩ = some (.slice A1 s.accs.length c1) ∧ w'.cell? ⟨w.heap.size, 1, none⟩ = some (.slice A2 s.pays.length c2) ∧ w'.cell? ⟨w.heap.size, 2, none⟩ = some (.slice A3 s.sagas.length c3) ∧ w'.cell? ⟨w.heap.size, 3, none⟩ = some (.slice A4 s.known.length c4) ∧ w'.cell? ⟨w.heap.size, 4, none⟩ = some (.int .i64 s.now))) (by kernel_rfl) (by kernel_rfl) (hSof _ hbd) (fun hHeld => ?_)
  refine wpHead_take (i := 0) (v := ?_) rfl (by kernel_rfl) (by kernel_rfl) (by kernel_rfl) (by kernel_rfl) (fun _ _ _ h => h) (Or.inl ⟨by rfl, fun w hSw => ?_⟩) (by assumption) ?_; rotate_left; (focus ((try dsimp only at hSw); go_simp <;> with_reducible rfl)); (try simp only [Act.put, List.setIfInBounds_toArray, List.set_cons_zero, List.set_cons_succ])
  refine wpHead_take (i := 1) (v := ?_) rfl (by kernel_rfl) (by kernel_rfl) (by kernel_rfl) (by kernel_rfl) (fun _ _ _ h => h) (Or.inl ⟨by rfl, fun w hSw => ?_⟩) (by assumption) ?_; rotate_left; (focus ((try dsimp only at hSw); go_simp <;> with_reducible rfl)); (try simp only [Act.put, List.setIfInBounds_toArray, List.set_cons_zero, List.set_cons_succ])
  refine wpHead_one (i := 2) rfl (by kernel_rfl) (by kernel_rfl) (fun v _ => v = .int .i64 c) (fun w' hb => hSof w' (below_next hbd hb)) ?_ ?_
  · intro K hK
    unfold WStep
    go_simp
    go_at_call 49
    refine (numErr c _ (HT.out.below (below_next H2.out.bel hbd))).mono ?_
    rintro e w3 ⟨rfl, hz⟩
    exact hK.out _ _ hz rfl
  rintro v w3 hb3 rfl
  (try simp only [Act.put, List.setIfInBounds_toArray, List.set_cons_zero, List.set_cons_succ])
  have hHeld3 := hSof w3 (below_next hbd hb3)
  have h3 := H2.out.next (below_next hbd hb3)
  have H3 := Lib.hid h3
  have h4 := (((((h3.set 3 0 (.slice A1 s.accs.length c1) rfl).set 3 1 (.slice A2 s.pays.length c2) rfl).set 3 2 (.slice A3 s.sagas.length c3) rfl).set 3 3 (.slice A4 s.known.length c4) rfl).set 3 4 (.int .i64 s.now) rfl)
  simp only [List.nil_append, List.cons_append, List.set_cons_zero, List.set_cons_succ, World.size_alloc] at h4
  have H4 := Lib.hid h4
  refine wpHead_take (i := 3) (v := ?_) rfl (by kernel_rfl) (by kernel_rfl) (by kernel_rfl) (by kernel_rfl) (fun _ _ _ h => h) (Or.inl ⟨by rfl, fun w hSw => ?_⟩) (by assumption) ?_; rotate_left; (focus ((try dsimp only at hSw); go_simp <;> with_reducible rfl)); (try simp only [Act.put, List.setIfInBounds_toArray, List.set_cons_zero, List.set_cons_succ])
  clear f2
  (have f3 := h3.facts; simp only [AllF, cellsF, gapF, Nat.zero_add, Nat.reduceAdd, and_true, true_and] at f3)
  (have f4 := h4.facts; simp only [AllF, cellsF, gapF, Nat.zero_add, Nat.reduceAdd, and_true, true_and] at f4)
  have HF4 := Lib.hid f4
  clear h3 h4 hSof hb3 H2 f4
  refine wpHead_ready (rs := [4]) (by kernel_rfl) (by simp) ?_
  refine AllHead.cons (i := 4) rfl (by kernel_rfl) (fun K hK => ?_) ?_
  · go_simp
    refine hK.out _ _ (by obtain ⟨⟨⟨k0, k1, k2, k3, k4⟩, _⟩, _⟩ := HF4.out; exact ⟨k0, k1, k2, k3, k4⟩) (fun hHeld4 => ?_)
    clear hK K hHeld hHeld3 hHeld4
    (try simp only [Act.put, List.setIfInBounds_toArray, List.set_cons_zero, List.set_cons_succ])
    refine wpHead_done (by kernel_rfl) ?_; simp only [List.drop_succ_cons, List.drop_zero]
    have f4 := HF4.out
    clear f3 HF4
    have HQ : ∃ W4 : World, (((((w3.setCell ⟨w.heap.size + 1 + 1 + 1, 0, none⟩ (.slice A1 s.accs.length c1)).setCell ⟨w.heap.size + 1 + 1 + 1, 1, none⟩ (.slice A2 s.pays.length c2)).setCell ⟨w.heap.size + 1 + 1 + 1, 2, none⟩ (.slice A3 s.sagas.length c3)).setCell ⟨w.heap.size + 1 + 1 + 1, 3, none⟩ (.slice A4 s.known.length c4)).setCell ⟨w.heap.size + 1 + 1 + 1, 4, none⟩ (.int .i64 s.now)) = W4 := ⟨_, rfl⟩
    obtain ⟨W4, HQ⟩ := HQ
    rw [HQ] at f4 H4 ⊢
    clear HQ
    go_wp2_with fail
    refine bodyPost_ret (res_cell_cell_tmp rfl _ rfl rfl agg_st rfl ((H4.out.at 3 rfl).far2 (by simp)) agg_rep rfl (H4.out.at 4 rfl).chain2) rfl ?_
    have hb : Below w.heap.size w W4 := H4.out.bel
    refine (fun (h : Below _ _ _) => ⟨h, _, rfl, HV.out.below h⟩) ?_
    (repeat (first | (with_reducible refine below_drew ?_) | (with_reducible refine below_drewN ?_ _) | (with_reducible refine below_alloc ?_ _) | ((with_reducible refine Below.setCell ?_ ?_ _); rotate_left; (focus (first | (simp; done) | (simp; omega))))))
    exact hb
  exact AllHead.nil
end Go.Proofs.YthjmficglpfgpaaDoor
