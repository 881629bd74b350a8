/- The entries by which an amount moves. -/
import Derived.Test.YthjmficglpfgpaaDoorW3
namespace Go.Proofs.YthjmficglpfgpaaDoor
set_option linter.unusedVariables false
set_option linter.unusedSimpArgs false
open Go Go.RowKit Enc
set_option maxRecDepth 100000

def rate (a b : Int) : Int × Int :=
  if a = 0 then (if b = 1 then (9, 10) else if b = 2 then (150, 1) else (1, 1))
  else if a = 1 then (if b = 0 then (11, 10) else if b = 2 then (160, 1) else (1, 1))
  else (if b = 0 then (1, 151) else if b = 1 then (1, 161) else (1, 1))
theorem rate_bd (a b : Int) : (1 ≤ (rate a b).1 ∧ (rate a b).1 ≤ 160) ∧ 1 ≤ (rate a b).2 ∧ (rate a b).2 ≤ 161 := by
  unfold rate
  (repeat' split) <;> decide
def rateRow (a : Int) : Array Value :=
  if a = 0 then #[.int .i64 1, .int .i64 1, .int .i64 9, .int .i64 10, .int .i64 150, .int .i64 1]
  else if a = 1 then #[.int .i64 11, .int .i64 10, .int .i64 1, .int .i64 1, .int .i64 160, .int .i64 1]
  else #[.int .i64 1, .int .i64 151, .int .i64 1, .int .i64 161, .int .i64 1, .int .i64 1]
theorem ir0 (w : World) : (Instr.index 133 (.agg ratesCells) (.int .i64 0)).run Tryd.prog w = .ok (.agg (rateRow 0)) w := by kernel_rfl
theorem ir1 (w : World) : (Instr.index 133 (.agg ratesCells) (.int .i64 1)).run Tryd.prog w = .ok (.agg (rateRow 1)) w := by kernel_rfl
theorem ir2 (w : World) : (Instr.index 133 (.agg ratesCells) (.int .i64 2)).run Tryd.prog w = .ok (.agg (rateRow 2)) w := by kernel_rfl
theorem iw00 (w : World) : (Instr.index 132 (.agg (rateRow 0)) (.int .i64 0)).run Tryd.prog w = .ok (.agg #[.int .i64 (rate 0 0).1, .int .i64 (rate 0 0).2]) w := by kernel_rfl
theorem iw01 (w : World) : (Instr.index 132 (.agg (rateRow 0)) (.int .i64 1)).run Tryd.prog w = .ok (.agg #[.int .i64 (rate 0 1).1, .int .i64 (rate 0 1).2]) w := by kernel_rfl
theorem iw02 (w : World) : (Instr.index 132 (.agg (rateRow 0)) (.int .i64 2)).run Tryd.prog w = .ok (.agg #[.int .i64 (rate 0 2).1, .int .i64 (rate 0 2).2]) w := by kernel_rfl
theorem iw10 (w : World) : (Instr.index 132 (.agg (rateRow 1)) (.int .i64 0)).run Tryd.prog w = .ok (.agg #[.int .i64 (rate 1 0).1, .int .i64 (rate 1 0).2]) w := by kernel_rfl
theorem iw11 (w : World) : (Instr.index 132 (.agg (rateRow 1)) (.int .i64 1)).run Tryd.prog w = .ok (.agg #[.int .i64 (rate 1 1).1, .int .i64 (rate 1 1).2]) w := by kernel_rfl
theorem iw12 (w : World) : (Instr.index 132 (.agg (rateRow 1)) (.int .i64 2)).run Tryd.prog w = .ok (.agg #[.int .i64 (rate 1 2).1, .int .i64 (rate 1 2).2]) w := by kernel_rfl
theorem iw20 (w : World) : (Instr.index 132 (.agg (rateRow 2)) (.int .i64 0)).run Tryd.prog w = .ok (.agg #[.int .i64 (rate 2 0).1, .int .i64 (rate 2 0).2]) w := by kernel_rfl
theorem iw21 (w : World) : (Instr.index 132 (.agg (rateRow 2)) (.int .i64 1)).run Tryd.prog w = .ok (.agg #[.int .i64 (rate 2 1).1, .int .i64 (rate 2 1).2]) w := by kernel_rfl
theorem iw22 (w : World) : (Instr.index 132 (.agg (rateRow 2)) (.int .i64 2)).run Tryd.prog w = .ok (.agg #[.int .i64 (rate 2 2).1, .int .i64 (rate 2 2).2]) w := by kernel_rfl
theorem index_rates (a : Int) (h0 : 0 ≤ a) (h3 : a < 3) (w : World) : (Instr.index 133 (.agg ratesCells) (.int .i64 a)).run Tryd.prog w = .ok (.agg (rateRow a)) w := by
  have : a = 0 ∨ a = 1 ∨ a = 2 := by omega
  rcases this with rfl | rfl | rfl
  · exact ir0 w
  · exact ir1 w
  · exact ir2 w
theorem index_row (a b : Int) (h0 : 0 ≤ a) (h3 : a < 3) (g0 : 0 ≤ b) (g3 : b < 3) (w : World) : (Instr.index 132 (.agg (rateRow a)) (.int .i64 b)).run Tryd.prog w = .ok (.agg #[.int .i64 (rate a b).1, .int .i64 (rate a b).2]) w := by
  have h : a = 0 ∨ a = 1 ∨ a = 2 := by omega
  have g : b = 0 ∨ b = 1 ∨ b = 2 := by omega
  rcases h with rfl | rfl | rfl <;> rcases g with rfl | rfl | rfl
  · exact iw00 w
  · exact iw01 w
  · exact iw02 w
  · exact iw10 w
  · exact iw11 w
  · exact iw12 w
  · exact iw20 w
  · exact iw21 w
  · exact iw22 w
theorem number_any (k c : Int) (w : World) (h0 : 0 ≤ k) (h1 : k ≤ 2) (g0 : 0 ≤ c) (g1 : c < 3) :
    Calls Tryd.prog 68 #[.int .i64 k, .int .i64 c] w fun e w' => w = w' ∧ e = .returned (.int .i64 (3 * c + k)) := by
  go_enter Tryd.func68, Tryd.ntmps68
  go_wp2
  go_ret
  exact ⟨rfl, rfl⟩

def move (xs : List Acc) (frm to n : Int) : Except Int (List Ent) :=
  if ¬(0 ≤ frm ∧ frm < xs.length) then .error 2 else if ¬(0 ≤ to ∧ to < xs.length) then .error 2
  else if frm = to ∨ ¬(1 ≤ n ∧ n ≤ 1099511627776) then .error 1
  else if (rd xs frm).cur = (rd xs to).cur then .ok [⟨frm, -n⟩, ⟨to, n⟩]
  else if ¬ n * (rate (rd xs frm).cur (rd xs to).cur).1 / (rate (rd xs frm).cur (rd xs to).cur).2 ≤ 1099511627776 then .error 4
  else if n * (rate (rd xs frm).cur (rd xs to).cur).1 / (rate (rd xs frm).cur (rd xs to).cur).2 = 0 then .error 1
  else .ok [⟨frm, -n⟩, ⟨3 * (rd xs frm).cur + 1, n⟩, ⟨3 * (rd xs to).cur + 1, -(n * (rate (rd xs frm).cur (rd xs to).cur).1 / (rate (rd xs frm).cur (rd xs to).cur).2)⟩, ⟨to, n * (rate (rd xs frm).cur (rd xs to).cur).1 / (rate (rd xs frm).cur (rd xs to).cur).2⟩]
def CurOk (xs : List Acc) : Prop := ∀ k : Int, 0 ≤ k → k < xs.length → 0 ≤ (rd xs k).cur ∧ (rd xs k).cur < 3
def EntRes (w w' : World) (r : Except Int (List Ent)) (e : Ending) : Prop :=
  Below w.heap.size w w' ∧ match r with
  | .error c => e = .returned (.tuple #[.slice none 0 0, .iface 38 (.int .i64 c)])
  | .ok out => ∃ v, e = .returned (.tuple #[v, .nilIface]) ∧ Own w' w.heap.size 109 v out

theorem move_far (b o c : Nat) (xs : List Acc) (frm to n a b2 num den q rem : Int) (w : World) (h : Row w (.slice (some ⟨b, o, none⟩) xs.length c) xs) (hm : xs.length ≤ 9223372036854775807)
    (h1a : 0 ≤ frm) (h1b : frm < xs.length) (h2a : 0 ≤ to) (h2b : to < xs.length) (h3b : (frm == to) = false) (hf : Hid (amtB n = true)) (h4 : 1 ≤ n ∧ n ≤ 1099511627776)
    (c1 : w.cell? ⟨b, o + frm.toNat * 3, none⟩ = some (.int .i64 a)) (d1 : w.cell? ⟨b, o + to.toNat * 3, none⟩ = some (.int .i64 b2)) (hl : b < w.heap.size)
    (hca : 0 ≤ a ∧ a < 3) (hcb : 0 ≤ b2 ∧ b2 < 3) (h5b : (a == b2) = false)
    (ir : ∀ w, (Instr.index 133 (.agg ratesCells) (.int .i64 a)).run Tryd.prog w = .ok (.agg (rateRow a)) w)
    (iw : ∀ w, (Instr.index 132 (.agg (rateRow a)) (.int .i64 b2)).run Tryd.prog w = .ok (.agg #[.int .i64 num, .int .i64 den]) w)
    (er : Value)
    (CV : Hid (∀ w, Calls Tryd.prog 69 #[.int .i64 n, .agg #[.int .i64 num, .int .i64 den]] w fun e w' => e = .returned (.tuple #[.int .i64 q, .int .i64 rem, er]) ∧ Below w.heap.size w w'))
    (r : Except Int (List Ent))
    (hcase : (∃ k, er = .iface 38 (.int .i64 k) ∧ r = .error k) ∨ (er = .nilIface ∧ q = 0 ∧ r = .error 1) ∨ (er = .nilIface ∧ 0 ≤ q ∧ q ≤ 1099511627776 ∧ (q == 0) = false ∧ r = .ok [⟨frm, -n⟩, ⟨3 * a + 1, n⟩, ⟨3 * b2 + 1, -q⟩, ⟨to, q⟩])) :
    Calls Tryd.prog 39 #[.slice (some ⟨b, o, none⟩) xs.length c, .int .i64 frm, .int .i64 to, .int .i64 n] w fun e w' => EntRes w w' r e := by
  have CR := Lib.hid (fun w => rates_any w)
  have HCC := Lib.hid hcase
  clear hcase
  go_enter Tryd.func39, Tryd.ntmps39
  go_wp2_with fail
  refine (of_any _ xs _ _ h h1a h1b).mono ?_
  rintro e w' ⟨rfl, rfl⟩
  go_wp2_with fail
  refine (of_any _ xs _ _ h h2a h2b).mono ?_
  rintro e w' ⟨rfl, rfl⟩
  go_wp2_with (go_at_call 54; refine (amount_any _ _).mono ?_; rintro e w' ⟨rfl, rfl⟩; rw [hf.out])
  go_quiet (fail)
  go_wp2_with fail
  refine (number_any 1 a _ (by omega) (by omega) hca.1 hca.2).mono ?_
  rintro e w' ⟨rfl, rfl⟩
  go_wp2_with fail
  refine (number_any 1 b2 _ (by omega) (by omega) hcb.1 hcb.2).mono ?_
  rintro e w' ⟨rfl, rfl⟩
  go_wp2_with (first | (go_at_call 70; refine (CR.out _).mono ?_; rintro e w' ⟨rfl, hz⟩) | (go_at_call 69; refine (CV.out _).mono ?_; rintro e w' ⟨rfl, hz2⟩; clear ir iw; rcases HCC.out with ⟨ek, rfl, he⟩ | ⟨rfl, rfl, he⟩ | ⟨rfl, hq0, hq1, hqb, he⟩ <;> (have HE := Lib.hid he; clear he)))
  · go_ret2
    rw [HE.out]
    exact ⟨below_next (below_next (below_drewN (Below.refl _ _) nq) hz) hz2, rfl⟩
  · go_ret2
    rw [HE.out]
    exact ⟨below_next (below_next (below_drewN (Below.refl _ _) nq) hz) hz2, rfl⟩
  · go_ret2
    rw [HE.out]
    have hb2 := below_next (below_next (below_drewN (Below.refl _ _) nq) hz) hz2
    exact ⟨below_alloc hb2 _, _, rfl, Own.of_blk (Blk.new _ _ _) hb2.size rfl rfl (by simp) (by simp [maxLen])⟩

theorem move_any (x : Value) (xs : List Acc) (frm to n : Int) (w : World) (h : Row w x xs) (hC : CurOk xs) :
    Calls Tryd.prog 39 #[x, .int .i64 frm, .int .i64 to, .int .i64 n] w fun e w' => EntRes w w' (move xs frm to n) e := by
  have hm := h.max
  by_cases h1 : 0 ≤ frm ∧ frm < xs.length
  rotate_left
  · have hr := Lib.hid (show move xs frm to n = .error 2 by unfold move; rw [if_pos h1])
    obtain ⟨A, c, rfl⟩ := h.slice
    have H1 := Lib.hid h1
    clear h1
    go_enter Tryd.func39, Tryd.ntmps39
    go_wp2_with (go_at_call 67; refine (of_none _ xs _ _ h H1.out).mono ?_; rintro e w' ⟨rfl, rfl⟩)
    go_ret2
    rw [hr.out]
    exact ⟨Below.refl _ _, rfl⟩
  obtain ⟨h1a, h1b⟩ := h1
  by_cases h2 : 0 ≤ to ∧ to < xs.length
  rotate_left
  · have hr := Lib.hid (show move xs frm to n = .error 2 by unfold move; rw [if_neg (by simp; omega), if_pos h2])
    obtain ⟨A, c, rfl⟩ := h.slice
    have H2 := Lib.hid h2
    clear h2
    go_enter Tryd.func39, Tryd.ntmps39
    go_wp2_with fail
    refine (of_any _ xs _ _ h h1a h1b).mono ?_
    rintro e w' ⟨rfl, rfl⟩
    go_wp2_with fail
    refine (of_none _ xs _ _ h H2.out).mono ?_
    rintro e w' ⟨rfl, rfl⟩
    go_wp2
    go_ret2
    rw [hr.out]
    exact ⟨Below.refl _ _, rfl⟩
  obtain ⟨h2a, h2b⟩ := h2
  by_cases h3 : frm = to
  · have hr := Lib.hid (show move xs frm to n = .error 1 by unfold move; rw [if_neg (by simp; omega), if_neg (by simp; omega), if_pos (.inl h3)])
    obtain ⟨A, c, rfl⟩ := h.slice
    subst h3
    go_enter Tryd.func39, Tryd.ntmps39
    go_wp2_with (go_at_call 67; refine (of_any _ xs _ _ h h1a h1b).mono ?_; rintro e w' ⟨rfl, rfl⟩)
    go_ret2
    rw [hr.out]
    exact ⟨Below.refl _ _, rfl⟩
  have h3b : (frm == to) = false := by simpa using h3
  by_cases h4 : 1 ≤ n ∧ n ≤ 1099511627776
  rotate_left
  · have hr := Lib.hid (show move xs frm to n = .error 1 by unfold move; rw [if_neg (by simp; omega), if_neg (by simp; omega), if_pos (.inr h4)])
    have hf := Lib.hid (amt_no h4)
    obtain ⟨A, c, rfl⟩ := h.slice
    clear h4
    go_enter Tryd.func39, Tryd.ntmps39
    go_wp2_with fail
    refine (of_any _ xs _ _ h h1a h1b).mono ?_
    rintro e w' ⟨rfl, rfl⟩
    go_wp2_with fail
    refine (of_any _ xs _ _ h h2a h2b).mono ?_
    rintro e w' ⟨rfl, rfl⟩
    go_wp2_with (go_at_call 54; refine (amount_any _ _).mono ?_; rintro e w' ⟨rfl, rfl⟩; rw [hf.out])
    go_ret2
    rw [hr.out]
    exact ⟨Below.refl _ _, rfl⟩
  have hf := Lib.hid (amt_yes h4.1 h4.2)
  obtain ⟨b, o, c, rfl, c1, c2, c3, hl⟩ := h.accI frm h1a h1b
  obtain ⟨b', o', c', hv, d1, d2, d3, hl'⟩ := h.accI to h2a h2b
  injection hv with hv1 _ hv3
  injection hv1 with hv1
  injection hv1 with e1 e2
  subst e1 e2 hv3
  have hca := hC frm h1a h1b
  have hcb := hC to h2a h2b
  clear c2 c3 d2 d3
  generalize hga : (rd xs frm).cur = a at *
  generalize hgb : (rd xs to).cur = b2 at *
  have HA := Lib.hid hga
  have HB := Lib.hid hgb
  clear hga hgb
  by_cases h5 : a = b2
  · have hr := Lib.hid (show move xs frm to n = .ok [⟨frm, -n⟩, ⟨to, n⟩] by unfold move; rw [if_neg (by simp; omega), if_neg (by simp; omega), if_neg (by simp; omega), HA.out, HB.out, if_pos h5])
    subst h5
    go_enter Tryd.func39, Tryd.ntmps39
    go_wp2_with fail
    refine (of_any _ xs _ _ h h1a h1b).mono ?_
    rintro e w' ⟨rfl, rfl⟩
    go_wp2_with fail
    refine (of_any _ xs _ _ h h2a h2b).mono ?_
    rintro e w' ⟨rfl, rfl⟩
    go_wp2_with (go_at_call 54; refine (amount_any _ _).mono ?_; rintro e w' ⟨rfl, rfl⟩; rw [hf.out])
    go_quiet (fail)
    go_wp2
    go_ret2
    rw [hr.out]
    exact ⟨below_alloc (below_drewN (Below.refl _ _) nq) _, _, rfl, Own.of_blk (Blk.new _ _ _) (Nat.le_refl _) rfl rfl (by simp) (by simp [maxLen])⟩
  have h5b : (a == b2) = false := by simpa using h5
  obtain ⟨⟨r1, r2⟩, r3, r4⟩ := rate_bd a b2
  have HX := Lib.hid (show move xs frm to n = if ¬ n * (rate a b2).1 / (rate a b2).2 ≤ 1099511627776 then .error 4 else if n * (rate a b2).1 / (rate a b2).2 = 0 then .error 1 else .ok [⟨frm, -n⟩, ⟨3 * a + 1, n⟩, ⟨3 * b2 + 1, -(n * (rate a b2).1 / (rate a b2).2)⟩, ⟨to, n * (rate a b2).1 / (rate a b2).2⟩] by unfold move; rw [if_neg (by simp; omega), if_neg (by simp; omega), if_neg (by simp; omega), HA.out, HB.out, if_neg h5])
  have ir := index_rates a hca.1 hca.2
  have iw := index_row a b2 hca.1 hca.2 hcb.1 hcb.2
  generalize (rate a b2).1 = num at *
  generalize (rate a b2).2 = den at *
  have hx0 : 0 ≤ n * num := Int.mul_nonneg (by omega) (by omega)
  have hx1 : n * num ≤ 1125899906842624 := by
    have := Int.mul_le_mul h4.2 r2 (by omega) (by omega)
    omega
  have hq0 : 0 ≤ n * num / den := Int.ediv_nonneg hx0 (by omega)
  by_cases h6 : n * num / den ≤ 1099511627776
  · have CY := Lib.hid (fun w => convert_yes n num den w h4 r1 (by omega) r3 (by omega) hx0 hx1 h6)
    refine move_far b o c xs frm to n a b2 num den _ _ w h hm h1a h1b h2a h2b h3b hf h4 c1 d1 hl hca hcb h5b ir iw _ CY _ (.inr ?_)
    by_cases h7 : n * num / den = 0
    · exact .inl ⟨rfl, h7, by rw [HX.out, if_neg (by simpa using h6), if_pos h7]⟩
    · exact .inr ⟨rfl, hq0, h6, by simpa using h7, by rw [HX.out, if_neg (by simpa using h6), if_neg h7]⟩
  · have CN := Lib.hid (fun w => convert_no n num den w h4 r1 (by omega) r3 (by omega) hx0 hx1 h6)
    exact move_far b o c xs frm to n a b2 num den _ _ w h hm h1a h1b h2a h2b h3b hf h4 c1 d1 hl hca hcb h5b ir iw _ CN _ (.inl ⟨4, rfl, by rw [HX.out, if_pos h6]⟩)
end Go.Proofs.YthjmficglpfgpaaDoor
