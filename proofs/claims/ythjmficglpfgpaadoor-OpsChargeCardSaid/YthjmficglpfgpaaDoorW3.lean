/- Entries made, and turned round; amounts between currencies. -/
import Derived.Test.YthjmficglpfgpaaDoorW2
import Derived.Test.YthjmficglpfgpaaDoorRates
import Derived.IntWalk
namespace Go.Proofs.YthjmficglpfgpaaDoor
set_option linter.unusedVariables false
set_option linter.unusedSimpArgs false
open Go Go.RowKit Enc
set_option maxRecDepth 100000

theorem right_rate (num den : Int) (w : World) (h1 : 1 ≤ num) (h2 : num ≤ 1024) (h3 : 1 ≤ den) (h4 : den ≤ 1024) :
    Calls Tryd.prog 93 #[.agg #[.int .i64 num, .int .i64 den]] w fun e w' => e = .returned (.bool true) ∧ Below w.heap.size w w' := by
  go_enter Tryd.func93, Tryd.ntmps93
  go_wp2
  go_ret
  exact ⟨rfl, below_alloc (Below.refl _ _) _⟩
theorem convert_yes (n num den : Int) (w : World) (hn : 1 ≤ n ∧ n ≤ 1099511627776) (h1 : 1 ≤ num) (h2 : num ≤ 1024) (h3 : 1 ≤ den) (h4 : den ≤ 1024) (hx0 : 0 ≤ n * num) (hx1 : n * num ≤ 1125899906842624) (hq : n * num / den ≤ 1099511627776) :
    Calls Tryd.prog 69 #[.int .i64 n, .agg #[.int .i64 num, .int .i64 den]] w fun e w' => e = .returned (.tuple #[.int .i64 (n * num / den), .int .i64 (n * num % den), .nilIface]) ∧ Below w.heap.size w w' := by
  have hf := Lib.hid (amt_yes hn.1 hn.2)
  have hq0 : 0 ≤ n * num / den := Int.ediv_nonneg hx0 (by omega)
  have hm0 : 0 ≤ n * num % den := Int.emod_nonneg _ (by omega)
  have hm1 : n * num % den < den := Int.emod_lt_of_pos _ (by omega)
  go_enter Tryd.func69, Tryd.ntmps69
  go_wp2_with (first | (go_at_call 54; refine (amount_any _ _).mono ?_; rintro e w' ⟨rfl, rfl⟩; rw [hf.out]) | (go_at_call 93; refine (right_rate _ _ _ h1 h2 h3 h4).mono ?_; rintro e w' ⟨rfl, hz⟩; have hk := (Blk.new _ _ _).next hz; have k0 := hk.at 0 _ rfl; have k1 := hk.at 1 _ rfl))
  go_quiet (fail)
  go_wp2
  go_ret3
  exact ⟨rfl, below_drewN (below_next (below_alloc (Below.refl _ _) _) hz) nq⟩
theorem convert_no (n num den : Int) (w : World) (hn : 1 ≤ n ∧ n ≤ 1099511627776) (h1 : 1 ≤ num) (h2 : num ≤ 1024) (h3 : 1 ≤ den) (h4 : den ≤ 1024) (hx0 : 0 ≤ n * num) (hx1 : n * num ≤ 1125899906842624) (hq : ¬ n * num / den ≤ 1099511627776) :
    Calls Tryd.prog 69 #[.int .i64 n, .agg #[.int .i64 num, .int .i64 den]] w fun e w' => e = .returned (.tuple #[.int .i64 0, .int .i64 0, .iface 38 (.int .i64 4)]) ∧ Below w.heap.size w w' := by
  have hf := Lib.hid (amt_yes hn.1 hn.2)
  have hq0 : 0 ≤ n * num / den := Int.ediv_nonneg hx0 (by omega)
  have hq1 : n * num / den ≤ n * num := Int.ediv_le_self _ hx0
  go_enter Tryd.func69, Tryd.ntmps69
  go_wp2_with (first | (go_at_call 54; refine (amount_any _ _).mono ?_; rintro e w' ⟨rfl, rfl⟩; rw [hf.out]) | (go_at_call 93; refine (right_rate _ _ _ h1 h2 h3 h4).mono ?_; rintro e w' ⟨rfl, hz⟩; have hk := (Blk.new _ _ _).next hz; have k0 := hk.at 0 _ rfl; have k1 := hk.at 1 _ rfl))
  go_ret3
  exact ⟨rfl, below_next (below_alloc (Below.refl _ _) _) hz⟩

/-! ### Back -/
def neg (e : Ent) : Ent := ⟨e.acct, -e.amt⟩
def back (es : List Ent) : List Ent := (es.map neg).reverse
def BackRel (w : World) (es : List Ent) (v i : Value) (wr : World) : Prop :=
  ∃ k : Nat, k ≤ es.length ∧ i = .int .i64 ((k : Int) - 1) ∧ Below w.heap.size w wr ∧ Own wr w.heap.size 109 v ((es.drop k).map neg).reverse
theorem back_step (es : List Ent) (k : Nat) (h : k < es.length) : ((es.drop k).map neg).reverse = ((es.drop (k + 1)).map neg).reverse ++ [neg (rd es k)] := by
  rw [List.drop_eq_getElem_cons h, List.map_cons, List.reverse_cons, rd_nat es k h]
theorem back_any (x : Value) (es : List Ent) (w : World) (h : Row w x es) (hn : es.length ≤ 1000) (ha : ∀ k : Nat, k < es.length → mayP (rd es k).amt) :
    Calls Tryd.prog 45 #[x] w fun e w' => ∃ v, e = .returned v ∧ Own w' w.heap.size 109 v (back es) ∧ Below w.heap.size w w' := by
  have hm := h.max
  obtain ⟨A, c, rfl⟩ := h.slice
  go_enter Tryd.func45, Tryd.ntmps45
  go_wp2
  go_loopw [3, 4] (fun v i wr => BackRel w es v i wr) (fun _ i _ => (intOf i + 1).toNat)
  case atStart => exact ⟨es.length, by omega, rfl, Below.refl _ _, by simp; exact Own.nil _ _ _⟩
  case round =>
    obtain ⟨k, hk, rfl, hb, hown⟩ := hrel
    rcases k with _ | k
    · go_wp2
      go_ret
      exact ⟨_, rfl, by simpa [back] using hown, hb⟩
    · have hlt : k < es.length := by omega
      obtain ⟨b, o, c', hv, c1, c2, hl⟩ := h.ent k hlt
      injection hv with hv1 _ hv3
      subst hv1 hv3
      replace c1 := cell_below hb c1
      replace c2 := cell_below hb c2
      have hl2 : b < wr.heap.size := Nat.lt_of_lt_of_le hl hb.size
      have hne := hown.ne hl
      have hma := ha k hlt
      unfold mayP at hma
      have e1 : (((k + 1 : Nat) : Int) - 1) = (k : Int) := by omega
      rw [e1]
      clear e1
      have HLB := Lib.hid (show ((((es.drop (k + 1)).map neg).reverse.length + [neg (rd es (k : Int))].length) * 16 ≤ 140737488355328) by simp; omega)
      have HSZ := Lib.hid (show w.heap.size ≤ (wr.alloc (.cells #[.int .i64 (rd es (k : Int)).acct, .int .i64 (-(rd es (k : Int)).amt)] 109)).drew.heap.size by have := hb.size; simp; omega)
      have hneg : IntKind.i64.wrap (-(rd es (k : Int)).amt) = -(rd es (k : Int)).amt := IntWalk.i64_in _ (by omega)
      go_wp2_with fail
      go_region_held3 (fun w' => w'.cell? ⟨b, o + k * 2, none⟩ = some (.int .i64 (rd es (k : Int)).acct) ∧ w'.cell? ⟨b, o + k * 2 + 1, none⟩ = some (.int .i64 (rd es (k : Int)).amt))
        (first | go_keep | (go_split_ands; constructor; all_goals (exact hg1.cell (by assumption) hne)))
        ((refine step_append (w := (wr.alloc (.cells #[.int .i64 (rd es (k : Int)).acct, .int .i64 (-(rd es (k : Int)).amt)] 109)).drew) (B := w.heap.size) sT_ent (by rfl) (by rfl) u3 (.slice (some ⟨wr.heap.size, 0, none⟩) 1 1) (by rfl) (by rfl) ((hown.alloc _).drew) (Row.box wr (neg (rd es (k : Int))) #[.int .i64 (rd es (k : Int)).acct, .int .i64 (-(rd es (k : Int)).amt)] rfl 109).drew HLB.out (by decide) HSZ.out ?_; intro v1 w1 hown1 hg1 hat1))
      clear hneg
      go_wp2
      refine ⟨⟨k, by omega, by go_num, ?_, by rw [back_step es k hlt]; exact hown1⟩, by simp [intOf]⟩
      exact (below_drew (below_alloc hb _)).grown hg1 HSZ.out (hown.base)
end Go.Proofs.YthjmficglpfgpaaDoor
