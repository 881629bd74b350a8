/- request.May, request.Long. -/
import Derived.Test.YthjmficglpfgpaaDoorW6
namespace Go.Proofs.YthjmficglpfgpaaDoor
set_option linter.unusedVariables false
set_option linter.unusedSimpArgs false
open Go Go.RowKit Enc
set_option maxRecDepth 100000

/-- A test's answer. -/
def SomeB (P : Prop) (w w' : World) (e : Ending) : Prop := ∃ b, e = .returned (.bool b) ∧ (b = true ↔ P) ∧ Below w.heap.size w w'

structure ReqOk (r : Req) : Prop where
  key : 0 ≤ r.key ∧ r.key < 1073741824
  legs : 0 ≤ r.legs ∧ r.legs ≤ 4
  til : 0 ≤ r.til ∧ r.til ≤ 1073741824
  long : 0 < r.legs → r.op = 2
  op : 0 ≤ r.op ∧ r.op ≤ 7
  cur : r.op = 0 → 0 ≤ r.a ∧ r.a < 3
  amt : r.op ≠ 0 → r.op ≠ 5 → 1 ≤ r.amt ∧ r.amt ≤ 1099511627776
theorem reqOk_iff (r : Req) : ReqOk r ↔ ((0 ≤ r.key ∧ r.key < 1073741824) ∧ (0 ≤ r.legs ∧ r.legs ≤ 4) ∧ (0 ≤ r.til ∧ r.til ≤ 1073741824) ∧ (0 < r.legs → r.op = 2) ∧ (0 ≤ r.op ∧ r.op ≤ 7) ∧ (r.op = 0 → 0 ≤ r.a ∧ r.a < 3) ∧ (¬ r.op = 0 → ¬ r.op = 5 → 1 ≤ r.amt ∧ r.amt ≤ 1099511627776)) :=
  ⟨fun h => ⟨h.key, h.legs, h.til, h.long, h.op, h.cur, h.amt⟩, fun ⟨a, b, c, d, e, f, g⟩ => ⟨a, b, c, d, e, f, g⟩⟩
instance (r : Req) : Decidable (ReqOk r) := decidable_of_iff _ (reqOk_iff r).symm
theorem may_req (r : Req) (w : World) : Calls Tryd.prog 29 #[r.val] w fun e w' => SomeB (ReqOk r) w w' e := by
  obtain ⟨key, op, a, b, amt, legs, til⟩ := r
  go_enter Tryd.func29, Tryd.ntmps29
  go_wp2
  all_goals
    go_ret
    refine ⟨_, rfl, ?_, below_alloc (Below.refl _ _) _⟩
    rw [reqOk_iff]
    simp only [beq_iff_eq, beq_eq_false_iff_ne, bne_iff_ne, bne_eq_false_iff_eq, ne_eq, Array.getD_eq_getD_getElem?, List.getElem?_toArray, List.getElem?_cons_zero, List.getElem?_cons_succ, Option.getD_some, decide_eq_true_eq, Bool.false_eq_true, false_iff, true_iff, Bool.and_eq_true] at *
    omega
/-- Does a request go on in steps? -/
def longB (r : Req) : Bool := decide (0 < r.legs ∧ r.op = 2)
theorem long_any (r : Req) (w : World) : Calls Tryd.prog 50 #[r.val] w fun e w' => e = .returned (.bool (longB r)) ∧ Below w.heap.size w w' := by
  obtain ⟨key, op, a, b, amt, legs, til⟩ := r
  unfold longB
  go_enter Tryd.func50, Tryd.ntmps50
  go_wp2
  all_goals
    go_ret
    refine ⟨?_, below_alloc (Below.refl _ _) _⟩
    simp_all
    first | omega | (rw [Bool.eq_iff_iff]; simp)
end Go.Proofs.YthjmficglpfgpaaDoor
