/- The house's rates. -/
import Derived.Test.YthjmficglpfgpaaDoorW1
import Derived.Deep.WholeRow
namespace Go.Proofs.YthjmficglpfgpaaDoor
set_option linter.unusedVariables false
set_option linter.unusedSimpArgs false
open Go Go.RowKit Enc
set_option maxRecDepth 100000

def ratesCells : Array Value := #[.int .i64 1, .int .i64 1, .int .i64 9, .int .i64 10, .int .i64 150, .int .i64 1, .int .i64 11, .int .i64 10, .int .i64 1, .int .i64 1, .int .i64 160, .int .i64 1, .int .i64 1, .int .i64 151, .int .i64 1, .int .i64 161, .int .i64 1, .int .i64 1]
theorem rates_any (w : World) : Calls Tryd.prog 70 #[] w fun e w' => e = .returned (.agg ratesCells) ∧ Below w.heap.size w w' := by
  go_enter Tryd.func70, Tryd.ntmps70
  go_wp2_with (refine wpList_store_row rfl 133 _ _ rfl w.heap.size _ rfl rfl 133 _ (heap_alloc_last w _) (by kernel_rfl) rfl rfl ?_; rw [World.setRow_alloc_new])
  exact bodyPost_ret (results_cell_row rfl _ _ w.heap.size _ ratesCells (0, 0) _ rfl (heap_alloc_last w _) Tryd.underlying133 rfl (by kernel_rfl)) rfl ⟨rfl, below_alloc (Below.refl _ _) _⟩
end Go.Proofs.YthjmficglpfgpaaDoor
