/- api.Number. -/
import Derived.Test.YthjmficglpfgpaaDoorAs
namespace Go.Proofs.YthjmficglpfgpaaDoor
set_option linter.unusedVariables false
set_option linter.unusedSimpArgs false
open Go Go.RowKit Enc

/-- The variable errors.errorType holds what the program's text lays. -/
def GT (w : World) : Prop := w.cell? ⟨0, 0, none⟩ = some (.iface 191 (.agg #[.pointer (some ⟨1, 90, none⟩)]))
theorem GT.lt {w : World} (h : GT w) : 0 < w.heap.size := cell_lt h
theorem GT.below {w w' : World} (h : GT w) (hb : Below w.heap.size w w') : GT w' := cell_below hb h
/-- An error by its number; 0 is none. -/
def errV (c : Int) : Value := if c = 0 then .nilIface else .iface 38 (.int .i64 c)
theorem numErr_nil (w : World) : Calls Tryd.prog 49 #[.nilIface] w fun e w' => e = .returned (.int .i64 0) ∧ Below w.heap.size w w' := by
  go_enter Tryd.func49, Tryd.ntmps49
  go_wp2_with (go_at_call 77; refine (as_nil _ _).mono ?_; rintro e w' ⟨rfl, rfl⟩)
  go_ret
  exact ⟨rfl, below_alloc (Below.refl _ _) _⟩
theorem numErr (c : Int) (w : World) (hg : GT w) : Calls Tryd.prog 49 #[.iface 38 (.int .i64 c)] w fun e w' => e = .returned (.int .i64 c) ∧ Below w.heap.size w w' := by
  have hg1 := hg.below (below_alloc (Below.refl _ _) (.cells #[.int .i64 0] 38))
  go_enter Tryd.func49, Tryd.ntmps49
  go_wp2_with (go_at_call 77; refine (as_hit c ⟨w.heap.size, 0, none⟩ (.int .i64 0) _ hg1 (by simp) (by simp)).mono ?_; rintro e w' ⟨rfl, rfl⟩)
  go_ret
  refine ⟨rfl, ?_⟩
  repeat first | exact Below.refl _ _ | refine below_alloc ?_ _ | refine Below.setCell ?_ (by simp) _
theorem numErr_any (c : Int) (w : World) (hg : GT w) : Calls Tryd.prog 49 #[errV c] w fun e w' => e = .returned (.int .i64 c) ∧ Below w.heap.size w w' := by
  unfold errV
  split
  · rename_i h; subst h; exact numErr_nil w
  · exact numErr c w hg
/-- ops.number: what is told of an error. -/
theorem number_err (c : Int) (w : World) (hg : GT w) : Calls Tryd.prog 90 #[.iface 38 (.int .i64 c)] w fun e w' => e = .returned (Rep.val ⟨c, 0⟩) ∧ Below w.heap.size w w' := by
  have hg1 := hg.below (below_alloc (Below.refl _ _) (.cells #[.int .i64 0, .int .i64 0] 40))
  have agg_rep : AggT Tryd.prog 40 2 := ⟨⟨_, Tryd.underlying40, rfl⟩, by kernel_rfl⟩
  go_enter Tryd.func90, Tryd.ntmps90
  go_wp2_with (go_at_call 49; refine (numErr c _ hg1).mono ?_; rintro e w' ⟨rfl, hz⟩; have hj := (Blk.new _ _ _).next hz; have j0 := hj.at 0 _ rfl; have j1 := hj.at 1 _ rfl; have jf := hj.frozen)
  refine bodyPost_ret (res_cell rfl _ rfl agg_rep rfl (hj.chain2)) rfl ⟨rfl, ?_⟩
  repeat (refine Below.setCell ?_ (by simp) _)
  exact below_next (below_alloc (Below.refl _ _) _) hz
end Go.Proofs.YthjmficglpfgpaaDoor
