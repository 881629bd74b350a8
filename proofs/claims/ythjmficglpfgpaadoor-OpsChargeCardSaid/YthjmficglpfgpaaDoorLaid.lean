/- The row's listed variable: what the condition gives a walk, and a world that meets it. -/
import Derived.Test.YthjmficglpfgpaaDoorRows
import Derived.Test.YthjmficglpfgpaaDoorNum
import Derived.ChangeSame
import Derived.ChangeVars
import Derived.JoinedOf
import Derived.RowKit
import Derived.RowKitTokens
import Derived.LaidLaws
import Derived.LaidHandle
import Derived.Stop.Joined
namespace Go.Proofs.YthjmficglpfgpaaDoor
set_option linter.unusedVariables false
set_option linter.unusedSimpArgs false
open Go Go.ChangeShapes Go.WideShapes Go.RowKit

theorem own_none : ownKnob Tryd.prog.godebug = none := by kernel_rfl
theorem laid_out : laidOutB Tryd.prog = true := by kernel_rfl
theorem et_named : Tryd.prog.globalNamed "errors.errorType" = some 0 := by kernel_rfl
theorem rt_cut : (Tryd.prog.cutTypes.find? (·.1 == "internal/reflectlite.rtype")).map (·.2) = some 191 := by kernel_rfl
theorem one_row : ((List.range Tryd.prog.types.size).filter fun t => Tryd.prog.rowNamed t [101, 114, 114, 111, 114]) = [90] := by kernel_rfl
/-- What the rows list. -/
abbrev laidList : List (String × DataW Unit) := [("errors.errorType", Rows.laid_errors_errorType)]

/-- The condition gives the variable's one cell. -/
theorem gt_of_laid {W : World} (h : laidMetH Tryd.prog laidList W) : GT W := by
  have h' : laidMet Tryd.prog [] W ∧ handlesMet Tryd.prog laidList W := h
  obtain ⟨name, u, ty, e1, e2, e3, e4, e5⟩ := h'.2 _ (List.mem_singleton.2 rfl)
  have en : name = [101, 114, 114, 111, 114] := (Option.some.inj e1).symm
  subst en
  obtain rfl := Option.some.inj (rt_cut.symm.trans e2)
  have hm : ty ∈ (List.range Tryd.prog.types.size).filter fun t => Tryd.prog.rowNamed t [101, 114, 114, 111, 114] := List.mem_filter.2 ⟨List.mem_range.2 e3, e4⟩
  rw [one_row] at hm
  obtain rfl := List.mem_singleton.1 hm
  have hh : typeHandle Tryd.prog 90 = .pointer (some ⟨1, 90, none⟩) := by kernel_rfl
  rw [hh] at e5
  exact (by simpa using World.var?_cell et_named e5 0 : W.cell? ⟨0, 0, none⟩ = some (.iface 191 (.agg #[.pointer (some ⟨1, 90, none⟩)])))

/-- A world that meets the condition. -/
noncomputable def laidWorld (os : Os) : World :=
  let w0 := World.holding Tryd.prog os ⟨#[], #[], []⟩
  { w0 with heap := w0.heap.modify 0 fun
      | .cells _ t frozen => .cells #[.iface 191 (.agg #[.pointer (some ⟨1, 90, none⟩)])] t frozen
      | o => o }
theorem laidWorld_met (os : Os) (args : Array Value) : laidMetH Tryd.prog laidList ((laidWorld os).forCall (fun _ _ => 0) ⟨#[], args, []⟩).memory :=
  laidMetH_of_parts (laidMet_nil _ _) (by kernel_rfl)
end Go.Proofs.YthjmficglpfgpaaDoor
