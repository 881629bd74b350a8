/- '==' of structs (printed by tools/eqs.py). -/
import Derived.Test.YthjmficglpfgpaaDoorBase2
namespace Go.Proofs.YthjmficglpfgpaaDoor
set_option linter.unusedVariables false
set_option linter.unusedSimpArgs false
open Go Go.RowKit Enc
set_option maxRecDepth 100000
set_option maxHeartbeats 1600000

theorem eql_acc (x y : Acc) (w : World) : (binOp .eql 50 x.val y.val).run Tryd.prog w = .ok (.bool (decide (x = y))) w := by
  obtain ⟨a0, a1, a2⟩ := x
  obtain ⟨b0, b1, b2⟩ := y
  go_simp
  (repeat' split) <;> first | rfl | (simp_all; done)
theorem neq_acc (x y : Acc) (w : World) : (binOp .neq 50 x.val y.val).run Tryd.prog w = .ok (.bool (decide (x ≠ y))) w := by
  obtain ⟨a0, a1, a2⟩ := x
  obtain ⟨b0, b1, b2⟩ := y
  go_simp
  (repeat' split) <;> first | rfl | (simp_all; done)
theorem eql_rep (x y : Rep) (w : World) : (binOp .eql 40 x.val y.val).run Tryd.prog w = .ok (.bool (decide (x = y))) w := by
  obtain ⟨a0, a1⟩ := x
  obtain ⟨b0, b1⟩ := y
  go_simp
  (repeat' split) <;> first | rfl | (simp_all; done)
theorem neq_rep (x y : Rep) (w : World) : (binOp .neq 40 x.val y.val).run Tryd.prog w = .ok (.bool (decide (x ≠ y))) w := by
  obtain ⟨a0, a1⟩ := x
  obtain ⟨b0, b1⟩ := y
  go_simp
  (repeat' split) <;> first | rfl | (simp_all; done)
theorem eql_pay (x y : Pay) (w : World) : (binOp .eql 47 x.val y.val).run Tryd.prog w = .ok (.bool (decide (x = y))) w := by
  obtain ⟨a0, a1, a2, a3, a4, a5, a6, a7⟩ := x
  obtain ⟨b0, b1, b2, b3, b4, b5, b6, b7⟩ := y
  go_simp
  (repeat' split) <;> first | rfl | (simp_all; done)
theorem neq_pay (x y : Pay) (w : World) : (binOp .neq 47 x.val y.val).run Tryd.prog w = .ok (.bool (decide (x ≠ y))) w := by
  obtain ⟨a0, a1, a2, a3, a4, a5, a6, a7⟩ := x
  obtain ⟨b0, b1, b2, b3, b4, b5, b6, b7⟩ := y
  go_simp
  (repeat' split) <;> first | rfl | (simp_all; done)
theorem eql_req (x y : Req) (w : World) : (binOp .eql 29 x.val y.val).run Tryd.prog w = .ok (.bool (decide (x = y))) w := by
  obtain ⟨a0, a1, a2, a3, a4, a5, a6⟩ := x
  obtain ⟨b0, b1, b2, b3, b4, b5, b6⟩ := y
  go_simp
  (repeat' split) <;> first | rfl | (simp_all; done)
theorem neq_req (x y : Req) (w : World) : (binOp .neq 29 x.val y.val).run Tryd.prog w = .ok (.bool (decide (x ≠ y))) w := by
  obtain ⟨a0, a1, a2, a3, a4, a5, a6⟩ := x
  obtain ⟨b0, b1, b2, b3, b4, b5, b6⟩ := y
  go_simp
  (repeat' split) <;> first | rfl | (simp_all; done)
theorem eql_kn (x y : Kn) (w : World) : (binOp .eql 83 x.val y.val).run Tryd.prog w = .ok (.bool (decide (x = y))) w := by
  obtain ⟨⟨a0, a1, a2, a3, a4, a5, a6⟩, ⟨a7, a8⟩, a9⟩ := x
  obtain ⟨⟨b0, b1, b2, b3, b4, b5, b6⟩, ⟨b7, b8⟩, b9⟩ := y
  go_simp
  (repeat' split) <;> first | rfl | (simp_all; done)
theorem neq_kn (x y : Kn) (w : World) : (binOp .neq 83 x.val y.val).run Tryd.prog w = .ok (.bool (decide (x ≠ y))) w := by
  obtain ⟨⟨a0, a1, a2, a3, a4, a5, a6⟩, ⟨a7, a8⟩, a9⟩ := x
  obtain ⟨⟨b0, b1, b2, b3, b4, b5, b6⟩, ⟨b7, b8⟩, b9⟩ := y
  go_simp
  (repeat' split) <;> first | rfl | (simp_all; done)
end Go.Proofs.YthjmficglpfgpaaDoor
