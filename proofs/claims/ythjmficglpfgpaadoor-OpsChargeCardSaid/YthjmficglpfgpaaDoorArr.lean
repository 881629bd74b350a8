/- '==' of arrays of three ints. -/
import Derived.Test.YthjmficglpfgpaaDoorBase
import Derived.Laws.StructEq
namespace Go.Proofs.YthjmficglpfgpaaDoor
set_option linter.unusedVariables false
set_option linter.unusedSimpArgs false
open Go Go.RowKit Enc

theorem part_one {P : Program} (w : World) (e : TypeId) (cs : Array Value) (i : Nat) (v : Value) (h : (P.info? e).map (fun i => (i.zero, i.size, i.bytes)) = some (some (.int .i64 0), 1, 8)) (hd : P.underlying e = some (.int .i64)) (hv : cs[i]? = some v) :
    (part e cs i).run P w = .ok v w := by
  obtain ⟨i0, h1, h2, h3, h4⟩ := info_parts h
  simp [part, sizeOf, typeInfo, h1, h3, hv, run_underlying hd, go_sem, isAgg]

theorem run_arr3 {P : Program} (w : World) (D : Nat) (t e : TypeId) (a b c x y z : Int) (ht : P.underlying t = some (.array 3 e)) (he : P.underlying e = some (.int .i64)) (hi : (P.info? e).map (fun i => (i.zero, i.size, i.bytes)) = some (some (.int .i64 0), 1, 8))
    (q : ∀ (w : World) (m n : Int), Sem.run P (Op.equalIn D e (.int .i64 m) (.int .i64 n)) w = .ok (m == n) w) :
    (Op.equalIn (D + 1) t (.agg #[.int .i64 a, .int .i64 b, .int .i64 c]) (.agg #[.int .i64 x, .int .i64 y, .int .i64 z])).run P w = .ok (a == x && b == y && c == z) w := by
  obtain ⟨i0, h1, h2, h3, h4⟩ := info_parts hi
  have p1 := fun (w : World) (cs : Array Value) (i : Nat) (v : Value) (hv : cs[i]? = some v) => part_one w e cs i v hi he hv
  have a0 := fun w => p1 w #[.int .i64 a, .int .i64 b, .int .i64 c] 0 (.int .i64 a) rfl
  have a1 := fun w => p1 w #[.int .i64 a, .int .i64 b, .int .i64 c] 1 (.int .i64 b) rfl
  have a2 := fun w => p1 w #[.int .i64 a, .int .i64 b, .int .i64 c] 2 (.int .i64 c) rfl
  have b0 := fun w => p1 w #[.int .i64 x, .int .i64 y, .int .i64 z] 0 (.int .i64 x) rfl
  have b1 := fun w => p1 w #[.int .i64 x, .int .i64 y, .int .i64 z] 1 (.int .i64 y) rfl
  have b2 := fun w => p1 w #[.int .i64 x, .int .i64 y, .int .i64 z] 2 (.int .i64 z) rfl
  simp only [Op.equalIn, Sem.run_bind, run_underlying ht, Result.andThen_ok]
  simp only [sizeOf, typeInfo, h1, h3, Sem.run_bind, run_program, Sem.run_pure, Result.andThen_ok, Std.Legacy.Range.forIn_eq_forIn_range', Std.Legacy.Range.size, Nat.sub_zero, Nat.add_one_sub_one, Nat.div_one, List.range', List.forIn_cons, List.forIn_nil, Nat.mul_one, Nat.zero_add, Nat.reduceAdd, a0, a1, a2, b0, b1, b2, q]
  rcases Decidable.em (a = x) with rfl | g1 <;> rcases Decidable.em (b = y) with rfl | g2 <;> rcases Decidable.em (c = z) with rfl | g3 <;> simp [*, q]
theorem run_eql_arr3 {P : Program} (t e : TypeId) (ht : P.underlying t = some (.array 3 e)) (he : P.underlying e = some (.int .i64)) (hi : (P.info? e).map (fun i => (i.zero, i.size, i.bytes)) = some (some (.int .i64 0), 1, 8)) (w : World) (a b c x y z : Int) :
    (binOp .eql t (.agg #[.int .i64 a, .int .i64 b, .int .i64 c]) (.agg #[.int .i64 x, .int .i64 y, .int .i64 z])).run P w = .ok (.bool (a == x && b == y && c == z)) w := by
  rw [run_eql_struct, run_arr3 w 9999 t e a b c x y z ht he hi (fun w m n => run_equalIn_int (P := P) w 9998 e .i64 .i64 m n he)]
  rfl
theorem run_neq_arr3 {P : Program} (t e : TypeId) (ht : P.underlying t = some (.array 3 e)) (he : P.underlying e = some (.int .i64)) (hi : (P.info? e).map (fun i => (i.zero, i.size, i.bytes)) = some (some (.int .i64 0), 1, 8)) (w : World) (a b c x y z : Int) :
    (binOp .neq t (.agg #[.int .i64 a, .int .i64 b, .int .i64 c]) (.agg #[.int .i64 x, .int .i64 y, .int .i64 z])).run P w = .ok (.bool (!(a == x && b == y && c == z))) w := by
  rw [run_neq_struct, run_arr3 w 9999 t e a b c x y z ht he hi (fun w m n => run_equalIn_int (P := P) w 9998 e .i64 .i64 m n he)]
  rfl
theorem int_info : (Tryd.prog.info? 3).map (fun i => (i.zero, i.size, i.bytes)) = some (some (.int .i64 0), 1, 8) := by kernel_rfl
theorem eql_arr (w : World) (a b c x y z : Int) : (binOp .eql 62 (.agg #[.int .i64 a, .int .i64 b, .int .i64 c]) (.agg #[.int .i64 x, .int .i64 y, .int .i64 z])).run Tryd.prog w = .ok (.bool (a == x && b == y && c == z)) w :=
  run_eql_arr3 _ _ Tryd.underlying62 Tryd.underlying3 int_info w a b c x y z
theorem neq_arr (w : World) (a b c x y z : Int) : (binOp .neq 62 (.agg #[.int .i64 a, .int .i64 b, .int .i64 c]) (.agg #[.int .i64 x, .int .i64 y, .int .i64 z])).run Tryd.prog w = .ok (.bool (!(a == x && b == y && c == z))) w :=
  run_neq_arr3 _ _ Tryd.underlying62 Tryd.underlying3 int_info w a b c x y z
end Go.Proofs.YthjmficglpfgpaaDoor
