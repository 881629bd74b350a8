/- errors.As at a target of the program's own kind of errors, and api.Number. Lines of the worked proof 'toyas', turned to this program. api.Number. The row's listed variable: what the condition gives a walk, and a world that meets it. A region that draws its order, whose last operations have one order: the first ones in whatever order, with a condition on the world; the last ones as they stand. The call's own blocks, told in one list. Two operations of a region that make memory, in either order: one way. -/
import Derived.Test.YthjmficglpfgpaaDoorX1
import Derived.LaidEql
import Derived.Stop.Asserts
import Derived.RowKitTokens
import Derived.Test.YthjmficglpfgpaaDoorRows
import Derived.ChangeSame
import Derived.ChangeVars
import Derived.JoinedOf
import Derived.RowKit
import Derived.LaidLaws
import Derived.LaidHandle
import Derived.Stop.Joined
import Derived.StillTail
import Derived.OrdersHeld
import Derived.Deep.RegionHeld
namespace Go.Proofs.YthjmficglpfgpaaDoor
set_option linter.unusedVariables false
set_option linter.unusedSimpArgs false
open Go.RowKit Go.Extern.Stop Go.Stop Go.Extern Enc

/-- errors.As(nil, target). -/
theorem as_nil (t : Value) (w : World) :
    Calls Tryd.prog 77 #[.nilIface, t] w fun e w' => e = .returned (.bool false) ∧ w' = w := by
  go_enter Tryd.func77, Tryd.ntmps77
  go_wp2
  go_ret
  exact ⟨rfl, rfl⟩

/-! ### CLOSED FACTS ON THE MODEL's ENTRIES FOR internal/reflectlite, at this program's types: 25: *p.E · 27: **p.E · 23: error · 45: reflectlite's rtype · 1: how many package-level variables the dump has -/
theorem As.valueOf27 (t : Addr) (w : World) : (ReflectliteValue.unpack (.iface 151 (.pointer (some t)))).run Tryd.prog w
    = .ok (.agg #[.pointer (some ⟨1, 151, none⟩), .pointer (some ⟨w.heap.size, 0, none⟩), .int .u64 150]) (w.alloc (.cells #[.pointer (some t)] 151)) := by kernel_rfl
theorem As.type27 (a : Addr) (w : World) : (ReflectliteValue.methodAny (ReflectliteValue.valueError "reflectlite.Value.Type" 0) (fun t _ _ _ => ReflectliteType.toType t) #[.agg #[.pointer (some ⟨1, 151, none⟩), .pointer (some a), .int .u64 150]]).run Tryd.prog w
    = .ok (.iface 191 (.agg #[.pointer (some ⟨1, 151, none⟩)])) w := by kernel_rfl
theorem As.methodKind (h : Value) (w : World) : (Go.method 331 191 (.agg #[h]) "Kind").run Tryd.prog w = .ok (124, h) w := by kernel_rfl
theorem As.kind27 (w : World) : ((ReflectliteType.abiMethod fun t => (fun a : Nat => Value.int IntKind.u8 (a : Int)) <$> Rtype.kind t) #[.pointer (some ⟨1, 151, none⟩)]).run Tryd.prog w = .ok (.int .u8 22) w := by kernel_rfl
theorem As.kind25 (w : World) : ((ReflectliteType.abiMethod fun t => (fun a : Nat => Value.int IntKind.u8 (a : Int)) <$> Rtype.kind t) #[.pointer (some ⟨1, 38, none⟩)]).run Tryd.prog w = .ok (.int .u8 2) w := by kernel_rfl

/-! ### THE ENTRIES THAT READ OR WRITE MEMORY: laws with a premise on the cell (after Derived/Lib/ReflectliteSlice.lean's manner: each unfolding a lemma of its own, by rfl) -/
theorem rlm (z : Sem Value) (f : TypeId → Addr → Nat → Nat → Sem Value) (v : Value) :
    ReflectliteValue.method z f #[v] = (do match ← ReflectliteValue.parts v with | none => z | some (t, a, fl) => f t a fl (fl % 32)) := rfl
theorem As.parts27 (a : Addr) (w : World) : (ReflectliteValue.parts (.agg #[.pointer (some ⟨1, 151, none⟩), .pointer (some a), .int .u64 150])).run Tryd.prog w = .ok (some (151, a, 150)) w := by kernel_rfl
/-- (Value).IsNil at the Value of a **p.E that is not nil. -/
theorem As.isNil27 (a p : Addr) (W : World) (ha : W.cell? a = some (.pointer (some p))) :
    (ReflectliteValue.method (ReflectliteValue.valueError "reflectlite.Value.IsNil" 0) ReflectliteValue.isNil #[.agg #[.pointer (some ⟨1, 151, none⟩), .pointer (some a), .int .u64 150]]).run Tryd.prog W = .ok (.bool false) W := by
  rw [rlm]
  simp only [Sem.run_bind, As.parts27, Result.andThen]
  simp [ReflectliteValue.isNil, loadVar, isAgg, underlying, Tryd.underlying151, ha, Result.andThen]

theorem As.methodElem (h : Value) (w : World) : (Go.method 331 191 (.agg #[h]) "Elem").run Tryd.prog w = .ok (140, .agg #[h]) w := by kernel_rfl
theorem As.methodImplements (h : Value) (w : World) : (Go.method 331 191 (.agg #[h]) "Implements").run Tryd.prog w = .ok (141, .agg #[h]) w := by kernel_rfl
theorem As.methodAssignableTo (h : Value) (w : World) : (Go.method 331 191 (.agg #[h]) "AssignableTo").run Tryd.prog w = .ok (138, .agg #[h]) w := by kernel_rfl
theorem As.elem27 (w : World) : (ReflectliteType.method ReflectliteType.elem #[.agg #[.pointer (some ⟨1, 151, none⟩)]]).run Tryd.prog w = .ok (.iface 191 (.agg #[.pointer (some ⟨1, 38, none⟩)])) w := by kernel_rfl
theorem As.implements25 (w : World) : (ReflectliteType.relation "Implements" ReflectliteType.implements_ #[.agg #[.pointer (some ⟨1, 38, none⟩)], .iface 191 (.agg #[.pointer (some ⟨1, 90, none⟩)])]).run Tryd.prog w = .ok (.bool true) w := by kernel_rfl
theorem As.typeOf25 (v : Value) (w : World) : (ReflectliteType.typeOf #[.iface 38 v]).run Tryd.prog w = .ok (.iface 191 (.agg #[.pointer (some ⟨1, 38, none⟩)])) w := by kernel_rfl
theorem As.assignable25 (w : World) : (ReflectliteType.relation "AssignableTo" ReflectliteType.assignableTo #[.agg #[.pointer (some ⟨1, 38, none⟩)], .iface 191 (.agg #[.pointer (some ⟨1, 38, none⟩)])]).run Tryd.prog w = .ok (.bool true) w := by kernel_rfl
theorem As.valueOf25 (e : Int) (w : World) : (ReflectliteValue.unpack (.iface 38 (.int .i64 e))).run Tryd.prog w
    = .ok (.agg #[.pointer (some ⟨1, 38, none⟩), .pointer (some ⟨w.heap.size, 0, none⟩), .int .u64 130]) (w.alloc (.cells #[.int .i64 e] 38)) := by kernel_rfl

theorem As.elemOf27 (w : World) : (Rtype.elem? 151).run Tryd.prog w = .ok (some 38) w := by kernel_rfl
theorem As.mk25 (p : Addr) (w : World) : (ReflectliteValue.mk 38 p ReflectliteValue.flagAddr).run Tryd.prog w = .ok (.agg #[.pointer (some ⟨1, 38, none⟩), .pointer (some p), .int .u64 386]) w := by kernel_rfl
/-- (Value).Elem at the Value of a **p.E that is not nil: the Value of the *p.E variable that it points to, addressable. -/
theorem As.elemV27 (a p : Addr) (W : World) (ha : W.cell? a = some (.pointer (some p))) :
    (ReflectliteValue.method (ReflectliteValue.valueError "reflectlite.Value.Elem" 0) ReflectliteValue.elem #[.agg #[.pointer (some ⟨1, 151, none⟩), .pointer (some a), .int .u64 150]]).run Tryd.prog W
      = .ok (.agg #[.pointer (some ⟨1, 38, none⟩), .pointer (some p), .int .u64 386]) W := by
  rw [rlm]
  simp only [Sem.run_bind, As.parts27, Result.andThen]
  simp [ReflectliteValue.elem, loadVar, isAgg, underlying, Tryd.underlying151, ha, Result.andThen, As.elemOf27, As.mk25]
theorem rls (v x : Value) : ReflectliteValue.set #[v, x] = (do
    let (some (dst, a, fl), some (src, b, _)) := (← ReflectliteValue.parts v, ← ReflectliteValue.parts x)
      | unsupported (.noEntry "extern/(internal/reflectlite.Value).Set.zeroValue")
    if fl / ReflectliteValue.flagAddr % 2 == 0 then unsupported (.noEntry "extern/(internal/reflectlite.Value).Set.unaddressable")
    let val ← loadVar src b
    if ← Rtype.directlyAssignable dst src then storeVar dst a val
    else if ← Rtype.implements dst src then
      if (← Rtype.kind src) == 20 then
        match val with
        | .nilIface => unsupported (.noEntry "extern/reflectlite: a nil value of one interface type handed on as a value of another")
        | _ => storeVar dst a val
      else storeVar dst a (.iface src val)
    else panicString ("reflectlite.Set: value of type " ++ (← Rtype.spelt src) ++ " is not assignable to type " ++ (← Rtype.spelt dst))
    pure (.tuple #[])) := rfl
theorem As.parts25a (a : Addr) (w : World) : (ReflectliteValue.parts (.agg #[.pointer (some ⟨1, 38, none⟩), .pointer (some a), .int .u64 386])).run Tryd.prog w = .ok (some (38, a, 386)) w := by kernel_rfl
theorem As.parts25 (a : Addr) (w : World) : (ReflectliteValue.parts (.agg #[.pointer (some ⟨1, 38, none⟩), .pointer (some a), .int .u64 130])).run Tryd.prog w = .ok (some (38, a, 130)) w := by kernel_rfl
theorem As.direct25 (w : World) : (Rtype.directlyAssignable 38 38).run Tryd.prog w = .ok true w := by kernel_rfl
theorem As.size25 (w : World) : (sizeOf 38).run Tryd.prog w = .ok 1 w := by kernel_rfl
/-- (Value).Set: the *p.E variable at 'ta' gets what the Value's own variable 'b' holds. -/
theorem As.set25 (ta b : Addr) (e : Int) (old : Value) (W : World) (hb : W.cell? b = some (.int .i64 e)) (ht : W.cell? ta = some old) (hf : W.frozen? ta = false) :
    (ReflectliteValue.set #[.agg #[.pointer (some ⟨1, 38, none⟩), .pointer (some ta), .int .u64 386], .agg #[.pointer (some ⟨1, 38, none⟩), .pointer (some b), .int .u64 130]]).run Tryd.prog W
      = .ok (.tuple #[]) (W.setCell ta (.int .i64 e)) := by
  rw [rls]
  simp only [Sem.run_bind, As.parts25a, As.parts25, Result.andThen]
  simp [ReflectliteValue.flagAddr, loadVar, isAgg, underlying, Tryd.underlying38, hb, Result.andThen, As.direct25, storeVar, Value.cells, storeCells, Addr.add]
  rw [run_store Tryd.prog W ta _ _ (by rfl)]
  simp [ht, hf]

set_option maxRecDepth 100000 in
set_option maxHeartbeats 4000000 in
theorem as_hit (e : Int) (t : Addr) (old : Value) (w : World) (hg : w.cell? ⟨0, 0, none⟩ = some (.iface 191 (.agg #[.pointer (some ⟨1, 90, none⟩)]))) (ht0 : w.cell? t = some old) (hf0 : w.frozen? t = false) :
    Calls Tryd.prog 77 #[.iface 38 (.int .i64 e), .iface 151 (.pointer (some t))] w fun ev w' => ev = .returned (.bool true) ∧ w' = ((((w.alloc (.cells #[.pointer (some t)] 151)).alloc (.cells #[.pointer (some ⟨1, 151, none⟩), .pointer (some ⟨w.heap.size, 0, none⟩), .int .u64 150] 178)).alloc (.cells #[.pointer (some ⟨1, 151, none⟩), .pointer (some ⟨w.heap.size, 0, none⟩), .int .u64 150] 178)).alloc (.cells #[.int .i64 e] 38)).setCell t (.int .i64 e) := by
  have h6 := @run_callFunc_extern Tryd.prog 101 _ (fun args => ReflectliteValue.unpack (args.getD 0 (.tuple #[]))) Tryd.func101 (by kernel_rfl) (by kernel_rfl) (by kernel_rfl) (by kernel_rfl)
  have h7 := @run_callFunc_extern Tryd.prog 102 _ (ReflectliteValue.methodAny (ReflectliteValue.valueError "reflectlite.Value.Type" 0) (fun t _ _ _ => ReflectliteType.toType t)) Tryd.func102 (by kernel_rfl) (by kernel_rfl) (by kernel_rfl) (by kernel_rfl)
  have h8 := @run_callFunc_extern Tryd.prog 103 _ (ReflectliteValue.method (ReflectliteValue.valueError "reflectlite.Value.IsNil" 0) ReflectliteValue.isNil) Tryd.func103 (by kernel_rfl) (by kernel_rfl) (by kernel_rfl) (by kernel_rfl)
  have h27 := @run_callFunc_extern Tryd.prog 124 _ (ReflectliteType.abiMethod fun t => do pure (.int .u8 (← Rtype.kind t))) Tryd.func124 (by kernel_rfl) (by kernel_rfl) (by kernel_rfl) (by kernel_rfl)
  have h37 := @run_callFunc_extern Tryd.prog 140 _ (ReflectliteType.method ReflectliteType.elem) Tryd.func140 (by kernel_rfl) (by kernel_rfl) (by kernel_rfl) (by kernel_rfl)
  have h38 := @run_callFunc_extern Tryd.prog 141 _ (ReflectliteType.relation "Implements" ReflectliteType.implements_) Tryd.func141 (by kernel_rfl) (by kernel_rfl) (by kernel_rfl) (by kernel_rfl)
  have h10 := @run_callFunc_extern Tryd.prog 107 _ ReflectliteType.typeOf Tryd.func107 (by kernel_rfl) (by kernel_rfl) (by kernel_rfl) (by kernel_rfl)
  have h35 := @run_callFunc_extern Tryd.prog 138 _ (ReflectliteType.relation "AssignableTo" ReflectliteType.assignableTo) Tryd.func138 (by kernel_rfl) (by kernel_rfl) (by kernel_rfl) (by kernel_rfl)
  have h11 := @run_callFunc_extern Tryd.prog 108 _ (ReflectliteValue.method (ReflectliteValue.valueError "reflectlite.Value.Elem" 0) ReflectliteValue.elem) Tryd.func108 (by kernel_rfl) (by kernel_rfl) (by kernel_rfl) (by kernel_rfl)
  have h12 := @run_callFunc_extern Tryd.prog 109 _ ReflectliteValue.set Tryd.func109 (by kernel_rfl) (by kernel_rfl) (by kernel_rfl) (by kernel_rfl)
  have tO := As.typeOf25
  have mA := As.methodAssignableTo
  have a25 := As.assignable25
  have v25 := As.valueOf25
  have f6 := As.valueOf27
  have f7 := As.type27
  have mK := As.methodKind
  have mE := As.methodElem
  have mI := As.methodImplements
  have k27 := As.kind27
  have k25 := As.kind25
  have e27 := As.elem27
  have i25 := As.implements25
  have n8 := As.isNil27 ⟨w.heap.size, 0, none⟩ t ((w.alloc (.cells #[.pointer (some t)] 151)).alloc (.cells #[.pointer (some ⟨1, 151, none⟩), .pointer (some ⟨w.heap.size, 0, none⟩), .int .u64 150] 178)) (by simp)
  have hlt : 0 < w.heap.size := by
    rcases Nat.eq_zero_or_pos w.heap.size with h0 | h
    · simp [World.cell?, h0] at hg
    · exact h
  have hg2 : ((w.alloc (.cells #[.pointer (some t)] 151)).alloc (.cells #[.pointer (some ⟨1, 151, none⟩), .pointer (some ⟨w.heap.size, 0, none⟩), .int .u64 150] 178)).cell? ⟨0, 0, none⟩ = some (.iface 191 (.agg #[.pointer (some ⟨1, 90, none⟩)])) := by
    rw [World.cell?_alloc_lt _ _ ⟨0, 0, none⟩ (by simp), World.cell?_alloc_lt _ _ ⟨0, 0, none⟩ hlt]; exact hg
  have htl : t.block < w.heap.size := by
    rcases Nat.lt_or_ge t.block w.heap.size with h | h
    · exact h
    · simp [World.cell?, Array.getElem?_eq_none h] at ht0
  have el := As.elemV27 ⟨w.heap.size, 0, none⟩ t (((w.alloc (.cells #[.pointer (some t)] 151)).alloc (.cells #[.pointer (some ⟨1, 151, none⟩), .pointer (some ⟨w.heap.size, 0, none⟩), .int .u64 150] 178)).alloc (.cells #[.pointer (some ⟨1, 151, none⟩), .pointer (some ⟨w.heap.size, 0, none⟩), .int .u64 150] 178)) (by rw [World.cell?_alloc_lt _ _ ⟨w.heap.size, 0, none⟩ (by simp; omega)]; simp)
  have st := As.set25 t ⟨w.heap.size + 1 + 1 + 1, 0, none⟩ e old ((((w.alloc (.cells #[.pointer (some t)] 151)).alloc (.cells #[.pointer (some ⟨1, 151, none⟩), .pointer (some ⟨w.heap.size, 0, none⟩), .int .u64 150] 178)).alloc (.cells #[.pointer (some ⟨1, 151, none⟩), .pointer (some ⟨w.heap.size, 0, none⟩), .int .u64 150] 178)).alloc (.cells #[.int .i64 e] 38))
    (by rw [World.cell?_alloc_at _ _ _ _ (by simp)]; rfl)
    (by rw [World.cell?_alloc_lt _ _ t (by simp; omega), World.cell?_alloc_lt _ _ t (by simp; omega), World.cell?_alloc_lt _ _ t (by simp; omega), World.cell?_alloc_lt _ _ t htl]; exact ht0)
    (by rw [World.frozen?_alloc_old _ _ t (by simp; omega), World.frozen?_alloc_old _ _ t (by simp; omega), World.frozen?_alloc_old _ _ t (by simp; omega), World.frozen?_alloc_old _ _ t (Nat.ne_of_lt htl)]; exact hf0)
  go_enter Tryd.func77, Tryd.ntmps77
  go_wp2
  refine wp_loop_rounds 1 ?_
  rw [rounds_succ]
  go_wp2
  go_ret
  exact ⟨rfl, rfl⟩
end Go.Proofs.YthjmficglpfgpaaDoor
namespace Go.Proofs.YthjmficglpfgpaaDoor
set_option linter.unusedVariables false
set_option linter.unusedSimpArgs false
open Go Go.RowKit Enc

/-- The variable errors.errorType holds what the program's text lays. -/
def GT (w : World) : Prop := w.cell? ⟨0, 0, none⟩ = some (.iface 191 (.agg #[.pointer (some ⟨1, 90, none⟩)]))
theorem GT.lt {w : World} (h : GT w) : 0 < w.heap.size := cell_lt h
theorem GT.below {w w' : World} (h : GT w) (hb : Below w.heap.size w w') : GT w' := cell_below hb h
/-- An error by its number; 0 is none. -/
def errV (c : Int) : Value := if c = 0 then .nilIface else .iface 38 (.int .i64 c)
theorem numErr_nil (w : World) : Calls Tryd.prog 49 #[.nilIface] w fun e w' => e = .returned (.int .i64 0) ∧ Below w.heap.size w w' := by
  go_enter Tryd.func49, Tryd.ntmps49
  go_wp2_with (go_at_call 77; refine (as_nil _ _).mono ?_; rintro e w' ⟨rfl, rfl⟩)
  go_ret
  exact ⟨rfl, below_alloc (Below.refl _ _) _⟩
theorem numErr (c : Int) (w : World) (hg : GT w) : Calls Tryd.prog 49 #[.iface 38 (.int .i64 c)] w fun e w' => e = .returned (.int .i64 c) ∧ Below w.heap.size w w' := by
  have hg1 := hg.below (below_alloc (Below.refl _ _) (.cells #[.int .i64 0] 38))
  go_enter Tryd.func49, Tryd.ntmps49
  go_wp2_with (go_at_call 77; refine (as_hit c ⟨w.heap.size, 0, none⟩ (.int .i64 0) _ hg1 (by simp) (by simp)).mono ?_; rintro e w' ⟨rfl, rfl⟩)
  go_ret
  refine ⟨rfl, ?_⟩
  repeat first | exact Below.refl _ _ | refine below_alloc ?_ _ | refine Below.setCell ?_ (by simp) _
theorem numErr_any (c : Int) (w : World) (hg : GT w) : Calls Tryd.prog 49 #[errV c] w fun e w' => e = .returned (.int .i64 c) ∧ Below w.heap.size w w' := by
  unfold errV
  split
  · rename_i h; subst h; exact numErr_nil w
  · exact numErr c w hg
/-- ops.number: what is told of an error. -/
theorem number_err (c : Int) (w : World) (hg : GT w) : Calls Tryd.prog 90 #[.iface 38 (.int .i64 c)] w fun e w' => e = .returned (Rep.val ⟨c, 0⟩) ∧ Below w.heap.size w w' := by
  have hg1 := hg.below (below_alloc (Below.refl _ _) (.cells #[.int .i64 0, .int .i64 0] 40))
  have agg_rep : AggT Tryd.prog 40 2 := ⟨⟨_, Tryd.underlying40, rfl⟩, by kernel_rfl⟩
  go_enter Tryd.func90, Tryd.ntmps90
  go_wp2_with (go_at_call 49; refine (numErr c _ hg1).mono ?_; rintro e w' ⟨rfl, hz⟩; have hj := (Blk.new _ _ _).next hz; have j0 := hj.at 0 _ rfl; have j1 := hj.at 1 _ rfl; have jf := hj.frozen)
  refine bodyPost_ret (res_cell rfl _ rfl agg_rep rfl (hj.chain2)) rfl ⟨rfl, ?_⟩
  repeat (refine Below.setCell ?_ (by simp) _)
  exact below_next (below_alloc (Below.refl _ _) _) hz
end Go.Proofs.YthjmficglpfgpaaDoor
namespace Go.Proofs.YthjmficglpfgpaaDoor
set_option linter.unusedVariables false
set_option linter.unusedSimpArgs false
open Go Go.ChangeShapes Go.WideShapes Go.RowKit

theorem own_none : ownKnob Tryd.prog.godebug = none := by kernel_rfl
theorem laid_out : laidOutB Tryd.prog = true := by kernel_rfl
theorem et_named : Tryd.prog.globalNamed "errors.errorType" = some 0 := by kernel_rfl
theorem rt_cut : (Tryd.prog.cutTypes.find? (·.1 == "internal/reflectlite.rtype")).map (·.2) = some 191 := by kernel_rfl
theorem one_row : ((List.range Tryd.prog.types.size).filter fun t => Tryd.prog.rowNamed t [101, 114, 114, 111, 114]) = [90] := by kernel_rfl
/-- What the rows list. -/
abbrev laidList : List (String × DataW Unit) := [("errors.errorType", Rows.laid_errors_errorType)]

/-- The condition gives the variable's one cell. -/
theorem gt_of_laid {W : World} (h : laidMetH Tryd.prog laidList W) : GT W := by
  have h' : laidMet Tryd.prog [] W ∧ handlesMet Tryd.prog laidList W := h
  obtain ⟨name, u, ty, e1, e2, e3, e4, e5⟩ := h'.2 _ (List.mem_singleton.2 rfl)
  have en : name = [101, 114, 114, 111, 114] := (Option.some.inj e1).symm
  subst en
  obtain rfl := Option.some.inj (rt_cut.symm.trans e2)
  have hm : ty ∈ (List.range Tryd.prog.types.size).filter fun t => Tryd.prog.rowNamed t [101, 114, 114, 111, 114] := List.mem_filter.2 ⟨List.mem_range.2 e3, e4⟩
  rw [one_row] at hm
  obtain rfl := List.mem_singleton.1 hm
  have hh : typeHandle Tryd.prog 90 = .pointer (some ⟨1, 90, none⟩) := by kernel_rfl
  rw [hh] at e5
  exact (by simpa using World.var?_cell et_named e5 0 : W.cell? ⟨0, 0, none⟩ = some (.iface 191 (.agg #[.pointer (some ⟨1, 90, none⟩)])))

/-- A world that meets the condition. -/
noncomputable def laidWorld (os : Os) : World :=
  let w0 := World.holding Tryd.prog os ⟨#[], #[], []⟩
  { w0 with heap := w0.heap.modify 0 fun
      | .cells _ t frozen => .cells #[.iface 191 (.agg #[.pointer (some ⟨1, 90, none⟩)])] t frozen
      | o => o }
theorem laidWorld_met (os : Os) (args : Array Value) : laidMetH Tryd.prog laidList ((laidWorld os).forCall (fun _ _ => 0) ⟨#[], args, []⟩).memory :=
  laidMetH_of_parts (laidMet_nil _ _) (by kernel_rfl)
end Go.Proofs.YthjmficglpfgpaaDoor
namespace Go.Proofs.YthjmficglpfgpaaDoor
set_option linter.unusedVariables false
set_option linter.unusedSimpArgs false
open Go Go.RowKit

section
variable {P : Program} {ops : Array Oper} {Q : Exit → Act → World → Prop} {md : Region.Mode} {S : World → Prop} {n g : Nat} {R : Act → World → Prop}

def wpHead (P : Program) (md : Region.Mode) (ops : Array Oper) (Q : Exit → Act → World → Prop) (S : World → Prop) (n g : Nat) (R : Act → World → Prop) : Nat → Array Bool → Act → World → Prop
  | 0, listed, a, w => Region.seqB md ops g n listed = true ∧ R a w
  | f + 1, listed, a, w => HeadInv md ops n listed → Region.ready md ops listed ≠ [] ∧ ∀ i ∈ Region.ready md ops listed, i < n ∧ wpOp P ops Q i (fun a' w' => S w' ∧ wpHead P md ops Q S n g R f (listed.setIfInBounds i true) a' w') a w

theorem wpHead_sound (hR : ∀ listed a w, Region.seqB md ops g n listed = true → R a w → wpAny P md ops Q g listed a w) :
    ∀ (f : Nat) (listed : Array Bool) (a : Act) (w : World), HeadInv md ops n listed → wpHead P md ops Q S n g R f listed a w → wpAny P md ops Q (f + g) listed a w
  | 0, listed, a, w, _, h => by rw [Nat.zero_add]; exact hR _ _ _ h.1 h.2
  | f + 1, listed, a, w, inv, h => by
    rw [show f + 1 + g = (f + g) + 1 by omega]
    have h' := h inv
    exact ⟨fun h0 => absurd h0 h'.1, fun i hi => wpOp_mono (fun a' w' h2 => wpHead_sound hR f _ a' w' (inv.set hi (h'.2 i hi).1) h2.2) (h'.2 i hi).2⟩

theorem wpHead_first {i : Nat} {oi : Oper} {v : Value} (hi : ops[i]? = some oi) (hsel : ∀ (j : Nat) (o : Oper) cs b, ops[j]? = some o → o.op ≠ .select cs b)
    (hs : Region.sinkB md ops n = true) (hc : Region.chainB md ops n = true) (hn : n < ops.size) (hin : i < n)
    (hQ : ∀ c a w, Q (.panic c) (a.put oi.dst v) w → Q (.panic c) a w) :
    ∀ (f : Nat) (listed : Array Bool) (a : Act) (w : World),
      (∀ j oj, ops[j]? = some oj → j ≠ i → listed.getD j true = false → (∀ e ∈ oj.after, Region.binds md e = true → e.on ≠ i) → oi.apart ops oj = true) →
      i ∈ Region.ready md ops listed → YieldsIf P ops S oi v a → S w →
      wpHead P md ops Q S n g R f (listed.setIfInBounds i true) (a.put oi.dst v) w → wpHead P md ops Q S n g R (f + 1) listed a w := by
  intro f
  induction f with
  | zero =>
    intro listed a w _ hr hy hS H inv
    have hun := (mem_ready.1 hr).1
    refine ⟨fun h => (by rw [h] at hr; cases hr), fun j hj => ?_⟩
    have hjn : j < n := by
      rcases Nat.lt_or_ge j n with h | h
      · exact h
      · exact absurd hj (tail_waits hs hc hn inv _ i rfl hin hun j h)
    refine ⟨hjn, ?_⟩
    by_cases hji : j = i
    · subst hji; exact hy.wpOp hi hS ⟨hS, H⟩
    · have := seqB_ready H.1 j (ready_mono hj hji)
      omega
  | succ f ih =>
    intro listed a w hfree hr hy hS H inv
    have hun := (mem_ready.1 hr).1
    refine ⟨fun h => (by rw [h] at hr; cases hr), fun j hj => ?_⟩
    have hjn : j < n := by
      rcases Nat.lt_or_ge j n with h | h
      · exact h
      · exact absurd hj (tail_waits hs hc hn inv _ i rfl hin hun j h)
    refine ⟨hjn, ?_⟩
    by_cases hji : j = i
    · subst hji; exact hy.wpOp hi hS ⟨hS, H⟩
    · have h1 := ((H (inv.set hr hin)).2 j (ready_mono hj hji)).2
      obtain ⟨hjun, oj, hoj, hall⟩ := mem_ready.1 hj
      have hnot : ∀ e ∈ oj.after, Region.binds md e = true → e.on ≠ i := fun e he hb heq => by
        have h1 := hall e he hb
        rw [heq, getD_both hun] at h1
        cases h1
      have h2 := wpOp_putIf hoj (hfree j oj hoj hji hjun hnot) (fun cs b => hsel i oi cs b hi) (fun cs b => hsel j oj cs b hoj) hQ hy h1
      have hfree' : ∀ k ok, ops[k]? = some ok → k ≠ i → (listed.setIfInBounds j true).getD k true = false →
          (∀ e ∈ ok.after, Region.binds md e = true → e.on ≠ i) → oi.apart ops ok = true := fun k ok hk hki hun hno => by
        refine hfree k ok hk hki ?_ hno
        by_cases hjk : j = k
        · subst hjk; exact hjun
        · rw [getD_set_ne true hjk] at hun; exact hun
      refine wpOp_mono (fun a' w' h3 => ⟨h3.2.1, ih (listed.setIfInBounds j true) a' w' hfree' (ready_mono hr (Ne.symm hji)) h3.1 h3.2.1 ?_⟩) h2
      rw [Array.setIfInBounds_comm _ _ hji]
      exact h3.2.2

/-- The last ones have one order, behind all the others. -/
def headB (md : Region.Mode) (ops : Array Oper) (n : Nat) : Bool := Region.noSelect ops && decide (n < ops.size) && Region.sinkB md ops n && Region.chainB md ops n

theorem wp_region_head {id : Nat} {a : Act} {w : World} {l : List Oper} (n : Nat) (S : World → Prop) (hm : P.follows .mixedOrders = true) (hB : headB .any l.toArray n = true) (hS : S w.drew)
    (h : S w.drew → wpHead P .any l.toArray Q S n (l.length - n) (fun a w => wpList P l.toArray Q (l.drop n) a w) n (Array.replicate l.length false) a w.drew) : (Code.region id l.toArray true).wp P Q a w := by
  unfold headB at hB
  simp only [Bool.and_eq_true, decide_eq_true_eq] at hB
  obtain ⟨⟨⟨hsel, hn⟩, hs⟩, hc⟩ := hB
  have hn' : n < l.length := by simpa using hn
  have inv0 : HeadInv .any l.toArray n (Array.replicate l.length false) :=
    ⟨by simp, fun j oj _ hl => (by rw [getD_replicate_false] at hl; cases hl), fun t _ ht => getD_in (by simpa using ht) (getD_replicate_false _ _)⟩
  have hdl : (l.drop n).length = l.length - n := by simp
  have H := wpHead_sound (Q := Q) (S := S) (g := l.length - n) (fun listed a w hb hr => by
    have := wpAny_of_seq (P := P) (md := .any) (ops := l.toArray) (Q' := Q) (l.drop n) n listed a w (fun j => by simp) (by rw [hdl]; exact hb) hr
    rwa [hdl] at this) n _ a w.drew inv0 (h hS)
  refine wp_region_any hm ?_
  have e : n + (l.length - n) = l.toArray.size := by simp; omega
  rw [e] at H
  simpa using H

theorem wpHead_take {l : List Oper} {i : Nat} {oi : Oper} {v : Value} {f : Nat} {listed : Array Bool} {a : Act} {w : World} (hi : l[i]? = some oi)
    (hB : headB md l.toArray n = true) (hin : decide (i < n) = true) (hf : Region.free md l.toArray listed i = true) (hr : (Region.ready md l.toArray listed).contains i = true)
    (hQ : ∀ c a w, Q (.panic c) (a.put oi.dst v) w → Q (.panic c) a w) (hy : YieldsIf P l.toArray S oi v a) (hS : S w)
    (h : wpHead P md l.toArray Q S n g R f (listed.setIfInBounds i true) (a.put oi.dst v) w) : wpHead P md l.toArray Q S n g R (f + 1) listed a w := by
  unfold headB at hB
  simp only [Bool.and_eq_true, decide_eq_true_eq] at hB hin
  obtain ⟨⟨⟨hsel, hn⟩, hs⟩, hc⟩ := hB
  have hi' : l.toArray[i]? = some oi := by simpa using hi
  exact wpHead_first hi' (Region.noSelect_spec hsel) hs hc hn hin hQ f listed a w (Region.free_spec hi' hf) (by simpa using hr) hy hS h

def AllHead (P : Program) (md : Region.Mode) (ops : Array Oper) (Q : Exit → Act → World → Prop) (S : World → Prop) (n g : Nat) (R : Act → World → Prop) (f : Nat) (listed : Array Bool) (a : Act) (w : World) (rs : List Nat) : Prop :=
  ∀ i ∈ rs, i < n ∧ wpOp P ops Q i (fun a' w' => S w' ∧ wpHead P md ops Q S n g R f (listed.setIfInBounds i true) a' w') a w
theorem AllHead.nil {f : Nat} {listed : Array Bool} {a : Act} {w : World} : AllHead P md ops Q S n g R f listed a w [] := fun _ h => by cases h
theorem AllHead.cons {l : List Oper} {f : Nat} {listed : Array Bool} {a : Act} {w : World} {i : Nat} {o : Oper} {rs : List Nat} (ho : l[i]? = some o) (hin : decide (i < n) = true)
    (h : ∀ K' : Act → World → Prop, Shut (∀ a w, S w → (S w → wpHead P md l.toArray Q S n g R f (listed.setIfInBounds i true) a w) → K' a w) → if Region.wanted o (yielded l.toArray a.tmps) = true then Oper.wp P o a w K' Q else K' (a.put o.dst undef) w)
    (hs : AllHead P md l.toArray Q S n g R f listed a w rs) : AllHead P md l.toArray Q S n g R f listed a w (i :: rs) := fun j hj => by
  rcases List.mem_cons.1 hj with rfl | hj
  · exact ⟨by simpa using hin, wpOp_step (by simpa using ho) (fun K' hK => h K' (fun a w hS hW => hK a w ⟨hS, hW hS⟩))⟩
  · exact hs j hj
theorem wpHead_ready {rs : List Nat} {f : Nat} {listed : Array Bool} {a : Act} {w : World} (hr : Region.ready md ops listed = rs) (hne : rs ≠ [])
    (h : AllHead P md ops Q S n g R f listed a w rs) : wpHead P md ops Q S n g R (f + 1) listed a w := fun _ => ⟨by rw [hr]; exact hne, by rw [hr]; exact h⟩
theorem wpHead_done {listed : Array Bool} {a : Act} {w : World} (hr : Region.seqB md ops g n listed = true) (h : R a w) : wpHead P md ops Q S n g R 0 listed a w := ⟨hr, h⟩
end
end Go.Proofs.YthjmficglpfgpaaDoor
namespace Go.Proofs.YthjmficglpfgpaaDoor
set_option linter.unusedVariables false
set_option linter.unusedSimpArgs false
open Go Go.RowKit Enc

abbrev BL := List (Nat × TypeId × List Value)
def cellsF (X : World) (g : Nat) : Nat → List Value → Prop
  | _, [] => True
  | i, v :: vs => X.cell? ⟨g, i, none⟩ = some v ∧ cellsF X g (i + 1) vs
def gapF (g : Nat) : BL → Prop
  | [] => True
  | q :: L => (g ≠ q.1 ∧ q.1 ≠ g) ∧ gapF g L
/-- All that a walk reads of the blocks. -/
def AllF (w X : World) : BL → Prop
  | [] => True
  | (g, _, cs) :: L => (cellsF X g 0 cs ∧ (∀ i, X.frozen? ⟨g, i, none⟩ = false) ∧ (w.heap.size ≤ g ∧ g < X.heap.size) ∧ gapF g L) ∧ AllF w X L
/-- The blocks L are the call's own (it began in w), and hold what L says. -/
structure Env (w X : World) (L : BL) : Prop where
  bel : Below w.heap.size w X
  blk : ∀ p ∈ L, Blk X p.1 p.2.1 p.2.2.toArray ∧ w.heap.size ≤ p.1
  inc : L.Pairwise (fun p q => p.1 < q.1)
section
variable {w X X' : World} {L : BL}
theorem cellsF_of (g : Nat) (t : TypeId) (all : List Value) (hb : Blk X g t all.toArray) : ∀ (cs : List Value) (i : Nat), (∀ j (h : j < cs.length), all[i + j]? = some cs[j]) → cellsF X g i cs
  | [], _, _ => trivial
  | v :: vs, i, h => by
    refine ⟨?_, cellsF_of g t all hb vs (i + 1) fun j hj => ?_⟩
    · have := h 0 (by simp)
      exact hb.at i v (by simpa using this)
    · have := h (j + 1) (by simpa using hj)
      rw [show i + 1 + j = i + (j + 1) by omega]
      simpa using this
theorem gapF_of (g : Nat) : ∀ L : BL, (∀ q ∈ L, g < q.1) → gapF g L
  | [], _ => trivial
  | q :: L, h => ⟨by have := h q (List.mem_cons_self ..); omega, gapF_of g L fun p hp => h p (List.mem_cons_of_mem _ hp)⟩
theorem Env.facts (h : Env w X L) : AllF w X L := by
  obtain ⟨hb, h1, h2⟩ := h
  induction L with
  | nil => trivial
  | cons p L ih =>
    obtain ⟨g, t, cs⟩ := p
    obtain ⟨hp, hg⟩ := h1 _ (List.mem_cons_self ..)
    rw [List.pairwise_cons] at h2
    exact ⟨⟨cellsF_of g t cs hp cs 0 fun j hj => by simp [hj], hp.frozen, ⟨hg, hp.lt⟩, gapF_of g L h2.1⟩, ih (fun p hp => h1 p (List.mem_cons_of_mem _ hp)) h2.2⟩
theorem Env.nil (w : World) : Env w w [] := ⟨Below.refl _ _, fun _ h => by simp at h, List.Pairwise.nil⟩
theorem Env.next (h : Env w X L) (hb : Below X.heap.size X X') : Env w X' L := ⟨below_next h.bel hb, fun p hp => ⟨(h.blk p hp).1.next hb, (h.blk p hp).2⟩, h.inc⟩
theorem Env.drew (h : Env w X L) : Env w X.drew L := h.next (below_drew (Below.refl _ _))
theorem Env.drewN (h : Env w X L) (n : Nat) : Env w (X.drewN n) L := h.next (below_drewN (Below.refl _ _) n)
theorem Env.skip (h : Env w X L) (o : Obj) : Env w (X.alloc o) L := h.next (below_alloc (Below.refl _ _) o)
theorem Env.alloc (h : Env w X L) (t : TypeId) (cs : List Value) : Env w (X.alloc (.cells cs.toArray t)) (L ++ [(X.heap.size, t, cs)]) := by
  have hn := h.skip (.cells cs.toArray t)
  refine ⟨hn.bel, fun p hp => ?_, ?_⟩
  · rcases List.mem_append.1 hp with hp | hp
    · exact hn.blk p hp
    · obtain rfl := List.mem_singleton.1 hp
      exact ⟨Blk.new X t _, h.bel.size⟩
  · rw [List.pairwise_append]
    refine ⟨h.inc, List.pairwise_singleton _ _, fun p hp q hq => ?_⟩
    obtain rfl := List.mem_singleton.1 hq
    exact (h.blk p hp).1.lt
theorem Env.grown (h : Env w X L) {row : Option Nat} (hg : X.grownBy X' row) (hr : ∀ k, row = some k → w.heap.size ≤ k) (hne : ∀ p ∈ L, some p.1 ≠ row) : Env w X' L :=
  ⟨h.bel.grown hg h.bel.size hr, fun p hp => ⟨(h.blk p hp).1.grown hg (hne p hp), (h.blk p hp).2⟩, h.inc⟩
theorem Env.grown0 (h : Env w X L) (hg : X.grownBy X' none) : Env w X' L := h.grown hg (by simp) (by simp)
theorem Env.set (h : Env w X L) (k i : Nat) (u : Value) {g : Nat} {t : TypeId} {cs : List Value} (hk : L[k]? = some (g, t, cs)) : Env w (X.setCell ⟨g, i, none⟩ u) (L.set k (g, t, cs.set i u)) := by
  have hkl : k < L.length := (List.getElem?_eq_some_iff.1 hk).1
  have hke : L[k] = (g, t, cs) := (List.getElem?_eq_some_iff.1 hk).2
  have hm : (g, t, cs) ∈ L := by rw [← hke]; exact List.getElem_mem _
  have hg := (h.blk _ hm).2
  have hpw := List.pairwise_iff_getElem.1 h.inc
  have hbel := h.bel.setCell (p := ⟨g, i, none⟩) hg u
  have hget : ∀ (j : Nat) (hj : j < L.length), (L.set k (g, t, cs.set i u))[j]'(by simpa using hj) = if k = j then (g, t, cs.set i u) else L[j] := fun j hj => by rw [List.getElem_set]
  refine ⟨hbel, fun p hp => ?_, ?_⟩
  · obtain ⟨j, hj, rfl⟩ := List.getElem_of_mem hp
    have hj' : j < L.length := by simpa using hj
    rw [hget j hj']
    by_cases hkj : k = j
    · rw [if_pos hkj]
      refine ⟨?_, hg⟩
      have := (h.blk _ hm).1.set_ i u
      simpa using this
    · rw [if_neg hkj]
      have hne : L[j].1 ≠ g := by
        have hke1 : L[k].1 = g := by rw [hke]
        rcases Nat.lt_or_ge k j with h1 | h1
        · have := hpw k j hkl hj' h1; omega
        · have := hpw j k hj' hkl (by omega); omega
      exact ⟨(h.blk _ (List.getElem_mem _)).1.far hne u, (h.blk _ (List.getElem_mem _)).2⟩
  · rw [List.pairwise_iff_getElem]
    intro a b ha hb hab
    have ha' : a < L.length := by simpa using ha
    have hb' : b < L.length := by simpa using hb
    rw [hget a ha', hget b hb']
    have hke1 : L[k].1 = g := by rw [hke]
    have := hpw a b ha' hb' hab
    by_cases e1 : k = a
    · subst e1
      rw [if_pos rfl, if_neg (by omega)]
      show g < _
      omega
    · rw [if_neg e1]
      by_cases e2 : k = b
      · subst e2
        rw [if_pos rfl]
        show _ < g
        omega
      · rw [if_neg e2]; exact this
/-- One of the blocks turned. -/
theorem Env.turn (h : Env w X L) {k g : Nat} {t : TypeId} {cs cs' : List Value} (hk : L[k]? = some (g, t, cs)) (hg : X.grownBy X' (some g)) (hb : Blk X' g t cs'.toArray) : Env w X' (L.set k (g, t, cs')) := by
  have hkl : k < L.length := (List.getElem?_eq_some_iff.1 hk).1
  have hke : L[k] = (g, t, cs) := (List.getElem?_eq_some_iff.1 hk).2
  have hm : (g, t, cs) ∈ L := by rw [← hke]; exact List.getElem_mem _
  have hgw := (h.blk _ hm).2
  have hs := h.set k 0 undef hk
  have hpw := List.pairwise_iff_getElem.1 h.inc
  have hbel : Below w.heap.size w X' := h.bel.grown hg h.bel.size (fun j hj => by injection hj with hj; omega)
  have hget : ∀ (j : Nat) (hj : j < L.length) (x : Nat × TypeId × List Value), (L.set k x)[j]'(by simpa using hj) = if k = j then x else L[j] := fun j hj x => by rw [List.getElem_set]
  refine ⟨hbel, fun p hp => ?_, ?_⟩
  · obtain ⟨j, hj, rfl⟩ := List.getElem_of_mem hp
    have hj' : j < L.length := by simpa using hj
    rw [hget j hj']
    by_cases hkj : k = j
    · rw [if_pos hkj]
      exact ⟨hb, hgw⟩
    · rw [if_neg hkj]
      have hne : L[j].1 ≠ g := by
        have hke1 : L[k].1 = g := by rw [hke]
        rcases Nat.lt_or_ge k j with h1 | h1
        · have := hpw k j hkl hj' h1; omega
        · have := hpw j k hj' hkl (by omega); omega
      exact ⟨(h.blk _ (List.getElem_mem _)).1.grown hg (by intro he; injection he with he; exact hne he), (h.blk _ (List.getElem_mem _)).2⟩
  · have := hs.inc
    rw [List.pairwise_iff_getElem] at this ⊢
    intro a b ha hb' hab
    have ha' : a < L.length := by simpa using ha
    have hb'' : b < L.length := by simpa using hb'
    have h3 := this a b (by simpa using ha') (by simpa using hb'') hab
    rw [hget a ha', hget b hb''] at h3 ⊢
    split <;> split <;> rename_i e1 e2 <;> simp only [e1, e2, if_true, if_false] at h3 <;> first | exact h3 | (simp_all; done)
/-- A store into a block that is none of these, but the call's own. -/
theorem Env.far (h : Env w X L) {p : Addr} (hw : w.heap.size ≤ p.block) (hne : ∀ q ∈ L, q.1 ≠ p.block) (u : Value) : Env w (X.setCell p u) L :=
  ⟨h.bel.setCell hw u, fun q hq => ⟨(h.blk q hq).1.far (hne q hq) u, (h.blk q hq).2⟩, h.inc⟩
theorem Env.at (h : Env w X L) (k : Nat) {g : Nat} {t : TypeId} {cs : List Value} (hk : L[k]? = some (g, t, cs)) : Blk X g t cs.toArray := by
  have hm : (g, t, cs) ∈ L := List.mem_of_getElem? hk
  exact (h.blk _ hm).1
/-- Fewer blocks. -/
theorem Env.take (h : Env w X L) (n : Nat) : Env w X (L.take n) := ⟨h.bel, fun p hp => h.blk p (List.mem_of_mem_take hp), h.inc.sublist (List.take_sublist _ _)⟩
theorem Env.erase (h : Env w X L) (n : Nat) : Env w X (L.eraseIdx n) := ⟨h.bel, fun p hp => h.blk p (List.mem_of_mem_eraseIdx hp), h.inc.sublist (List.eraseIdx_sublist _ _)⟩
end
end Go.Proofs.YthjmficglpfgpaaDoor
namespace Go.Proofs.YthjmficglpfgpaaDoor
set_option linter.unusedVariables false
set_option linter.unusedSimpArgs false
open Go Go.RowKit

/-- Where the walk is to stand still. -/
def Halted (p : Prop) : Prop := p
theorem Halted.in_ {p : Prop} (h : Halted p) : p := h
theorem Halted.on {p : Prop} (h : p) : Halted p := h
section
variable {P : Program} {Q : Exit → Act → World → Prop} {md : Region.Mode} {S : World → Prop} {n g : Nat} {R : Act → World → Prop}
/-- What operation o does, wherever it comes up: it tells v, of which D holds, and turns nothing that stood. -/
def WStep (P : Program) (ops : Array Oper) (o : Oper) (a : Act) (w : World) (K : Act → World → Prop) (Q : Exit → Act → World → Prop) (E : Prop) : Prop := if Region.wanted o (yielded ops a.tmps) = true then Oper.wp P o a w K Q else E
def MakesAt (P : Program) (l : List Oper) (Q : Exit → Act → World → Prop) (o : Oper) (a : Act) (w : World) (D : Value → World → Prop) : Prop :=
  ∀ K' : Act → World → Prop, Shut (∀ v w', Below w.heap.size w w' → D v w' → K' (a.put o.dst v) w') → WStep P l.toArray o a w K' Q (K' (a.put o.dst undef) w)
def Lasts (D : Value → World → Prop) : Prop := ∀ v w w', Below w.heap.size w w' → D v w → D v w'
theorem MakesAt.wpOp {l : List Oper} {o : Oper} {i : Nat} {a : Act} {w : World} {D : Value → World → Prop} (h : MakesAt P l Q o a w D) (hi : l[i]? = some o) {K : Act → World → Prop} (hK : ∀ v w', Below w.heap.size w w' → D v w' → K (a.put o.dst v) w') : wpOp P l.toArray Q i K a w :=
  wpOp_step (by simpa using hi) (fun K' hK' => h K' (fun v w' hb hd => hK' _ _ (hK v w' hb hd)))
theorem wpHead_two {l : List Oper} {i j : Nat} {oi oj : Oper} {f : Nat} {listed : Array Bool} {a : Act} {W : World} (hi : l[i]? = some oi) (hj : l[j]? = some oj)
    (hr : Region.ready md l.toArray listed = [i, j]) (hr1 : Region.ready md l.toArray (listed.setIfInBounds i true) = [j]) (hr2 : Region.ready md l.toArray (listed.setIfInBounds j true) = [i])
    (hin : decide (i < n ∧ j < n ∧ i ≠ j ∧ oi.dst ≠ none ∧ oi.dst ≠ oj.dst) = true) (Di Dj : Value → World → Prop) (si : Lasts Di) (sj : Lasts Dj) (hS : ∀ w', Below W.heap.size W w' → S w')
    (Hi : ∀ a' w', (a' = a ∨ ∃ u, a' = a.put oj.dst u) → Below W.heap.size W w' → MakesAt P l Q oi a' w' Di)
    (Hj : ∀ a' w', (a' = a ∨ ∃ v, a' = a.put oi.dst v) → Below W.heap.size W w' → MakesAt P l Q oj a' w' Dj)
    (H : ∀ v u w', Below W.heap.size W w' → Di v w' → Dj u w' → wpHead P md l.toArray Q S n g R f ((listed.setIfInBounds i true).setIfInBounds j true) ((a.put oi.dst v).put oj.dst u) w') :
    wpHead P md l.toArray Q S n g R (f + 2) listed a W := by
  obtain ⟨h1, h2, h3, h4, h5⟩ := of_decide_eq_true hin
  have hd : ∀ d, oi.dst = some d → oj.dst ≠ some d := fun d hd he => h5 (hd.trans he.symm)
  intro _
  refine ⟨by rw [hr]; simp, fun k hk => ?_⟩
  rw [hr] at hk
  simp only [List.mem_cons, List.not_mem_nil, or_false] at hk
  rcases hk with rfl | rfl
  · refine ⟨h1, (Hi a W (.inl rfl) (Below.refl _ _)).wpOp hi fun v w1 hb1 hv => ⟨hS _ hb1, fun _ => ⟨by rw [hr1]; simp, fun k hk => ?_⟩⟩⟩
    rw [hr1] at hk
    obtain rfl := List.mem_singleton.1 hk
    refine ⟨h2, (Hj _ w1 (.inr ⟨v, rfl⟩) hb1).wpOp hj fun u w2 hb2 hu => ?_⟩
    have hb := hb1.trans (hb2.mono hb1.size)
    exact ⟨hS _ hb, H v u w2 hb (si v w1 w2 hb2 hv) hu⟩
  · refine ⟨h2, (Hj a W (.inl rfl) (Below.refl _ _)).wpOp hj fun u w1 hb1 hu => ⟨hS _ hb1, fun _ => ⟨by rw [hr2]; simp, fun k hk => ?_⟩⟩⟩
    rw [hr2] at hk
    obtain rfl := List.mem_singleton.1 hk
    refine ⟨h1, (Hi _ w1 (.inr ⟨u, rfl⟩) hb1).wpOp hi fun v w2 hb2 hv => ?_⟩
    have hb := hb1.trans (hb2.mono hb1.size)
    have := H v u w2 hb hv (sj u w1 w2 hb2 hu)
    rw [Act.put_comm a v u hd, Array.setIfInBounds_comm _ _ h3] at this
    exact ⟨hS _ hb, this⟩
/-- One such operation. -/
theorem wpHead_one {l : List Oper} {i : Nat} {oi : Oper} {f : Nat} {listed : Array Bool} {a : Act} {W : World} (hi : l[i]? = some oi) (hr : Region.ready md l.toArray listed = [i]) (hin : decide (i < n) = true) (Di : Value → World → Prop)
    (hS : ∀ w', Below W.heap.size W w' → S w') (Hi : MakesAt P l Q oi a W Di)
    (H : ∀ v w', Below W.heap.size W w' → Di v w' → wpHead P md l.toArray Q S n g R f (listed.setIfInBounds i true) (a.put oi.dst v) w') :
    wpHead P md l.toArray Q S n g R (f + 1) listed a W := by
  intro _
  refine ⟨by rw [hr]; simp, fun k hk => ?_⟩
  rw [hr] at hk
  obtain rfl := List.mem_singleton.1 hk
  exact ⟨of_decide_eq_true hin, Hi.wpOp hi fun v w1 hb1 hv => ⟨hS _ hb1, H v w1 hb1 hv⟩⟩
end
section
variable {α : Type} [Enc α] {w : World} {B : Nat} {e : TypeId} {xs : List α} {P : Program}
open Enc
theorem grown_none {w w' : World} {v : Value} (hg : w.grownBy w' v.ownBlock) (hv : v.ownBlock = none) : Below w.heap.size w w' := ⟨hg.os, hg.tape, hg.output, hg.size, fun k hk => hg.block k hk (by rw [hv]; simp)⟩
/-- append of nil and a row. -/
theorem makes_clone {l : List Oper} {o : Oper} {a : Act} {Q : Exit → Act → World → Prop} {t bytes : Nat} (hT : SlT P t e α bytes) (hgd : o.guard = none) {s x : Operand}
    (ho : o.op = .call { callee := .builtin .append, args := #[s, x], argTypes := #[t, t] }) (y : Value) (hs : a.eval s = .slice none 0 0) (hx : a.eval x = y) (hr : Row w y xs)
    (hbytes : (([] : List α).length + xs.length) * bytes ≤ 140737488355328) (hb0 : 0 < bytes) (hB : B ≤ w.heap.size) : MakesAt P l Q o a w (fun v w' => Own w' B e v xs) := fun K hK =>
  step_append (B := B) (xs := ([] : List α)) (ys := xs) hT hgd ho (.slice none 0 0) y hs hx (Own.nil _ _ _) hr hbytes hb0 hB fun v' w2 ho hg _ => hK.out v' w2 (grown_none hg rfl) (by simpa using ho)
end
end Go.Proofs.YthjmficglpfgpaaDoor
