/- More words on worlds. -/
import Derived.Test.YthjmficglpfgpaaDoorBase
import Derived.Lib.Hide
import Derived.Deep.QuietTactic
import Derived.BigQuiet
import Derived.Deep.RegionHeld3
import Derived.Laws.StructEq
import Derived.Laws.EntriesVeiled
import Derived.Laws.Rows
namespace Go.Proofs.YthjmficglpfgpaaDoor
set_option linter.unusedVariables false
set_option linter.unusedSimpArgs false
open Go Go.RowKit Enc
/-- What stood reads as it did: rules that the walk uses by itself. -/
theorem bcell {W w1 : World} (hb : Below W.heap.size W w1) : (∀ b o, b < W.heap.size → w1.cell? ⟨b, o, none⟩ = W.cell? ⟨b, o, none⟩) ∧ (∀ b o, b < W.heap.size → w1.frozen? ⟨b, o, none⟩ = W.frozen? ⟨b, o, none⟩) ∧ W.heap.size ≤ w1.heap.size :=
  ⟨fun b o h => hb.cell (p := ⟨b, o, none⟩) h, fun b o h => hb.frozen (p := ⟨b, o, none⟩) h, hb.size⟩
theorem Blk.new1 (w : World) (o : Obj) (t : TypeId) (cs : Array Value) : Blk ((w.alloc o).alloc (.cells cs t)) (w.heap.size + 1) t cs := by
  have := Blk.new (w.alloc o) t cs
  rwa [World.size_alloc] at this
theorem Blk.new2 (w : World) (o o' : Obj) (t : TypeId) (cs : Array Value) : Blk (((w.alloc o).alloc o').alloc (.cells cs t)) (w.heap.size + 2) t cs := by
  have := Blk.new1 (w.alloc o) o' t cs
  rwa [World.size_alloc] at this
theorem Blk.new3 (w : World) (o o' o'' : Obj) (t : TypeId) (cs : Array Value) : Blk ((((w.alloc o).alloc o').alloc o'').alloc (.cells cs t)) (w.heap.size + 3) t cs := by
  have := Blk.new2 (w.alloc o) o' o'' t cs
  rwa [World.size_alloc] at this
theorem Blk.c8 {w : World} {g : Nat} {t : TypeId} {a0 a1 a2 a3 a4 a5 a6 a7 : Value} (h : Blk w g t #[a0, a1, a2, a3, a4, a5, a6, a7]) :
    w.cell? ⟨g, 0, none⟩ = some a0 ∧ w.cell? ⟨g, 1, none⟩ = some a1 ∧ w.cell? ⟨g, 2, none⟩ = some a2 ∧ w.cell? ⟨g, 3, none⟩ = some a3 ∧ w.cell? ⟨g, 4, none⟩ = some a4 ∧ w.cell? ⟨g, 5, none⟩ = some a5 ∧ w.cell? ⟨g, 6, none⟩ = some a6 ∧ w.cell? ⟨g, 7, none⟩ = some a7 :=
  ⟨h.cell 0, h.cell 1, h.cell 2, h.cell 3, h.cell 4, h.cell 5, h.cell 6, h.cell 7⟩
/-! ### Results that lie in memory -/
section
variable {P : Program} {w : World}
/-- A variable of an aggregate type reads whole. -/
structure AggT (P : Program) (t : TypeId) (n : Nat) : Prop where
  und : ∃ d, P.underlying t = some d ∧ (match d with | .struct _ | .array _ _ => true | _ => false) = true
  sz : (P.info? t).map (·.size) = some n
theorem load_blk {t e g n : Nat} {cs : Array Value} (hT : AggT P t n) (hn : cs.size = n) (hb : Blk w g e cs) : (loadVar t ⟨g, 0, none⟩).run P w = .ok (.agg cs) w := by
  obtain ⟨d, hu, hd⟩ := hT.und
  exact run_loadVar_row w g e t cs (0, 0) d hb hu (by cases d <;> first | rfl | exact absurd hd (by decide) | (simp at hd)) (by rw [hT.sz, hn])
theorem res_cell {fn : Func} {p : Tmp} {t e g n : Nat} {cs : Array Value} (h : fn.results = #[.cell p t]) (tmps : Array Value) (hp : tmps.getD p undef = .pointer (some ⟨g, 0, none⟩)) (hT : AggT P t n) (hn : cs.size = n) (hb : Blk w g e cs) :
    (results fn tmps).run P w = .ok (.agg cs) w := by
  have hp' : tmps[p]?.getD undef = .pointer (some ⟨g, 0, none⟩) := by simpa using hp
  simp [results, h, hp', asAddr, load_blk hT hn hb]
theorem res_cell_tmp {fn : Func} {p u : Tmp} {t e g n : Nat} {cs : Array Value} (h : fn.results = #[.cell p t, .tmp u]) (tmps : Array Value) (hp : tmps.getD p undef = .pointer (some ⟨g, 0, none⟩)) (hT : AggT P t n) (hn : cs.size = n) (hb : Blk w g e cs) :
    (results fn tmps).run P w = .ok (.tuple #[.agg cs, tmps.getD u undef]) w := by
  have hp' : tmps[p]?.getD undef = .pointer (some ⟨g, 0, none⟩) := by simpa using hp
  simp [results, h, hp', asAddr, load_blk hT hn hb]
theorem res_cell_cell {fn : Func} {p q : Tmp} {t t' e e' g g' n n' : Nat} {cs cs' : Array Value} (h : fn.results = #[.cell p t, .cell q t']) (tmps : Array Value) (hp : tmps.getD p undef = .pointer (some ⟨g, 0, none⟩)) (hq : tmps.getD q undef = .pointer (some ⟨g', 0, none⟩)) (hT : AggT P t n) (hn : cs.size = n) (hb : Blk w g e cs) (hT' : AggT P t' n') (hn' : cs'.size = n') (hb' : Blk w g' e' cs') :
    (results fn tmps).run P w = .ok (.tuple #[.agg cs, .agg cs']) w := by
  have hp' : tmps[p]?.getD undef = .pointer (some ⟨g, 0, none⟩) := by simpa using hp
  have hq' : tmps[q]?.getD undef = .pointer (some ⟨g', 0, none⟩) := by simpa using hq
  simp [results, h, hp', hq', asAddr, load_blk hT hn hb, load_blk hT' hn' hb']
theorem res_cell_cell_tmp {fn : Func} {p q u : Tmp} {t t' e e' g g' n n' : Nat} {cs cs' : Array Value} (h : fn.results = #[.cell p t, .cell q t', .tmp u]) (tmps : Array Value) (hp : tmps.getD p undef = .pointer (some ⟨g, 0, none⟩)) (hq : tmps.getD q undef = .pointer (some ⟨g', 0, none⟩)) (hT : AggT P t n) (hn : cs.size = n) (hb : Blk w g e cs) (hT' : AggT P t' n') (hn' : cs'.size = n') (hb' : Blk w g' e' cs') :
    (results fn tmps).run P w = .ok (.tuple #[.agg cs, .agg cs', tmps.getD u undef]) w := by
  have hp' : tmps[p]?.getD undef = .pointer (some ⟨g, 0, none⟩) := by simpa using hp
  have hq' : tmps[q]?.getD undef = .pointer (some ⟨g', 0, none⟩) := by simpa using hq
  simp [results, h, hp', hq', asAddr, load_blk hT hn hb, load_blk hT' hn' hb']
theorem res_cell_tmp_tmp {fn : Func} {p u x : Tmp} {t e g n : Nat} {cs : Array Value} (h : fn.results = #[.cell p t, .tmp u, .tmp x]) (tmps : Array Value) (hp : tmps.getD p undef = .pointer (some ⟨g, 0, none⟩)) (hT : AggT P t n) (hn : cs.size = n) (hb : Blk w g e cs) :
    (results fn tmps).run P w = .ok (.tuple #[.agg cs, tmps.getD u undef, tmps.getD x undef]) w := by
  have hp' : tmps[p]?.getD undef = .pointer (some ⟨g, 0, none⟩) := by simpa using hp
  simp [results, h, hp', asAddr, load_blk hT hn hb]
theorem Blk.chain2 {g : Nat} {t : TypeId} {b0 b1 a0 a1 : Value} (h : Blk w g t #[b0, b1]) : Blk ((w.setCell ⟨g, 0, none⟩ a0).setCell ⟨g, 1, none⟩ a1) g t #[a0, a1] := by
  have := ((h.set_ 0 a0).set_ 1 a1)
  simpa only [List.setIfInBounds_toArray, List.set_cons_zero, List.set_cons_succ] using this
theorem Blk.chain3 {g : Nat} {t : TypeId} {b0 b1 b2 a0 a1 a2 : Value} (h : Blk w g t #[b0, b1, b2]) : Blk (((w.setCell ⟨g, 0, none⟩ a0).setCell ⟨g, 1, none⟩ a1).setCell ⟨g, 2, none⟩ a2) g t #[a0, a1, a2] := by
  have := (((h.set_ 0 a0).set_ 1 a1).set_ 2 a2)
  simpa only [List.setIfInBounds_toArray, List.set_cons_zero, List.set_cons_succ] using this
theorem Blk.chain5 {g : Nat} {t : TypeId} {b0 b1 b2 b3 b4 a0 a1 a2 a3 a4 : Value} (h : Blk w g t #[b0, b1, b2, b3, b4]) : Blk (((((w.setCell ⟨g, 0, none⟩ a0).setCell ⟨g, 1, none⟩ a1).setCell ⟨g, 2, none⟩ a2).setCell ⟨g, 3, none⟩ a3).setCell ⟨g, 4, none⟩ a4) g t #[a0, a1, a2, a3, a4] := by
  have := (((((h.set_ 0 a0).set_ 1 a1).set_ 2 a2).set_ 3 a3).set_ 4 a4)
  simpa only [List.setIfInBounds_toArray, List.set_cons_zero, List.set_cons_succ] using this
theorem Blk.chain7 {g : Nat} {t : TypeId} {b0 b1 b2 b3 b4 b5 b6 a0 a1 a2 a3 a4 a5 a6 : Value} (h : Blk w g t #[b0, b1, b2, b3, b4, b5, b6]) : Blk (((((((w.setCell ⟨g, 0, none⟩ a0).setCell ⟨g, 1, none⟩ a1).setCell ⟨g, 2, none⟩ a2).setCell ⟨g, 3, none⟩ a3).setCell ⟨g, 4, none⟩ a4).setCell ⟨g, 5, none⟩ a5).setCell ⟨g, 6, none⟩ a6) g t #[a0, a1, a2, a3, a4, a5, a6] := by
  have := (((((((h.set_ 0 a0).set_ 1 a1).set_ 2 a2).set_ 3 a3).set_ 4 a4).set_ 5 a5).set_ 6 a6)
  simpa only [List.setIfInBounds_toArray, List.set_cons_zero, List.set_cons_succ] using this
theorem Blk.chain8 {g : Nat} {t : TypeId} {b0 b1 b2 b3 b4 b5 b6 b7 a0 a1 a2 a3 a4 a5 a6 a7 : Value} (h : Blk w g t #[b0, b1, b2, b3, b4, b5, b6, b7]) : Blk ((((((((w.setCell ⟨g, 0, none⟩ a0).setCell ⟨g, 1, none⟩ a1).setCell ⟨g, 2, none⟩ a2).setCell ⟨g, 3, none⟩ a3).setCell ⟨g, 4, none⟩ a4).setCell ⟨g, 5, none⟩ a5).setCell ⟨g, 6, none⟩ a6).setCell ⟨g, 7, none⟩ a7) g t #[a0, a1, a2, a3, a4, a5, a6, a7] := by
  have := ((((((((h.set_ 0 a0).set_ 1 a1).set_ 2 a2).set_ 3 a3).set_ 4 a4).set_ 5 a5).set_ 6 a6).set_ 7 a7)
  simpa only [List.setIfInBounds_toArray, List.set_cons_zero, List.set_cons_succ] using this
theorem Blk.chain10 {g : Nat} {t : TypeId} {b0 b1 b2 b3 b4 b5 b6 b7 b8 b9 a0 a1 a2 a3 a4 a5 a6 a7 a8 a9 : Value} (h : Blk w g t #[b0, b1, b2, b3, b4, b5, b6, b7, b8, b9]) : Blk ((((((((((w.setCell ⟨g, 0, none⟩ a0).setCell ⟨g, 1, none⟩ a1).setCell ⟨g, 2, none⟩ a2).setCell ⟨g, 3, none⟩ a3).setCell ⟨g, 4, none⟩ a4).setCell ⟨g, 5, none⟩ a5).setCell ⟨g, 6, none⟩ a6).setCell ⟨g, 7, none⟩ a7).setCell ⟨g, 8, none⟩ a8).setCell ⟨g, 9, none⟩ a9) g t #[a0, a1, a2, a3, a4, a5, a6, a7, a8, a9] := by
  have := ((((((((((h.set_ 0 a0).set_ 1 a1).set_ 2 a2).set_ 3 a3).set_ 4 a4).set_ 5 a5).set_ 6 a6).set_ 7 a7).set_ 8 a8).set_ 9 a9)
  simpa only [List.setIfInBounds_toArray, List.set_cons_zero, List.set_cons_succ] using this
theorem Blk.chain11 {g : Nat} {t : TypeId} {b0 b1 b2 b3 b4 b5 b6 b7 b8 b9 b10 a0 a1 a2 a3 a4 a5 a6 a7 a8 a9 a10 : Value} (h : Blk w g t #[b0, b1, b2, b3, b4, b5, b6, b7, b8, b9, b10]) : Blk (((((((((((w.setCell ⟨g, 0, none⟩ a0).setCell ⟨g, 1, none⟩ a1).setCell ⟨g, 2, none⟩ a2).setCell ⟨g, 3, none⟩ a3).setCell ⟨g, 4, none⟩ a4).setCell ⟨g, 5, none⟩ a5).setCell ⟨g, 6, none⟩ a6).setCell ⟨g, 7, none⟩ a7).setCell ⟨g, 8, none⟩ a8).setCell ⟨g, 9, none⟩ a9).setCell ⟨g, 10, none⟩ a10) g t #[a0, a1, a2, a3, a4, a5, a6, a7, a8, a9, a10] := by
  have := (((((((((((h.set_ 0 a0).set_ 1 a1).set_ 2 a2).set_ 3 a3).set_ 4 a4).set_ 5 a5).set_ 6 a6).set_ 7 a7).set_ 8 a8).set_ 9 a9).set_ 10 a10)
  simpa only [List.setIfInBounds_toArray, List.set_cons_zero, List.set_cons_succ] using this
theorem Blk.far2 {g g' : Nat} {t : TypeId} {cs : Array Value} {a0 a1 : Value} (h : Blk w g t cs) (hne : g ≠ g') : Blk ((w.setCell ⟨g', 0, none⟩ a0).setCell ⟨g', 1, none⟩ a1) g t cs := (Blk.far (p := ⟨g', 1, none⟩) (Blk.far (p := ⟨g', 0, none⟩) h hne a0) hne a1)
theorem Blk.far3 {g g' : Nat} {t : TypeId} {cs : Array Value} {a0 a1 a2 : Value} (h : Blk w g t cs) (hne : g ≠ g') : Blk (((w.setCell ⟨g', 0, none⟩ a0).setCell ⟨g', 1, none⟩ a1).setCell ⟨g', 2, none⟩ a2) g t cs := (Blk.far (p := ⟨g', 2, none⟩) (Blk.far (p := ⟨g', 1, none⟩) (Blk.far (p := ⟨g', 0, none⟩) h hne a0) hne a1) hne a2)
theorem Blk.far5 {g g' : Nat} {t : TypeId} {cs : Array Value} {a0 a1 a2 a3 a4 : Value} (h : Blk w g t cs) (hne : g ≠ g') : Blk (((((w.setCell ⟨g', 0, none⟩ a0).setCell ⟨g', 1, none⟩ a1).setCell ⟨g', 2, none⟩ a2).setCell ⟨g', 3, none⟩ a3).setCell ⟨g', 4, none⟩ a4) g t cs := (Blk.far (p := ⟨g', 4, none⟩) (Blk.far (p := ⟨g', 3, none⟩) (Blk.far (p := ⟨g', 2, none⟩) (Blk.far (p := ⟨g', 1, none⟩) (Blk.far (p := ⟨g', 0, none⟩) h hne a0) hne a1) hne a2) hne a3) hne a4)
theorem Blk.far7 {g g' : Nat} {t : TypeId} {cs : Array Value} {a0 a1 a2 a3 a4 a5 a6 : Value} (h : Blk w g t cs) (hne : g ≠ g') : Blk (((((((w.setCell ⟨g', 0, none⟩ a0).setCell ⟨g', 1, none⟩ a1).setCell ⟨g', 2, none⟩ a2).setCell ⟨g', 3, none⟩ a3).setCell ⟨g', 4, none⟩ a4).setCell ⟨g', 5, none⟩ a5).setCell ⟨g', 6, none⟩ a6) g t cs := (Blk.far (p := ⟨g', 6, none⟩) (Blk.far (p := ⟨g', 5, none⟩) (Blk.far (p := ⟨g', 4, none⟩) (Blk.far (p := ⟨g', 3, none⟩) (Blk.far (p := ⟨g', 2, none⟩) (Blk.far (p := ⟨g', 1, none⟩) (Blk.far (p := ⟨g', 0, none⟩) h hne a0) hne a1) hne a2) hne a3) hne a4) hne a5) hne a6)
theorem Blk.far8 {g g' : Nat} {t : TypeId} {cs : Array Value} {a0 a1 a2 a3 a4 a5 a6 a7 : Value} (h : Blk w g t cs) (hne : g ≠ g') : Blk ((((((((w.setCell ⟨g', 0, none⟩ a0).setCell ⟨g', 1, none⟩ a1).setCell ⟨g', 2, none⟩ a2).setCell ⟨g', 3, none⟩ a3).setCell ⟨g', 4, none⟩ a4).setCell ⟨g', 5, none⟩ a5).setCell ⟨g', 6, none⟩ a6).setCell ⟨g', 7, none⟩ a7) g t cs := (Blk.far (p := ⟨g', 7, none⟩) (Blk.far (p := ⟨g', 6, none⟩) (Blk.far (p := ⟨g', 5, none⟩) (Blk.far (p := ⟨g', 4, none⟩) (Blk.far (p := ⟨g', 3, none⟩) (Blk.far (p := ⟨g', 2, none⟩) (Blk.far (p := ⟨g', 1, none⟩) (Blk.far (p := ⟨g', 0, none⟩) h hne a0) hne a1) hne a2) hne a3) hne a4) hne a5) hne a6) hne a7)
theorem Blk.far10 {g g' : Nat} {t : TypeId} {cs : Array Value} {a0 a1 a2 a3 a4 a5 a6 a7 a8 a9 : Value} (h : Blk w g t cs) (hne : g ≠ g') : Blk ((((((((((w.setCell ⟨g', 0, none⟩ a0).setCell ⟨g', 1, none⟩ a1).setCell ⟨g', 2, none⟩ a2).setCell ⟨g', 3, none⟩ a3).setCell ⟨g', 4, none⟩ a4).setCell ⟨g', 5, none⟩ a5).setCell ⟨g', 6, none⟩ a6).setCell ⟨g', 7, none⟩ a7).setCell ⟨g', 8, none⟩ a8).setCell ⟨g', 9, none⟩ a9) g t cs := (Blk.far (p := ⟨g', 9, none⟩) (Blk.far (p := ⟨g', 8, none⟩) (Blk.far (p := ⟨g', 7, none⟩) (Blk.far (p := ⟨g', 6, none⟩) (Blk.far (p := ⟨g', 5, none⟩) (Blk.far (p := ⟨g', 4, none⟩) (Blk.far (p := ⟨g', 3, none⟩) (Blk.far (p := ⟨g', 2, none⟩) (Blk.far (p := ⟨g', 1, none⟩) (Blk.far (p := ⟨g', 0, none⟩) h hne a0) hne a1) hne a2) hne a3) hne a4) hne a5) hne a6) hne a7) hne a8) hne a9)
theorem Blk.far11 {g g' : Nat} {t : TypeId} {cs : Array Value} {a0 a1 a2 a3 a4 a5 a6 a7 a8 a9 a10 : Value} (h : Blk w g t cs) (hne : g ≠ g') : Blk (((((((((((w.setCell ⟨g', 0, none⟩ a0).setCell ⟨g', 1, none⟩ a1).setCell ⟨g', 2, none⟩ a2).setCell ⟨g', 3, none⟩ a3).setCell ⟨g', 4, none⟩ a4).setCell ⟨g', 5, none⟩ a5).setCell ⟨g', 6, none⟩ a6).setCell ⟨g', 7, none⟩ a7).setCell ⟨g', 8, none⟩ a8).setCell ⟨g', 9, none⟩ a9).setCell ⟨g', 10, none⟩ a10) g t cs := (Blk.far (p := ⟨g', 10, none⟩) (Blk.far (p := ⟨g', 9, none⟩) (Blk.far (p := ⟨g', 8, none⟩) (Blk.far (p := ⟨g', 7, none⟩) (Blk.far (p := ⟨g', 6, none⟩) (Blk.far (p := ⟨g', 5, none⟩) (Blk.far (p := ⟨g', 4, none⟩) (Blk.far (p := ⟨g', 3, none⟩) (Blk.far (p := ⟨g', 2, none⟩) (Blk.far (p := ⟨g', 1, none⟩) (Blk.far (p := ⟨g', 0, none⟩) h hne a0) hne a1) hne a2) hne a3) hne a4) hne a5) hne a6) hne a7) hne a8) hne a9) hne a10)
end
end Go.Proofs.YthjmficglpfgpaaDoor
