/- A state in a variable. -/
import Derived.Test.YthjmficglpfgpaaDoorL2
namespace Go.Proofs.YthjmficglpfgpaaDoor
set_option linter.unusedVariables false
set_option linter.unusedSimpArgs false
open Go Go.RowKit Enc
set_option maxRecDepth 100000

/-- Elements that begin with two numbers. -/
class Two (α : Type) [Enc α] : Prop where
  two : ∀ x : α, ∃ i j, (enc x)[0]? = some (.int .i64 i) ∧ (enc x)[1]? = some (.int .i64 j)
instance : Two Acc := ⟨fun _ => ⟨_, _, rfl, rfl⟩⟩
instance : Two Pay := ⟨fun _ => ⟨_, _, rfl, rfl⟩⟩
instance : Two Saga := ⟨fun _ => ⟨_, _, rfl, rfl⟩⟩
instance : Two Kn := ⟨fun _ => ⟨_, _, rfl, rfl⟩⟩
/-- The cells of a state's variable. -/
abbrev stCells (A1 : Option Addr) (n1 c1 : Nat) (A2 : Option Addr) (n2 c2 : Nat) (A3 : Option Addr) (n3 c3 : Nat) (A4 : Option Addr) (n4 c4 : Nat) (now : Int) : Array Value := #[.slice A1 n1 c1, .slice A2 n2 c2, .slice A3 n3 c3, .slice A4 n4 c4, .int .i64 now]
theorem Row.off {w : World} {v : Value} {α : Type} [Enc α] [Two α] {xs : List α} {g : Nat} {t : TypeId} {A1 A2 A3 A4 : Option Addr} {n1 c1 n2 c2 n3 c3 n4 c4 : Nat} {now : Int} (h : Row w v xs) (hb : Blk w g t (stCells A1 n1 c1 A2 n2 c2 A3 n3 c3 A4 n4 c4 now)) : xs ≠ [] → v.ownBlock ≠ some g := fun hne he => by
  obtain ⟨A, c, rfl, hm, hc⟩ := h
  have hl : 0 < xs.length := List.length_pos_iff.2 hne
  obtain ⟨b, o, rfl, hj⟩ := hc 0 hl
  obtain ⟨i, j, h0, h1⟩ := Two.two (xs[0])
  have e0 := hj 0 _ h0
  have e1 := hj 1 _ h1
  simp only [Value.ownBlock] at he
  injection he with he
  subst he
  rw [hb.cell] at e0 e1
  simp only [Nat.zero_mul, Nat.add_zero] at e0 e1
  rcases o with _ | _ | _ | _ | _ | o
  · simp at e0
  · simp at e0
  · simp at e0
  · simp at e0
  · simp at e1
  · simp at e0
theorem StV.over {w w' : World} {v : Value} {s : St} {g : Nat} {t : TypeId} {A1 A2 A3 A4 : Option Addr} {n1 c1 n2 c2 n3 c3 n4 c4 : Nat} {now : Int} (h : StV w v s) (hb : Blk w g t (stCells A1 n1 c1 A2 n2 c2 A3 n3 c3 A4 n4 c4 now)) (hg : w.grownBy w' (some g)) : StV w' v s := by
  obtain ⟨a, p, sg, k, rfl, ha, hp, hs, hk⟩ := h
  exact ⟨a, p, sg, k, rfl, ha.only (ha.off hb) hg, hp.only (hp.off hb) hg, hs.only (hs.off hb) hg, hk.only (hk.off hb) hg⟩
theorem set5_grown (w : World) (g : Nat) (a0 a1 a2 a3 a4 : Value) : w.grownBy (((((w.setCell ⟨g, 0, none⟩ a0).setCell ⟨g, 1, none⟩ a1).setCell ⟨g, 2, none⟩ a2).setCell ⟨g, 3, none⟩ a3).setCell ⟨g, 4, none⟩ a4) (some g) :=
  (((((World.grownBy.refl w (some g)).setCell (a := ⟨g, 0, none⟩) (g := g) rfl a0).setCell (a := ⟨g, 1, none⟩) rfl a1).setCell (a := ⟨g, 2, none⟩) rfl a2).setCell (a := ⟨g, 3, none⟩) rfl a3).setCell (a := ⟨g, 4, none⟩) rfl a4
/-- A state's cells. -/
theorem StV.open {w : World} {v : Value} {s : St} (h : StV w v s) : ∃ A1 c1 A2 c2 A3 c3 A4 c4, v = .agg #[.slice A1 s.accs.length c1, .slice A2 s.pays.length c2, .slice A3 s.sagas.length c3, .slice A4 s.known.length c4, .int .i64 s.now] ∧
    Row w (.slice A1 s.accs.length c1) s.accs ∧ Row w (.slice A2 s.pays.length c2) s.pays ∧ Row w (.slice A3 s.sagas.length c3) s.sagas ∧ Row w (.slice A4 s.known.length c4) s.known := by
  obtain ⟨a, p, g, k, rfl, ha, hp, hg, hk⟩ := h
  obtain ⟨A1, c1, rfl⟩ := ha.slice
  obtain ⟨A2, c2, rfl⟩ := hp.slice
  obtain ⟨A3, c3, rfl⟩ := hg.slice
  obtain ⟨A4, c4, rfl⟩ := hk.slice
  exact ⟨_, _, _, _, _, _, _, _, rfl, ha, hp, hg, hk⟩
theorem StV.mk' {w : World} {s : St} {A1 A2 A3 A4 : Option Addr} {c1 c2 c3 c4 : Nat} (h1 : Row w (.slice A1 s.accs.length c1) s.accs) (h2 : Row w (.slice A2 s.pays.length c2) s.pays) (h3 : Row w (.slice A3 s.sagas.length c3) s.sagas) (h4 : Row w (.slice A4 s.known.length c4) s.known) :
    StV w (.agg #[.slice A1 s.accs.length c1, .slice A2 s.pays.length c2, .slice A3 s.sagas.length c3, .slice A4 s.known.length c4, .int .i64 s.now]) s := ⟨_, _, _, _, rfl, h1, h2, h3, h4⟩
theorem StV.rows {w : World} {s : St} {v1 v2 v3 v4 v5 : Value} (h : StV w (.agg #[v1, v2, v3, v4, v5]) s) : Row w v1 s.accs ∧ Row w v2 s.pays ∧ Row w v3 s.sagas ∧ Row w v4 s.known := by
  obtain ⟨a, p, g, k, he, ha, hp, hg, hk⟩ := h
  injection he with he
  simp only [Array.mk.injEq, List.cons.injEq] at he
  obtain ⟨rfl, rfl, rfl, rfl, rfl, -⟩ := he
  exact ⟨ha, hp, hg, hk⟩
theorem Row.addr {w : World} {A : Option Addr} {n c : Nat} {α : Type} [Enc α] {xs : List α} (h : Row w (.slice A n c) xs) (hl : 0 < xs.length) : ∃ b o, A = some ⟨b, o, none⟩ := by
  obtain ⟨A', c', hv, hm, hc⟩ := h
  injection hv with e1 _ _
  subst e1
  obtain ⟨b, o, rfl, _⟩ := hc 0 hl
  exact ⟨b, o, rfl⟩
theorem Row.accAt {w : World} {b o n c : Nat} {xs : List Acc} (h : Row w (.slice (some ⟨b, o, none⟩) n c) xs) (k : Int) (h0 : 0 ≤ k) (hk : k < xs.length) :
    w.cell? ⟨b, o + k.toNat * 3, none⟩ = some (.int .i64 (rd xs k).cur) ∧ w.cell? ⟨b, o + k.toNat * 3 + 1, none⟩ = some (.int .i64 (rd xs k).bal) ∧ w.cell? ⟨b, o + k.toNat * 3 + 2, none⟩ = some (.int .i64 (rd xs k).held) := by
  obtain ⟨b', o', c', hv, c1, c2, c3, _⟩ := h.accI k h0 hk
  injection hv with e1 _ _
  injection e1 with e1
  injection e1 with e4 e5
  subst e4 e5
  exact ⟨c1, c2, c3⟩
theorem Row.payAt {w : World} {b o n c : Nat} {xs : List Pay} (h : Row w (.slice (some ⟨b, o, none⟩) n c) xs) (k : Int) (h0 : 0 ≤ k) (hk : k < xs.length) :
    w.cell? ⟨b, o + k.toNat * 8, none⟩ = some (.int .i64 (rd xs k).frm) ∧ w.cell? ⟨b, o + k.toNat * 8 + 1, none⟩ = some (.int .i64 (rd xs k).to) ∧ w.cell? ⟨b, o + k.toNat * 8 + 2, none⟩ = some (.int .i64 (rd xs k).auth) ∧ w.cell? ⟨b, o + k.toNat * 8 + 3, none⟩ = some (.int .i64 (rd xs k).capt) ∧ w.cell? ⟨b, o + k.toNat * 8 + 4, none⟩ = some (.int .i64 (rd xs k).refd) ∧ w.cell? ⟨b, o + k.toNat * 8 + 5, none⟩ = some (.int .i64 (rd xs k).chgd) ∧ w.cell? ⟨b, o + k.toNat * 8 + 6, none⟩ = some (.int .i64 (rd xs k).til) ∧ w.cell? ⟨b, o + k.toNat * 8 + 7, none⟩ = some (.int .i64 (rd xs k).stage) := by
  obtain ⟨b', o', c', hv, c0, c1, c2, c3, c4, c5, c6, c7, _⟩ := h.payI k h0 hk
  injection hv with e1 _ _
  injection e1 with e1
  injection e1 with e4 e5
  subst e4 e5
  exact ⟨c0, c1, c2, c3, c4, c5, c6, c7⟩
theorem StV.alloc {w : World} {v : Value} {s : St} (h : StV w v s) (o : Obj) : StV (w.alloc o) v s := h.below (below_alloc (Below.refl _ _) o)
theorem StV.drew {w : World} {v : Value} {s : St} (h : StV w v s) : StV w.drew v s := h
theorem StV.drewN {w : World} {v : Value} {s : St} (h : StV w v s) (n : Nat) : StV (w.drewN n) v s := h
theorem Row.drewR {w : World} {v : Value} {α : Type} [Enc α] {xs : List α} (h : Row w v xs) : Row w.drew v xs := h
end Go.Proofs.YthjmficglpfgpaaDoor
