/- Opening a law's arguments: slices of numbers, of payments by numbers, a book. -/
import Derived.Test.YthjmficglpfgpaaDoorC1
import Derived.Deep.Slices
import Derived.Deep.Fields
import Derived.ChangeSame
import Derived.ChangeSlices
import Derived.Lib.SmallJoins
namespace Go.Proofs.YthjmficglpfgpaaDoor
set_option linter.unusedVariables false
set_option linter.unusedSimpArgs false
open Go Go.RowKit Go.ChangeShapes Go.WideShapes Go.Deep Enc
set_option maxRecDepth 100000
set_option maxHeartbeats 1600000

theorem wf_u8 {n : Int} (h : (Lit.int .u8 n).wf = true) : 0 ≤ n ∧ n < 256 := by
  have h' : (decide ((0 : Int) ≤ n) && decide (n ≤ 255)) = true := h
  simp at h'
  omega
theorem wf_u16 {n : Int} (h : (Lit.int .u16 n).wf = true) : 0 ≤ n ∧ n < 65536 := by
  have h' : (decide ((0 : Int) ≤ n) && decide (n ≤ 65535)) = true := h
  simp at h'
  omega
theorem wf_u32 {n : Int} (h : (Lit.int .u32 n).wf = true) : 0 ≤ n ∧ n < 4294967296 := by
  have h' : (decide ((0 : Int) ≤ n) && decide (n ≤ 4294967295)) = true := h
  simp at h'
  omega
theorem wf_i64 {n : Int} (h : (Lit.int .i64 n).wf = true) : -9223372036854775808 ≤ n ∧ n ≤ 9223372036854775807 := by
  have h' : (decide ((-9223372036854775808 : Int) ≤ n) && decide (n ≤ 9223372036854775807)) = true := h
  simp at h'
  omega
theorem wf_i8 {n : Int} (h : (Lit.int .i8 n).wf = true) : -128 ≤ n ∧ n ≤ 127 := by
  have h' : (decide ((-128 : Int) ≤ n) && decide (n ≤ 127)) = true := h
  simp at h'
  omega

theorem no_spot {w : World} {a : Addr} {v : Value} (h : w.cell? a = some v) : a = ⟨a.block, a.off, none⟩ := by
  obtain ⟨b, o, s⟩ := a
  cases s with
  | none => rfl
  | some s =>
    unfold World.cell? at h
    split at h <;> simp at h
/-- Elements known one by one make a row. -/
theorem Row.of_add {α : Type} [Enc α] [Inhabited α] {w : World} {a : Addr} {len cap : Nat} (hm : len ≤ maxLen) {Q : α → Prop}
    (h : ∀ i, i < len → ∃ x : α, Q x ∧ ∀ j u, (enc x)[j]? = some u → w.cell? (a.add (i * sz α + j)) = some u) :
    ∃ xs : List α, Row w (.slice (some a) len cap) xs ∧ ∀ x ∈ xs, Q x := by
  obtain ⟨f, hf⟩ := choose_lt h
  refine ⟨(List.range len).map f, ⟨some a, cap, by simp, by simpa using hm, fun k hk => ?_⟩, fun x hx => ?_⟩
  · have hk' : k < len := by simpa using hk
    have h0 : ∃ u, (enc (f 0))[0]? = some u := by
      refine ⟨(enc (f 0))[0]'(by rw [Enc.len]; exact Enc.pos), ?_⟩
      exact List.getElem?_eq_getElem _
    obtain ⟨u0, hu0⟩ := h0
    have hs := no_spot ((hf 0 (by omega)).2 0 u0 hu0)
    have hs' : a = ⟨a.block, a.off, none⟩ := by simpa [Addr.add] using hs
    refine ⟨a.block, a.off, by rw [← hs'], fun j u hu => ?_⟩
    have e : ((List.range len).map f)[k]'hk = f k := by simp
    rw [e] at hu
    have hc := (hf k hk').2 j u hu
    have ea : a.add (k * sz α + j) = ⟨a.block, a.off + k * sz α + j, none⟩ := by
      unfold Addr.add
      split
      · rename_i hz
        rw [hs']
        (try simp)
        (try omega)
      · (try simp)
        (try omega)
    rw [ea] at hc
    exact hc
  · obtain ⟨i, hi, rfl⟩ := List.mem_map.1 hx
    exact (hf i (List.mem_range.1 hi)).1
theorem Row.nil_ {α : Type} [Enc α] {w : World} {Q : α → Prop} : ∃ xs : List α, Row w (.slice none 0 0) xs ∧ ∀ x ∈ xs, Q x :=
  ⟨[], ⟨none, 0, rfl, by simp, fun k hk => absurd hk (by simp)⟩, fun x hx => absurd hx (by simp)⟩

section
variable {H : Type} {enc : TypeId × Value → H} {P : Program} {w : World} {base : Nat} {spare : Nat → Bool} {held : Bool}
theorem open_nums {t e : TypeId} {k : IntKind} {fuel : Nat} {v : Value} {x : DataW H × List MemPlace} (ht : P.underlying t = some (.slice e)) (he : P.underlying e = some (.int k)) (hc : P.cellsOf e = 1)
    (h : DataW.trod enc P w base spare held fuel t [v] = some x) :
    v = .slice none 0 0 ∨ ∃ a len cap, v = .slice (some a) len cap ∧ len ≤ cap ∧ len ≤ maxLen ∧ ∀ i, i < len → ∃ n, (Lit.int k n).wf = true ∧ w.cell? (a.add i) = some (.int k n) := by
  rcases open_ints ht he hc h with ⟨hcs, _⟩ | ⟨a, len, cap, zs, hcs, _, hl, hm, hz, _, hcell, hwz⟩
  · exact .inl (by simpa using hcs)
  · refine .inr ⟨a, len, cap, by simpa using hcs, hl, by omega, fun i hi => ?_⟩
    have hiz : i < zs.length := by
      rw [hz]
      split <;> omega
    refine ⟨zs.getD i 0, hwz _ ?_, hcell i hiz⟩
    rw [List.getD_eq_getElem?_getD, List.getElem?_eq_getElem hiz]
    exact List.getElem_mem hiz
/-- A slice of structs, each field one cell. -/
theorem open_structs {t e : TypeId} {fs : Array Field} {fuel : Nat} {v : Value} {x : DataW H × List MemPlace} (ht : P.underlying t = some (.slice e)) (he : P.underlying e = some (.struct fs))
    (hone : oneCellFields P fs = true) (hC : P.cellsOf e = fs.size) (h : DataW.trod enc P w base spare held fuel t [v] = some x) :
    v = .slice none 0 0 ∨ ∃ a len cap, v = .slice (some a) len cap ∧ len ≤ cap ∧ len ≤ maxLen ∧
      ∀ i, i < len → ∃ n, ∀ (j : Nat) (f : Field), fs[j]? = some f → ∃ (u : Value) (y : DataW H × List MemPlace), w.cell? (a.add (i * fs.size + j)) = some u ∧ DataW.trod enc P w base spare held n f.type [u] = some y := by
  rcases open_slice ht h with ⟨h0, _⟩ | ⟨a, len, cap, m, n, D, Pl, hcs, hb, hl, hm, hmm, hx, hi⟩
  · exact .inl (by simpa using h0)
  · refine .inr ⟨a, len, cap, by simpa using hcs, hl, by omega, fun i hil => ?_⟩
    have him : i < m := by
      rw [hmm]
      split <;> omega
    obtain ⟨cs', hc, ht'⟩ := hi i him
    rw [hC] at hc
    obtain ⟨ys, n', hn', hy, hlen, hyl, hf⟩ := DataW.trod_struct he ht'
    obtain ⟨_, hcl, hat⟩ := World.cells?_some hc
    refine ⟨n', fun j f hj => ?_⟩
    obtain ⟨ho, hk⟩ := hone_of hone j f hj
    have hjl : j < fs.size := (Array.getElem?_eq_some_iff.1 hj).1
    have hcell := hat j hjl
    have hv : cs'[j]? = some (cs'[j]'(by omega)) := List.getElem?_eq_getElem (by omega)
    have h1 := hf j f hj
    rw [ho, hk] at h1
    have hone' : (cs'.drop j).take 1 = [cs'[j]'(by omega)] := by
      rw [List.drop_eq_getElem_cons (by omega)]
      rfl
    rw [hone'] at h1
    have hys : ys[j]? = some (ys[j]'(by omega)) := List.getElem?_eq_getElem (by omega)
    refine ⟨_, _, ?_, h1.trans hys⟩
    rw [← Go.Deep.add_add, hcell, hv]
end

theorem open_u8s {H : Type} {enc : TypeId × Value → H} {w : World} {base : Nat} {spare : Nat → Bool} {held : Bool} {fuel : Nat} {v : Value} {x : DataW H × List MemPlace} (h : DataW.trod enc Tryd.prog w base spare held fuel 22 [v] = some x) :
    ∃ xs : List U8, Row w v xs ∧ (∀ c ∈ xs, 0 ≤ c.n ∧ c.n < 256) ∧ ∃ A n c, v = .slice A n c ∧ n ≤ c := by
  rcases open_nums Tryd.underlying22 Tryd.underlying5 (by kernel_rfl) h with rfl | ⟨a, len, cap, rfl, hl, hm, hi⟩
  · obtain ⟨xs, h1, h2⟩ := Row.nil_ (α := U8) (w := w) (Q := fun c => 0 ≤ c.n ∧ c.n < 256)
    exact ⟨xs, h1, h2, _, _, _, rfl, Nat.le_refl _⟩
  · obtain ⟨xs, h1, h2⟩ := Row.of_add (α := U8) (w := w) (a := a) (cap := cap) hm (Q := fun c => 0 ≤ c.n ∧ c.n < 256) (fun i hil => by
      obtain ⟨n, hw, hc⟩ := hi i hil
      refine ⟨⟨n⟩, wf_u8 hw, fun j u hu => ?_⟩
      match j, hu with
      | 0, hu =>
        obtain rfl := Option.some.inj hu
        have e : i * sz U8 + 0 = i := Nat.mul_one i
        rw [e]
        exact hc)
    exact ⟨xs, h1, h2, _, _, _, rfl, hl⟩
theorem open_u32s {H : Type} {enc : TypeId × Value → H} {w : World} {base : Nat} {spare : Nat → Bool} {held : Bool} {fuel : Nat} {v : Value} {x : DataW H × List MemPlace} (h : DataW.trod enc Tryd.prog w base spare held fuel 23 [v] = some x) :
    ∃ xs : List U32, Row w v xs ∧ (∀ c ∈ xs, 0 ≤ c.n ∧ c.n < 4294967296) := by
  rcases open_nums Tryd.underlying23 Tryd.underlying112 (by kernel_rfl) h with rfl | ⟨a, len, cap, rfl, hl, hm, hi⟩
  · exact Row.nil_
  · exact Row.of_add hm (fun i hil => by
      obtain ⟨n, hw, hc⟩ := hi i hil
      refine ⟨⟨n⟩, wf_u32 hw, fun j u hu => ?_⟩
      match j, hu with
      | 0, hu =>
        obtain rfl := Option.some.inj hu
        have e : i * sz U32 + 0 = i := Nat.mul_one i
        rw [e]
        exact hc)
theorem open_paids {H : Type} {enc : TypeId × Value → H} {w : World} {base : Nat} {spare : Nat → Bool} {held : Bool} {fuel : Nat} {v : Value} {x : DataW H × List MemPlace} (h : DataW.trod enc Tryd.prog w base spare held fuel 26 [v] = some x) :
    ∃ xs : List Paid, Row w v xs ∧ (∀ p ∈ xs, PaidOk p) := by
  rcases open_structs Tryd.underlying26 Tryd.underlying87 (by kernel_rfl) (by kernel_rfl) h with rfl | ⟨a, len, cap, rfl, hl, hm, hi⟩
  · exact Row.nil_
  · exact Row.of_add hm (fun i hil => by
      obtain ⟨n, hj⟩ := hi i hil
      obtain ⟨u0, y0, c0, t0⟩ := hj 0 _ rfl
      obtain ⟨u1, y1, c1, t1⟩ := hj 1 _ rfl
      obtain ⟨u2, y2, c2, t2⟩ := hj 2 _ rfl
      obtain ⟨u3, y3, c3, t3⟩ := hj 3 _ rfl
      obtain ⟨u4, y4, c4, t4⟩ := hj 4 _ rfl
      obtain ⟨u5, y5, c5, t5⟩ := hj 5 _ rfl
      obtain ⟨u6, y6, c6, t6⟩ := hj 6 _ rfl
      obtain ⟨u7, y7, c7, t7⟩ := hj 7 _ rfl
      obtain ⟨n0, e0, -, w0⟩ := DataW.trod_int Tryd.underlying5 t0
      obtain ⟨n1, e1, -, w1⟩ := DataW.trod_int Tryd.underlying5 t1
      obtain ⟨n2, e2, -, w2⟩ := DataW.trod_int Tryd.underlying5 t2
      obtain ⟨n3, e3, -, w3⟩ := DataW.trod_int Tryd.underlying5 t3
      obtain ⟨n4, e4, -, w4⟩ := DataW.trod_int Tryd.underlying5 t4
      obtain ⟨n5, e5, -, w5⟩ := DataW.trod_int Tryd.underlying5 t5
      obtain ⟨n6, e6, -, w6⟩ := DataW.trod_int Tryd.underlying5 t6
      obtain ⟨n7, e7, -⟩ := DataW.trod_bool Tryd.underlying4 t7
      obtain rfl := List.singleton_inj.1 e0
      obtain rfl := List.singleton_inj.1 e1
      obtain rfl := List.singleton_inj.1 e2
      obtain rfl := List.singleton_inj.1 e3
      obtain rfl := List.singleton_inj.1 e4
      obtain rfl := List.singleton_inj.1 e5
      obtain rfl := List.singleton_inj.1 e6
      obtain rfl := List.singleton_inj.1 e7
      refine ⟨⟨n0, n1, n2, n3, n4, n5, n6, n7⟩, ⟨wf_u8 w0, wf_u8 w1, wf_u8 w2, wf_u8 w3, wf_u8 w4, wf_u8 w5, wf_u8 w6⟩, fun j u hu => ?_⟩
      match j, hu with
      | 0, hu => obtain rfl := Option.some.inj hu; exact c0
      | 1, hu => obtain rfl := Option.some.inj hu; exact c1
      | 2, hu => obtain rfl := Option.some.inj hu; exact c2
      | 3, hu => obtain rfl := Option.some.inj hu; exact c3
      | 4, hu => obtain rfl := Option.some.inj hu; exact c4
      | 5, hu => obtain rfl := Option.some.inj hu; exact c5
      | 6, hu => obtain rfl := Option.some.inj hu; exact c6
      | 7, hu => obtain rfl := Option.some.inj hu; exact c7)
/-- A book and payments as the row's arguments. -/
theorem open_book {H : Type} {enc : TypeId × Value → H} {w : World} {base : Nat} {spare : Nat → Bool} {held : Bool} {r : Reach} {b0 : Nat} {v : Value} {d : DataW H} {p : List MemPlace}
    (hv : Value.okWide Tryd.prog w r b0 25 v) (h : DataW.Trod enc Tryd.prog w base spare held 25 v d p) :
    ∃ vc vh vd, v = .agg #[vc, vh, vd] ∧ ∃ (cs : List U8) (has : List U32) (ds : List U8), Row w vc cs ∧ Row w vh has ∧ Row w vd ds ∧ (∀ c ∈ cs, 0 ≤ c.n ∧ c.n < 256) ∧ (∀ x ∈ has, 0 ≤ x.n ∧ x.n < 4294967296) ∧ (∀ c ∈ ds, 0 ≤ c.n ∧ c.n < 256) ∧ ∃ A n c, vc = .slice A n c ∧ n ≤ c := by
  obtain ⟨v0, v1, v2, y0, y1, y2, n, rfl, -, -, t0, t1, t2⟩ := Joins.open_agg3 Tryd.underlying25 (by kernel_rfl) (by kernel_rfl) hv h
  obtain ⟨cs, r0, b0, k0⟩ := open_u8s t0
  obtain ⟨has, r1, b1⟩ := open_u32s t1
  obtain ⟨ds, r2, b2, -⟩ := open_u8s t2
  exact ⟨v0, v1, v2, rfl, cs, has, ds, r0, r1, r2, b0, b1, b2, k0⟩
end Go.Proofs.YthjmficglpfgpaaDoor
