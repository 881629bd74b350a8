/- Words for slices of plain structs: how a slice value reads, and what the call itself owns. -/
import Derived.Test.YthjmficglpfgpaaDoorProg
import Derived.WalkKit
import Derived.WalkSpells
import Derived.WalkLawsBesides
import Derived.Outline
import Derived.Laws.AppendOwn
import Derived.OwnWalk
import Derived.Below
import Derived.KernelRfl
import Derived.Maps.AppendAt
import Derived.Deep.AppendLies
import Derived.Laws.OwnMore
import Derived.Deep.Draws
namespace Go.Proofs.YthjmficglpfgpaaDoor
set_option linter.unusedVariables false
set_option linter.unusedSimpArgs false
open Go Go.RowKit

/-- What is laid in cells: a whole number of cells each. -/
class Enc (α : Type) where
  sz : Nat
  enc : α → List Value
  len : ∀ x, (enc x).length = sz
  one : ∀ x u, u ∈ enc x → u.oneCell' = true
  pos : 0 < sz
open Enc

variable {α : Type} [Enc α] {w w' : World} {v : Value} {xs : List α} {B : Nat}

/-- The slice value v reads as xs. -/
def Row (w : World) (v : Value) (xs : List α) : Prop :=
  ∃ A c, v = .slice A xs.length c ∧ xs.length ≤ maxLen ∧
    ∀ k (h : k < xs.length), ∃ b o, A = some ⟨b, o, none⟩ ∧ ∀ j u, (enc xs[k])[j]? = some u → w.cell? ⟨b, o + k * sz α + j, none⟩ = some u

/-- The slice value v is the call's own, from block B on, and reads as xs. -/
def Own (w : World) (B : Nat) (e : TypeId) (v : Value) (xs : List α) : Prop :=
  w.ownsRow B e (sz α) v xs.length (xs.flatMap enc)

theorem flat_len (xs : List α) : (xs.flatMap enc).length = xs.length * sz α := by
  induction xs with
  | nil => simp
  | cons x xs ih => simp [List.flatMap_cons, ih, len x, Nat.add_mul, Nat.add_comm]

theorem flat_get (xs : List α) (k : Nat) (h : k < xs.length) (j : Nat) (u : Value) (hu : (enc xs[k])[j]? = some u) : (xs.flatMap enc)[k * sz α + j]? = some u := by
  induction xs generalizing k with
  | nil => simp at h
  | cons x xs ih =>
    have hj : j < sz α := by
      have := (List.getElem?_eq_some_iff.1 hu).1
      rwa [len] at this
    cases k with
    | zero =>
      simp only [List.flatMap_cons, Nat.zero_mul, Nat.zero_add]
      rw [List.getElem?_append_left (by rw [len]; exact hj)]
      exact hu
    | succ k =>
      simp only [List.flatMap_cons]
      rw [List.getElem?_append_right (by rw [len, Nat.succ_mul]; omega), len]
      rw [show (k + 1) * sz α + j - sz α = k * sz α + j by rw [Nat.succ_mul]; omega]
      exact ih k (by simpa using h) (by simpa using hu)

theorem cell_lt {a : Addr} {u : Value} (h : w.cell? a = some u) : a.block < w.heap.size := World.block_lt_of_cell? w a h

theorem cell_below (hb : Below w.heap.size w w') {a : Addr} {u : Value} (h : w.cell? a = some u) : w'.cell? a = some u :=
  (hb.cell (cell_lt h)).trans h

theorem Row.below (h : Row w v xs) (hb : Below w.heap.size w w') : Row w' v xs := by
  obtain ⟨A, c, rfl, hm, hc⟩ := h
  refine ⟨A, c, rfl, hm, fun k hk => ?_⟩
  obtain ⟨b, o, rfl, hj⟩ := hc k hk
  exact ⟨b, o, rfl, fun j u hu => cell_below hb (hj j u hu)⟩

theorem Row.nil (w : World) : Row w (.slice none 0 0) ([] : List α) := ⟨none, 0, rfl, by simp [maxLen], fun k hk => by simp at hk⟩

theorem Own.row {e : TypeId} (h : Own w B e v xs) : Row w v xs := by
  rcases h.2 with ⟨rfl, h0⟩ | ⟨g, cap, cur, rfl, hb, hh, h1, h2, h3, h4⟩
  · obtain rfl : xs = [] := List.eq_nil_of_length_eq_zero h0
    exact Row.nil w
  · refine ⟨_, _, rfl, by omega, fun k hk => ⟨g, 0, rfl, fun j u hu => ?_⟩⟩
    have hf := flat_get xs k hk j u hu
    have := h.cells (g := g) rfl _ _ hf
    unfold Addr.add at this
    split at this
    · rename_i h0; have e : 0 + k * sz α + j = 0 := by omega
      rw [e]; exact this
    · rw [Nat.add_assoc]; exact this

theorem Own.nil (w : World) (B : Nat) (e : TypeId) : Own w B e (.slice none 0 0) ([] : List α) := World.ownsRow_nil w B e (sz α)

/-- Element k (from 0 on). -/
def rd [Inhabited α] (xs : List α) (k : Int) : α := xs.getD k.toNat default
omit [Enc α] in
theorem rd_nat [Inhabited α] (xs : List α) (k : Nat) (h : k < xs.length) : rd xs (k : Int) = xs[k] := by simp [rd, List.getD_eq_getElem?_getD, List.getElem?_eq_getElem h]

/-- The facts that a walk reads element k by. -/
theorem Row.at [Inhabited α] (h : Row w v xs) (k : Nat) (hk : k < xs.length) : ∃ b o c, v = .slice (some ⟨b, o, none⟩) xs.length c ∧ ∀ j u, (enc (rd xs k))[j]? = some u → w.cell? ⟨b, o + k * sz α + j, none⟩ = some u := by
  obtain ⟨A, c, rfl, hm, hc⟩ := h
  obtain ⟨b, o, rfl, hj⟩ := hc k hk
  exact ⟨b, o, c, rfl, by rw [rd_nat xs k hk]; exact hj⟩
theorem Row.atI [Inhabited α] (h : Row w v xs) (k : Int) (h0 : 0 ≤ k) (hk : k < xs.length) : ∃ b o c, v = .slice (some ⟨b, o, none⟩) xs.length c ∧ ∀ j u, (enc (rd xs k))[j]? = some u → w.cell? ⟨b, o + k.toNat * sz α + j, none⟩ = some u := by
  obtain ⟨b, o, c, hv, hc⟩ := h.at k.toNat (by omega)
  rw [show ((k.toNat : Nat) : Int) = k by omega] at hc
  exact ⟨b, o, c, hv, hc⟩
theorem Row.slice (h : Row w v xs) : ∃ A c, v = .slice A xs.length c := by
  obtain ⟨A, c, rfl, _⟩ := h
  exact ⟨A, c, rfl⟩
theorem Row.max (h : Row w v xs) : xs.length ≤ 9223372036854775807 := by
  obtain ⟨A, c, rfl, hm, _⟩ := h
  simpa [maxLen] using hm

/-! ### The structs -/
structure Acc where
  cur : Int
  bal : Int
  held : Int
  deriving DecidableEq, Inhabited
def Acc.cells (x : Acc) : List Value := [.int .i64 x.cur, .int .i64 x.bal, .int .i64 x.held]
abbrev Acc.val (x : Acc) : Value := .agg #[.int .i64 x.cur, .int .i64 x.bal, .int .i64 x.held]
instance : Enc Acc where
  sz := 3
  enc x := x.cells
  len _ := rfl
  one x u h := by simp only [Acc.cells, List.mem_cons, List.not_mem_nil, or_false] at h; rcases h with rfl | rfl | rfl <;> rfl
  pos := by decide
theorem Row.acc {xs : List Acc} (h : Row w v xs) (k : Nat) (hk : k < xs.length) : ∃ b o c, v = .slice (some ⟨b, o, none⟩) xs.length c ∧
    w.cell? ⟨b, o + k * 3, none⟩ = some (.int .i64 (rd xs k).cur) ∧
    w.cell? ⟨b, o + k * 3 + 1, none⟩ = some (.int .i64 (rd xs k).bal) ∧
    w.cell? ⟨b, o + k * 3 + 2, none⟩ = some (.int .i64 (rd xs k).held) ∧ b < w.heap.size := by
  obtain ⟨b, o, c, hv, hc⟩ := h.at k hk
  exact ⟨b, o, c, hv, hc 0 _ rfl, hc 1 _ rfl, hc 2 _ rfl, cell_lt (hc 0 _ rfl)⟩
theorem Row.accI {xs : List Acc} (h : Row w v xs) (k : Int) (h0 : 0 ≤ k) (hk : k < xs.length) : ∃ b o c, v = .slice (some ⟨b, o, none⟩) xs.length c ∧
    w.cell? ⟨b, o + k.toNat * 3, none⟩ = some (.int .i64 (rd xs k).cur) ∧
    w.cell? ⟨b, o + k.toNat * 3 + 1, none⟩ = some (.int .i64 (rd xs k).bal) ∧
    w.cell? ⟨b, o + k.toNat * 3 + 2, none⟩ = some (.int .i64 (rd xs k).held) ∧ b < w.heap.size := by
  obtain ⟨b, o, c, hv, hc⟩ := h.atI k h0 hk
  exact ⟨b, o, c, hv, hc 0 _ rfl, hc 1 _ rfl, hc 2 _ rfl, cell_lt (hc 0 _ rfl)⟩
structure Ent where
  acct : Int
  amt : Int
  deriving DecidableEq, Inhabited
def Ent.cells (x : Ent) : List Value := [.int .i64 x.acct, .int .i64 x.amt]
abbrev Ent.val (x : Ent) : Value := .agg #[.int .i64 x.acct, .int .i64 x.amt]
instance : Enc Ent where
  sz := 2
  enc x := x.cells
  len _ := rfl
  one x u h := by simp only [Ent.cells, List.mem_cons, List.not_mem_nil, or_false] at h; rcases h with rfl | rfl <;> rfl
  pos := by decide
theorem Row.ent {xs : List Ent} (h : Row w v xs) (k : Nat) (hk : k < xs.length) : ∃ b o c, v = .slice (some ⟨b, o, none⟩) xs.length c ∧
    w.cell? ⟨b, o + k * 2, none⟩ = some (.int .i64 (rd xs k).acct) ∧
    w.cell? ⟨b, o + k * 2 + 1, none⟩ = some (.int .i64 (rd xs k).amt) ∧ b < w.heap.size := by
  obtain ⟨b, o, c, hv, hc⟩ := h.at k hk
  exact ⟨b, o, c, hv, hc 0 _ rfl, hc 1 _ rfl, cell_lt (hc 0 _ rfl)⟩
theorem Row.entI {xs : List Ent} (h : Row w v xs) (k : Int) (h0 : 0 ≤ k) (hk : k < xs.length) : ∃ b o c, v = .slice (some ⟨b, o, none⟩) xs.length c ∧
    w.cell? ⟨b, o + k.toNat * 2, none⟩ = some (.int .i64 (rd xs k).acct) ∧
    w.cell? ⟨b, o + k.toNat * 2 + 1, none⟩ = some (.int .i64 (rd xs k).amt) ∧ b < w.heap.size := by
  obtain ⟨b, o, c, hv, hc⟩ := h.atI k h0 hk
  exact ⟨b, o, c, hv, hc 0 _ rfl, hc 1 _ rfl, cell_lt (hc 0 _ rfl)⟩
structure Pay where
  frm : Int
  to : Int
  auth : Int
  capt : Int
  refd : Int
  chgd : Int
  til : Int
  stage : Int
  deriving DecidableEq, Inhabited
def Pay.cells (x : Pay) : List Value := [.int .i64 x.frm, .int .i64 x.to, .int .i64 x.auth, .int .i64 x.capt, .int .i64 x.refd, .int .i64 x.chgd, .int .i64 x.til, .int .i64 x.stage]
abbrev Pay.val (x : Pay) : Value := .agg #[.int .i64 x.frm, .int .i64 x.to, .int .i64 x.auth, .int .i64 x.capt, .int .i64 x.refd, .int .i64 x.chgd, .int .i64 x.til, .int .i64 x.stage]
instance : Enc Pay where
  sz := 8
  enc x := x.cells
  len _ := rfl
  one x u h := by simp only [Pay.cells, List.mem_cons, List.not_mem_nil, or_false] at h; rcases h with rfl | rfl | rfl | rfl | rfl | rfl | rfl | rfl <;> rfl
  pos := by decide
theorem Row.pay {xs : List Pay} (h : Row w v xs) (k : Nat) (hk : k < xs.length) : ∃ b o c, v = .slice (some ⟨b, o, none⟩) xs.length c ∧
    w.cell? ⟨b, o + k * 8, none⟩ = some (.int .i64 (rd xs k).frm) ∧
    w.cell? ⟨b, o + k * 8 + 1, none⟩ = some (.int .i64 (rd xs k).to) ∧
    w.cell? ⟨b, o + k * 8 + 2, none⟩ = some (.int .i64 (rd xs k).auth) ∧
    w.cell? ⟨b, o + k * 8 + 3, none⟩ = some (.int .i64 (rd xs k).capt) ∧
    w.cell? ⟨b, o + k * 8 + 4, none⟩ = some (.int .i64 (rd xs k).refd) ∧
    w.cell? ⟨b, o + k * 8 + 5, none⟩ = some (.int .i64 (rd xs k).chgd) ∧
    w.cell? ⟨b, o + k * 8 + 6, none⟩ = some (.int .i64 (rd xs k).til) ∧
    w.cell? ⟨b, o + k * 8 + 7, none⟩ = some (.int .i64 (rd xs k).stage) ∧ b < w.heap.size := by
  obtain ⟨b, o, c, hv, hc⟩ := h.at k hk
  exact ⟨b, o, c, hv, hc 0 _ rfl, hc 1 _ rfl, hc 2 _ rfl, hc 3 _ rfl, hc 4 _ rfl, hc 5 _ rfl, hc 6 _ rfl, hc 7 _ rfl, cell_lt (hc 0 _ rfl)⟩
theorem Row.payI {xs : List Pay} (h : Row w v xs) (k : Int) (h0 : 0 ≤ k) (hk : k < xs.length) : ∃ b o c, v = .slice (some ⟨b, o, none⟩) xs.length c ∧
    w.cell? ⟨b, o + k.toNat * 8, none⟩ = some (.int .i64 (rd xs k).frm) ∧
    w.cell? ⟨b, o + k.toNat * 8 + 1, none⟩ = some (.int .i64 (rd xs k).to) ∧
    w.cell? ⟨b, o + k.toNat * 8 + 2, none⟩ = some (.int .i64 (rd xs k).auth) ∧
    w.cell? ⟨b, o + k.toNat * 8 + 3, none⟩ = some (.int .i64 (rd xs k).capt) ∧
    w.cell? ⟨b, o + k.toNat * 8 + 4, none⟩ = some (.int .i64 (rd xs k).refd) ∧
    w.cell? ⟨b, o + k.toNat * 8 + 5, none⟩ = some (.int .i64 (rd xs k).chgd) ∧
    w.cell? ⟨b, o + k.toNat * 8 + 6, none⟩ = some (.int .i64 (rd xs k).til) ∧
    w.cell? ⟨b, o + k.toNat * 8 + 7, none⟩ = some (.int .i64 (rd xs k).stage) ∧ b < w.heap.size := by
  obtain ⟨b, o, c, hv, hc⟩ := h.atI k h0 hk
  exact ⟨b, o, c, hv, hc 0 _ rfl, hc 1 _ rfl, hc 2 _ rfl, hc 3 _ rfl, hc 4 _ rfl, hc 5 _ rfl, hc 6 _ rfl, hc 7 _ rfl, cell_lt (hc 0 _ rfl)⟩
structure Req where
  key : Int
  op : Int
  a : Int
  b : Int
  amt : Int
  legs : Int
  til : Int
  deriving DecidableEq, Inhabited
def Req.cells (x : Req) : List Value := [.int .i64 x.key, .int .i64 x.op, .int .i64 x.a, .int .i64 x.b, .int .i64 x.amt, .int .i64 x.legs, .int .i64 x.til]
abbrev Req.val (x : Req) : Value := .agg #[.int .i64 x.key, .int .i64 x.op, .int .i64 x.a, .int .i64 x.b, .int .i64 x.amt, .int .i64 x.legs, .int .i64 x.til]
instance : Enc Req where
  sz := 7
  enc x := x.cells
  len _ := rfl
  one x u h := by simp only [Req.cells, List.mem_cons, List.not_mem_nil, or_false] at h; rcases h with rfl | rfl | rfl | rfl | rfl | rfl | rfl <;> rfl
  pos := by decide
theorem Row.req {xs : List Req} (h : Row w v xs) (k : Nat) (hk : k < xs.length) : ∃ b o c, v = .slice (some ⟨b, o, none⟩) xs.length c ∧
    w.cell? ⟨b, o + k * 7, none⟩ = some (.int .i64 (rd xs k).key) ∧
    w.cell? ⟨b, o + k * 7 + 1, none⟩ = some (.int .i64 (rd xs k).op) ∧
    w.cell? ⟨b, o + k * 7 + 2, none⟩ = some (.int .i64 (rd xs k).a) ∧
    w.cell? ⟨b, o + k * 7 + 3, none⟩ = some (.int .i64 (rd xs k).b) ∧
    w.cell? ⟨b, o + k * 7 + 4, none⟩ = some (.int .i64 (rd xs k).amt) ∧
    w.cell? ⟨b, o + k * 7 + 5, none⟩ = some (.int .i64 (rd xs k).legs) ∧
    w.cell? ⟨b, o + k * 7 + 6, none⟩ = some (.int .i64 (rd xs k).til) ∧ b < w.heap.size := by
  obtain ⟨b, o, c, hv, hc⟩ := h.at k hk
  exact ⟨b, o, c, hv, hc 0 _ rfl, hc 1 _ rfl, hc 2 _ rfl, hc 3 _ rfl, hc 4 _ rfl, hc 5 _ rfl, hc 6 _ rfl, cell_lt (hc 0 _ rfl)⟩
theorem Row.reqI {xs : List Req} (h : Row w v xs) (k : Int) (h0 : 0 ≤ k) (hk : k < xs.length) : ∃ b o c, v = .slice (some ⟨b, o, none⟩) xs.length c ∧
    w.cell? ⟨b, o + k.toNat * 7, none⟩ = some (.int .i64 (rd xs k).key) ∧
    w.cell? ⟨b, o + k.toNat * 7 + 1, none⟩ = some (.int .i64 (rd xs k).op) ∧
    w.cell? ⟨b, o + k.toNat * 7 + 2, none⟩ = some (.int .i64 (rd xs k).a) ∧
    w.cell? ⟨b, o + k.toNat * 7 + 3, none⟩ = some (.int .i64 (rd xs k).b) ∧
    w.cell? ⟨b, o + k.toNat * 7 + 4, none⟩ = some (.int .i64 (rd xs k).amt) ∧
    w.cell? ⟨b, o + k.toNat * 7 + 5, none⟩ = some (.int .i64 (rd xs k).legs) ∧
    w.cell? ⟨b, o + k.toNat * 7 + 6, none⟩ = some (.int .i64 (rd xs k).til) ∧ b < w.heap.size := by
  obtain ⟨b, o, c, hv, hc⟩ := h.atI k h0 hk
  exact ⟨b, o, c, hv, hc 0 _ rfl, hc 1 _ rfl, hc 2 _ rfl, hc 3 _ rfl, hc 4 _ rfl, hc 5 _ rfl, hc 6 _ rfl, cell_lt (hc 0 _ rfl)⟩
structure Rep where
  err : Int
  id : Int
  deriving DecidableEq, Inhabited
def Rep.cells (x : Rep) : List Value := [.int .i64 x.err, .int .i64 x.id]
abbrev Rep.val (x : Rep) : Value := .agg #[.int .i64 x.err, .int .i64 x.id]
instance : Enc Rep where
  sz := 2
  enc x := x.cells
  len _ := rfl
  one x u h := by simp only [Rep.cells, List.mem_cons, List.not_mem_nil, or_false] at h; rcases h with rfl | rfl <;> rfl
  pos := by decide
theorem Row.rep {xs : List Rep} (h : Row w v xs) (k : Nat) (hk : k < xs.length) : ∃ b o c, v = .slice (some ⟨b, o, none⟩) xs.length c ∧
    w.cell? ⟨b, o + k * 2, none⟩ = some (.int .i64 (rd xs k).err) ∧
    w.cell? ⟨b, o + k * 2 + 1, none⟩ = some (.int .i64 (rd xs k).id) ∧ b < w.heap.size := by
  obtain ⟨b, o, c, hv, hc⟩ := h.at k hk
  exact ⟨b, o, c, hv, hc 0 _ rfl, hc 1 _ rfl, cell_lt (hc 0 _ rfl)⟩
theorem Row.repI {xs : List Rep} (h : Row w v xs) (k : Int) (h0 : 0 ≤ k) (hk : k < xs.length) : ∃ b o c, v = .slice (some ⟨b, o, none⟩) xs.length c ∧
    w.cell? ⟨b, o + k.toNat * 2, none⟩ = some (.int .i64 (rd xs k).err) ∧
    w.cell? ⟨b, o + k.toNat * 2 + 1, none⟩ = some (.int .i64 (rd xs k).id) ∧ b < w.heap.size := by
  obtain ⟨b, o, c, hv, hc⟩ := h.atI k h0 hk
  exact ⟨b, o, c, hv, hc 0 _ rfl, hc 1 _ rfl, cell_lt (hc 0 _ rfl)⟩
structure Ask where
  key : Int
  op : Int
  a : Int
  b : Int
  amt : Int
  legs : Int
  til : Int
  deriving DecidableEq, Inhabited
def Ask.cells (x : Ask) : List Value := [.int .u8 x.key, .int .u8 x.op, .int .u8 x.a, .int .u8 x.b, .int .u16 x.amt, .int .u8 x.legs, .int .u8 x.til]
abbrev Ask.val (x : Ask) : Value := .agg #[.int .u8 x.key, .int .u8 x.op, .int .u8 x.a, .int .u8 x.b, .int .u16 x.amt, .int .u8 x.legs, .int .u8 x.til]
instance : Enc Ask where
  sz := 7
  enc x := x.cells
  len _ := rfl
  one x u h := by simp only [Ask.cells, List.mem_cons, List.not_mem_nil, or_false] at h; rcases h with rfl | rfl | rfl | rfl | rfl | rfl | rfl <;> rfl
  pos := by decide
theorem Row.ask {xs : List Ask} (h : Row w v xs) (k : Nat) (hk : k < xs.length) : ∃ b o c, v = .slice (some ⟨b, o, none⟩) xs.length c ∧
    w.cell? ⟨b, o + k * 7, none⟩ = some (.int .u8 (rd xs k).key) ∧
    w.cell? ⟨b, o + k * 7 + 1, none⟩ = some (.int .u8 (rd xs k).op) ∧
    w.cell? ⟨b, o + k * 7 + 2, none⟩ = some (.int .u8 (rd xs k).a) ∧
    w.cell? ⟨b, o + k * 7 + 3, none⟩ = some (.int .u8 (rd xs k).b) ∧
    w.cell? ⟨b, o + k * 7 + 4, none⟩ = some (.int .u16 (rd xs k).amt) ∧
    w.cell? ⟨b, o + k * 7 + 5, none⟩ = some (.int .u8 (rd xs k).legs) ∧
    w.cell? ⟨b, o + k * 7 + 6, none⟩ = some (.int .u8 (rd xs k).til) ∧ b < w.heap.size := by
  obtain ⟨b, o, c, hv, hc⟩ := h.at k hk
  exact ⟨b, o, c, hv, hc 0 _ rfl, hc 1 _ rfl, hc 2 _ rfl, hc 3 _ rfl, hc 4 _ rfl, hc 5 _ rfl, hc 6 _ rfl, cell_lt (hc 0 _ rfl)⟩
theorem Row.askI {xs : List Ask} (h : Row w v xs) (k : Int) (h0 : 0 ≤ k) (hk : k < xs.length) : ∃ b o c, v = .slice (some ⟨b, o, none⟩) xs.length c ∧
    w.cell? ⟨b, o + k.toNat * 7, none⟩ = some (.int .u8 (rd xs k).key) ∧
    w.cell? ⟨b, o + k.toNat * 7 + 1, none⟩ = some (.int .u8 (rd xs k).op) ∧
    w.cell? ⟨b, o + k.toNat * 7 + 2, none⟩ = some (.int .u8 (rd xs k).a) ∧
    w.cell? ⟨b, o + k.toNat * 7 + 3, none⟩ = some (.int .u8 (rd xs k).b) ∧
    w.cell? ⟨b, o + k.toNat * 7 + 4, none⟩ = some (.int .u16 (rd xs k).amt) ∧
    w.cell? ⟨b, o + k.toNat * 7 + 5, none⟩ = some (.int .u8 (rd xs k).legs) ∧
    w.cell? ⟨b, o + k.toNat * 7 + 6, none⟩ = some (.int .u8 (rd xs k).til) ∧ b < w.heap.size := by
  obtain ⟨b, o, c, hv, hc⟩ := h.atI k h0 hk
  exact ⟨b, o, c, hv, hc 0 _ rfl, hc 1 _ rfl, hc 2 _ rfl, hc 3 _ rfl, hc 4 _ rfl, hc 5 _ rfl, hc 6 _ rfl, cell_lt (hc 0 _ rfl)⟩
structure Itm where
  til : Int
  k : Int
  deriving DecidableEq, Inhabited
def Itm.cells (x : Itm) : List Value := [.int .i64 x.til, .int .i64 x.k]
abbrev Itm.val (x : Itm) : Value := .agg #[.int .i64 x.til, .int .i64 x.k]
instance : Enc Itm where
  sz := 2
  enc x := x.cells
  len _ := rfl
  one x u h := by simp only [Itm.cells, List.mem_cons, List.not_mem_nil, or_false] at h; rcases h with rfl | rfl <;> rfl
  pos := by decide
theorem Row.itm {xs : List Itm} (h : Row w v xs) (k : Nat) (hk : k < xs.length) : ∃ b o c, v = .slice (some ⟨b, o, none⟩) xs.length c ∧
    w.cell? ⟨b, o + k * 2, none⟩ = some (.int .i64 (rd xs k).til) ∧
    w.cell? ⟨b, o + k * 2 + 1, none⟩ = some (.int .i64 (rd xs k).k) ∧ b < w.heap.size := by
  obtain ⟨b, o, c, hv, hc⟩ := h.at k hk
  exact ⟨b, o, c, hv, hc 0 _ rfl, hc 1 _ rfl, cell_lt (hc 0 _ rfl)⟩
theorem Row.itmI {xs : List Itm} (h : Row w v xs) (k : Int) (h0 : 0 ≤ k) (hk : k < xs.length) : ∃ b o c, v = .slice (some ⟨b, o, none⟩) xs.length c ∧
    w.cell? ⟨b, o + k.toNat * 2, none⟩ = some (.int .i64 (rd xs k).til) ∧
    w.cell? ⟨b, o + k.toNat * 2 + 1, none⟩ = some (.int .i64 (rd xs k).k) ∧ b < w.heap.size := by
  obtain ⟨b, o, c, hv, hc⟩ := h.atI k h0 hk
  exact ⟨b, o, c, hv, hc 0 _ rfl, hc 1 _ rfl, cell_lt (hc 0 _ rfl)⟩
structure Paid where
  frm : Int
  to : Int
  auth : Int
  capt : Int
  refd : Int
  chgd : Int
  til : Int
  closed : Bool
  deriving DecidableEq, Inhabited
def Paid.cells (x : Paid) : List Value := [.int .u8 x.frm, .int .u8 x.to, .int .u8 x.auth, .int .u8 x.capt, .int .u8 x.refd, .int .u8 x.chgd, .int .u8 x.til, .bool x.closed]
abbrev Paid.val (x : Paid) : Value := .agg #[.int .u8 x.frm, .int .u8 x.to, .int .u8 x.auth, .int .u8 x.capt, .int .u8 x.refd, .int .u8 x.chgd, .int .u8 x.til, .bool x.closed]
instance : Enc Paid where
  sz := 8
  enc x := x.cells
  len _ := rfl
  one x u h := by simp only [Paid.cells, List.mem_cons, List.not_mem_nil, or_false] at h; rcases h with rfl | rfl | rfl | rfl | rfl | rfl | rfl | rfl <;> rfl
  pos := by decide
theorem Row.paid {xs : List Paid} (h : Row w v xs) (k : Nat) (hk : k < xs.length) : ∃ b o c, v = .slice (some ⟨b, o, none⟩) xs.length c ∧
    w.cell? ⟨b, o + k * 8, none⟩ = some (.int .u8 (rd xs k).frm) ∧
    w.cell? ⟨b, o + k * 8 + 1, none⟩ = some (.int .u8 (rd xs k).to) ∧
    w.cell? ⟨b, o + k * 8 + 2, none⟩ = some (.int .u8 (rd xs k).auth) ∧
    w.cell? ⟨b, o + k * 8 + 3, none⟩ = some (.int .u8 (rd xs k).capt) ∧
    w.cell? ⟨b, o + k * 8 + 4, none⟩ = some (.int .u8 (rd xs k).refd) ∧
    w.cell? ⟨b, o + k * 8 + 5, none⟩ = some (.int .u8 (rd xs k).chgd) ∧
    w.cell? ⟨b, o + k * 8 + 6, none⟩ = some (.int .u8 (rd xs k).til) ∧
    w.cell? ⟨b, o + k * 8 + 7, none⟩ = some (.bool (rd xs k).closed) ∧ b < w.heap.size := by
  obtain ⟨b, o, c, hv, hc⟩ := h.at k hk
  exact ⟨b, o, c, hv, hc 0 _ rfl, hc 1 _ rfl, hc 2 _ rfl, hc 3 _ rfl, hc 4 _ rfl, hc 5 _ rfl, hc 6 _ rfl, hc 7 _ rfl, cell_lt (hc 0 _ rfl)⟩
theorem Row.paidI {xs : List Paid} (h : Row w v xs) (k : Int) (h0 : 0 ≤ k) (hk : k < xs.length) : ∃ b o c, v = .slice (some ⟨b, o, none⟩) xs.length c ∧
    w.cell? ⟨b, o + k.toNat * 8, none⟩ = some (.int .u8 (rd xs k).frm) ∧
    w.cell? ⟨b, o + k.toNat * 8 + 1, none⟩ = some (.int .u8 (rd xs k).to) ∧
    w.cell? ⟨b, o + k.toNat * 8 + 2, none⟩ = some (.int .u8 (rd xs k).auth) ∧
    w.cell? ⟨b, o + k.toNat * 8 + 3, none⟩ = some (.int .u8 (rd xs k).capt) ∧
    w.cell? ⟨b, o + k.toNat * 8 + 4, none⟩ = some (.int .u8 (rd xs k).refd) ∧
    w.cell? ⟨b, o + k.toNat * 8 + 5, none⟩ = some (.int .u8 (rd xs k).chgd) ∧
    w.cell? ⟨b, o + k.toNat * 8 + 6, none⟩ = some (.int .u8 (rd xs k).til) ∧
    w.cell? ⟨b, o + k.toNat * 8 + 7, none⟩ = some (.bool (rd xs k).closed) ∧ b < w.heap.size := by
  obtain ⟨b, o, c, hv, hc⟩ := h.atI k h0 hk
  exact ⟨b, o, c, hv, hc 0 _ rfl, hc 1 _ rfl, hc 2 _ rfl, hc 3 _ rfl, hc 4 _ rfl, hc 5 _ rfl, hc 6 _ rfl, hc 7 _ rfl, cell_lt (hc 0 _ rfl)⟩
structure Saga where
  req : Req
  phase : Int
  leg : Int
  tries : Int
  why : Int
  deriving DecidableEq, Inhabited
def Saga.cells (x : Saga) : List Value := [.int .i64 x.req.key, .int .i64 x.req.op, .int .i64 x.req.a, .int .i64 x.req.b, .int .i64 x.req.amt, .int .i64 x.req.legs, .int .i64 x.req.til, .int .i64 x.phase, .int .i64 x.leg, .int .i64 x.tries, .int .i64 x.why]
abbrev Saga.val (x : Saga) : Value := .agg #[.int .i64 x.req.key, .int .i64 x.req.op, .int .i64 x.req.a, .int .i64 x.req.b, .int .i64 x.req.amt, .int .i64 x.req.legs, .int .i64 x.req.til, .int .i64 x.phase, .int .i64 x.leg, .int .i64 x.tries, .int .i64 x.why]
instance : Enc Saga where
  sz := 11
  enc x := x.cells
  len _ := rfl
  one x u h := by simp only [Saga.cells, List.mem_cons, List.not_mem_nil, or_false] at h; rcases h with rfl | rfl | rfl | rfl | rfl | rfl | rfl | rfl | rfl | rfl | rfl <;> rfl
  pos := by decide
theorem Row.saga {xs : List Saga} (h : Row w v xs) (k : Nat) (hk : k < xs.length) : ∃ b o c, v = .slice (some ⟨b, o, none⟩) xs.length c ∧
    w.cell? ⟨b, o + k * 11, none⟩ = some (.int .i64 (rd xs k).req.key) ∧
    w.cell? ⟨b, o + k * 11 + 1, none⟩ = some (.int .i64 (rd xs k).req.op) ∧
    w.cell? ⟨b, o + k * 11 + 2, none⟩ = some (.int .i64 (rd xs k).req.a) ∧
    w.cell? ⟨b, o + k * 11 + 3, none⟩ = some (.int .i64 (rd xs k).req.b) ∧
    w.cell? ⟨b, o + k * 11 + 4, none⟩ = some (.int .i64 (rd xs k).req.amt) ∧
    w.cell? ⟨b, o + k * 11 + 5, none⟩ = some (.int .i64 (rd xs k).req.legs) ∧
    w.cell? ⟨b, o + k * 11 + 6, none⟩ = some (.int .i64 (rd xs k).req.til) ∧
    w.cell? ⟨b, o + k * 11 + 7, none⟩ = some (.int .i64 (rd xs k).phase) ∧
    w.cell? ⟨b, o + k * 11 + 8, none⟩ = some (.int .i64 (rd xs k).leg) ∧
    w.cell? ⟨b, o + k * 11 + 9, none⟩ = some (.int .i64 (rd xs k).tries) ∧
    w.cell? ⟨b, o + k * 11 + 10, none⟩ = some (.int .i64 (rd xs k).why) ∧ b < w.heap.size := by
  obtain ⟨b, o, c, hv, hc⟩ := h.at k hk
  exact ⟨b, o, c, hv, hc 0 _ rfl, hc 1 _ rfl, hc 2 _ rfl, hc 3 _ rfl, hc 4 _ rfl, hc 5 _ rfl, hc 6 _ rfl, hc 7 _ rfl, hc 8 _ rfl, hc 9 _ rfl, hc 10 _ rfl, cell_lt (hc 0 _ rfl)⟩
theorem Row.sagaI {xs : List Saga} (h : Row w v xs) (k : Int) (h0 : 0 ≤ k) (hk : k < xs.length) : ∃ b o c, v = .slice (some ⟨b, o, none⟩) xs.length c ∧
    w.cell? ⟨b, o + k.toNat * 11, none⟩ = some (.int .i64 (rd xs k).req.key) ∧
    w.cell? ⟨b, o + k.toNat * 11 + 1, none⟩ = some (.int .i64 (rd xs k).req.op) ∧
    w.cell? ⟨b, o + k.toNat * 11 + 2, none⟩ = some (.int .i64 (rd xs k).req.a) ∧
    w.cell? ⟨b, o + k.toNat * 11 + 3, none⟩ = some (.int .i64 (rd xs k).req.b) ∧
    w.cell? ⟨b, o + k.toNat * 11 + 4, none⟩ = some (.int .i64 (rd xs k).req.amt) ∧
    w.cell? ⟨b, o + k.toNat * 11 + 5, none⟩ = some (.int .i64 (rd xs k).req.legs) ∧
    w.cell? ⟨b, o + k.toNat * 11 + 6, none⟩ = some (.int .i64 (rd xs k).req.til) ∧
    w.cell? ⟨b, o + k.toNat * 11 + 7, none⟩ = some (.int .i64 (rd xs k).phase) ∧
    w.cell? ⟨b, o + k.toNat * 11 + 8, none⟩ = some (.int .i64 (rd xs k).leg) ∧
    w.cell? ⟨b, o + k.toNat * 11 + 9, none⟩ = some (.int .i64 (rd xs k).tries) ∧
    w.cell? ⟨b, o + k.toNat * 11 + 10, none⟩ = some (.int .i64 (rd xs k).why) ∧ b < w.heap.size := by
  obtain ⟨b, o, c, hv, hc⟩ := h.atI k h0 hk
  exact ⟨b, o, c, hv, hc 0 _ rfl, hc 1 _ rfl, hc 2 _ rfl, hc 3 _ rfl, hc 4 _ rfl, hc 5 _ rfl, hc 6 _ rfl, hc 7 _ rfl, hc 8 _ rfl, hc 9 _ rfl, hc 10 _ rfl, cell_lt (hc 0 _ rfl)⟩
structure Kn where
  req : Req
  rep : Rep
  told : Bool
  deriving DecidableEq, Inhabited
def Kn.cells (x : Kn) : List Value := [.int .i64 x.req.key, .int .i64 x.req.op, .int .i64 x.req.a, .int .i64 x.req.b, .int .i64 x.req.amt, .int .i64 x.req.legs, .int .i64 x.req.til, .int .i64 x.rep.err, .int .i64 x.rep.id, .bool x.told]
abbrev Kn.val (x : Kn) : Value := .agg #[.int .i64 x.req.key, .int .i64 x.req.op, .int .i64 x.req.a, .int .i64 x.req.b, .int .i64 x.req.amt, .int .i64 x.req.legs, .int .i64 x.req.til, .int .i64 x.rep.err, .int .i64 x.rep.id, .bool x.told]
instance : Enc Kn where
  sz := 10
  enc x := x.cells
  len _ := rfl
  one x u h := by simp only [Kn.cells, List.mem_cons, List.not_mem_nil, or_false] at h; rcases h with rfl | rfl | rfl | rfl | rfl | rfl | rfl | rfl | rfl | rfl <;> rfl
  pos := by decide
theorem Row.kn {xs : List Kn} (h : Row w v xs) (k : Nat) (hk : k < xs.length) : ∃ b o c, v = .slice (some ⟨b, o, none⟩) xs.length c ∧
    w.cell? ⟨b, o + k * 10, none⟩ = some (.int .i64 (rd xs k).req.key) ∧
    w.cell? ⟨b, o + k * 10 + 1, none⟩ = some (.int .i64 (rd xs k).req.op) ∧
    w.cell? ⟨b, o + k * 10 + 2, none⟩ = some (.int .i64 (rd xs k).req.a) ∧
    w.cell? ⟨b, o + k * 10 + 3, none⟩ = some (.int .i64 (rd xs k).req.b) ∧
    w.cell? ⟨b, o + k * 10 + 4, none⟩ = some (.int .i64 (rd xs k).req.amt) ∧
    w.cell? ⟨b, o + k * 10 + 5, none⟩ = some (.int .i64 (rd xs k).req.legs) ∧
    w.cell? ⟨b, o + k * 10 + 6, none⟩ = some (.int .i64 (rd xs k).req.til) ∧
    w.cell? ⟨b, o + k * 10 + 7, none⟩ = some (.int .i64 (rd xs k).rep.err) ∧
    w.cell? ⟨b, o + k * 10 + 8, none⟩ = some (.int .i64 (rd xs k).rep.id) ∧
    w.cell? ⟨b, o + k * 10 + 9, none⟩ = some (.bool (rd xs k).told) ∧ b < w.heap.size := by
  obtain ⟨b, o, c, hv, hc⟩ := h.at k hk
  exact ⟨b, o, c, hv, hc 0 _ rfl, hc 1 _ rfl, hc 2 _ rfl, hc 3 _ rfl, hc 4 _ rfl, hc 5 _ rfl, hc 6 _ rfl, hc 7 _ rfl, hc 8 _ rfl, hc 9 _ rfl, cell_lt (hc 0 _ rfl)⟩
theorem Row.knI {xs : List Kn} (h : Row w v xs) (k : Int) (h0 : 0 ≤ k) (hk : k < xs.length) : ∃ b o c, v = .slice (some ⟨b, o, none⟩) xs.length c ∧
    w.cell? ⟨b, o + k.toNat * 10, none⟩ = some (.int .i64 (rd xs k).req.key) ∧
    w.cell? ⟨b, o + k.toNat * 10 + 1, none⟩ = some (.int .i64 (rd xs k).req.op) ∧
    w.cell? ⟨b, o + k.toNat * 10 + 2, none⟩ = some (.int .i64 (rd xs k).req.a) ∧
    w.cell? ⟨b, o + k.toNat * 10 + 3, none⟩ = some (.int .i64 (rd xs k).req.b) ∧
    w.cell? ⟨b, o + k.toNat * 10 + 4, none⟩ = some (.int .i64 (rd xs k).req.amt) ∧
    w.cell? ⟨b, o + k.toNat * 10 + 5, none⟩ = some (.int .i64 (rd xs k).req.legs) ∧
    w.cell? ⟨b, o + k.toNat * 10 + 6, none⟩ = some (.int .i64 (rd xs k).req.til) ∧
    w.cell? ⟨b, o + k.toNat * 10 + 7, none⟩ = some (.int .i64 (rd xs k).rep.err) ∧
    w.cell? ⟨b, o + k.toNat * 10 + 8, none⟩ = some (.int .i64 (rd xs k).rep.id) ∧
    w.cell? ⟨b, o + k.toNat * 10 + 9, none⟩ = some (.bool (rd xs k).told) ∧ b < w.heap.size := by
  obtain ⟨b, o, c, hv, hc⟩ := h.atI k h0 hk
  exact ⟨b, o, c, hv, hc 0 _ rfl, hc 1 _ rfl, hc 2 _ rfl, hc 3 _ rfl, hc 4 _ rfl, hc 5 _ rfl, hc 6 _ rfl, hc 7 _ rfl, hc 8 _ rfl, hc 9 _ rfl, cell_lt (hc 0 _ rfl)⟩
structure Ev where
  what : Int
  req : Req
  key : Int
  ok : Bool
  deriving DecidableEq, Inhabited
def Ev.cells (x : Ev) : List Value := [.int .i64 x.what, .int .i64 x.req.key, .int .i64 x.req.op, .int .i64 x.req.a, .int .i64 x.req.b, .int .i64 x.req.amt, .int .i64 x.req.legs, .int .i64 x.req.til, .int .i64 x.key, .bool x.ok]
abbrev Ev.val (x : Ev) : Value := .agg #[.int .i64 x.what, .int .i64 x.req.key, .int .i64 x.req.op, .int .i64 x.req.a, .int .i64 x.req.b, .int .i64 x.req.amt, .int .i64 x.req.legs, .int .i64 x.req.til, .int .i64 x.key, .bool x.ok]
instance : Enc Ev where
  sz := 10
  enc x := x.cells
  len _ := rfl
  one x u h := by simp only [Ev.cells, List.mem_cons, List.not_mem_nil, or_false] at h; rcases h with rfl | rfl | rfl | rfl | rfl | rfl | rfl | rfl | rfl | rfl <;> rfl
  pos := by decide
theorem Row.ev {xs : List Ev} (h : Row w v xs) (k : Nat) (hk : k < xs.length) : ∃ b o c, v = .slice (some ⟨b, o, none⟩) xs.length c ∧
    w.cell? ⟨b, o + k * 10, none⟩ = some (.int .i64 (rd xs k).what) ∧
    w.cell? ⟨b, o + k * 10 + 1, none⟩ = some (.int .i64 (rd xs k).req.key) ∧
    w.cell? ⟨b, o + k * 10 + 2, none⟩ = some (.int .i64 (rd xs k).req.op) ∧
    w.cell? ⟨b, o + k * 10 + 3, none⟩ = some (.int .i64 (rd xs k).req.a) ∧
    w.cell? ⟨b, o + k * 10 + 4, none⟩ = some (.int .i64 (rd xs k).req.b) ∧
    w.cell? ⟨b, o + k * 10 + 5, none⟩ = some (.int .i64 (rd xs k).req.amt) ∧
    w.cell? ⟨b, o + k * 10 + 6, none⟩ = some (.int .i64 (rd xs k).req.legs) ∧
    w.cell? ⟨b, o + k * 10 + 7, none⟩ = some (.int .i64 (rd xs k).req.til) ∧
    w.cell? ⟨b, o + k * 10 + 8, none⟩ = some (.int .i64 (rd xs k).key) ∧
    w.cell? ⟨b, o + k * 10 + 9, none⟩ = some (.bool (rd xs k).ok) ∧ b < w.heap.size := by
  obtain ⟨b, o, c, hv, hc⟩ := h.at k hk
  exact ⟨b, o, c, hv, hc 0 _ rfl, hc 1 _ rfl, hc 2 _ rfl, hc 3 _ rfl, hc 4 _ rfl, hc 5 _ rfl, hc 6 _ rfl, hc 7 _ rfl, hc 8 _ rfl, hc 9 _ rfl, cell_lt (hc 0 _ rfl)⟩
theorem Row.evI {xs : List Ev} (h : Row w v xs) (k : Int) (h0 : 0 ≤ k) (hk : k < xs.length) : ∃ b o c, v = .slice (some ⟨b, o, none⟩) xs.length c ∧
    w.cell? ⟨b, o + k.toNat * 10, none⟩ = some (.int .i64 (rd xs k).what) ∧
    w.cell? ⟨b, o + k.toNat * 10 + 1, none⟩ = some (.int .i64 (rd xs k).req.key) ∧
    w.cell? ⟨b, o + k.toNat * 10 + 2, none⟩ = some (.int .i64 (rd xs k).req.op) ∧
    w.cell? ⟨b, o + k.toNat * 10 + 3, none⟩ = some (.int .i64 (rd xs k).req.a) ∧
    w.cell? ⟨b, o + k.toNat * 10 + 4, none⟩ = some (.int .i64 (rd xs k).req.b) ∧
    w.cell? ⟨b, o + k.toNat * 10 + 5, none⟩ = some (.int .i64 (rd xs k).req.amt) ∧
    w.cell? ⟨b, o + k.toNat * 10 + 6, none⟩ = some (.int .i64 (rd xs k).req.legs) ∧
    w.cell? ⟨b, o + k.toNat * 10 + 7, none⟩ = some (.int .i64 (rd xs k).req.til) ∧
    w.cell? ⟨b, o + k.toNat * 10 + 8, none⟩ = some (.int .i64 (rd xs k).key) ∧
    w.cell? ⟨b, o + k.toNat * 10 + 9, none⟩ = some (.bool (rd xs k).ok) ∧ b < w.heap.size := by
  obtain ⟨b, o, c, hv, hc⟩ := h.atI k h0 hk
  exact ⟨b, o, c, hv, hc 0 _ rfl, hc 1 _ rfl, hc 2 _ rfl, hc 3 _ rfl, hc 4 _ rfl, hc 5 _ rfl, hc 6 _ rfl, hc 7 _ rfl, hc 8 _ rfl, hc 9 _ rfl, cell_lt (hc 0 _ rfl)⟩
structure Deed where
  what : Int
  ask : Ask
  n : Int
  ok : Bool
  deriving DecidableEq, Inhabited
def Deed.cells (x : Deed) : List Value := [.int .u8 x.what, .int .u8 x.ask.key, .int .u8 x.ask.op, .int .u8 x.ask.a, .int .u8 x.ask.b, .int .u16 x.ask.amt, .int .u8 x.ask.legs, .int .u8 x.ask.til, .int .u8 x.n, .bool x.ok]
abbrev Deed.val (x : Deed) : Value := .agg #[.int .u8 x.what, .int .u8 x.ask.key, .int .u8 x.ask.op, .int .u8 x.ask.a, .int .u8 x.ask.b, .int .u16 x.ask.amt, .int .u8 x.ask.legs, .int .u8 x.ask.til, .int .u8 x.n, .bool x.ok]
instance : Enc Deed where
  sz := 10
  enc x := x.cells
  len _ := rfl
  one x u h := by simp only [Deed.cells, List.mem_cons, List.not_mem_nil, or_false] at h; rcases h with rfl | rfl | rfl | rfl | rfl | rfl | rfl | rfl | rfl | rfl <;> rfl
  pos := by decide
theorem Row.deed {xs : List Deed} (h : Row w v xs) (k : Nat) (hk : k < xs.length) : ∃ b o c, v = .slice (some ⟨b, o, none⟩) xs.length c ∧
    w.cell? ⟨b, o + k * 10, none⟩ = some (.int .u8 (rd xs k).what) ∧
    w.cell? ⟨b, o + k * 10 + 1, none⟩ = some (.int .u8 (rd xs k).ask.key) ∧
    w.cell? ⟨b, o + k * 10 + 2, none⟩ = some (.int .u8 (rd xs k).ask.op) ∧
    w.cell? ⟨b, o + k * 10 + 3, none⟩ = some (.int .u8 (rd xs k).ask.a) ∧
    w.cell? ⟨b, o + k * 10 + 4, none⟩ = some (.int .u8 (rd xs k).ask.b) ∧
    w.cell? ⟨b, o + k * 10 + 5, none⟩ = some (.int .u16 (rd xs k).ask.amt) ∧
    w.cell? ⟨b, o + k * 10 + 6, none⟩ = some (.int .u8 (rd xs k).ask.legs) ∧
    w.cell? ⟨b, o + k * 10 + 7, none⟩ = some (.int .u8 (rd xs k).ask.til) ∧
    w.cell? ⟨b, o + k * 10 + 8, none⟩ = some (.int .u8 (rd xs k).n) ∧
    w.cell? ⟨b, o + k * 10 + 9, none⟩ = some (.bool (rd xs k).ok) ∧ b < w.heap.size := by
  obtain ⟨b, o, c, hv, hc⟩ := h.at k hk
  exact ⟨b, o, c, hv, hc 0 _ rfl, hc 1 _ rfl, hc 2 _ rfl, hc 3 _ rfl, hc 4 _ rfl, hc 5 _ rfl, hc 6 _ rfl, hc 7 _ rfl, hc 8 _ rfl, hc 9 _ rfl, cell_lt (hc 0 _ rfl)⟩
theorem Row.deedI {xs : List Deed} (h : Row w v xs) (k : Int) (h0 : 0 ≤ k) (hk : k < xs.length) : ∃ b o c, v = .slice (some ⟨b, o, none⟩) xs.length c ∧
    w.cell? ⟨b, o + k.toNat * 10, none⟩ = some (.int .u8 (rd xs k).what) ∧
    w.cell? ⟨b, o + k.toNat * 10 + 1, none⟩ = some (.int .u8 (rd xs k).ask.key) ∧
    w.cell? ⟨b, o + k.toNat * 10 + 2, none⟩ = some (.int .u8 (rd xs k).ask.op) ∧
    w.cell? ⟨b, o + k.toNat * 10 + 3, none⟩ = some (.int .u8 (rd xs k).ask.a) ∧
    w.cell? ⟨b, o + k.toNat * 10 + 4, none⟩ = some (.int .u8 (rd xs k).ask.b) ∧
    w.cell? ⟨b, o + k.toNat * 10 + 5, none⟩ = some (.int .u16 (rd xs k).ask.amt) ∧
    w.cell? ⟨b, o + k.toNat * 10 + 6, none⟩ = some (.int .u8 (rd xs k).ask.legs) ∧
    w.cell? ⟨b, o + k.toNat * 10 + 7, none⟩ = some (.int .u8 (rd xs k).ask.til) ∧
    w.cell? ⟨b, o + k.toNat * 10 + 8, none⟩ = some (.int .u8 (rd xs k).n) ∧
    w.cell? ⟨b, o + k.toNat * 10 + 9, none⟩ = some (.bool (rd xs k).ok) ∧ b < w.heap.size := by
  obtain ⟨b, o, c, hv, hc⟩ := h.atI k h0 hk
  exact ⟨b, o, c, hv, hc 0 _ rfl, hc 1 _ rfl, hc 2 _ rfl, hc 3 _ rfl, hc 4 _ rfl, hc 5 _ rfl, hc 6 _ rfl, hc 7 _ rfl, hc 8 _ rfl, hc 9 _ rfl, cell_lt (hc 0 _ rfl)⟩
/-! ### Worlds -/
theorem below_alloc (h : Below w.heap.size w w') (o : Obj) : Below w.heap.size w (w'.alloc o) := h.alloc h.size o
theorem below_drew (h : Below B w w') : Below B w w'.drew := ⟨h.os, h.tape, h.output, h.size, h.block⟩
theorem below_drewN (h : Below B w w') (n : Nat) : Below B w (w'.drewN n) := ⟨h.os, h.tape, h.output, h.size, h.block⟩
theorem below_then {w1 w2 : World} (h : Below B w w1) (hB : B ≤ w1.heap.size) (k : Below w1.heap.size w1 w2) : Below B w w2 :=
  h.trans ⟨k.os, k.tape, k.output, k.size, fun i hi => k.block i (Nat.lt_of_lt_of_le hi hB)⟩
theorem below_next {w1 w2 : World} (h : Below w.heap.size w w1) (k : Below w1.heap.size w1 w2) : Below w.heap.size w w2 := below_then h h.size k
theorem below_grown {w1 w2 : World} {row : Option Nat} (h : Below w.heap.size w w1) (hg : w1.grownBy w2 row) (hr : ∀ k, row = some k → w.heap.size ≤ k) : Below w.heap.size w w2 := h.grown hg h.size hr
theorem Own.kept {e : TypeId} {row : Option Nat} (h : Own w B e v xs) (hg : w.grownBy w' row) (hne : v.ownBlock = none ∨ v.ownBlock ≠ row) : Own w' B e v xs := World.ownsRow.kept h hg hne
theorem Own.below {e : TypeId} (h : Own w B e v xs) (hb : Below w.heap.size w w') : Own w' B e v xs :=
  h.kept (row := none) ⟨hb.os, hb.tape, hb.output, hb.size, fun i hi _ => hb.block i hi⟩ (by cases v.ownBlock <;> simp)
theorem Own.alloc {e : TypeId} (h : Own w B e v xs) (o : Obj) : Own (w.alloc o) B e v xs := World.ownsRow.alloc h o
theorem Own.drewN {e : TypeId} (h : Own w B e v xs) (n : Nat) : Own (w.drewN n) B e v xs := h
theorem Row.drewN (h : Row w v xs) (n : Nat) : Row (w.drewN n) v xs := h
theorem Row.alloc (h : Row w v xs) (o : Obj) : Row (w.alloc o) v xs := h.below (below_alloc (Below.refl _ _) o)
theorem Own.base {e : TypeId} (h : Own w B e v xs) : ∀ k, v.ownBlock = some k → B ≤ k := fun k hk => (World.ownsRow.lt h k hk).1
theorem Own.ne {e : TypeId} (h : Own w B e v xs) {b : Nat} (hb : b < B) : some b ≠ v.ownBlock := fun he => by have := h.base b he.symm; omega
theorem Own.lt {e : TypeId} (h : Own w B e v xs) : ∀ k, v.ownBlock = some k → k < w.heap.size := fun k hk => (World.ownsRow.lt h k hk).2
theorem Own.lower {e : TypeId} {B' : Nat} (h : Own w B e v xs) (hB : B' ≤ B) : Own w B' e v xs := by
  refine ⟨h.1, ?_⟩
  rcases h.2 with h0 | ⟨g, cap, cur, h1, h2, h3⟩
  · exact .inl h0
  · exact .inr ⟨g, cap, cur, h1, by omega, h3⟩

/-! ### append -/
/-- t is the type of slices of e, and an e is what α says. -/
structure SlT (P : Program) (t e : TypeId) (α : Type) [Enc α] (bytes : Nat) : Prop where
  und : P.underlying t = some (.slice e)
  inf : ∃ i z, P.info? e = some i ∧ i.zero = some z ∧ i.size = sz α ∧ i.bytes = bytes ∧ z.cells.size = sz α

theorem add_plain (b o j : Nat) : (⟨b, o, none⟩ : Addr).add j = ⟨b, o + j, none⟩ := by unfold Addr.add; split <;> simp_all

theorem flat_split (ys : List α) (j : Nat) (u : Value) (h : (ys.flatMap enc)[j]? = some u) : ∃ k i, ∃ hk : k < ys.length, j = k * sz α + i ∧ (enc ys[k])[i]? = some u := by
  induction ys generalizing j with
  | nil => simp at h
  | cons y ys ih =>
    simp only [List.flatMap_cons] at h
    by_cases hj : j < sz α
    · rw [List.getElem?_append_left (by rw [len]; exact hj)] at h
      exact ⟨0, j, by simp, by simp, by simpa using h⟩
    · rw [List.getElem?_append_right (by rw [len]; omega), len] at h
      obtain ⟨k, i, hk, he, hu⟩ := ih _ h
      exact ⟨k + 1, i, by simpa using hk, by rw [Nat.succ_mul]; omega, by simpa using hu⟩

theorem flat_one (ys : List α) : ∀ u ∈ ys.flatMap enc, u.oneCell' = true := by
  intro u hu
  obtain ⟨y, _, h⟩ := List.mem_flatMap.1 hu
  exact one y u h

section
variable {P : Program}
theorem run_append_nil (base : Nat) (t ty e : TypeId) (i : TypeInfo) (size : Nat) (ht : P.underlying t = some (.slice e)) (hi : P.info? e = some i)
    (v : Value) (n : Nat) (xs : List Value) (hown : w.ownsRow base e size v n xs) (c : Nat) : (Builtin.append_ #[t, t] ty #[v, .slice none 0 c]).run P w = .ok v w := by
  rcases hown.2 with ⟨rfl, rfl⟩ | ⟨g, cap, cur, rfl, _, _, hnc, _⟩
  · simp [Builtin.append_, run_underlying ht, sizeOf, typeInfo, hi, Builtin.lenOf, Builtin.firstCells]
  · simp [Builtin.append_, run_underlying ht, sizeOf, typeInfo, hi, Builtin.lenOf, Builtin.firstCells, hnc, storeCells]

theorem run_append {t e bytes : Nat} (ty : TypeId) (hT : SlT P t e α bytes) {ys : List α} {y : Value} (hown : Own w B e v xs) (hr : Row w y ys)
    (hbytes : (xs.length + ys.length) * bytes ≤ 140737488355328) (hb0 : 0 < bytes) (hbase : B ≤ w.heap.size) :
    ∃ v' w', (Builtin.append_ #[t, t] ty #[v, y]).run P w = .ok v' w' ∧ Own w' B e v' (xs ++ ys) ∧ w.grownBy w' v.ownBlock ∧
      (v'.ownBlock = v.ownBlock ∨ v'.ownBlock = some w.heap.size) := by
  obtain ⟨i, z, hi, hz, hs, hby, hzs⟩ := hT.inf
  obtain ⟨A, c, rfl, hm, hc⟩ := hr
  have h63 : xs.length + ys.length ≤ maxLen := by
    have : (xs.length + ys.length) ≤ (xs.length + ys.length) * bytes := Nat.le_mul_of_pos_right _ hb0
    simp only [maxLen]; omega
  rcases Nat.eq_zero_or_pos ys.length with h0 | h0
  · obtain rfl : ys = [] := List.eq_nil_of_length_eq_zero h0
    rcases A with _ | ad
    · exact ⟨v, w, run_append_nil B t ty e i (sz α) hT.und hi v _ _ hown c, by simpa using hown, World.grownBy.refl w _, .inl rfl⟩
    · obtain ⟨v', w', hrun, h2, h3, _, h5⟩ := run_append_own_at (P := P) w B t ty e i z (sz α) bytes hT.und hi hz hs hby hzs pos v _ _ hown ad 0 c [] (by simp) (by simp) (by simp) (by simpa using h63) (by simpa using hbytes) hbase
      exact ⟨v', w', hrun, by simpa [Own] using h2, h3, h5⟩
  · obtain ⟨b, o, rfl, _⟩ := hc 0 h0
    have hcells : ∀ j u, (ys.flatMap enc)[j]? = some u → w.cell? ((⟨b, o, none⟩ : Addr).add j) = some u := by
      intro j u hu
      obtain ⟨k, i, hk, rfl, hx⟩ := flat_split ys j u hu
      obtain ⟨b', o', he, hcc⟩ := hc k hk
      injection he with he
      injection he with e1 e2
      subst e1 e2
      rw [add_plain, ← Nat.add_assoc]
      exact hcc i u hx
    obtain ⟨v', w', hrun, h2, h3, _, h5⟩ := run_append_own_at (P := P) w B t ty e i z (sz α) bytes hT.und hi hz hs hby hzs pos v _ _ hown ⟨b, o, none⟩ ys.length c _ (flat_len ys) hcells (flat_one ys) h63 hbytes hbase
    exact ⟨v', w', hrun, by simpa [Own] using h2, h3, h5⟩

theorem wp_append {ops : Array Oper} {rest : List Oper} {o : Oper} {a : Act} {Q : Exit → Act → World → Prop} {t e bytes : Nat} (hT : SlT P t e α bytes) (hgd : o.guard = none) {s x : Operand}
    (ho : o.op = .call { callee := .builtin .append, args := #[s, x], argTypes := #[t, t] }) {ys : List α} (v y : Value) (hs : a.eval s = v) (hx : a.eval x = y) (hown : Own w B e v xs) (hr : Row w y ys)
    (hbytes : (xs.length + ys.length) * bytes ≤ 140737488355328) (hb0 : 0 < bytes) (hbase : B ≤ w.heap.size)
    (h : ∀ v' w', Own w' B e v' (xs ++ ys) → w.grownBy w' v.ownBlock → (v'.ownBlock = v.ownBlock ∨ v'.ownBlock = some w.heap.size) → wpList P ops Q rest (a.put o.dst v') w') : wpList P ops Q (o :: rest) a w := by
  refine wpList_plain hgd fun _ hK => ?_
  obtain ⟨v', w', hrun, h2, h3, h4⟩ := run_append (P := P) o.type hT hown hr hbytes hb0 hbase
  unfold Oper.wp execOp
  simp only [ho, resolve, invoke, builtin, Sem.run_bind, Sem.run_pure, Result.andThen_ok, List.map_toArray, List.map_cons, List.map_nil, hs, hx, hrun]
  exact hK _ _ (h v' w' h2 h3 h4)
end

section
variable {P : Program}
theorem step_append {ops : Array Oper} {o : Oper} {a : Act} {K : Act → World → Prop} {Q : Exit → Act → World → Prop} {E : Prop} {t e bytes : Nat} (hT : SlT P t e α bytes) (hgd : o.guard = none) {s x : Operand}
    (ho : o.op = .call { callee := .builtin .append, args := #[s, x], argTypes := #[t, t] }) {ys : List α} (v y : Value) (hs : a.eval s = v) (hx : a.eval x = y) (hown : Own w B e v xs) (hr : Row w y ys)
    (hbytes : (xs.length + ys.length) * bytes ≤ 140737488355328) (hb0 : 0 < bytes) (hbase : B ≤ w.heap.size)
    (h : ∀ v' w', Own w' B e v' (xs ++ ys) → w.grownBy w' v.ownBlock → (v'.ownBlock = v.ownBlock ∨ v'.ownBlock = some w.heap.size) → K (a.put o.dst v') w') :
    if Region.wanted o (yielded ops a.tmps) = true then Oper.wp P o a w K Q else E := by
  have hw : Region.wanted o (yielded ops a.tmps) = true := by simp [Region.wanted, hgd]
  rw [if_pos hw]
  obtain ⟨v', w', hrun, h2, h3, h4⟩ := run_append (P := P) o.type hT hown hr hbytes hb0 hbase
  unfold Oper.wp execOp
  simp only [ho, resolve, invoke, builtin, Sem.run_bind, Sem.run_pure, Result.andThen_ok, List.map_toArray, List.map_cons, List.map_nil, hs, hx, hrun]
  exact h v' w' h2 h3 h4
end
theorem Row.drew (h : Row w v xs) : Row w.drew v xs := h
theorem Own.drew {e : TypeId} (h : Own w B e v xs) : Own w.drew B e v xs := h

/-! ### Blocks known whole -/
def Blk (w : World) (g : Nat) (t : TypeId) (cs : Array Value) : Prop := w.heap[g]? = some (.cells cs t (0, 0))
section
variable {g : Nat} {t : TypeId} {cs : Array Value}
theorem Blk.lt (h : Blk w g t cs) : g < w.heap.size := by
  rcases Nat.lt_or_ge g w.heap.size with hlt | hge
  · exact hlt
  · unfold Blk at h; rw [Array.getElem?_eq_none hge] at h; cases h
theorem Blk.cell (h : Blk w g t cs) (i : Nat) : w.cell? ⟨g, i, none⟩ = cs[i]? := cell_of_row w g i cs t (0, 0) h
theorem Blk.at (h : Blk w g t cs) (i : Nat) (u : Value) (hu : cs[i]? = some u) : w.cell? ⟨g, i, none⟩ = some u := (h.cell i).trans hu
theorem Blk.frozen (h : Blk w g t cs) (i : Nat) : w.frozen? ⟨g, i, none⟩ = false := by
  unfold Blk at h
  simp [World.frozen?, h]
theorem Blk.new (w : World) (t : TypeId) (cs : Array Value) : Blk (w.alloc (.cells cs t)) w.heap.size t cs := heap_alloc_new w _
theorem Blk.drew (h : Blk w g t cs) : Blk w.drew g t cs := h
theorem Blk.drewN (h : Blk w g t cs) (n : Nat) : Blk (w.drewN n) g t cs := h
theorem Blk.alloc (h : Blk w g t cs) (o : Obj) : Blk (w.alloc o) g t cs := (Below.heap_alloc w o g h.lt).trans h
theorem Blk.set_ (h : Blk w g t cs) (i : Nat) (u : Value) : Blk (w.setCell ⟨g, i, none⟩ u) g t (cs.setIfInBounds i u) := by
  unfold Blk at h ⊢
  simp [World.setCell, Array.getElem?_modify, h]
theorem Blk.far (h : Blk w g t cs) {p : Addr} (hp : g ≠ p.block) (u : Value) : Blk (w.setCell p u) g t cs := (Below.heap_setCell w p u g hp).trans h
theorem Blk.below (h : Blk w g t cs) (hb : Below B w w') (hg : g < B) : Blk w' g t cs := (hb.block g hg).trans h
theorem Blk.next (h : Blk w g t cs) (hb : Below w.heap.size w w') : Blk w' g t cs := (hb.block g h.lt).trans h
theorem Blk.grown {row : Option Nat} (h : Blk w g t cs) (hb : w.grownBy w' row) (hg : some g ≠ row) : Blk w' g t cs := (hb.block g h.lt hg).trans h
theorem Blk.ne_ {g' : Nat} {t' : TypeId} {cs' : Array Value} (h : Blk w g t cs) (h' : Blk w g' t' cs') (hne : t ≠ t') : g ≠ g' := by
  rintro rfl
  unfold Blk at h h'
  rw [h] at h'
  injection h' with h'
  injection h' with _ ht
  exact hne ht
theorem Own.blk_ne {e : TypeId} (h : Own w B e v xs) (hg : Blk w g t cs) (hne : e ≠ t) : v.ownBlock ≠ some g := by
  rcases h.2 with ⟨rfl, _⟩ | ⟨g', cap, cur, rfl, _, hh, _⟩
  · simp [Value.ownBlock]
  · intro he
    have : g' = g := by simpa [Value.ownBlock] using he
    subst this
    exact Blk.ne_ (t := e) hh hg hne rfl
end

/-- A new box of one struct reads as a slice of it. -/
theorem Row.box (w : World) (x : α) (cs : Array Value) (hcs : cs.toList = enc x) (e : TypeId) : Row (w.alloc (.cells cs e)) (.slice (some ⟨w.heap.size, 0, none⟩) 1 1) [x] := by
  refine ⟨_, _, rfl, by simp [maxLen], fun k hk => ⟨_, _, rfl, fun j u hu => ?_⟩⟩
  obtain rfl : k = 0 := by simpa using hk
  rw [(Blk.new w e cs).cell]
  simpa [← hcs] using hu

theorem Own.of_blk {e : TypeId} {g c : Nat} {cs : Array Value} (h : Blk w g e cs) (hB : B ≤ g) (hcs : cs.toList.take (xs.length * sz α) = xs.flatMap enc) (hc : cs.size = c * sz α) (hl : xs.length ≤ c) (hm : c ≤ maxLen) :
    Own w B e (.slice (some ⟨g, 0, none⟩) xs.length c) xs :=
  ⟨flat_len xs, .inr ⟨g, c, cs, rfl, hB, h, hl, hm, hc, hcs⟩⟩

/-- One cell of a row of the call's own is written. -/
theorem flat_set (xs : List α) (k : Nat) (h : k < xs.length) (j : Nat) (hj : j < sz α) (u : Value) (x' : α) (hx : enc x' = (enc xs[k]).set j u) :
    (xs.flatMap enc).set (k * sz α + j) u = (xs.set k x').flatMap enc := by
  induction xs generalizing k with
  | nil => simp at h
  | cons y ys ih =>
    cases k with
    | zero =>
      simp only [List.flatMap_cons, Nat.zero_mul, Nat.zero_add, List.set_cons_zero]
      rw [List.set_append_left _ _ (by rw [len]; exact hj), hx]
      rfl
    | succ k =>
      simp only [List.flatMap_cons, List.set_cons_succ]
      rw [List.set_append_right _ _ (by rw [len, Nat.succ_mul]; omega), len]
      rw [show (k + 1) * sz α + j - sz α = k * sz α + j by rw [Nat.succ_mul]; omega]
      rw [ih k (by simpa using h) (by simpa using hx)]

theorem Own.set {e : TypeId} (h : Own w B e v xs) (k : Nat) (hk : k < xs.length) (j : Nat) (hj : j < sz α) (u : Value) (x' : α) (hx : enc x' = (enc xs[k]).set j u) {b o c : Nat} (hv : v = .slice (some ⟨b, o, none⟩) xs.length c) :
    Own (w.setCell ⟨b, o + k * sz α + j, none⟩ u) B e v (xs.set k x') ∧ w.frozen? ⟨b, o + k * sz α + j, none⟩ = false ∧ B ≤ b := by
  rcases h.2 with ⟨rfl, h0⟩ | ⟨g, cap, cur, hv', hb, hh, h1, h2, h3, h4⟩
  · omega
  · rw [hv] at hv'
    injection hv' with e1 e2 e3
    injection e1 with e1
    injection e1 with e4 e5
    subst hv e4 e5 e3
    have hs := Blk.set_ (show Blk w b e cur from hh) (0 + k * sz α + j) u
    refine ⟨⟨?_, .inr ⟨b, c, _, by rw [List.length_set], hb, hs, by simpa using h1, h2, by simpa using h3, ?_⟩⟩, Blk.frozen (show Blk w b e cur from hh) _, hb⟩
    · rw [flat_len]
    · rw [← flat_set xs k hk j hj u x' hx, ← h4]
      simp only [Array.toList_setIfInBounds, List.length_set, Nat.zero_add]
      rw [List.take_set]
end Go.Proofs.YthjmficglpfgpaaDoor
