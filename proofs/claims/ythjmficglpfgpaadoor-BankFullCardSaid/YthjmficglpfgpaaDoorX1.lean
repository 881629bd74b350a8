/- Words for slices of plain structs: how a slice value reads, and what the call itself owns. More words on worlds. Money, accounts, entries and the ledger: what the functions come to, and that they come to it. '==' of arrays of three ints. Entries that are balanced, posted, turned and made. The house's rates. Entries made, and turned round; amounts between currencies. The entries by which an amount moves. Payments: what an op makes of one. payment.Do and payment.Right. request.May, request.Long. Accounts that are right, and the entries that are made of them: in plain Lean. -/
import Derived.Test.YthjmficglpfgpaaDoorProg
import Derived.WalkKit
import Derived.WalkSpells
import Derived.WalkLawsBesides
import Derived.Outline
import Derived.Laws.AppendOwn
import Derived.OwnWalk
import Derived.Below
import Derived.KernelRfl
import Derived.Maps.AppendAt
import Derived.Deep.AppendLies
import Derived.Laws.OwnMore
import Derived.Deep.Draws
import Derived.Lib.Hide
import Derived.Deep.QuietTactic
import Derived.BigQuiet
import Derived.Deep.RegionHeld3
import Derived.Laws.StructEq
import Derived.Laws.EntriesVeiled
import Derived.Laws.Rows
import Derived.Deep.LoopGhost
import Derived.Deep.WholeRow
import Derived.IntWalk
namespace Go.Proofs.YthjmficglpfgpaaDoor
set_option linter.unusedVariables false
set_option linter.unusedSimpArgs false
open Go Go.RowKit

/-- What is laid in cells: a whole number of cells each. -/
class Enc (α : Type) where
  sz : Nat
  enc : α → List Value
  len : ∀ x, (enc x).length = sz
  one : ∀ x u, u ∈ enc x → u.oneCell' = true
  pos : 0 < sz
open Enc

variable {α : Type} [Enc α] {w w' : World} {v : Value} {xs : List α} {B : Nat}

/-- The slice value v reads as xs. -/
def Row (w : World) (v : Value) (xs : List α) : Prop :=
  ∃ A c, v = .slice A xs.length c ∧ xs.length ≤ maxLen ∧
    ∀ k (h : k < xs.length), ∃ b o, A = some ⟨b, o, none⟩ ∧ ∀ j u, (enc xs[k])[j]? = some u → w.cell? ⟨b, o + k * sz α + j, none⟩ = some u

/-- The slice value v is the call's own, from block B on, and reads as xs. -/
def Own (w : World) (B : Nat) (e : TypeId) (v : Value) (xs : List α) : Prop :=
  w.ownsRow B e (sz α) v xs.length (xs.flatMap enc)

theorem flat_len (xs : List α) : (xs.flatMap enc).length = xs.length * sz α := by
  induction xs with
  | nil => simp
  | cons x xs ih => simp [List.flatMap_cons, ih, len x, Nat.add_mul, Nat.add_comm]

theorem flat_get (xs : List α) (k : Nat) (h : k < xs.length) (j : Nat) (u : Value) (hu : (enc xs[k])[j]? = some u) : (xs.flatMap enc)[k * sz α + j]? = some u := by
  induction xs generalizing k with
  | nil => simp at h
  | cons x xs ih =>
    have hj : j < sz α := by
      have := (List.getElem?_eq_some_iff.1 hu).1
      rwa [len] at this
    cases k with
    | zero =>
      simp only [List.flatMap_cons, Nat.zero_mul, Nat.zero_add]
      rw [List.getElem?_append_left (by rw [len]; exact hj)]
      exact hu
    | succ k =>
      simp only [List.flatMap_cons]
      rw [List.getElem?_append_right (by rw [len, Nat.succ_mul]; omega), len]
      rw [show (k + 1) * sz α + j - sz α = k * sz α + j by rw [Nat.succ_mul]; omega]
      exact ih k (by simpa using h) (by simpa using hu)

theorem cell_lt {a : Addr} {u : Value} (h : w.cell? a = some u) : a.block < w.heap.size := World.block_lt_of_cell? w a h

theorem cell_below (hb : Below w.heap.size w w') {a : Addr} {u : Value} (h : w.cell? a = some u) : w'.cell? a = some u :=
  (hb.cell (cell_lt h)).trans h

theorem Row.below (h : Row w v xs) (hb : Below w.heap.size w w') : Row w' v xs := by
  obtain ⟨A, c, rfl, hm, hc⟩ := h
  refine ⟨A, c, rfl, hm, fun k hk => ?_⟩
  obtain ⟨b, o, rfl, hj⟩ := hc k hk
  exact ⟨b, o, rfl, fun j u hu => cell_below hb (hj j u hu)⟩

theorem Row.nil (w : World) : Row w (.slice none 0 0) ([] : List α) := ⟨none, 0, rfl, by simp [maxLen], fun k hk => by simp at hk⟩

theorem Own.row {e : TypeId} (h : Own w B e v xs) : Row w v xs := by
  rcases h.2 with ⟨rfl, h0⟩ | ⟨g, cap, cur, rfl, hb, hh, h1, h2, h3, h4⟩
  · obtain rfl : xs = [] := List.eq_nil_of_length_eq_zero h0
    exact Row.nil w
  · refine ⟨_, _, rfl, by omega, fun k hk => ⟨g, 0, rfl, fun j u hu => ?_⟩⟩
    have hf := flat_get xs k hk j u hu
    have := h.cells (g := g) rfl _ _ hf
    unfold Addr.add at this
    split at this
    · rename_i h0; have e : 0 + k * sz α + j = 0 := by omega
      rw [e]; exact this
    · rw [Nat.add_assoc]; exact this

theorem Own.nil (w : World) (B : Nat) (e : TypeId) : Own w B e (.slice none 0 0) ([] : List α) := World.ownsRow_nil w B e (sz α)

/-- Element k (from 0 on). -/
def rd [Inhabited α] (xs : List α) (k : Int) : α := xs.getD k.toNat default
omit [Enc α] in
theorem rd_nat [Inhabited α] (xs : List α) (k : Nat) (h : k < xs.length) : rd xs (k : Int) = xs[k] := by simp [rd, List.getD_eq_getElem?_getD, List.getElem?_eq_getElem h]

/-- The facts that a walk reads element k by. -/
theorem Row.at [Inhabited α] (h : Row w v xs) (k : Nat) (hk : k < xs.length) : ∃ b o c, v = .slice (some ⟨b, o, none⟩) xs.length c ∧ ∀ j u, (enc (rd xs k))[j]? = some u → w.cell? ⟨b, o + k * sz α + j, none⟩ = some u := by
  obtain ⟨A, c, rfl, hm, hc⟩ := h
  obtain ⟨b, o, rfl, hj⟩ := hc k hk
  exact ⟨b, o, c, rfl, by rw [rd_nat xs k hk]; exact hj⟩
theorem Row.atI [Inhabited α] (h : Row w v xs) (k : Int) (h0 : 0 ≤ k) (hk : k < xs.length) : ∃ b o c, v = .slice (some ⟨b, o, none⟩) xs.length c ∧ ∀ j u, (enc (rd xs k))[j]? = some u → w.cell? ⟨b, o + k.toNat * sz α + j, none⟩ = some u := by
  obtain ⟨b, o, c, hv, hc⟩ := h.at k.toNat (by omega)
  rw [show ((k.toNat : Nat) : Int) = k by omega] at hc
  exact ⟨b, o, c, hv, hc⟩
theorem Row.slice (h : Row w v xs) : ∃ A c, v = .slice A xs.length c := by
  obtain ⟨A, c, rfl, _⟩ := h
  exact ⟨A, c, rfl⟩
theorem Row.max (h : Row w v xs) : xs.length ≤ 9223372036854775807 := by
  obtain ⟨A, c, rfl, hm, _⟩ := h
  simpa [maxLen] using hm

/-! ### The structs -/
structure Acc where
  cur : Int
  bal : Int
  held : Int
  deriving DecidableEq, Inhabited
def Acc.cells (x : Acc) : List Value := [.int .i64 x.cur, .int .i64 x.bal, .int .i64 x.held]
abbrev Acc.val (x : Acc) : Value := .agg #[.int .i64 x.cur, .int .i64 x.bal, .int .i64 x.held]
instance : Enc Acc where
  sz := 3
  enc x := x.cells
  len _ := rfl
  one x u h := by simp only [Acc.cells, List.mem_cons, List.not_mem_nil, or_false] at h; rcases h with rfl | rfl | rfl <;> rfl
  pos := by decide
theorem Row.acc {xs : List Acc} (h : Row w v xs) (k : Nat) (hk : k < xs.length) : ∃ b o c, v = .slice (some ⟨b, o, none⟩) xs.length c ∧
    w.cell? ⟨b, o + k * 3, none⟩ = some (.int .i64 (rd xs k).cur) ∧
    w.cell? ⟨b, o + k * 3 + 1, none⟩ = some (.int .i64 (rd xs k).bal) ∧
    w.cell? ⟨b, o + k * 3 + 2, none⟩ = some (.int .i64 (rd xs k).held) ∧ b < w.heap.size := by
  obtain ⟨b, o, c, hv, hc⟩ := h.at k hk
  exact ⟨b, o, c, hv, hc 0 _ rfl, hc 1 _ rfl, hc 2 _ rfl, cell_lt (hc 0 _ rfl)⟩
theorem Row.accI {xs : List Acc} (h : Row w v xs) (k : Int) (h0 : 0 ≤ k) (hk : k < xs.length) : ∃ b o c, v = .slice (some ⟨b, o, none⟩) xs.length c ∧
    w.cell? ⟨b, o + k.toNat * 3, none⟩ = some (.int .i64 (rd xs k).cur) ∧
    w.cell? ⟨b, o + k.toNat * 3 + 1, none⟩ = some (.int .i64 (rd xs k).bal) ∧
    w.cell? ⟨b, o + k.toNat * 3 + 2, none⟩ = some (.int .i64 (rd xs k).held) ∧ b < w.heap.size := by
  obtain ⟨b, o, c, hv, hc⟩ := h.atI k h0 hk
  exact ⟨b, o, c, hv, hc 0 _ rfl, hc 1 _ rfl, hc 2 _ rfl, cell_lt (hc 0 _ rfl)⟩
structure Ent where
  acct : Int
  amt : Int
  deriving DecidableEq, Inhabited
def Ent.cells (x : Ent) : List Value := [.int .i64 x.acct, .int .i64 x.amt]
abbrev Ent.val (x : Ent) : Value := .agg #[.int .i64 x.acct, .int .i64 x.amt]
instance : Enc Ent where
  sz := 2
  enc x := x.cells
  len _ := rfl
  one x u h := by simp only [Ent.cells, List.mem_cons, List.not_mem_nil, or_false] at h; rcases h with rfl | rfl <;> rfl
  pos := by decide
theorem Row.ent {xs : List Ent} (h : Row w v xs) (k : Nat) (hk : k < xs.length) : ∃ b o c, v = .slice (some ⟨b, o, none⟩) xs.length c ∧
    w.cell? ⟨b, o + k * 2, none⟩ = some (.int .i64 (rd xs k).acct) ∧
    w.cell? ⟨b, o + k * 2 + 1, none⟩ = some (.int .i64 (rd xs k).amt) ∧ b < w.heap.size := by
  obtain ⟨b, o, c, hv, hc⟩ := h.at k hk
  exact ⟨b, o, c, hv, hc 0 _ rfl, hc 1 _ rfl, cell_lt (hc 0 _ rfl)⟩
theorem Row.entI {xs : List Ent} (h : Row w v xs) (k : Int) (h0 : 0 ≤ k) (hk : k < xs.length) : ∃ b o c, v = .slice (some ⟨b, o, none⟩) xs.length c ∧
    w.cell? ⟨b, o + k.toNat * 2, none⟩ = some (.int .i64 (rd xs k).acct) ∧
    w.cell? ⟨b, o + k.toNat * 2 + 1, none⟩ = some (.int .i64 (rd xs k).amt) ∧ b < w.heap.size := by
  obtain ⟨b, o, c, hv, hc⟩ := h.atI k h0 hk
  exact ⟨b, o, c, hv, hc 0 _ rfl, hc 1 _ rfl, cell_lt (hc 0 _ rfl)⟩
structure Pay where
  frm : Int
  to : Int
  auth : Int
  capt : Int
  refd : Int
  chgd : Int
  til : Int
  stage : Int
  deriving DecidableEq, Inhabited
def Pay.cells (x : Pay) : List Value := [.int .i64 x.frm, .int .i64 x.to, .int .i64 x.auth, .int .i64 x.capt, .int .i64 x.refd, .int .i64 x.chgd, .int .i64 x.til, .int .i64 x.stage]
abbrev Pay.val (x : Pay) : Value := .agg #[.int .i64 x.frm, .int .i64 x.to, .int .i64 x.auth, .int .i64 x.capt, .int .i64 x.refd, .int .i64 x.chgd, .int .i64 x.til, .int .i64 x.stage]
instance : Enc Pay where
  sz := 8
  enc x := x.cells
  len _ := rfl
  one x u h := by simp only [Pay.cells, List.mem_cons, List.not_mem_nil, or_false] at h; rcases h with rfl | rfl | rfl | rfl | rfl | rfl | rfl | rfl <;> rfl
  pos := by decide
theorem Row.pay {xs : List Pay} (h : Row w v xs) (k : Nat) (hk : k < xs.length) : ∃ b o c, v = .slice (some ⟨b, o, none⟩) xs.length c ∧
    w.cell? ⟨b, o + k * 8, none⟩ = some (.int .i64 (rd xs k).frm) ∧
    w.cell? ⟨b, o + k * 8 + 1, none⟩ = some (.int .i64 (rd xs k).to) ∧
    w.cell? ⟨b, o + k * 8 + 2, none⟩ = some (.int .i64 (rd xs k).auth) ∧
    w.cell? ⟨b, o + k * 8 + 3, none⟩ = some (.int .i64 (rd xs k).capt) ∧
    w.cell? ⟨b, o + k * 8 + 4, none⟩ = some (.int .i64 (rd xs k).refd) ∧
    w.cell? ⟨b, o + k * 8 + 5, none⟩ = some (.int .i64 (rd xs k).chgd) ∧
    w.cell? ⟨b, o + k * 8 + 6, none⟩ = some (.int .i64 (rd xs k).til) ∧
    w.cell? ⟨b, o + k * 8 + 7, none⟩ = some (.int .i64 (rd xs k).stage) ∧ b < w.heap.size := by
  obtain ⟨b, o, c, hv, hc⟩ := h.at k hk
  exact ⟨b, o, c, hv, hc 0 _ rfl, hc 1 _ rfl, hc 2 _ rfl, hc 3 _ rfl, hc 4 _ rfl, hc 5 _ rfl, hc 6 _ rfl, hc 7 _ rfl, cell_lt (hc 0 _ rfl)⟩
theorem Row.payI {xs : List Pay} (h : Row w v xs) (k : Int) (h0 : 0 ≤ k) (hk : k < xs.length) : ∃ b o c, v = .slice (some ⟨b, o, none⟩) xs.length c ∧
    w.cell? ⟨b, o + k.toNat * 8, none⟩ = some (.int .i64 (rd xs k).frm) ∧
    w.cell? ⟨b, o + k.toNat * 8 + 1, none⟩ = some (.int .i64 (rd xs k).to) ∧
    w.cell? ⟨b, o + k.toNat * 8 + 2, none⟩ = some (.int .i64 (rd xs k).auth) ∧
    w.cell? ⟨b, o + k.toNat * 8 + 3, none⟩ = some (.int .i64 (rd xs k).capt) ∧
    w.cell? ⟨b, o + k.toNat * 8 + 4, none⟩ = some (.int .i64 (rd xs k).refd) ∧
    w.cell? ⟨b, o + k.toNat * 8 + 5, none⟩ = some (.int .i64 (rd xs k).chgd) ∧
    w.cell? ⟨b, o + k.toNat * 8 + 6, none⟩ = some (.int .i64 (rd xs k).til) ∧
    w.cell? ⟨b, o + k.toNat * 8 + 7, none⟩ = some (.int .i64 (rd xs k).stage) ∧ b < w.heap.size := by
  obtain ⟨b, o, c, hv, hc⟩ := h.atI k h0 hk
  exact ⟨b, o, c, hv, hc 0 _ rfl, hc 1 _ rfl, hc 2 _ rfl, hc 3 _ rfl, hc 4 _ rfl, hc 5 _ rfl, hc 6 _ rfl, hc 7 _ rfl, cell_lt (hc 0 _ rfl)⟩
structure Req where
  key : Int
  op : Int
  a : Int
  b : Int
  amt : Int
  legs : Int
  til : Int
  deriving DecidableEq, Inhabited
def Req.cells (x : Req) : List Value := [.int .i64 x.key, .int .i64 x.op, .int .i64 x.a, .int .i64 x.b, .int .i64 x.amt, .int .i64 x.legs, .int .i64 x.til]
abbrev Req.val (x : Req) : Value := .agg #[.int .i64 x.key, .int .i64 x.op, .int .i64 x.a, .int .i64 x.b, .int .i64 x.amt, .int .i64 x.legs, .int .i64 x.til]
instance : Enc Req where
  sz := 7
  enc x := x.cells
  len _ := rfl
  one x u h := by simp only [Req.cells, List.mem_cons, List.not_mem_nil, or_false] at h; rcases h with rfl | rfl | rfl | rfl | rfl | rfl | rfl <;> rfl
  pos := by decide
theorem Row.req {xs : List Req} (h : Row w v xs) (k : Nat) (hk : k < xs.length) : ∃ b o c, v = .slice (some ⟨b, o, none⟩) xs.length c ∧
    w.cell? ⟨b, o + k * 7, none⟩ = some (.int .i64 (rd xs k).key) ∧
    w.cell? ⟨b, o + k * 7 + 1, none⟩ = some (.int .i64 (rd xs k).op) ∧
    w.cell? ⟨b, o + k * 7 + 2, none⟩ = some (.int .i64 (rd xs k).a) ∧
    w.cell? ⟨b, o + k * 7 + 3, none⟩ = some (.int .i64 (rd xs k).b) ∧
    w.cell? ⟨b, o + k * 7 + 4, none⟩ = some (.int .i64 (rd xs k).amt) ∧
    w.cell? ⟨b, o + k * 7 + 5, none⟩ = some (.int .i64 (rd xs k).legs) ∧
    w.cell? ⟨b, o + k * 7 + 6, none⟩ = some (.int .i64 (rd xs k).til) ∧ b < w.heap.size := by
  obtain ⟨b, o, c, hv, hc⟩ := h.at k hk
  exact ⟨b, o, c, hv, hc 0 _ rfl, hc 1 _ rfl, hc 2 _ rfl, hc 3 _ rfl, hc 4 _ rfl, hc 5 _ rfl, hc 6 _ rfl, cell_lt (hc 0 _ rfl)⟩
theorem Row.reqI {xs : List Req} (h : Row w v xs) (k : Int) (h0 : 0 ≤ k) (hk : k < xs.length) : ∃ b o c, v = .slice (some ⟨b, o, none⟩) xs.length c ∧
    w.cell? ⟨b, o + k.toNat * 7, none⟩ = some (.int .i64 (rd xs k).key) ∧
    w.cell? ⟨b, o + k.toNat * 7 + 1, none⟩ = some (.int .i64 (rd xs k).op) ∧
    w.cell? ⟨b, o + k.toNat * 7 + 2, none⟩ = some (.int .i64 (rd xs k).a) ∧
    w.cell? ⟨b, o + k.toNat * 7 + 3, none⟩ = some (.int .i64 (rd xs k).b) ∧
    w.cell? ⟨b, o + k.toNat * 7 + 4, none⟩ = some (.int .i64 (rd xs k).amt) ∧
    w.cell? ⟨b, o + k.toNat * 7 + 5, none⟩ = some (.int .i64 (rd xs k).legs) ∧
    w.cell? ⟨b, o + k.toNat * 7 + 6, none⟩ = some (.int .i64 (rd xs k).til) ∧ b < w.heap.size := by
  obtain ⟨b, o, c, hv, hc⟩ := h.atI k h0 hk
  exact ⟨b, o, c, hv, hc 0 _ rfl, hc 1 _ rfl, hc 2 _ rfl, hc 3 _ rfl, hc 4 _ rfl, hc 5 _ rfl, hc 6 _ rfl, cell_lt (hc 0 _ rfl)⟩
structure Rep where
  err : Int
  id : Int
  deriving DecidableEq, Inhabited
def Rep.cells (x : Rep) : List Value := [.int .i64 x.err, .int .i64 x.id]
abbrev Rep.val (x : Rep) : Value := .agg #[.int .i64 x.err, .int .i64 x.id]
instance : Enc Rep where
  sz := 2
  enc x := x.cells
  len _ := rfl
  one x u h := by simp only [Rep.cells, List.mem_cons, List.not_mem_nil, or_false] at h; rcases h with rfl | rfl <;> rfl
  pos := by decide
theorem Row.rep {xs : List Rep} (h : Row w v xs) (k : Nat) (hk : k < xs.length) : ∃ b o c, v = .slice (some ⟨b, o, none⟩) xs.length c ∧
    w.cell? ⟨b, o + k * 2, none⟩ = some (.int .i64 (rd xs k).err) ∧
    w.cell? ⟨b, o + k * 2 + 1, none⟩ = some (.int .i64 (rd xs k).id) ∧ b < w.heap.size := by
  obtain ⟨b, o, c, hv, hc⟩ := h.at k hk
  exact ⟨b, o, c, hv, hc 0 _ rfl, hc 1 _ rfl, cell_lt (hc 0 _ rfl)⟩
theorem Row.repI {xs : List Rep} (h : Row w v xs) (k : Int) (h0 : 0 ≤ k) (hk : k < xs.length) : ∃ b o c, v = .slice (some ⟨b, o, none⟩) xs.length c ∧
    w.cell? ⟨b, o + k.toNat * 2, none⟩ = some (.int .i64 (rd xs k).err) ∧
    w.cell? ⟨b, o + k.toNat * 2 + 1, none⟩ = some (.int .i64 (rd xs k).id) ∧ b < w.heap.size := by
  obtain ⟨b, o, c, hv, hc⟩ := h.atI k h0 hk
  exact ⟨b, o, c, hv, hc 0 _ rfl, hc 1 _ rfl, cell_lt (hc 0 _ rfl)⟩
structure Ask where
  key : Int
  op : Int
  a : Int
  b : Int
  amt : Int
  legs : Int
  til : Int
  deriving DecidableEq, Inhabited
def Ask.cells (x : Ask) : List Value := [.int .u8 x.key, .int .u8 x.op, .int .u8 x.a, .int .u8 x.b, .int .u16 x.amt, .int .u8 x.legs, .int .u8 x.til]
abbrev Ask.val (x : Ask) : Value := .agg #[.int .u8 x.key, .int .u8 x.op, .int .u8 x.a, .int .u8 x.b, .int .u16 x.amt, .int .u8 x.legs, .int .u8 x.til]
instance : Enc Ask where
  sz := 7
  enc x := x.cells
  len _ := rfl
  one x u h := by simp only [Ask.cells, List.mem_cons, List.not_mem_nil, or_false] at h; rcases h with rfl | rfl | rfl | rfl | rfl | rfl | rfl <;> rfl
  pos := by decide
theorem Row.ask {xs : List Ask} (h : Row w v xs) (k : Nat) (hk : k < xs.length) : ∃ b o c, v = .slice (some ⟨b, o, none⟩) xs.length c ∧
    w.cell? ⟨b, o + k * 7, none⟩ = some (.int .u8 (rd xs k).key) ∧
    w.cell? ⟨b, o + k * 7 + 1, none⟩ = some (.int .u8 (rd xs k).op) ∧
    w.cell? ⟨b, o + k * 7 + 2, none⟩ = some (.int .u8 (rd xs k).a) ∧
    w.cell? ⟨b, o + k * 7 + 3, none⟩ = some (.int .u8 (rd xs k).b) ∧
    w.cell? ⟨b, o + k * 7 + 4, none⟩ = some (.int .u16 (rd xs k).amt) ∧
    w.cell? ⟨b, o + k * 7 + 5, none⟩ = some (.int .u8 (rd xs k).legs) ∧
    w.cell? ⟨b, o + k * 7 + 6, none⟩ = some (.int .u8 (rd xs k).til) ∧ b < w.heap.size := by
  obtain ⟨b, o, c, hv, hc⟩ := h.at k hk
  exact ⟨b, o, c, hv, hc 0 _ rfl, hc 1 _ rfl, hc 2 _ rfl, hc 3 _ rfl, hc 4 _ rfl, hc 5 _ rfl, hc 6 _ rfl, cell_lt (hc 0 _ rfl)⟩
theorem Row.askI {xs : List Ask} (h : Row w v xs) (k : Int) (h0 : 0 ≤ k) (hk : k < xs.length) : ∃ b o c, v = .slice (some ⟨b, o, none⟩) xs.length c ∧
    w.cell? ⟨b, o + k.toNat * 7, none⟩ = some (.int .u8 (rd xs k).key) ∧
    w.cell? ⟨b, o + k.toNat * 7 + 1, none⟩ = some (.int .u8 (rd xs k).op) ∧
    w.cell? ⟨b, o + k.toNat * 7 + 2, none⟩ = some (.int .u8 (rd xs k).a) ∧
    w.cell? ⟨b, o + k.toNat * 7 + 3, none⟩ = some (.int .u8 (rd xs k).b) ∧
    w.cell? ⟨b, o + k.toNat * 7 + 4, none⟩ = some (.int .u16 (rd xs k).amt) ∧
    w.cell? ⟨b, o + k.toNat * 7 + 5, none⟩ = some (.int .u8 (rd xs k).legs) ∧
    w.cell? ⟨b, o + k.toNat * 7 + 6, none⟩ = some (.int .u8 (rd xs k).til) ∧ b < w.heap.size := by
  obtain ⟨b, o, c, hv, hc⟩ := h.atI k h0 hk
  exact ⟨b, o, c, hv, hc 0 _ rfl, hc 1 _ rfl, hc 2 _ rfl, hc 3 _ rfl, hc 4 _ rfl, hc 5 _ rfl, hc 6 _ rfl, cell_lt (hc 0 _ rfl)⟩
structure Itm where
  til : Int
  k : Int
  deriving DecidableEq, Inhabited
def Itm.cells (x : Itm) : List Value := [.int .i64 x.til, .int .i64 x.k]
abbrev Itm.val (x : Itm) : Value := .agg #[.int .i64 x.til, .int .i64 x.k]
instance : Enc Itm where
  sz := 2
  enc x := x.cells
  len _ := rfl
  one x u h := by simp only [Itm.cells, List.mem_cons, List.not_mem_nil, or_false] at h; rcases h with rfl | rfl <;> rfl
  pos := by decide
theorem Row.itm {xs : List Itm} (h : Row w v xs) (k : Nat) (hk : k < xs.length) : ∃ b o c, v = .slice (some ⟨b, o, none⟩) xs.length c ∧
    w.cell? ⟨b, o + k * 2, none⟩ = some (.int .i64 (rd xs k).til) ∧
    w.cell? ⟨b, o + k * 2 + 1, none⟩ = some (.int .i64 (rd xs k).k) ∧ b < w.heap.size := by
  obtain ⟨b, o, c, hv, hc⟩ := h.at k hk
  exact ⟨b, o, c, hv, hc 0 _ rfl, hc 1 _ rfl, cell_lt (hc 0 _ rfl)⟩
theorem Row.itmI {xs : List Itm} (h : Row w v xs) (k : Int) (h0 : 0 ≤ k) (hk : k < xs.length) : ∃ b o c, v = .slice (some ⟨b, o, none⟩) xs.length c ∧
    w.cell? ⟨b, o + k.toNat * 2, none⟩ = some (.int .i64 (rd xs k).til) ∧
    w.cell? ⟨b, o + k.toNat * 2 + 1, none⟩ = some (.int .i64 (rd xs k).k) ∧ b < w.heap.size := by
  obtain ⟨b, o, c, hv, hc⟩ := h.atI k h0 hk
  exact ⟨b, o, c, hv, hc 0 _ rfl, hc 1 _ rfl, cell_lt (hc 0 _ rfl)⟩
structure Paid where
  frm : Int
  to : Int
  auth : Int
  capt : Int
  refd : Int
  chgd : Int
  til : Int
  closed : Bool
  deriving DecidableEq, Inhabited
def Paid.cells (x : Paid) : List Value := [.int .u8 x.frm, .int .u8 x.to, .int .u8 x.auth, .int .u8 x.capt, .int .u8 x.refd, .int .u8 x.chgd, .int .u8 x.til, .bool x.closed]
abbrev Paid.val (x : Paid) : Value := .agg #[.int .u8 x.frm, .int .u8 x.to, .int .u8 x.auth, .int .u8 x.capt, .int .u8 x.refd, .int .u8 x.chgd, .int .u8 x.til, .bool x.closed]
instance : Enc Paid where
  sz := 8
  enc x := x.cells
  len _ := rfl
  one x u h := by simp only [Paid.cells, List.mem_cons, List.not_mem_nil, or_false] at h; rcases h with rfl | rfl | rfl | rfl | rfl | rfl | rfl | rfl <;> rfl
  pos := by decide
theorem Row.paid {xs : List Paid} (h : Row w v xs) (k : Nat) (hk : k < xs.length) : ∃ b o c, v = .slice (some ⟨b, o, none⟩) xs.length c ∧
    w.cell? ⟨b, o + k * 8, none⟩ = some (.int .u8 (rd xs k).frm) ∧
    w.cell? ⟨b, o + k * 8 + 1, none⟩ = some (.int .u8 (rd xs k).to) ∧
    w.cell? ⟨b, o + k * 8 + 2, none⟩ = some (.int .u8 (rd xs k).auth) ∧
    w.cell? ⟨b, o + k * 8 + 3, none⟩ = some (.int .u8 (rd xs k).capt) ∧
    w.cell? ⟨b, o + k * 8 + 4, none⟩ = some (.int .u8 (rd xs k).refd) ∧
    w.cell? ⟨b, o + k * 8 + 5, none⟩ = some (.int .u8 (rd xs k).chgd) ∧
    w.cell? ⟨b, o + k * 8 + 6, none⟩ = some (.int .u8 (rd xs k).til) ∧
    w.cell? ⟨b, o + k * 8 + 7, none⟩ = some (.bool (rd xs k).closed) ∧ b < w.heap.size := by
  obtain ⟨b, o, c, hv, hc⟩ := h.at k hk
  exact ⟨b, o, c, hv, hc 0 _ rfl, hc 1 _ rfl, hc 2 _ rfl, hc 3 _ rfl, hc 4 _ rfl, hc 5 _ rfl, hc 6 _ rfl, hc 7 _ rfl, cell_lt (hc 0 _ rfl)⟩
theorem Row.paidI {xs : List Paid} (h : Row w v xs) (k : Int) (h0 : 0 ≤ k) (hk : k < xs.length) : ∃ b o c, v = .slice (some ⟨b, o, none⟩) xs.length c ∧
    w.cell? ⟨b, o + k.toNat * 8, none⟩ = some (.int .u8 (rd xs k).frm) ∧
    w.cell? ⟨b, o + k.toNat * 8 + 1, none⟩ = some (.int .u8 (rd xs k).to) ∧
    w.cell? ⟨b, o + k.toNat * 8 + 2, none⟩ = some (.int .u8 (rd xs k).auth) ∧
    w.cell? ⟨b, o + k.toNat * 8 + 3, none⟩ = some (.int .u8 (rd xs k).capt) ∧
    w.cell? ⟨b, o + k.toNat * 8 + 4, none⟩ = some (.int .u8 (rd xs k).refd) ∧
    w.cell? ⟨b, o + k.toNat * 8 + 5, none⟩ = some (.int .u8 (rd xs k).chgd) ∧
    w.cell? ⟨b, o + k.toNat * 8 + 6, none⟩ = some (.int .u8 (rd xs k).til) ∧
    w.cell? ⟨b, o + k.toNat * 8 + 7, none⟩ = some (.bool (rd xs k).closed) ∧ b < w.heap.size := by
  obtain ⟨b, o, c, hv, hc⟩ := h.atI k h0 hk
  exact ⟨b, o, c, hv, hc 0 _ rfl, hc 1 _ rfl, hc 2 _ rfl, hc 3 _ rfl, hc 4 _ rfl, hc 5 _ rfl, hc 6 _ rfl, hc 7 _ rfl, cell_lt (hc 0 _ rfl)⟩
structure Saga where
  req : Req
  phase : Int
  leg : Int
  tries : Int
  why : Int
  deriving DecidableEq, Inhabited
def Saga.cells (x : Saga) : List Value := [.int .i64 x.req.key, .int .i64 x.req.op, .int .i64 x.req.a, .int .i64 x.req.b, .int .i64 x.req.amt, .int .i64 x.req.legs, .int .i64 x.req.til, .int .i64 x.phase, .int .i64 x.leg, .int .i64 x.tries, .int .i64 x.why]
abbrev Saga.val (x : Saga) : Value := .agg #[.int .i64 x.req.key, .int .i64 x.req.op, .int .i64 x.req.a, .int .i64 x.req.b, .int .i64 x.req.amt, .int .i64 x.req.legs, .int .i64 x.req.til, .int .i64 x.phase, .int .i64 x.leg, .int .i64 x.tries, .int .i64 x.why]
instance : Enc Saga where
  sz := 11
  enc x := x.cells
  len _ := rfl
  one x u h := by simp only [Saga.cells, List.mem_cons, List.not_mem_nil, or_false] at h; rcases h with rfl | rfl | rfl | rfl | rfl | rfl | rfl | rfl | rfl | rfl | rfl <;> rfl
  pos := by decide
theorem Row.saga {xs : List Saga} (h : Row w v xs) (k : Nat) (hk : k < xs.length) : ∃ b o c, v = .slice (some ⟨b, o, none⟩) xs.length c ∧
    w.cell? ⟨b, o + k * 11, none⟩ = some (.int .i64 (rd xs k).req.key) ∧
    w.cell? ⟨b, o + k * 11 + 1, none⟩ = some (.int .i64 (rd xs k).req.op) ∧
    w.cell? ⟨b, o + k * 11 + 2, none⟩ = some (.int .i64 (rd xs k).req.a) ∧
    w.cell? ⟨b, o + k * 11 + 3, none⟩ = some (.int .i64 (rd xs k).req.b) ∧
    w.cell? ⟨b, o + k * 11 + 4, none⟩ = some (.int .i64 (rd xs k).req.amt) ∧
    w.cell? ⟨b, o + k * 11 + 5, none⟩ = some (.int .i64 (rd xs k).req.legs) ∧
    w.cell? ⟨b, o + k * 11 + 6, none⟩ = some (.int .i64 (rd xs k).req.til) ∧
    w.cell? ⟨b, o + k * 11 + 7, none⟩ = some (.int .i64 (rd xs k).phase) ∧
    w.cell? ⟨b, o + k * 11 + 8, none⟩ = some (.int .i64 (rd xs k).leg) ∧
    w.cell? ⟨b, o + k * 11 + 9, none⟩ = some (.int .i64 (rd xs k).tries) ∧
    w.cell? ⟨b, o + k * 11 + 10, none⟩ = some (.int .i64 (rd xs k).why) ∧ b < w.heap.size := by
  obtain ⟨b, o, c, hv, hc⟩ := h.at k hk
  exact ⟨b, o, c, hv, hc 0 _ rfl, hc 1 _ rfl, hc 2 _ rfl, hc 3 _ rfl, hc 4 _ rfl, hc 5 _ rfl, hc 6 _ rfl, hc 7 _ rfl, hc 8 _ rfl, hc 9 _ rfl, hc 10 _ rfl, cell_lt (hc 0 _ rfl)⟩
theorem Row.sagaI {xs : List Saga} (h : Row w v xs) (k : Int) (h0 : 0 ≤ k) (hk : k < xs.length) : ∃ b o c, v = .slice (some ⟨b, o, none⟩) xs.length c ∧
    w.cell? ⟨b, o + k.toNat * 11, none⟩ = some (.int .i64 (rd xs k).req.key) ∧
    w.cell? ⟨b, o + k.toNat * 11 + 1, none⟩ = some (.int .i64 (rd xs k).req.op) ∧
    w.cell? ⟨b, o + k.toNat * 11 + 2, none⟩ = some (.int .i64 (rd xs k).req.a) ∧
    w.cell? ⟨b, o + k.toNat * 11 + 3, none⟩ = some (.int .i64 (rd xs k).req.b) ∧
    w.cell? ⟨b, o + k.toNat * 11 + 4, none⟩ = some (.int .i64 (rd xs k).req.amt) ∧
    w.cell? ⟨b, o + k.toNat * 11 + 5, none⟩ = some (.int .i64 (rd xs k).req.legs) ∧
    w.cell? ⟨b, o + k.toNat * 11 + 6, none⟩ = some (.int .i64 (rd xs k).req.til) ∧
    w.cell? ⟨b, o + k.toNat * 11 + 7, none⟩ = some (.int .i64 (rd xs k).phase) ∧
    w.cell? ⟨b, o + k.toNat * 11 + 8, none⟩ = some (.int .i64 (rd xs k).leg) ∧
    w.cell? ⟨b, o + k.toNat * 11 + 9, none⟩ = some (.int .i64 (rd xs k).tries) ∧
    w.cell? ⟨b, o + k.toNat * 11 + 10, none⟩ = some (.int .i64 (rd xs k).why) ∧ b < w.heap.size := by
  obtain ⟨b, o, c, hv, hc⟩ := h.atI k h0 hk
  exact ⟨b, o, c, hv, hc 0 _ rfl, hc 1 _ rfl, hc 2 _ rfl, hc 3 _ rfl, hc 4 _ rfl, hc 5 _ rfl, hc 6 _ rfl, hc 7 _ rfl, hc 8 _ rfl, hc 9 _ rfl, hc 10 _ rfl, cell_lt (hc 0 _ rfl)⟩
structure Kn where
  req : Req
  rep : Rep
  told : Bool
  deriving DecidableEq, Inhabited
def Kn.cells (x : Kn) : List Value := [.int .i64 x.req.key, .int .i64 x.req.op, .int .i64 x.req.a, .int .i64 x.req.b, .int .i64 x.req.amt, .int .i64 x.req.legs, .int .i64 x.req.til, .int .i64 x.rep.err, .int .i64 x.rep.id, .bool x.told]
abbrev Kn.val (x : Kn) : Value := .agg #[.int .i64 x.req.key, .int .i64 x.req.op, .int .i64 x.req.a, .int .i64 x.req.b, .int .i64 x.req.amt, .int .i64 x.req.legs, .int .i64 x.req.til, .int .i64 x.rep.err, .int .i64 x.rep.id, .bool x.told]
instance : Enc Kn where
  sz := 10
  enc x := x.cells
  len _ := rfl
  one x u h := by simp only [Kn.cells, List.mem_cons, List.not_mem_nil, or_false] at h; rcases h with rfl | rfl | rfl | rfl | rfl | rfl | rfl | rfl | rfl | rfl <;> rfl
  pos := by decide
theorem Row.kn {xs : List Kn} (h : Row w v xs) (k : Nat) (hk : k < xs.length) : ∃ b o c, v = .slice (some ⟨b, o, none⟩) xs.length c ∧
    w.cell? ⟨b, o + k * 10, none⟩ = some (.int .i64 (rd xs k).req.key) ∧
    w.cell? ⟨b, o + k * 10 + 1, none⟩ = some (.int .i64 (rd xs k).req.op) ∧
    w.cell? ⟨b, o + k * 10 + 2, none⟩ = some (.int .i64 (rd xs k).req.a) ∧
    w.cell? ⟨b, o + k * 10 + 3, none⟩ = some (.int .i64 (rd xs k).req.b) ∧
    w.cell? ⟨b, o + k * 10 + 4, none⟩ = some (.int .i64 (rd xs k).req.amt) ∧
    w.cell? ⟨b, o + k * 10 + 5, none⟩ = some (.int .i64 (rd xs k).req.legs) ∧
    w.cell? ⟨b, o + k * 10 + 6, none⟩ = some (.int .i64 (rd xs k).req.til) ∧
    w.cell? ⟨b, o + k * 10 + 7, none⟩ = some (.int .i64 (rd xs k).rep.err) ∧
    w.cell? ⟨b, o + k * 10 + 8, none⟩ = some (.int .i64 (rd xs k).rep.id) ∧
    w.cell? ⟨b, o + k * 10 + 9, none⟩ = some (.bool (rd xs k).told) ∧ b < w.heap.size := by
  obtain ⟨b, o, c, hv, hc⟩ := h.at k hk
  exact ⟨b, o, c, hv, hc 0 _ rfl, hc 1 _ rfl, hc 2 _ rfl, hc 3 _ rfl, hc 4 _ rfl, hc 5 _ rfl, hc 6 _ rfl, hc 7 _ rfl, hc 8 _ rfl, hc 9 _ rfl, cell_lt (hc 0 _ rfl)⟩
theorem Row.knI {xs : List Kn} (h : Row w v xs) (k : Int) (h0 : 0 ≤ k) (hk : k < xs.length) : ∃ b o c, v = .slice (some ⟨b, o, none⟩) xs.length c ∧
    w.cell? ⟨b, o + k.toNat * 10, none⟩ = some (.int .i64 (rd xs k).req.key) ∧
    w.cell? ⟨b, o + k.toNat * 10 + 1, none⟩ = some (.int .i64 (rd xs k).req.op) ∧
    w.cell? ⟨b, o + k.toNat * 10 + 2, none⟩ = some (.int .i64 (rd xs k).req.a) ∧
    w.cell? ⟨b, o + k.toNat * 10 + 3, none⟩ = some (.int .i64 (rd xs k).req.b) ∧
    w.cell? ⟨b, o + k.toNat * 10 + 4, none⟩ = some (.int .i64 (rd xs k).req.amt) ∧
    w.cell? ⟨b, o + k.toNat * 10 + 5, none⟩ = some (.int .i64 (rd xs k).req.legs) ∧
    w.cell? ⟨b, o + k.toNat * 10 + 6, none⟩ = some (.int .i64 (rd xs k).req.til) ∧
    w.cell? ⟨b, o + k.toNat * 10 + 7, none⟩ = some (.int .i64 (rd xs k).rep.err) ∧
    w.cell? ⟨b, o + k.toNat * 10 + 8, none⟩ = some (.int .i64 (rd xs k).rep.id) ∧
    w.cell? ⟨b, o + k.toNat * 10 + 9, none⟩ = some (.bool (rd xs k).told) ∧ b < w.heap.size := by
  obtain ⟨b, o, c, hv, hc⟩ := h.atI k h0 hk
  exact ⟨b, o, c, hv, hc 0 _ rfl, hc 1 _ rfl, hc 2 _ rfl, hc 3 _ rfl, hc 4 _ rfl, hc 5 _ rfl, hc 6 _ rfl, hc 7 _ rfl, hc 8 _ rfl, hc 9 _ rfl, cell_lt (hc 0 _ rfl)⟩
structure Ev where
  what : Int
  req : Req
  key : Int
  ok : Bool
  deriving DecidableEq, Inhabited
def Ev.cells (x : Ev) : List Value := [.int .i64 x.what, .int .i64 x.req.key, .int .i64 x.req.op, .int .i64 x.req.a, .int .i64 x.req.b, .int .i64 x.req.amt, .int .i64 x.req.legs, .int .i64 x.req.til, .int .i64 x.key, .bool x.ok]
abbrev Ev.val (x : Ev) : Value := .agg #[.int .i64 x.what, .int .i64 x.req.key, .int .i64 x.req.op, .int .i64 x.req.a, .int .i64 x.req.b, .int .i64 x.req.amt, .int .i64 x.req.legs, .int .i64 x.req.til, .int .i64 x.key, .bool x.ok]
instance : Enc Ev where
  sz := 10
  enc x := x.cells
  len _ := rfl
  one x u h := by simp only [Ev.cells, List.mem_cons, List.not_mem_nil, or_false] at h; rcases h with rfl | rfl | rfl | rfl | rfl | rfl | rfl | rfl | rfl | rfl <;> rfl
  pos := by decide
theorem Row.ev {xs : List Ev} (h : Row w v xs) (k : Nat) (hk : k < xs.length) : ∃ b o c, v = .slice (some ⟨b, o, none⟩) xs.length c ∧
    w.cell? ⟨b, o + k * 10, none⟩ = some (.int .i64 (rd xs k).what) ∧
    w.cell? ⟨b, o + k * 10 + 1, none⟩ = some (.int .i64 (rd xs k).req.key) ∧
    w.cell? ⟨b, o + k * 10 + 2, none⟩ = some (.int .i64 (rd xs k).req.op) ∧
    w.cell? ⟨b, o + k * 10 + 3, none⟩ = some (.int .i64 (rd xs k).req.a) ∧
    w.cell? ⟨b, o + k * 10 + 4, none⟩ = some (.int .i64 (rd xs k).req.b) ∧
    w.cell? ⟨b, o + k * 10 + 5, none⟩ = some (.int .i64 (rd xs k).req.amt) ∧
    w.cell? ⟨b, o + k * 10 + 6, none⟩ = some (.int .i64 (rd xs k).req.legs) ∧
    w.cell? ⟨b, o + k * 10 + 7, none⟩ = some (.int .i64 (rd xs k).req.til) ∧
    w.cell? ⟨b, o + k * 10 + 8, none⟩ = some (.int .i64 (rd xs k).key) ∧
    w.cell? ⟨b, o + k * 10 + 9, none⟩ = some (.bool (rd xs k).ok) ∧ b < w.heap.size := by
  obtain ⟨b, o, c, hv, hc⟩ := h.at k hk
  exact ⟨b, o, c, hv, hc 0 _ rfl, hc 1 _ rfl, hc 2 _ rfl, hc 3 _ rfl, hc 4 _ rfl, hc 5 _ rfl, hc 6 _ rfl, hc 7 _ rfl, hc 8 _ rfl, hc 9 _ rfl, cell_lt (hc 0 _ rfl)⟩
theorem Row.evI {xs : List Ev} (h : Row w v xs) (k : Int) (h0 : 0 ≤ k) (hk : k < xs.length) : ∃ b o c, v = .slice (some ⟨b, o, none⟩) xs.length c ∧
    w.cell? ⟨b, o + k.toNat * 10, none⟩ = some (.int .i64 (rd xs k).what) ∧
    w.cell? ⟨b, o + k.toNat * 10 + 1, none⟩ = some (.int .i64 (rd xs k).req.key) ∧
    w.cell? ⟨b, o + k.toNat * 10 + 2, none⟩ = some (.int .i64 (rd xs k).req.op) ∧
    w.cell? ⟨b, o + k.toNat * 10 + 3, none⟩ = some (.int .i64 (rd xs k).req.a) ∧
    w.cell? ⟨b, o + k.toNat * 10 + 4, none⟩ = some (.int .i64 (rd xs k).req.b) ∧
    w.cell? ⟨b, o + k.toNat * 10 + 5, none⟩ = some (.int .i64 (rd xs k).req.amt) ∧
    w.cell? ⟨b, o + k.toNat * 10 + 6, none⟩ = some (.int .i64 (rd xs k).req.legs) ∧
    w.cell? ⟨b, o + k.toNat * 10 + 7, none⟩ = some (.int .i64 (rd xs k).req.til) ∧
    w.cell? ⟨b, o + k.toNat * 10 + 8, none⟩ = some (.int .i64 (rd xs k).key) ∧
    w.cell? ⟨b, o + k.toNat * 10 + 9, none⟩ = some (.bool (rd xs k).ok) ∧ b < w.heap.size := by
  obtain ⟨b, o, c, hv, hc⟩ := h.atI k h0 hk
  exact ⟨b, o, c, hv, hc 0 _ rfl, hc 1 _ rfl, hc 2 _ rfl, hc 3 _ rfl, hc 4 _ rfl, hc 5 _ rfl, hc 6 _ rfl, hc 7 _ rfl, hc 8 _ rfl, hc 9 _ rfl, cell_lt (hc 0 _ rfl)⟩
structure Deed where
  what : Int
  ask : Ask
  n : Int
  ok : Bool
  deriving DecidableEq, Inhabited
def Deed.cells (x : Deed) : List Value := [.int .u8 x.what, .int .u8 x.ask.key, .int .u8 x.ask.op, .int .u8 x.ask.a, .int .u8 x.ask.b, .int .u16 x.ask.amt, .int .u8 x.ask.legs, .int .u8 x.ask.til, .int .u8 x.n, .bool x.ok]
abbrev Deed.val (x : Deed) : Value := .agg #[.int .u8 x.what, .int .u8 x.ask.key, .int .u8 x.ask.op, .int .u8 x.ask.a, .int .u8 x.ask.b, .int .u16 x.ask.amt, .int .u8 x.ask.legs, .int .u8 x.ask.til, .int .u8 x.n, .bool x.ok]
instance : Enc Deed where
  sz := 10
  enc x := x.cells
  len _ := rfl
  one x u h := by simp only [Deed.cells, List.mem_cons, List.not_mem_nil, or_false] at h; rcases h with rfl | rfl | rfl | rfl | rfl | rfl | rfl | rfl | rfl | rfl <;> rfl
  pos := by decide
theorem Row.deed {xs : List Deed} (h : Row w v xs) (k : Nat) (hk : k < xs.length) : ∃ b o c, v = .slice (some ⟨b, o, none⟩) xs.length c ∧
    w.cell? ⟨b, o + k * 10, none⟩ = some (.int .u8 (rd xs k).what) ∧
    w.cell? ⟨b, o + k * 10 + 1, none⟩ = some (.int .u8 (rd xs k).ask.key) ∧
    w.cell? ⟨b, o + k * 10 + 2, none⟩ = some (.int .u8 (rd xs k).ask.op) ∧
    w.cell? ⟨b, o + k * 10 + 3, none⟩ = some (.int .u8 (rd xs k).ask.a) ∧
    w.cell? ⟨b, o + k * 10 + 4, none⟩ = some (.int .u8 (rd xs k).ask.b) ∧
    w.cell? ⟨b, o + k * 10 + 5, none⟩ = some (.int .u16 (rd xs k).ask.amt) ∧
    w.cell? ⟨b, o + k * 10 + 6, none⟩ = some (.int .u8 (rd xs k).ask.legs) ∧
    w.cell? ⟨b, o + k * 10 + 7, none⟩ = some (.int .u8 (rd xs k).ask.til) ∧
    w.cell? ⟨b, o + k * 10 + 8, none⟩ = some (.int .u8 (rd xs k).n) ∧
    w.cell? ⟨b, o + k * 10 + 9, none⟩ = some (.bool (rd xs k).ok) ∧ b < w.heap.size := by
  obtain ⟨b, o, c, hv, hc⟩ := h.at k hk
  exact ⟨b, o, c, hv, hc 0 _ rfl, hc 1 _ rfl, hc 2 _ rfl, hc 3 _ rfl, hc 4 _ rfl, hc 5 _ rfl, hc 6 _ rfl, hc 7 _ rfl, hc 8 _ rfl, hc 9 _ rfl, cell_lt (hc 0 _ rfl)⟩
theorem Row.deedI {xs : List Deed} (h : Row w v xs) (k : Int) (h0 : 0 ≤ k) (hk : k < xs.length) : ∃ b o c, v = .slice (some ⟨b, o, none⟩) xs.length c ∧
    w.cell? ⟨b, o + k.toNat * 10, none⟩ = some (.int .u8 (rd xs k).what) ∧
    w.cell? ⟨b, o + k.toNat * 10 + 1, none⟩ = some (.int .u8 (rd xs k).ask.key) ∧
    w.cell? ⟨b, o + k.toNat * 10 + 2, none⟩ = some (.int .u8 (rd xs k).ask.op) ∧
    w.cell? ⟨b, o + k.toNat * 10 + 3, none⟩ = some (.int .u8 (rd xs k).ask.a) ∧
    w.cell? ⟨b, o + k.toNat * 10 + 4, none⟩ = some (.int .u8 (rd xs k).ask.b) ∧
    w.cell? ⟨b, o + k.toNat * 10 + 5, none⟩ = some (.int .u16 (rd xs k).ask.amt) ∧
    w.cell? ⟨b, o + k.toNat * 10 + 6, none⟩ = some (.int .u8 (rd xs k).ask.legs) ∧
    w.cell? ⟨b, o + k.toNat * 10 + 7, none⟩ = some (.int .u8 (rd xs k).ask.til) ∧
    w.cell? ⟨b, o + k.toNat * 10 + 8, none⟩ = some (.int .u8 (rd xs k).n) ∧
    w.cell? ⟨b, o + k.toNat * 10 + 9, none⟩ = some (.bool (rd xs k).ok) ∧ b < w.heap.size := by
  obtain ⟨b, o, c, hv, hc⟩ := h.atI k h0 hk
  exact ⟨b, o, c, hv, hc 0 _ rfl, hc 1 _ rfl, hc 2 _ rfl, hc 3 _ rfl, hc 4 _ rfl, hc 5 _ rfl, hc 6 _ rfl, hc 7 _ rfl, hc 8 _ rfl, hc 9 _ rfl, cell_lt (hc 0 _ rfl)⟩
/-! ### Worlds -/
theorem below_alloc (h : Below w.heap.size w w') (o : Obj) : Below w.heap.size w (w'.alloc o) := h.alloc h.size o
theorem below_drew (h : Below B w w') : Below B w w'.drew := ⟨h.os, h.tape, h.output, h.size, h.block⟩
theorem below_drewN (h : Below B w w') (n : Nat) : Below B w (w'.drewN n) := ⟨h.os, h.tape, h.output, h.size, h.block⟩
theorem below_then {w1 w2 : World} (h : Below B w w1) (hB : B ≤ w1.heap.size) (k : Below w1.heap.size w1 w2) : Below B w w2 :=
  h.trans ⟨k.os, k.tape, k.output, k.size, fun i hi => k.block i (Nat.lt_of_lt_of_le hi hB)⟩
theorem below_next {w1 w2 : World} (h : Below w.heap.size w w1) (k : Below w1.heap.size w1 w2) : Below w.heap.size w w2 := below_then h h.size k
theorem below_grown {w1 w2 : World} {row : Option Nat} (h : Below w.heap.size w w1) (hg : w1.grownBy w2 row) (hr : ∀ k, row = some k → w.heap.size ≤ k) : Below w.heap.size w w2 := h.grown hg h.size hr
theorem Own.kept {e : TypeId} {row : Option Nat} (h : Own w B e v xs) (hg : w.grownBy w' row) (hne : v.ownBlock = none ∨ v.ownBlock ≠ row) : Own w' B e v xs := World.ownsRow.kept h hg hne
theorem Own.below {e : TypeId} (h : Own w B e v xs) (hb : Below w.heap.size w w') : Own w' B e v xs :=
  h.kept (row := none) ⟨hb.os, hb.tape, hb.output, hb.size, fun i hi _ => hb.block i hi⟩ (by cases v.ownBlock <;> simp)
theorem Own.alloc {e : TypeId} (h : Own w B e v xs) (o : Obj) : Own (w.alloc o) B e v xs := World.ownsRow.alloc h o
theorem Own.drewN {e : TypeId} (h : Own w B e v xs) (n : Nat) : Own (w.drewN n) B e v xs := h
theorem Row.drewN (h : Row w v xs) (n : Nat) : Row (w.drewN n) v xs := h
theorem Row.alloc (h : Row w v xs) (o : Obj) : Row (w.alloc o) v xs := h.below (below_alloc (Below.refl _ _) o)
theorem Own.base {e : TypeId} (h : Own w B e v xs) : ∀ k, v.ownBlock = some k → B ≤ k := fun k hk => (World.ownsRow.lt h k hk).1
theorem Own.ne {e : TypeId} (h : Own w B e v xs) {b : Nat} (hb : b < B) : some b ≠ v.ownBlock := fun he => by have := h.base b he.symm; omega
theorem Own.lt {e : TypeId} (h : Own w B e v xs) : ∀ k, v.ownBlock = some k → k < w.heap.size := fun k hk => (World.ownsRow.lt h k hk).2
theorem Own.lower {e : TypeId} {B' : Nat} (h : Own w B e v xs) (hB : B' ≤ B) : Own w B' e v xs := by
  refine ⟨h.1, ?_⟩
  rcases h.2 with h0 | ⟨g, cap, cur, h1, h2, h3⟩
  · exact .inl h0
  · exact .inr ⟨g, cap, cur, h1, by omega, h3⟩

/-! ### append -/
/-- t is the type of slices of e, and an e is what α says. -/
structure SlT (P : Program) (t e : TypeId) (α : Type) [Enc α] (bytes : Nat) : Prop where
  und : P.underlying t = some (.slice e)
  inf : ∃ i z, P.info? e = some i ∧ i.zero = some z ∧ i.size = sz α ∧ i.bytes = bytes ∧ z.cells.size = sz α

theorem add_plain (b o j : Nat) : (⟨b, o, none⟩ : Addr).add j = ⟨b, o + j, none⟩ := by unfold Addr.add; split <;> simp_all

theorem flat_split (ys : List α) (j : Nat) (u : Value) (h : (ys.flatMap enc)[j]? = some u) : ∃ k i, ∃ hk : k < ys.length, j = k * sz α + i ∧ (enc ys[k])[i]? = some u := by
  induction ys generalizing j with
  | nil => simp at h
  | cons y ys ih =>
    simp only [List.flatMap_cons] at h
    by_cases hj : j < sz α
    · rw [List.getElem?_append_left (by rw [len]; exact hj)] at h
      exact ⟨0, j, by simp, by simp, by simpa using h⟩
    · rw [List.getElem?_append_right (by rw [len]; omega), len] at h
      obtain ⟨k, i, hk, he, hu⟩ := ih _ h
      exact ⟨k + 1, i, by simpa using hk, by rw [Nat.succ_mul]; omega, by simpa using hu⟩

theorem flat_one (ys : List α) : ∀ u ∈ ys.flatMap enc, u.oneCell' = true := by
  intro u hu
  obtain ⟨y, _, h⟩ := List.mem_flatMap.1 hu
  exact one y u h

section
variable {P : Program}
theorem run_append_nil (base : Nat) (t ty e : TypeId) (i : TypeInfo) (size : Nat) (ht : P.underlying t = some (.slice e)) (hi : P.info? e = some i)
    (v : Value) (n : Nat) (xs : List Value) (hown : w.ownsRow base e size v n xs) (c : Nat) : (Builtin.append_ #[t, t] ty #[v, .slice none 0 c]).run P w = .ok v w := by
  rcases hown.2 with ⟨rfl, rfl⟩ | ⟨g, cap, cur, rfl, _, _, hnc, _⟩
  · simp [Builtin.append_, run_underlying ht, sizeOf, typeInfo, hi, Builtin.lenOf, Builtin.firstCells]
  · simp [Builtin.append_, run_underlying ht, sizeOf, typeInfo, hi, Builtin.lenOf, Builtin.firstCells, hnc, storeCells]

theorem run_append {t e bytes : Nat} (ty : TypeId) (hT : SlT P t e α bytes) {ys : List α} {y : Value} (hown : Own w B e v xs) (hr : Row w y ys)
    (hbytes : (xs.length + ys.length) * bytes ≤ 140737488355328) (hb0 : 0 < bytes) (hbase : B ≤ w.heap.size) :
    ∃ v' w', (Builtin.append_ #[t, t] ty #[v, y]).run P w = .ok v' w' ∧ Own w' B e v' (xs ++ ys) ∧ w.grownBy w' v.ownBlock ∧
      (v'.ownBlock = v.ownBlock ∨ v'.ownBlock = some w.heap.size) := by
  obtain ⟨i, z, hi, hz, hs, hby, hzs⟩ := hT.inf
  obtain ⟨A, c, rfl, hm, hc⟩ := hr
  have h63 : xs.length + ys.length ≤ maxLen := by
    have : (xs.length + ys.length) ≤ (xs.length + ys.length) * bytes := Nat.le_mul_of_pos_right _ hb0
    simp only [maxLen]; omega
  rcases Nat.eq_zero_or_pos ys.length with h0 | h0
  · obtain rfl : ys = [] := List.eq_nil_of_length_eq_zero h0
    rcases A with _ | ad
    · exact ⟨v, w, run_append_nil B t ty e i (sz α) hT.und hi v _ _ hown c, by simpa using hown, World.grownBy.refl w _, .inl rfl⟩
    · obtain ⟨v', w', hrun, h2, h3, _, h5⟩ := run_append_own_at (P := P) w B t ty e i z (sz α) bytes hT.und hi hz hs hby hzs pos v _ _ hown ad 0 c [] (by simp) (by simp) (by simp) (by simpa using h63) (by simpa using hbytes) hbase
      exact ⟨v', w', hrun, by simpa [Own] using h2, h3, h5⟩
  · obtain ⟨b, o, rfl, _⟩ := hc 0 h0
    have hcells : ∀ j u, (ys.flatMap enc)[j]? = some u → w.cell? ((⟨b, o, none⟩ : Addr).add j) = some u := by
      intro j u hu
      obtain ⟨k, i, hk, rfl, hx⟩ := flat_split ys j u hu
      obtain ⟨b', o', he, hcc⟩ := hc k hk
      injection he with he
      injection he with e1 e2
      subst e1 e2
      rw [add_plain, ← Nat.add_assoc]
      exact hcc i u hx
    obtain ⟨v', w', hrun, h2, h3, _, h5⟩ := run_append_own_at (P := P) w B t ty e i z (sz α) bytes hT.und hi hz hs hby hzs pos v _ _ hown ⟨b, o, none⟩ ys.length c _ (flat_len ys) hcells (flat_one ys) h63 hbytes hbase
    exact ⟨v', w', hrun, by simpa [Own] using h2, h3, h5⟩

theorem wp_append {ops : Array Oper} {rest : List Oper} {o : Oper} {a : Act} {Q : Exit → Act → World → Prop} {t e bytes : Nat} (hT : SlT P t e α bytes) (hgd : o.guard = none) {s x : Operand}
    (ho : o.op = .call { callee := .builtin .append, args := #[s, x], argTypes := #[t, t] }) {ys : List α} (v y : Value) (hs : a.eval s = v) (hx : a.eval x = y) (hown : Own w B e v xs) (hr : Row w y ys)
    (hbytes : (xs.length + ys.length) * bytes ≤ 140737488355328) (hb0 : 0 < bytes) (hbase : B ≤ w.heap.size)
    (h : ∀ v' w', Own w' B e v' (xs ++ ys) → w.grownBy w' v.ownBlock → (v'.ownBlock = v.ownBlock ∨ v'.ownBlock = some w.heap.size) → wpList P ops Q rest (a.put o.dst v') w') : wpList P ops Q (o :: rest) a w := by
  refine wpList_plain hgd fun _ hK => ?_
  obtain ⟨v', w', hrun, h2, h3, h4⟩ := run_append (P := P) o.type hT hown hr hbytes hb0 hbase
  unfold Oper.wp execOp
  simp only [ho, resolve, invoke, builtin, Sem.run_bind, Sem.run_pure, Result.andThen_ok, List.map_toArray, List.map_cons, List.map_nil, hs, hx, hrun]
  exact hK _ _ (h v' w' h2 h3 h4)
end

section
variable {P : Program}
theorem step_append {ops : Array Oper} {o : Oper} {a : Act} {K : Act → World → Prop} {Q : Exit → Act → World → Prop} {E : Prop} {t e bytes : Nat} (hT : SlT P t e α bytes) (hgd : o.guard = none) {s x : Operand}
    (ho : o.op = .call { callee := .builtin .append, args := #[s, x], argTypes := #[t, t] }) {ys : List α} (v y : Value) (hs : a.eval s = v) (hx : a.eval x = y) (hown : Own w B e v xs) (hr : Row w y ys)
    (hbytes : (xs.length + ys.length) * bytes ≤ 140737488355328) (hb0 : 0 < bytes) (hbase : B ≤ w.heap.size)
    (h : ∀ v' w', Own w' B e v' (xs ++ ys) → w.grownBy w' v.ownBlock → (v'.ownBlock = v.ownBlock ∨ v'.ownBlock = some w.heap.size) → K (a.put o.dst v') w') :
    if Region.wanted o (yielded ops a.tmps) = true then Oper.wp P o a w K Q else E := by
  have hw : Region.wanted o (yielded ops a.tmps) = true := by simp [Region.wanted, hgd]
  rw [if_pos hw]
  obtain ⟨v', w', hrun, h2, h3, h4⟩ := run_append (P := P) o.type hT hown hr hbytes hb0 hbase
  unfold Oper.wp execOp
  simp only [ho, resolve, invoke, builtin, Sem.run_bind, Sem.run_pure, Result.andThen_ok, List.map_toArray, List.map_cons, List.map_nil, hs, hx, hrun]
  exact h v' w' h2 h3 h4
end
theorem Row.drew (h : Row w v xs) : Row w.drew v xs := h
theorem Own.drew {e : TypeId} (h : Own w B e v xs) : Own w.drew B e v xs := h

/-! ### Blocks known whole -/
def Blk (w : World) (g : Nat) (t : TypeId) (cs : Array Value) : Prop := w.heap[g]? = some (.cells cs t (0, 0))
section
variable {g : Nat} {t : TypeId} {cs : Array Value}
theorem Blk.lt (h : Blk w g t cs) : g < w.heap.size := by
  rcases Nat.lt_or_ge g w.heap.size with hlt | hge
  · exact hlt
  · unfold Blk at h; rw [Array.getElem?_eq_none hge] at h; cases h
theorem Blk.cell (h : Blk w g t cs) (i : Nat) : w.cell? ⟨g, i, none⟩ = cs[i]? := cell_of_row w g i cs t (0, 0) h
theorem Blk.at (h : Blk w g t cs) (i : Nat) (u : Value) (hu : cs[i]? = some u) : w.cell? ⟨g, i, none⟩ = some u := (h.cell i).trans hu
theorem Blk.frozen (h : Blk w g t cs) (i : Nat) : w.frozen? ⟨g, i, none⟩ = false := by
  unfold Blk at h
  simp [World.frozen?, h]
theorem Blk.new (w : World) (t : TypeId) (cs : Array Value) : Blk (w.alloc (.cells cs t)) w.heap.size t cs := heap_alloc_new w _
theorem Blk.drew (h : Blk w g t cs) : Blk w.drew g t cs := h
theorem Blk.drewN (h : Blk w g t cs) (n : Nat) : Blk (w.drewN n) g t cs := h
theorem Blk.alloc (h : Blk w g t cs) (o : Obj) : Blk (w.alloc o) g t cs := (Below.heap_alloc w o g h.lt).trans h
theorem Blk.set_ (h : Blk w g t cs) (i : Nat) (u : Value) : Blk (w.setCell ⟨g, i, none⟩ u) g t (cs.setIfInBounds i u) := by
  unfold Blk at h ⊢
  simp [World.setCell, Array.getElem?_modify, h]
theorem Blk.far (h : Blk w g t cs) {p : Addr} (hp : g ≠ p.block) (u : Value) : Blk (w.setCell p u) g t cs := (Below.heap_setCell w p u g hp).trans h
theorem Blk.below (h : Blk w g t cs) (hb : Below B w w') (hg : g < B) : Blk w' g t cs := (hb.block g hg).trans h
theorem Blk.next (h : Blk w g t cs) (hb : Below w.heap.size w w') : Blk w' g t cs := (hb.block g h.lt).trans h
theorem Blk.grown {row : Option Nat} (h : Blk w g t cs) (hb : w.grownBy w' row) (hg : some g ≠ row) : Blk w' g t cs := (hb.block g h.lt hg).trans h
theorem Blk.ne_ {g' : Nat} {t' : TypeId} {cs' : Array Value} (h : Blk w g t cs) (h' : Blk w g' t' cs') (hne : t ≠ t') : g ≠ g' := by
  rintro rfl
  unfold Blk at h h'
  rw [h] at h'
  injection h' with h'
  injection h' with _ ht
  exact hne ht
theorem Own.blk_ne {e : TypeId} (h : Own w B e v xs) (hg : Blk w g t cs) (hne : e ≠ t) : v.ownBlock ≠ some g := by
  rcases h.2 with ⟨rfl, _⟩ | ⟨g', cap, cur, rfl, _, hh, _⟩
  · simp [Value.ownBlock]
  · intro he
    have : g' = g := by simpa [Value.ownBlock] using he
    subst this
    exact Blk.ne_ (t := e) hh hg hne rfl
end

/-- A new box of one struct reads as a slice of it. -/
theorem Row.box (w : World) (x : α) (cs : Array Value) (hcs : cs.toList = enc x) (e : TypeId) : Row (w.alloc (.cells cs e)) (.slice (some ⟨w.heap.size, 0, none⟩) 1 1) [x] := by
  refine ⟨_, _, rfl, by simp [maxLen], fun k hk => ⟨_, _, rfl, fun j u hu => ?_⟩⟩
  obtain rfl : k = 0 := by simpa using hk
  rw [(Blk.new w e cs).cell]
  simpa [← hcs] using hu

theorem Own.of_blk {e : TypeId} {g c : Nat} {cs : Array Value} (h : Blk w g e cs) (hB : B ≤ g) (hcs : cs.toList.take (xs.length * sz α) = xs.flatMap enc) (hc : cs.size = c * sz α) (hl : xs.length ≤ c) (hm : c ≤ maxLen) :
    Own w B e (.slice (some ⟨g, 0, none⟩) xs.length c) xs :=
  ⟨flat_len xs, .inr ⟨g, c, cs, rfl, hB, h, hl, hm, hc, hcs⟩⟩

/-- One cell of a row of the call's own is written. -/
theorem flat_set (xs : List α) (k : Nat) (h : k < xs.length) (j : Nat) (hj : j < sz α) (u : Value) (x' : α) (hx : enc x' = (enc xs[k]).set j u) :
    (xs.flatMap enc).set (k * sz α + j) u = (xs.set k x').flatMap enc := by
  induction xs generalizing k with
  | nil => simp at h
  | cons y ys ih =>
    cases k with
    | zero =>
      simp only [List.flatMap_cons, Nat.zero_mul, Nat.zero_add, List.set_cons_zero]
      rw [List.set_append_left _ _ (by rw [len]; exact hj), hx]
      rfl
    | succ k =>
      simp only [List.flatMap_cons, List.set_cons_succ]
      rw [List.set_append_right _ _ (by rw [len, Nat.succ_mul]; omega), len]
      rw [show (k + 1) * sz α + j - sz α = k * sz α + j by rw [Nat.succ_mul]; omega]
      rw [ih k (by simpa using h) (by simpa using hx)]

theorem Own.set {e : TypeId} (h : Own w B e v xs) (k : Nat) (hk : k < xs.length) (j : Nat) (hj : j < sz α) (u : Value) (x' : α) (hx : enc x' = (enc xs[k]).set j u) {b o c : Nat} (hv : v = .slice (some ⟨b, o, none⟩) xs.length c) :
    Own (w.setCell ⟨b, o + k * sz α + j, none⟩ u) B e v (xs.set k x') ∧ w.frozen? ⟨b, o + k * sz α + j, none⟩ = false ∧ B ≤ b := by
  rcases h.2 with ⟨rfl, h0⟩ | ⟨g, cap, cur, hv', hb, hh, h1, h2, h3, h4⟩
  · omega
  · rw [hv] at hv'
    injection hv' with e1 e2 e3
    injection e1 with e1
    injection e1 with e4 e5
    subst hv e4 e5 e3
    have hs := Blk.set_ (show Blk w b e cur from hh) (0 + k * sz α + j) u
    refine ⟨⟨?_, .inr ⟨b, c, _, by rw [List.length_set], hb, hs, by simpa using h1, h2, by simpa using h3, ?_⟩⟩, Blk.frozen (show Blk w b e cur from hh) _, hb⟩
    · rw [flat_len]
    · rw [← flat_set xs k hk j hj u x' hx, ← h4]
      simp only [Array.toList_setIfInBounds, List.length_set, Nat.zero_add]
      rw [List.take_set]
end Go.Proofs.YthjmficglpfgpaaDoor
namespace Go.Proofs.YthjmficglpfgpaaDoor
set_option linter.unusedVariables false
set_option linter.unusedSimpArgs false
open Go Go.RowKit Enc
/-- What stood reads as it did: rules that the walk uses by itself. -/
theorem bcell {W w1 : World} (hb : Below W.heap.size W w1) : (∀ b o, b < W.heap.size → w1.cell? ⟨b, o, none⟩ = W.cell? ⟨b, o, none⟩) ∧ (∀ b o, b < W.heap.size → w1.frozen? ⟨b, o, none⟩ = W.frozen? ⟨b, o, none⟩) ∧ W.heap.size ≤ w1.heap.size :=
  ⟨fun b o h => hb.cell (p := ⟨b, o, none⟩) h, fun b o h => hb.frozen (p := ⟨b, o, none⟩) h, hb.size⟩
theorem Blk.new1 (w : World) (o : Obj) (t : TypeId) (cs : Array Value) : Blk ((w.alloc o).alloc (.cells cs t)) (w.heap.size + 1) t cs := by
  have := Blk.new (w.alloc o) t cs
  rwa [World.size_alloc] at this
theorem Blk.new2 (w : World) (o o' : Obj) (t : TypeId) (cs : Array Value) : Blk (((w.alloc o).alloc o').alloc (.cells cs t)) (w.heap.size + 2) t cs := by
  have := Blk.new1 (w.alloc o) o' t cs
  rwa [World.size_alloc] at this
theorem Blk.new3 (w : World) (o o' o'' : Obj) (t : TypeId) (cs : Array Value) : Blk ((((w.alloc o).alloc o').alloc o'').alloc (.cells cs t)) (w.heap.size + 3) t cs := by
  have := Blk.new2 (w.alloc o) o' o'' t cs
  rwa [World.size_alloc] at this
theorem Blk.c8 {w : World} {g : Nat} {t : TypeId} {a0 a1 a2 a3 a4 a5 a6 a7 : Value} (h : Blk w g t #[a0, a1, a2, a3, a4, a5, a6, a7]) :
    w.cell? ⟨g, 0, none⟩ = some a0 ∧ w.cell? ⟨g, 1, none⟩ = some a1 ∧ w.cell? ⟨g, 2, none⟩ = some a2 ∧ w.cell? ⟨g, 3, none⟩ = some a3 ∧ w.cell? ⟨g, 4, none⟩ = some a4 ∧ w.cell? ⟨g, 5, none⟩ = some a5 ∧ w.cell? ⟨g, 6, none⟩ = some a6 ∧ w.cell? ⟨g, 7, none⟩ = some a7 :=
  ⟨h.cell 0, h.cell 1, h.cell 2, h.cell 3, h.cell 4, h.cell 5, h.cell 6, h.cell 7⟩
/-! ### Results that lie in memory -/
section
variable {P : Program} {w : World}
/-- A variable of an aggregate type reads whole. -/
structure AggT (P : Program) (t : TypeId) (n : Nat) : Prop where
  und : ∃ d, P.underlying t = some d ∧ (match d with | .struct _ | .array _ _ => true | _ => false) = true
  sz : (P.info? t).map (·.size) = some n
theorem load_blk {t e g n : Nat} {cs : Array Value} (hT : AggT P t n) (hn : cs.size = n) (hb : Blk w g e cs) : (loadVar t ⟨g, 0, none⟩).run P w = .ok (.agg cs) w := by
  obtain ⟨d, hu, hd⟩ := hT.und
  exact run_loadVar_row w g e t cs (0, 0) d hb hu (by cases d <;> first | rfl | exact absurd hd (by decide) | (simp at hd)) (by rw [hT.sz, hn])
theorem res_cell {fn : Func} {p : Tmp} {t e g n : Nat} {cs : Array Value} (h : fn.results = #[.cell p t]) (tmps : Array Value) (hp : tmps.getD p undef = .pointer (some ⟨g, 0, none⟩)) (hT : AggT P t n) (hn : cs.size = n) (hb : Blk w g e cs) :
    (results fn tmps).run P w = .ok (.agg cs) w := by
  have hp' : tmps[p]?.getD undef = .pointer (some ⟨g, 0, none⟩) := by simpa using hp
  simp [results, h, hp', asAddr, load_blk hT hn hb]
theorem res_cell_tmp {fn : Func} {p u : Tmp} {t e g n : Nat} {cs : Array Value} (h : fn.results = #[.cell p t, .tmp u]) (tmps : Array Value) (hp : tmps.getD p undef = .pointer (some ⟨g, 0, none⟩)) (hT : AggT P t n) (hn : cs.size = n) (hb : Blk w g e cs) :
    (results fn tmps).run P w = .ok (.tuple #[.agg cs, tmps.getD u undef]) w := by
  have hp' : tmps[p]?.getD undef = .pointer (some ⟨g, 0, none⟩) := by simpa using hp
  simp [results, h, hp', asAddr, load_blk hT hn hb]
theorem res_cell_cell {fn : Func} {p q : Tmp} {t t' e e' g g' n n' : Nat} {cs cs' : Array Value} (h : fn.results = #[.cell p t, .cell q t']) (tmps : Array Value) (hp : tmps.getD p undef = .pointer (some ⟨g, 0, none⟩)) (hq : tmps.getD q undef = .pointer (some ⟨g', 0, none⟩)) (hT : AggT P t n) (hn : cs.size = n) (hb : Blk w g e cs) (hT' : AggT P t' n') (hn' : cs'.size = n') (hb' : Blk w g' e' cs') :
    (results fn tmps).run P w = .ok (.tuple #[.agg cs, .agg cs']) w := by
  have hp' : tmps[p]?.getD undef = .pointer (some ⟨g, 0, none⟩) := by simpa using hp
  have hq' : tmps[q]?.getD undef = .pointer (some ⟨g', 0, none⟩) := by simpa using hq
  simp [results, h, hp', hq', asAddr, load_blk hT hn hb, load_blk hT' hn' hb']
theorem res_cell_cell_tmp {fn : Func} {p q u : Tmp} {t t' e e' g g' n n' : Nat} {cs cs' : Array Value} (h : fn.results = #[.cell p t, .cell q t', .tmp u]) (tmps : Array Value) (hp : tmps.getD p undef = .pointer (some ⟨g, 0, none⟩)) (hq : tmps.getD q undef = .pointer (some ⟨g', 0, none⟩)) (hT : AggT P t n) (hn : cs.size = n) (hb : Blk w g e cs) (hT' : AggT P t' n') (hn' : cs'.size = n') (hb' : Blk w g' e' cs') :
    (results fn tmps).run P w = .ok (.tuple #[.agg cs, .agg cs', tmps.getD u undef]) w := by
  have hp' : tmps[p]?.getD undef = .pointer (some ⟨g, 0, none⟩) := by simpa using hp
  have hq' : tmps[q]?.getD undef = .pointer (some ⟨g', 0, none⟩) := by simpa using hq
  simp [results, h, hp', hq', asAddr, load_blk hT hn hb, load_blk hT' hn' hb']
theorem res_cell_tmp_tmp {fn : Func} {p u x : Tmp} {t e g n : Nat} {cs : Array Value} (h : fn.results = #[.cell p t, .tmp u, .tmp x]) (tmps : Array Value) (hp : tmps.getD p undef = .pointer (some ⟨g, 0, none⟩)) (hT : AggT P t n) (hn : cs.size = n) (hb : Blk w g e cs) :
    (results fn tmps).run P w = .ok (.tuple #[.agg cs, tmps.getD u undef, tmps.getD x undef]) w := by
  have hp' : tmps[p]?.getD undef = .pointer (some ⟨g, 0, none⟩) := by simpa using hp
  simp [results, h, hp', asAddr, load_blk hT hn hb]
theorem Blk.chain2 {g : Nat} {t : TypeId} {b0 b1 a0 a1 : Value} (h : Blk w g t #[b0, b1]) : Blk ((w.setCell ⟨g, 0, none⟩ a0).setCell ⟨g, 1, none⟩ a1) g t #[a0, a1] := by
  have := ((h.set_ 0 a0).set_ 1 a1)
  simpa only [List.setIfInBounds_toArray, List.set_cons_zero, List.set_cons_succ] using this
theorem Blk.chain3 {g : Nat} {t : TypeId} {b0 b1 b2 a0 a1 a2 : Value} (h : Blk w g t #[b0, b1, b2]) : Blk (((w.setCell ⟨g, 0, none⟩ a0).setCell ⟨g, 1, none⟩ a1).setCell ⟨g, 2, none⟩ a2) g t #[a0, a1, a2] := by
  have := (((h.set_ 0 a0).set_ 1 a1).set_ 2 a2)
  simpa only [List.setIfInBounds_toArray, List.set_cons_zero, List.set_cons_succ] using this
theorem Blk.chain5 {g : Nat} {t : TypeId} {b0 b1 b2 b3 b4 a0 a1 a2 a3 a4 : Value} (h : Blk w g t #[b0, b1, b2, b3, b4]) : Blk (((((w.setCell ⟨g, 0, none⟩ a0).setCell ⟨g, 1, none⟩ a1).setCell ⟨g, 2, none⟩ a2).setCell ⟨g, 3, none⟩ a3).setCell ⟨g, 4, none⟩ a4) g t #[a0, a1, a2, a3, a4] := by
  have := (((((h.set_ 0 a0).set_ 1 a1).set_ 2 a2).set_ 3 a3).set_ 4 a4)
  simpa only [List.setIfInBounds_toArray, List.set_cons_zero, List.set_cons_succ] using this
theorem Blk.chain7 {g : Nat} {t : TypeId} {b0 b1 b2 b3 b4 b5 b6 a0 a1 a2 a3 a4 a5 a6 : Value} (h : Blk w g t #[b0, b1, b2, b3, b4, b5, b6]) : Blk (((((((w.setCell ⟨g, 0, none⟩ a0).setCell ⟨g, 1, none⟩ a1).setCell ⟨g, 2, none⟩ a2).setCell ⟨g, 3, none⟩ a3).setCell ⟨g, 4, none⟩ a4).setCell ⟨g, 5, none⟩ a5).setCell ⟨g, 6, none⟩ a6) g t #[a0, a1, a2, a3, a4, a5, a6] := by
  have := (((((((h.set_ 0 a0).set_ 1 a1).set_ 2 a2).set_ 3 a3).set_ 4 a4).set_ 5 a5).set_ 6 a6)
  simpa only [List.setIfInBounds_toArray, List.set_cons_zero, List.set_cons_succ] using this
theorem Blk.chain8 {g : Nat} {t : TypeId} {b0 b1 b2 b3 b4 b5 b6 b7 a0 a1 a2 a3 a4 a5 a6 a7 : Value} (h : Blk w g t #[b0, b1, b2, b3, b4, b5, b6, b7]) : Blk ((((((((w.setCell ⟨g, 0, none⟩ a0).setCell ⟨g, 1, none⟩ a1).setCell ⟨g, 2, none⟩ a2).setCell ⟨g, 3, none⟩ a3).setCell ⟨g, 4, none⟩ a4).setCell ⟨g, 5, none⟩ a5).setCell ⟨g, 6, none⟩ a6).setCell ⟨g, 7, none⟩ a7) g t #[a0, a1, a2, a3, a4, a5, a6, a7] := by
  have := ((((((((h.set_ 0 a0).set_ 1 a1).set_ 2 a2).set_ 3 a3).set_ 4 a4).set_ 5 a5).set_ 6 a6).set_ 7 a7)
  simpa only [List.setIfInBounds_toArray, List.set_cons_zero, List.set_cons_succ] using this
theorem Blk.chain10 {g : Nat} {t : TypeId} {b0 b1 b2 b3 b4 b5 b6 b7 b8 b9 a0 a1 a2 a3 a4 a5 a6 a7 a8 a9 : Value} (h : Blk w g t #[b0, b1, b2, b3, b4, b5, b6, b7, b8, b9]) : Blk ((((((((((w.setCell ⟨g, 0, none⟩ a0).setCell ⟨g, 1, none⟩ a1).setCell ⟨g, 2, none⟩ a2).setCell ⟨g, 3, none⟩ a3).setCell ⟨g, 4, none⟩ a4).setCell ⟨g, 5, none⟩ a5).setCell ⟨g, 6, none⟩ a6).setCell ⟨g, 7, none⟩ a7).setCell ⟨g, 8, none⟩ a8).setCell ⟨g, 9, none⟩ a9) g t #[a0, a1, a2, a3, a4, a5, a6, a7, a8, a9] := by
  have := ((((((((((h.set_ 0 a0).set_ 1 a1).set_ 2 a2).set_ 3 a3).set_ 4 a4).set_ 5 a5).set_ 6 a6).set_ 7 a7).set_ 8 a8).set_ 9 a9)
  simpa only [List.setIfInBounds_toArray, List.set_cons_zero, List.set_cons_succ] using this
theorem Blk.chain11 {g : Nat} {t : TypeId} {b0 b1 b2 b3 b4 b5 b6 b7 b8 b9 b10 a0 a1 a2 a3 a4 a5 a6 a7 a8 a9 a10 : Value} (h : Blk w g t #[b0, b1, b2, b3, b4, b5, b6, b7, b8, b9, b10]) : Blk (((((((((((w.setCell ⟨g, 0, none⟩ a0).setCell ⟨g, 1, none⟩ a1).setCell ⟨g, 2, none⟩ a2).setCell ⟨g, 3, none⟩ a3).setCell ⟨g, 4, none⟩ a4).setCell ⟨g, 5, none⟩ a5).setCell ⟨g, 6, none⟩ a6).setCell ⟨g, 7, none⟩ a7).setCell ⟨g, 8, none⟩ a8).setCell ⟨g, 9, none⟩ a9).setCell ⟨g, 10, none⟩ a10) g t #[a0, a1, a2, a3, a4, a5, a6, a7, a8, a9, a10] := by
  have := (((((((((((h.set_ 0 a0).set_ 1 a1).set_ 2 a2).set_ 3 a3).set_ 4 a4).set_ 5 a5).set_ 6 a6).set_ 7 a7).set_ 8 a8).set_ 9 a9).set_ 10 a10)
  simpa only [List.setIfInBounds_toArray, List.set_cons_zero, List.set_cons_succ] using this
theorem Blk.far2 {g g' : Nat} {t : TypeId} {cs : Array Value} {a0 a1 : Value} (h : Blk w g t cs) (hne : g ≠ g') : Blk ((w.setCell ⟨g', 0, none⟩ a0).setCell ⟨g', 1, none⟩ a1) g t cs := (Blk.far (p := ⟨g', 1, none⟩) (Blk.far (p := ⟨g', 0, none⟩) h hne a0) hne a1)
theorem Blk.far3 {g g' : Nat} {t : TypeId} {cs : Array Value} {a0 a1 a2 : Value} (h : Blk w g t cs) (hne : g ≠ g') : Blk (((w.setCell ⟨g', 0, none⟩ a0).setCell ⟨g', 1, none⟩ a1).setCell ⟨g', 2, none⟩ a2) g t cs := (Blk.far (p := ⟨g', 2, none⟩) (Blk.far (p := ⟨g', 1, none⟩) (Blk.far (p := ⟨g', 0, none⟩) h hne a0) hne a1) hne a2)
theorem Blk.far5 {g g' : Nat} {t : TypeId} {cs : Array Value} {a0 a1 a2 a3 a4 : Value} (h : Blk w g t cs) (hne : g ≠ g') : Blk (((((w.setCell ⟨g', 0, none⟩ a0).setCell ⟨g', 1, none⟩ a1).setCell ⟨g', 2, none⟩ a2).setCell ⟨g', 3, none⟩ a3).setCell ⟨g', 4, none⟩ a4) g t cs := (Blk.far (p := ⟨g', 4, none⟩) (Blk.far (p := ⟨g', 3, none⟩) (Blk.far (p := ⟨g', 2, none⟩) (Blk.far (p := ⟨g', 1, none⟩) (Blk.far (p := ⟨g', 0, none⟩) h hne a0) hne a1) hne a2) hne a3) hne a4)
theorem Blk.far7 {g g' : Nat} {t : TypeId} {cs : Array Value} {a0 a1 a2 a3 a4 a5 a6 : Value} (h : Blk w g t cs) (hne : g ≠ g') : Blk (((((((w.setCell ⟨g', 0, none⟩ a0).setCell ⟨g', 1, none⟩ a1).setCell ⟨g', 2, none⟩ a2).setCell ⟨g', 3, none⟩ a3).setCell ⟨g', 4, none⟩ a4).setCell ⟨g', 5, none⟩ a5).setCell ⟨g', 6, none⟩ a6) g t cs := (Blk.far (p := ⟨g', 6, none⟩) (Blk.far (p := ⟨g', 5, none⟩) (Blk.far (p := ⟨g', 4, none⟩) (Blk.far (p := ⟨g', 3, none⟩) (Blk.far (p := ⟨g', 2, none⟩) (Blk.far (p := ⟨g', 1, none⟩) (Blk.far (p := ⟨g', 0, none⟩) h hne a0) hne a1) hne a2) hne a3) hne a4) hne a5) hne a6)
theorem Blk.far8 {g g' : Nat} {t : TypeId} {cs : Array Value} {a0 a1 a2 a3 a4 a5 a6 a7 : Value} (h : Blk w g t cs) (hne : g ≠ g') : Blk ((((((((w.setCell ⟨g', 0, none⟩ a0).setCell ⟨g', 1, none⟩ a1).setCell ⟨g', 2, none⟩ a2).setCell ⟨g', 3, none⟩ a3).setCell ⟨g', 4, none⟩ a4).setCell ⟨g', 5, none⟩ a5).setCell ⟨g', 6, none⟩ a6).setCell ⟨g', 7, none⟩ a7) g t cs := (Blk.far (p := ⟨g', 7, none⟩) (Blk.far (p := ⟨g', 6, none⟩) (Blk.far (p := ⟨g', 5, none⟩) (Blk.far (p := ⟨g', 4, none⟩) (Blk.far (p := ⟨g', 3, none⟩) (Blk.far (p := ⟨g', 2, none⟩) (Blk.far (p := ⟨g', 1, none⟩) (Blk.far (p := ⟨g', 0, none⟩) h hne a0) hne a1) hne a2) hne a3) hne a4) hne a5) hne a6) hne a7)
theorem Blk.far10 {g g' : Nat} {t : TypeId} {cs : Array Value} {a0 a1 a2 a3 a4 a5 a6 a7 a8 a9 : Value} (h : Blk w g t cs) (hne : g ≠ g') : Blk ((((((((((w.setCell ⟨g', 0, none⟩ a0).setCell ⟨g', 1, none⟩ a1).setCell ⟨g', 2, none⟩ a2).setCell ⟨g', 3, none⟩ a3).setCell ⟨g', 4, none⟩ a4).setCell ⟨g', 5, none⟩ a5).setCell ⟨g', 6, none⟩ a6).setCell ⟨g', 7, none⟩ a7).setCell ⟨g', 8, none⟩ a8).setCell ⟨g', 9, none⟩ a9) g t cs := (Blk.far (p := ⟨g', 9, none⟩) (Blk.far (p := ⟨g', 8, none⟩) (Blk.far (p := ⟨g', 7, none⟩) (Blk.far (p := ⟨g', 6, none⟩) (Blk.far (p := ⟨g', 5, none⟩) (Blk.far (p := ⟨g', 4, none⟩) (Blk.far (p := ⟨g', 3, none⟩) (Blk.far (p := ⟨g', 2, none⟩) (Blk.far (p := ⟨g', 1, none⟩) (Blk.far (p := ⟨g', 0, none⟩) h hne a0) hne a1) hne a2) hne a3) hne a4) hne a5) hne a6) hne a7) hne a8) hne a9)
theorem Blk.far11 {g g' : Nat} {t : TypeId} {cs : Array Value} {a0 a1 a2 a3 a4 a5 a6 a7 a8 a9 a10 : Value} (h : Blk w g t cs) (hne : g ≠ g') : Blk (((((((((((w.setCell ⟨g', 0, none⟩ a0).setCell ⟨g', 1, none⟩ a1).setCell ⟨g', 2, none⟩ a2).setCell ⟨g', 3, none⟩ a3).setCell ⟨g', 4, none⟩ a4).setCell ⟨g', 5, none⟩ a5).setCell ⟨g', 6, none⟩ a6).setCell ⟨g', 7, none⟩ a7).setCell ⟨g', 8, none⟩ a8).setCell ⟨g', 9, none⟩ a9).setCell ⟨g', 10, none⟩ a10) g t cs := (Blk.far (p := ⟨g', 10, none⟩) (Blk.far (p := ⟨g', 9, none⟩) (Blk.far (p := ⟨g', 8, none⟩) (Blk.far (p := ⟨g', 7, none⟩) (Blk.far (p := ⟨g', 6, none⟩) (Blk.far (p := ⟨g', 5, none⟩) (Blk.far (p := ⟨g', 4, none⟩) (Blk.far (p := ⟨g', 3, none⟩) (Blk.far (p := ⟨g', 2, none⟩) (Blk.far (p := ⟨g', 1, none⟩) (Blk.far (p := ⟨g', 0, none⟩) h hne a0) hne a1) hne a2) hne a3) hne a4) hne a5) hne a6) hne a7) hne a8) hne a9) hne a10)
end
end Go.Proofs.YthjmficglpfgpaaDoor
namespace Go.Proofs.YthjmficglpfgpaaDoor
set_option linter.unusedVariables false
set_option linter.unusedSimpArgs false
open Go Go.RowKit Enc
set_option maxRecDepth 100000

theorem sT_acc : SlT Tryd.prog 31 50 Acc 24 := ⟨Tryd.underlying31, by obtain ⟨i, h1, h2, h3, h4⟩ := info_parts (show (Tryd.prog.info? 50).map (fun i => (i.zero, i.size, i.bytes)) = some (some (.agg #[.int .i64 0, .int .i64 0, .int .i64 0]), 3, 24) by kernel_rfl); exact ⟨i, _, h1, h2, h3, h4, rfl⟩⟩
theorem sT_ent : SlT Tryd.prog 99 109 Ent 16 := ⟨Tryd.underlying99, by obtain ⟨i, h1, h2, h3, h4⟩ := info_parts (show (Tryd.prog.info? 109).map (fun i => (i.zero, i.size, i.bytes)) = some (some (.agg #[.int .i64 0, .int .i64 0]), 2, 16) by kernel_rfl); exact ⟨i, _, h1, h2, h3, h4, rfl⟩⟩

theorem clone_any (x : Value) (xs : List Acc) (w : World) (h : Row w x xs) (hn : xs.length ≤ 1000000000000) :
   Calls Tryd.prog 58 #[x] w fun e w' => ∃ v, e = .returned v ∧ Own w' w.heap.size 50 v xs ∧ Below w.heap.size w w' := by
  obtain ⟨A, c, rfl⟩ := h.slice
  go_enter Tryd.func58, Tryd.ntmps58
  go_wp2_with (at_builtin; refine wp_append sT_acc rfl rfl (.slice none 0 0) _ rfl rfl (Own.nil w w.heap.size _) h (by simp; omega) (by decide) (Nat.le_refl _) ?_; intro v1 w1 hown1 hg1 hat1)
  go_ret
  exact ⟨_, rfl, by simpa using hown1, (Below.refl _ _).grown hg1 (Nat.le_refl _) (by simp [Value.ownBlock])⟩

/-- Is an account a client's? -/
def isCl (xs : List Acc) (k : Int) : Bool := decide (9 ≤ k ∧ k < xs.length)
theorem isCl_yes {xs : List Acc} {k : Int} (h1 : 9 ≤ k) (h2 : k < xs.length) : isCl xs k = true := by unfold isCl; simp; omega
theorem isCl_no {xs : List Acc} {k : Int} (h : ¬(9 ≤ k ∧ k < xs.length)) : isCl xs k = false := by unfold isCl; simp; omega
theorem isClient_any (x : Value) (xs : List Acc) (k : Int) (w : World) (h : Row w x xs) :
   Calls Tryd.prog 57 #[x, .int .i64 k] w fun e w' => w = w' ∧ e = .returned (.bool (isCl xs k)) := by
  obtain ⟨A, c, rfl⟩ := h.slice
  by_cases h1 : k < 0
  · rw [isCl_no (by omega)]
    go_enter Tryd.func57, Tryd.ntmps57
    go_wp2
    go_ret
    exact ⟨rfl, rfl⟩
  by_cases h2 : k ≥ xs.length
  · rw [isCl_no (by omega)]
    go_enter Tryd.func57, Tryd.ntmps57
    go_wp2
    go_ret
    exact ⟨rfl, rfl⟩
  by_cases h3 : k < 9
  · rw [isCl_no (by omega)]
    have h4 : (k % 3 == 3) = false := beq_eq_false_iff_ne.2 (by omega)
    go_enter Tryd.func57, Tryd.ntmps57
    go_wp2
    go_ret
    exact ⟨rfl, rfl⟩
  · rw [isCl_yes (by omega) (by omega)]
    go_enter Tryd.func57, Tryd.ntmps57
    go_wp2
    go_ret
    exact ⟨rfl, rfl⟩

/-- May an amount be asked for? -/
def amtB (n : Int) : Bool := decide (1 ≤ n ∧ n ≤ 1099511627776)
theorem amt_yes {n : Int} (h1 : 1 ≤ n) (h2 : n ≤ 1099511627776) : amtB n = true := by unfold amtB; simp; omega
theorem amt_no {n : Int} (h : ¬(1 ≤ n ∧ n ≤ 1099511627776)) : amtB n = false := by unfold amtB; simp; omega
theorem amount_any (n : Int) (w : World) : Calls Tryd.prog 54 #[.int .i64 n] w fun e w' => w = w' ∧ e = .returned (.bool (amtB n)) := by
  by_cases h1 : 1 ≤ n
  · by_cases h2 : n ≤ 1099511627776
    · rw [amt_yes h1 h2]
      go_enter Tryd.func54, Tryd.ntmps54
      go_wp2
      go_ret
      exact ⟨rfl, rfl⟩
    · rw [amt_no (by omega)]
      go_enter Tryd.func54, Tryd.ntmps54
      go_wp2
      go_ret
      exact ⟨rfl, by simp⟩
  · rw [amt_no (by omega)]
    go_enter Tryd.func54, Tryd.ntmps54
    go_wp2
    go_ret
    exact ⟨rfl, by simp⟩

theorem free_any (a : Acc) (w : World) (h1 : -1125899906842624 ≤ a.bal ∧ a.bal ≤ 1125899906842624) (h2 : -1125899906842624 ≤ a.held ∧ a.held ≤ 1125899906842624) :
   Calls Tryd.prog 18 #[a.val] w fun e w' => e = .returned (.int .i64 (a.bal - a.held)) ∧ Below w.heap.size w w' := by
  go_enter Tryd.func18, Tryd.ntmps18
  go_wp2
  go_ret
  exact ⟨rfl, below_alloc (Below.refl _ _) _⟩

/-- The state's accounts are within bounds. -/
def AB (a : Acc) : Prop := (-1125899906842624 ≤ a.bal ∧ a.bal ≤ 1125899906842624) ∧ (-1125899906842624 ≤ a.held ∧ a.held ≤ 1125899906842624)
def ABs (xs : List Acc) : Prop := xs.length ≤ 1000000 ∧ ∀ k : Int, 0 ≤ k → k < xs.length → AB (rd xs k)
def upd (xs : List Acc) (k : Int) (x : Acc) : List Acc := xs.set k.toNat x

theorem Own.acc {w : World} {B e : Nat} {v : Value} {xs : List Acc} (h : Own w B e v xs) (k : Int) (h0 : 0 ≤ k) (hk : k < xs.length) : ∃ b o c, v = .slice (some ⟨b, o, none⟩) xs.length c ∧
    w.cell? ⟨b, o + k.toNat * 3, none⟩ = some (.int .i64 (rd xs k).cur) ∧ w.cell? ⟨b, o + k.toNat * 3 + 1, none⟩ = some (.int .i64 (rd xs k).bal) ∧ w.cell? ⟨b, o + k.toNat * 3 + 2, none⟩ = some (.int .i64 (rd xs k).held) ∧
    w.frozen? ⟨b, o + k.toNat * 3 + 1, none⟩ = false ∧ w.frozen? ⟨b, o + k.toNat * 3 + 2, none⟩ = false ∧ B ≤ b ∧ b < w.heap.size ∧
    Hid (∀ z, Own (w.setCell ⟨b, o + k.toNat * 3 + 1, none⟩ (.int .i64 z)) B e v (upd xs k { rd xs k with bal := z })) ∧
    Hid (∀ z, Own (w.setCell ⟨b, o + k.toNat * 3 + 2, none⟩ (.int .i64 z)) B e v (upd xs k { rd xs k with held := z })) := by
  obtain ⟨b, o, c, hv, c1, c2, c3, hl⟩ := h.row.accI k h0 hk
  have hk' : k.toNat < xs.length := by omega
  have hrd : rd xs k = xs[k.toNat] := by rw [← rd_nat xs k.toNat hk', show ((k.toNat : Nat) : Int) = k by omega]
  have s1 := fun z => h.set k.toNat hk' 1 (by decide) (.int .i64 z) { rd xs k with bal := z } (by rw [hrd]; rfl) hv
  have s2 := fun z => h.set k.toNat hk' 2 (by decide) (.int .i64 z) { rd xs k with held := z } (by rw [hrd]; rfl) hv
  exact ⟨b, o, c, hv, c1, c2, c3, (s1 0).2.1, (s2 0).2.1, (s1 0).2.2, hl, fun z => (s1 z).1, fun z => (s2 z).1⟩

theorem Own.setBal {w : World} {B e : Nat} {b o n c : Nat} {xs : List Acc} (h : Own w B e (.slice (some ⟨b, o, none⟩) n c) xs) (k : Int) (h0 : 0 ≤ k) (hk : k < xs.length) (z : Int) :
    Own (w.setCell ⟨b, o + k.toNat * 3 + 1, none⟩ (.int .i64 z)) B e (.slice (some ⟨b, o, none⟩) n c) (upd xs k { rd xs k with bal := z }) := by
  obtain ⟨b', o', c', hv, _, _, _, _, _, _, _, s1, _⟩ := h.acc k h0 hk
  injection hv with e1 e2 e3
  injection e1 with e1
  injection e1 with e4 e5
  subst e4 e5
  exact s1.out z
theorem Own.setHeld {w : World} {B e : Nat} {b o n c : Nat} {xs : List Acc} (h : Own w B e (.slice (some ⟨b, o, none⟩) n c) xs) (k : Int) (h0 : 0 ≤ k) (hk : k < xs.length) (z : Int) :
    Own (w.setCell ⟨b, o + k.toNat * 3 + 2, none⟩ (.int .i64 z)) B e (.slice (some ⟨b, o, none⟩) n c) (upd xs k { rd xs k with held := z }) := by
  obtain ⟨b', o', c', hv, _, _, _, _, _, _, _, _, s2⟩ := h.acc k h0 hk
  injection hv with e1 e2 e3
  injection e1 with e1
  injection e1 with e4 e5
  subst e4 e5
  exact s2.out z

def hold (xs : List Acc) (k n : Int) : Except Int (List Acc) :=
  if ¬(9 ≤ k ∧ k < xs.length) then .error 2 else if ¬(1 ≤ n ∧ n ≤ 1099511627776) then .error 1 else if (rd xs k).bal - (rd xs k).held < n then .error 3
  else .ok (upd xs k { rd xs k with held := (rd xs k).held + n })
def release (xs : List Acc) (k n : Int) : Except Int (List Acc) :=
  if ¬(9 ≤ k ∧ k < xs.length) then .error 2 else if ¬(1 ≤ n ∧ n ≤ 1099511627776) then .error 1 else if (rd xs k).held < n then .error 6
  else .ok (upd xs k { rd xs k with held := (rd xs k).held - n })

def errI (c : Int) : Value := .iface 38 (.int .i64 c)
/-- What a function of accounts hands back. -/
def AccRes (w w' : World) (r : Except Int (List Acc)) (e : Ending) : Prop :=
  Below w.heap.size w w' ∧ match r with
  | .error c => e = .returned (.tuple #[.slice none 0 0, .iface 38 (.int .i64 c)])
  | .ok out => ∃ v, e = .returned (.tuple #[v, .nilIface]) ∧ Own w' w.heap.size 50 v out

theorem hold_any (x : Value) (xs : List Acc) (k n : Int) (w : World) (h : Row w x xs) (hA : ABs xs) :
   Calls Tryd.prog 36 #[x, .int .i64 k, .int .i64 n] w fun e w' => AccRes w w' (hold xs k n) e := by
  have hm := h.max
  by_cases h1 : 9 ≤ k ∧ k < xs.length
  rotate_left
  · have hd := Lib.hid (isCl_no h1)
    have hr : hold xs k n = .error 2 := by unfold hold; rw [if_pos h1]
    rw [hr]
    obtain ⟨A, c, rfl⟩ := h.slice
    clear hr
    go_enter Tryd.func36, Tryd.ntmps36
    go_wp2_with (go_at_call 57; refine (isClient_any _ _ _ _ h).mono ?_; rintro e w' ⟨rfl, rfl⟩; rw [hd.out])
    go_ret2
    exact ⟨Below.refl _ _, rfl⟩
  have hd := Lib.hid (isCl_yes h1.1 h1.2)
  obtain ⟨h1a, h1b⟩ := h1
  by_cases h2 : 1 ≤ n ∧ n ≤ 1099511627776
  rotate_left
  · have hr : hold xs k n = .error 1 := by unfold hold; rw [if_neg (by simp; omega), if_pos h2]
    have hf := Lib.hid (amt_no h2)
    rw [hr]
    obtain ⟨A, c, rfl⟩ := h.slice
    clear hr h2
    go_enter Tryd.func36, Tryd.ntmps36
    go_wp2_with (first | (go_at_call 57; refine (isClient_any _ _ _ _ h).mono ?_; rintro e w' ⟨rfl, rfl⟩; rw [hd.out]) | (go_at_call 54; refine (amount_any _ _).mono ?_; rintro e w' ⟨rfl, rfl⟩; rw [hf.out]))
    go_ret2
    exact ⟨Below.refl _ _, rfl⟩
  have hf := Lib.hid (amt_yes h2.1 h2.2)
  obtain ⟨b, o, c, rfl, c1, c2, c3, hl⟩ := h.accI k (by omega) h1b
  obtain ⟨hb1, hb2⟩ := hA.2 k (by omega) h1b
  by_cases h3 : (rd xs k).bal - (rd xs k).held < n
  · have hr : hold xs k n = .error 3 := by unfold hold; rw [if_neg (by simp; omega), if_neg (by simp; omega), if_pos h3]
    rw [hr]
    clear hr
    go_enter Tryd.func36, Tryd.ntmps36
    go_wp2_with (first | (go_at_call 57; refine (isClient_any _ _ _ _ h).mono ?_; rintro e w' ⟨rfl, rfl⟩; rw [hd.out]) | (go_at_call 54; refine (amount_any _ _).mono ?_; rintro e w' ⟨rfl, rfl⟩; rw [hf.out]) | (go_at_call 18; refine (free_any (rd xs k) _ hb1 hb2).mono ?_; rintro e w' ⟨rfl, hz⟩))
    go_ret2
    exact ⟨hz, rfl⟩
  have hr : hold xs k n = .ok (upd xs k { rd xs k with held := (rd xs k).held + n }) := by unfold hold; rw [if_neg (by simp; omega), if_neg (by simp; omega), if_neg h3]
  rw [hr]
  clear hr
  go_enter Tryd.func36, Tryd.ntmps36
  go_wp2_with (first
    | (go_at_call 57; refine (isClient_any _ _ _ _ h).mono ?_; rintro e w' ⟨rfl, rfl⟩; rw [hd.out])
    | (go_at_call 54; refine (amount_any _ _).mono ?_; rintro e w' ⟨rfl, rfl⟩; rw [hf.out])
    | (go_at_call 18; refine (free_any (rd xs k) _ hb1 hb2).mono ?_; rintro e w' ⟨rfl, hz⟩)
    | (go_at_call 58; refine (clone_any _ xs _ (h.below hz) (by have := hA.1; omega)).mono ?_; rintro e w' ⟨v1, rfl, ho1, hz1⟩; obtain ⟨b', o', c', rfl, d1, d2, d3, f1, f2, hB, hl2, os1, os2⟩ := ho1.acc k (by omega) h1b))
  go_ret2
  have hbz := hz.size
  exact ⟨(below_next hz hz1).setCell (by simp; omega) _, _, rfl, (os2.out _).lower hbz⟩
theorem release_any (x : Value) (xs : List Acc) (k n : Int) (w : World) (h : Row w x xs) (hA : ABs xs) :
   Calls Tryd.prog 43 #[x, .int .i64 k, .int .i64 n] w fun e w' => AccRes w w' (release xs k n) e := by
  have hm := h.max
  by_cases h1 : 9 ≤ k ∧ k < xs.length
  rotate_left
  · have hd := Lib.hid (isCl_no h1)
    have hr : release xs k n = .error 2 := by unfold release; rw [if_pos h1]
    rw [hr]
    obtain ⟨A, c, rfl⟩ := h.slice
    clear hr
    go_enter Tryd.func43, Tryd.ntmps43
    go_wp2_with (go_at_call 57; refine (isClient_any _ _ _ _ h).mono ?_; rintro e w' ⟨rfl, rfl⟩; rw [hd.out])
    go_ret2
    exact ⟨Below.refl _ _, rfl⟩
  have hd := Lib.hid (isCl_yes h1.1 h1.2)
  obtain ⟨h1a, h1b⟩ := h1
  by_cases h2 : 1 ≤ n ∧ n ≤ 1099511627776
  rotate_left
  · have hr : release xs k n = .error 1 := by unfold release; rw [if_neg (by simp; omega), if_pos h2]
    have hf := Lib.hid (amt_no h2)
    rw [hr]
    obtain ⟨A, c, rfl⟩ := h.slice
    clear hr h2
    go_enter Tryd.func43, Tryd.ntmps43
    go_wp2_with (first | (go_at_call 57; refine (isClient_any _ _ _ _ h).mono ?_; rintro e w' ⟨rfl, rfl⟩; rw [hd.out]) | (go_at_call 54; refine (amount_any _ _).mono ?_; rintro e w' ⟨rfl, rfl⟩; rw [hf.out]))
    go_ret2
    exact ⟨Below.refl _ _, rfl⟩
  have hf := Lib.hid (amt_yes h2.1 h2.2)
  obtain ⟨b, o, c, rfl, c1, c2, c3, hl⟩ := h.accI k (by omega) h1b
  obtain ⟨hb1, hb2⟩ := hA.2 k (by omega) h1b
  by_cases h3 : (rd xs k).held < n
  · have hr : release xs k n = .error 6 := by unfold release; rw [if_neg (by simp; omega), if_neg (by simp; omega), if_pos h3]
    rw [hr]
    clear hr
    go_enter Tryd.func43, Tryd.ntmps43
    go_wp2_with (first | (go_at_call 57; refine (isClient_any _ _ _ _ h).mono ?_; rintro e w' ⟨rfl, rfl⟩; rw [hd.out]) | (go_at_call 54; refine (amount_any _ _).mono ?_; rintro e w' ⟨rfl, rfl⟩; rw [hf.out]))
    go_ret2
    exact ⟨Below.refl _ _, rfl⟩
  have hr : release xs k n = .ok (upd xs k { rd xs k with held := (rd xs k).held - n }) := by unfold release; rw [if_neg (by simp; omega), if_neg (by simp; omega), if_neg h3]
  rw [hr]
  clear hr
  go_enter Tryd.func43, Tryd.ntmps43
  go_wp2_with (first
    | (go_at_call 57; refine (isClient_any _ _ _ _ h).mono ?_; rintro e w' ⟨rfl, rfl⟩; rw [hd.out])
    | (go_at_call 54; refine (amount_any _ _).mono ?_; rintro e w' ⟨rfl, rfl⟩; rw [hf.out])
   
    | (go_at_call 58; refine (clone_any _ xs _ (h) (by have := hA.1; omega)).mono ?_; rintro e w' ⟨v1, rfl, ho1, hz1⟩; obtain ⟨b', o', c', rfl, d1, d2, d3, f1, f2, hB, hl2, os1, os2⟩ := ho1.acc k (by omega) h1b))
  go_ret2
  exact ⟨hz1.setCell (by simpa using hB) _, _, rfl, os2.out _⟩

/-! ### Entries -/
def mayP (n : Int) : Prop := -1125899906842624 ≤ n ∧ n ≤ 1125899906842624
instance (n : Int) : Decidable (mayP n) := by unfold mayP; infer_instance
/-- What entries bring to a currency. -/
def psum (xs : List Acc) (c : Int) : List Ent → Int
  | [] => 0
  | e :: es => psum xs c es + (if (rd xs e.acct).cur = c then e.amt else 0)
theorem psum_append (xs : List Acc) (c : Int) (es fs : List Ent) : psum xs c (es ++ fs) = psum xs c es + psum xs c fs := by
  induction es with
  | nil => simp [psum]
  | cons e es ih => simp only [List.cons_append, psum, ih]; omega
theorem take_rd (es : List Ent) (k : Nat) (h : k < es.length) : es.take (k + 1) = es.take k ++ [rd es k] := by
  rw [List.take_succ_eq_append_getElem h, rd_nat es k h]
theorem psum_take (xs : List Acc) (c : Int) (es : List Ent) (k : Nat) (h : k < es.length) : psum xs c (es.take (k + 1)) = psum xs c (es.take k) + (if (rd xs (rd es k).acct).cur = c then (rd es k).amt else 0) := by
  rw [take_rd es k h, psum_append]; simp [psum]
/-- Entries that are of accounts there are, and come to nothing. -/
structure Bal (xs : List Acc) (es : List Ent) : Prop where
  acct : ∀ k : Nat, k < es.length → 0 ≤ (rd es k).acct ∧ (rd es k).acct < xs.length
  amt : ∀ k : Nat, k < es.length → mayP (rd es k).amt
  cur : ∀ k : Nat, k < es.length → 0 ≤ (rd xs (rd es k).acct).cur ∧ (rd xs (rd es k).acct).cur < 3
  sums : ∀ (c : Int) (k : Nat), 0 ≤ c → c < 3 → k ≤ es.length → mayP (psum xs c (es.take k))
  zero : ∀ c : Int, 0 ≤ c → c < 3 → psum xs c es = 0

def kindOf (k : Int) : Int := if k < 9 then k % 3 else 3
theorem of_any (x : Value) (xs : List Acc) (k : Int) (w : World) (h : Row w x xs) (h0 : 0 ≤ k) (hk : k < xs.length) :
    Calls Tryd.prog 67 #[x, .int .i64 k] w fun e w' => w = w' ∧ e = .returned (.tuple #[.int .i64 (kindOf k), .bool true]) := by
  obtain ⟨A, c, rfl⟩ := h.slice
  unfold kindOf
  by_cases h3 : k < 9
  all_goals
    go_enter Tryd.func67, Tryd.ntmps67
    go_wp2
    go_ret2
    exact ⟨rfl, rfl⟩
theorem of_none (x : Value) (xs : List Acc) (k : Int) (w : World) (h : Row w x xs) (h0 : ¬(0 ≤ k ∧ k < xs.length)) :
    Calls Tryd.prog 67 #[x, .int .i64 k] w fun e w' => w = w' ∧ e = .returned (.tuple #[.int .i64 0, .bool false]) := by
  obtain ⟨A, c, rfl⟩ := h.slice
  by_cases h3 : k < 0
  · go_enter Tryd.func67, Tryd.ntmps67
    go_wp2
    go_ret2
    exact ⟨rfl, rfl⟩
  · have h4 : (xs.length : Int) ≤ k := by omega
    go_enter Tryd.func67, Tryd.ntmps67
    go_wp2
    go_ret2
    exact ⟨rfl, rfl⟩
theorem may_yes (n : Int) (w : World) (h1 : -1125899906842624 ≤ n) (h2 : n ≤ 1125899906842624) :
    Calls Tryd.prog 94 #[.int .i64 n] w fun e w' => w = w' ∧ e = .returned (.bool true) := by
  go_enter Tryd.func94, Tryd.ntmps94
  go_wp2
  go_ret
  exact ⟨rfl, rfl⟩
theorem may_no (n : Int) (w : World) (h : ¬ mayP n) :
    Calls Tryd.prog 94 #[.int .i64 n] w fun e w' => w = w' ∧ e = .returned (.bool false) := by
  unfold mayP at h
  by_cases h1 : -1125899906842624 ≤ n
  · have h2 : ¬ n ≤ 1125899906842624 := by omega
    clear h
    go_enter Tryd.func94, Tryd.ntmps94
    go_wp2
    go_ret
    exact ⟨rfl, by simp⟩
  · clear h
    go_enter Tryd.func94, Tryd.ntmps94
    go_wp2
    go_ret
    exact ⟨rfl, by simp⟩
def mayB (n : Int) : Bool := decide (mayP n)
theorem may_any (n : Int) (w : World) : Calls Tryd.prog 94 #[.int .i64 n] w fun e w' => w = w' ∧ e = .returned (.bool (mayB n)) := by
  by_cases h : mayP n
  · have : mayB n = true := by simp [mayB, h]
    rw [this]
    exact may_yes n w h.1 h.2
  · have : mayB n = false := by simp [mayB, h]
    rw [this]
    exact may_no n w h
theorem mayB_yes {n : Int} (h : mayP n) : mayB n = true := by simp [mayB, h]
theorem mayB_no {n : Int} (h : ¬ mayP n) : mayB n = false := by simp [mayB, h]
theorem add_yes (a b : Int) (w : World) (h1 : mayP a) (h2 : mayP b) (h3 : mayP (a + b)) :
    Calls Tryd.prog 72 #[.int .i64 a, .int .i64 b] w fun e w' => w = w' ∧ e = .returned (.tuple #[.int .i64 (a + b), .nilIface]) := by
  obtain ⟨a1, a2⟩ := h1
  obtain ⟨b1, b2⟩ := h2
  obtain ⟨c1, c2⟩ := h3
  go_enter Tryd.func72, Tryd.ntmps72
  go_wp2_with (go_at_call 94; refine (may_yes _ _ (by omega) (by omega)).mono ?_; rintro e w' ⟨rfl, rfl⟩)
  go_ret2
  exact ⟨rfl, rfl⟩
theorem add_no (a b : Int) (w : World) (h1 : mayP a) (h2 : mayP b) (h3 : ¬ mayP (a + b)) :
    Calls Tryd.prog 72 #[.int .i64 a, .int .i64 b] w fun e w' => w = w' ∧ e = .returned (.tuple #[.int .i64 0, .iface 38 (.int .i64 4)]) := by
  obtain ⟨a1, a2⟩ := h1
  obtain ⟨b1, b2⟩ := h2
  have H1 := Lib.hid (mayB_yes ⟨a1, a2⟩)
  have H2 := Lib.hid (mayB_yes ⟨b1, b2⟩)
  have H3 := Lib.hid (mayB_no h3)
  clear h3
  go_enter Tryd.func72, Tryd.ntmps72
  go_wp2_with (go_at_call 94; refine (may_any _ _).mono ?_; rintro e w' ⟨rfl, rfl⟩; first | rw [H1.out] | rw [H2.out] | rw [H3.out])
  go_ret2
  exact ⟨rfl, rfl⟩
theorem add_quiet (a b : Int) (w : World) (h1 : mayP a) (h2 : mayP b) (h3 : mayP (a + b)) :
    Calls Tryd.prog 72 #[.int .i64 a, .int .i64 b] w fun e w' => e = .returned (.tuple #[.int .i64 (a + b), .nilIface]) ∧ w' = w :=
  (add_yes a b w h1 h2 h3).mono fun e w' h => ⟨h.2, h.1.symm⟩
theorem add_noq (a b : Int) (w : World) (h1 : mayP a) (h2 : mayP b) (h3 : ¬ mayP (a + b)) :
    Calls Tryd.prog 72 #[.int .i64 a, .int .i64 b] w fun e w' => e = .returned (.tuple #[.int .i64 0, .iface 38 (.int .i64 4)]) ∧ w' = w :=
  (add_no a b w h1 h2 h3).mono fun e w' h => ⟨h.2, h.1.symm⟩
end Go.Proofs.YthjmficglpfgpaaDoor
namespace Go.Proofs.YthjmficglpfgpaaDoor
set_option linter.unusedVariables false
set_option linter.unusedSimpArgs false
open Go Go.RowKit Enc

theorem part_one {P : Program} (w : World) (e : TypeId) (cs : Array Value) (i : Nat) (v : Value) (h : (P.info? e).map (fun i => (i.zero, i.size, i.bytes)) = some (some (.int .i64 0), 1, 8)) (hd : P.underlying e = some (.int .i64)) (hv : cs[i]? = some v) :
    (part e cs i).run P w = .ok v w := by
  obtain ⟨i0, h1, h2, h3, h4⟩ := info_parts h
  simp [part, sizeOf, typeInfo, h1, h3, hv, run_underlying hd, go_sem, isAgg]

theorem run_arr3 {P : Program} (w : World) (D : Nat) (t e : TypeId) (a b c x y z : Int) (ht : P.underlying t = some (.array 3 e)) (he : P.underlying e = some (.int .i64)) (hi : (P.info? e).map (fun i => (i.zero, i.size, i.bytes)) = some (some (.int .i64 0), 1, 8))
    (q : ∀ (w : World) (m n : Int), Sem.run P (Op.equalIn D e (.int .i64 m) (.int .i64 n)) w = .ok (m == n) w) :
    (Op.equalIn (D + 1) t (.agg #[.int .i64 a, .int .i64 b, .int .i64 c]) (.agg #[.int .i64 x, .int .i64 y, .int .i64 z])).run P w = .ok (a == x && b == y && c == z) w := by
  obtain ⟨i0, h1, h2, h3, h4⟩ := info_parts hi
  have p1 := fun (w : World) (cs : Array Value) (i : Nat) (v : Value) (hv : cs[i]? = some v) => part_one w e cs i v hi he hv
  have a0 := fun w => p1 w #[.int .i64 a, .int .i64 b, .int .i64 c] 0 (.int .i64 a) rfl
  have a1 := fun w => p1 w #[.int .i64 a, .int .i64 b, .int .i64 c] 1 (.int .i64 b) rfl
  have a2 := fun w => p1 w #[.int .i64 a, .int .i64 b, .int .i64 c] 2 (.int .i64 c) rfl
  have b0 := fun w => p1 w #[.int .i64 x, .int .i64 y, .int .i64 z] 0 (.int .i64 x) rfl
  have b1 := fun w => p1 w #[.int .i64 x, .int .i64 y, .int .i64 z] 1 (.int .i64 y) rfl
  have b2 := fun w => p1 w #[.int .i64 x, .int .i64 y, .int .i64 z] 2 (.int .i64 z) rfl
  simp only [Op.equalIn, Sem.run_bind, run_underlying ht, Result.andThen_ok]
  simp only [sizeOf, typeInfo, h1, h3, Sem.run_bind, run_program, Sem.run_pure, Result.andThen_ok, Std.Legacy.Range.forIn_eq_forIn_range', Std.Legacy.Range.size, Nat.sub_zero, Nat.add_one_sub_one, Nat.div_one, List.range', List.forIn_cons, List.forIn_nil, Nat.mul_one, Nat.zero_add, Nat.reduceAdd, a0, a1, a2, b0, b1, b2, q]
  rcases Decidable.em (a = x) with rfl | g1 <;> rcases Decidable.em (b = y) with rfl | g2 <;> rcases Decidable.em (c = z) with rfl | g3 <;> simp [*, q]
theorem run_eql_arr3 {P : Program} (t e : TypeId) (ht : P.underlying t = some (.array 3 e)) (he : P.underlying e = some (.int .i64)) (hi : (P.info? e).map (fun i => (i.zero, i.size, i.bytes)) = some (some (.int .i64 0), 1, 8)) (w : World) (a b c x y z : Int) :
    (binOp .eql t (.agg #[.int .i64 a, .int .i64 b, .int .i64 c]) (.agg #[.int .i64 x, .int .i64 y, .int .i64 z])).run P w = .ok (.bool (a == x && b == y && c == z)) w := by
  rw [run_eql_struct, run_arr3 w 9999 t e a b c x y z ht he hi (fun w m n => run_equalIn_int (P := P) w 9998 e .i64 .i64 m n he)]
  rfl
theorem run_neq_arr3 {P : Program} (t e : TypeId) (ht : P.underlying t = some (.array 3 e)) (he : P.underlying e = some (.int .i64)) (hi : (P.info? e).map (fun i => (i.zero, i.size, i.bytes)) = some (some (.int .i64 0), 1, 8)) (w : World) (a b c x y z : Int) :
    (binOp .neq t (.agg #[.int .i64 a, .int .i64 b, .int .i64 c]) (.agg #[.int .i64 x, .int .i64 y, .int .i64 z])).run P w = .ok (.bool (!(a == x && b == y && c == z))) w := by
  rw [run_neq_struct, run_arr3 w 9999 t e a b c x y z ht he hi (fun w m n => run_equalIn_int (P := P) w 9998 e .i64 .i64 m n he)]
  rfl
theorem int_info : (Tryd.prog.info? 3).map (fun i => (i.zero, i.size, i.bytes)) = some (some (.int .i64 0), 1, 8) := by kernel_rfl
theorem eql_arr (w : World) (a b c x y z : Int) : (binOp .eql 62 (.agg #[.int .i64 a, .int .i64 b, .int .i64 c]) (.agg #[.int .i64 x, .int .i64 y, .int .i64 z])).run Tryd.prog w = .ok (.bool (a == x && b == y && c == z)) w :=
  run_eql_arr3 _ _ Tryd.underlying62 Tryd.underlying3 int_info w a b c x y z
theorem neq_arr (w : World) (a b c x y z : Int) : (binOp .neq 62 (.agg #[.int .i64 a, .int .i64 b, .int .i64 c]) (.agg #[.int .i64 x, .int .i64 y, .int .i64 z])).run Tryd.prog w = .ok (.bool (!(a == x && b == y && c == z))) w :=
  run_neq_arr3 _ _ Tryd.underlying62 Tryd.underlying3 int_info w a b c x y z
end Go.Proofs.YthjmficglpfgpaaDoor
namespace Go.Proofs.YthjmficglpfgpaaDoor
set_option linter.unusedVariables false
set_option linter.unusedSimpArgs false
open Go Go.RowKit Enc
set_option maxRecDepth 100000

theorem psum_upto {xs : List Acc} {es : List Ent} (hB : Bal xs es) (k : Nat) (hk : k < es.length) (c : Int) (h0 : 0 ≤ c) (h3 : c < 3) :
    mayP (psum xs c (es.take k)) ∧ mayP (rd es k).amt ∧ psum xs c (es.take (k + 1)) = psum xs c (es.take k) + (if (rd xs (rd es k).acct).cur = c then (rd es k).amt else 0) ∧ mayP (psum xs c (es.take (k + 1))) :=
  ⟨hB.sums c k h0 h3 (by omega), hB.amt k hk, psum_take xs c es k hk, hB.sums c (k + 1) h0 h3 (by omega)⟩

def SumsAt (w : World) (g : Nat) (xs : List Acc) (es : List Ent) : Prop :=
  Blk w g 62 #[.int .i64 (psum xs 0 es), .int .i64 (psum xs 1 es), .int .i64 (psum xs 2 es)]
def BalRel (w : World) (xs : List Acc) (es : List Ent) (i : Value) (wr : World) : Prop :=
  ∃ k : Nat, k ≤ es.length ∧ i = .int .i64 k ∧ Below w.heap.size w wr ∧ SumsAt wr w.heap.size xs (es.take k)

theorem balanced_any (x y : Value) (xs : List Acc) (es : List Ent) (w : World) (h : Row w x xs) (hy : Row w y es) (hB : Bal xs es) :
    Calls Tryd.prog 71 #[x, y] w fun e w' => e = .returned (.bool true) ∧ Below w.heap.size w w' := by
  have hm := h.max
  have hm2 := hy.max
  obtain ⟨A, c, rfl⟩ := h.slice
  obtain ⟨A2, c2, rfl⟩ := hy.slice
  go_enter Tryd.func71, Tryd.ntmps71
  go_wp2
  go_loopw [15] (fun i wr => BalRel w xs es i wr) (fun i _ => es.length - (intOf i).toNat)
  case atStart => exact ⟨0, by omega, rfl, below_alloc (Below.refl _ _) _, Blk.new _ _ _⟩
  case round =>
    obtain ⟨k, hk, rfl, hb, hs⟩ := hrel
    by_cases hlt : k < es.length
    · have hac := hB.acct k hlt
      have hcu := hB.cur k hlt
      obtain ⟨b, o, c', hv, c1, c2, hl1⟩ := (hy.below hb).ent k hlt
      injection hv with hv1 _ hv3
      subst hv1 hv3
      obtain ⟨b2, o2, c3, hv, d1, d2, d3, hl2⟩ := (h.below hb).accI (rd es k).acct hac.1 hac.2
      injection hv with hv1 _ hv3
      subst hv1 hv3
      have g0 : wr.cell? ⟨w.heap.size, 0, none⟩ = _ := Blk.cell hs 0
      have g1 : wr.cell? ⟨w.heap.size, 1, none⟩ = _ := Blk.cell hs 1
      have g2 : wr.cell? ⟨w.heap.size, 2, none⟩ = _ := Blk.cell hs 2
      have f0 := Blk.frozen hs 0
      have f1 := Blk.frozen hs 1
      have f2 := Blk.frozen hs 2
      have hlw := Blk.lt hs
      simp at g0 g1 g2
      have hcc : (rd xs (rd es k).acct).cur = 0 ∨ (rd xs (rd es k).acct).cur = 1 ∨ (rd xs (rd es k).acct).cur = 2 := by omega
      obtain ⟨ha0, ha1⟩ := hac
      rcases hcc with hcc | hcc | hcc
      · rw [hcc] at d1
        have p0 := psum_upto hB k hlt 0 (by decide) (by decide)
        have p1 := psum_upto hB k hlt 1 (by decide) (by decide)
        have p2 := psum_upto hB k hlt 2 (by decide) (by decide)
        rw [hcc] at p0 p1 p2
        simp at p0 p1 p2
        have P0 := Lib.hid p0
        have P1 := Lib.hid p1
        have P2 := Lib.hid p2
        have a1 := p0.2.1
        unfold mayP at a1
        have m0 := Lib.hid (mayB_yes p0.2.1)
        clear p0 p1 p2 hcc hcu
        go_wp2_with (first | (go_at_call 67; refine (of_any _ xs _ _ (h.below (below_alloc hb _)) ha0 ha1).mono ?_; rintro e w' ⟨rfl, rfl⟩) | (go_at_call 94; refine (may_any _ _).mono ?_; rintro e w' ⟨rfl, rfl⟩; rw [m0.out]))
        go_quiet ((go_at_call 72; exact Calls.quiet_of_same (add_quiet _ _ _ P0.out.1 P0.out.2.1 (P0.out.2.2.1 ▸ P0.out.2.2.2))))
        go_wp2
        refine ⟨⟨k + 1, by omega, by go_num, (below_drewN (below_alloc hb _) nq).setCell (Nat.le_refl _) _, ?_⟩, by simp [intOf]; omega⟩
        unfold SumsAt at hs ⊢
        rw [P0.out.2.2.1, P1.out.2.2.1, P2.out.2.2.1]
        exact Blk.set_ (Blk.drewN (hs.alloc _) nq) 0 _
      · rw [hcc] at d1
        have p0 := psum_upto hB k hlt 0 (by decide) (by decide)
        have p1 := psum_upto hB k hlt 1 (by decide) (by decide)
        have p2 := psum_upto hB k hlt 2 (by decide) (by decide)
        rw [hcc] at p0 p1 p2
        simp at p0 p1 p2
        have P0 := Lib.hid p0
        have P1 := Lib.hid p1
        have P2 := Lib.hid p2
        have a1 := p0.2.1
        unfold mayP at a1
        have m0 := Lib.hid (mayB_yes p0.2.1)
        clear p0 p1 p2 hcc hcu
        go_wp2_with (first | (go_at_call 67; refine (of_any _ xs _ _ (h.below (below_alloc hb _)) ha0 ha1).mono ?_; rintro e w' ⟨rfl, rfl⟩) | (go_at_call 94; refine (may_any _ _).mono ?_; rintro e w' ⟨rfl, rfl⟩; rw [m0.out]))
        go_quiet ((go_at_call 72; exact Calls.quiet_of_same (add_quiet _ _ _ P1.out.1 P1.out.2.1 (P1.out.2.2.1 ▸ P1.out.2.2.2))))
        go_wp2
        refine ⟨⟨k + 1, by omega, by go_num, (below_drewN (below_alloc hb _) nq).setCell (Nat.le_refl _) _, ?_⟩, by simp [intOf]; omega⟩
        unfold SumsAt at hs ⊢
        rw [P0.out.2.2.1, P1.out.2.2.1, P2.out.2.2.1]
        exact Blk.set_ (Blk.drewN (hs.alloc _) nq) 1 _
      · rw [hcc] at d1
        have p0 := psum_upto hB k hlt 0 (by decide) (by decide)
        have p1 := psum_upto hB k hlt 1 (by decide) (by decide)
        have p2 := psum_upto hB k hlt 2 (by decide) (by decide)
        rw [hcc] at p0 p1 p2
        simp at p0 p1 p2
        have P0 := Lib.hid p0
        have P1 := Lib.hid p1
        have P2 := Lib.hid p2
        have a1 := p0.2.1
        unfold mayP at a1
        have m0 := Lib.hid (mayB_yes p0.2.1)
        clear p0 p1 p2 hcc hcu
        go_wp2_with (first | (go_at_call 67; refine (of_any _ xs _ _ (h.below (below_alloc hb _)) ha0 ha1).mono ?_; rintro e w' ⟨rfl, rfl⟩) | (go_at_call 94; refine (may_any _ _).mono ?_; rintro e w' ⟨rfl, rfl⟩; rw [m0.out]))
        go_quiet ((go_at_call 72; exact Calls.quiet_of_same (add_quiet _ _ _ P2.out.1 P2.out.2.1 (P2.out.2.2.1 ▸ P2.out.2.2.2))))
        go_wp2
        refine ⟨⟨k + 1, by omega, by go_num, (below_drewN (below_alloc hb _) nq).setCell (Nat.le_refl _) _, ?_⟩, by simp [intOf]; omega⟩
        unfold SumsAt at hs ⊢
        rw [P0.out.2.2.1, P1.out.2.2.1, P2.out.2.2.1]
        exact Blk.set_ (Blk.drewN (hs.alloc _) nq) 2 _
    · obtain rfl : k = es.length := by omega
      unfold SumsAt at hs
      rw [List.take_length, hB.zero 0 (by decide) (by decide), hB.zero 1 (by decide) (by decide), hB.zero 2 (by decide) (by decide)] at hs
      have g0 : wr.cell? ⟨w.heap.size, 0, none⟩ = _ := Blk.cell hs 0
      have g1 : wr.cell? ⟨w.heap.size, 1, none⟩ = _ := Blk.cell hs 1
      have g2 : wr.cell? ⟨w.heap.size, 2, none⟩ = _ := Blk.cell hs 2
      simp at g0 g1 g2
      have hq := eql_arr
      go_wp2
      go_ret
      exact ⟨rfl, hb⟩

/-! ### Posting -/
def post1 (xs : List Acc) (e : Ent) : Except Int (List Acc) :=
  if mayP ((rd xs e.acct).bal + e.amt) then .ok (upd xs e.acct { rd xs e.acct with bal := (rd xs e.acct).bal + e.amt }) else .error 4
def solvB (xs : List Acc) : Bool := (List.range xs.length).all fun k => decide (k < 9) || decide ((rd xs (k : Int)).held ≤ (rd xs (k : Int)).bal)
def post (xs : List Acc) (es : List Ent) : Except Int (List Acc) :=
  match es.foldlM post1 xs with
  | .error c => .error c
  | .ok out => if solvB out then .ok out else .error 3
theorem upd_len (xs : List Acc) (k : Int) (x : Acc) : (upd xs k x).length = xs.length := by simp [upd]
theorem rd_upd (xs : List Acc) (k j : Int) (x : Acc) (h0 : 0 ≤ j) (hj : j < xs.length) (hk : 0 ≤ k) : rd (upd xs k x) j = if j = k then x else rd xs j := by
  unfold rd upd
  by_cases h : j = k
  · subst h
    rw [if_pos rfl, List.getD_eq_getElem?_getD, List.getElem?_set_self (by omega)]
    rfl
  · rw [if_neg h, List.getD_eq_getElem?_getD, List.getElem?_set_ne (by omega), List.getD_eq_getElem?_getD]
theorem fold_take (xs : List Acc) (es : List Ent) (k : Nat) (h : k < es.length) : (es.take (k + 1)).foldlM post1 xs = ((es.take k).foldlM post1 xs).bind fun ys => post1 ys (rd es k) := by
  rw [take_rd es k h, List.foldlM_append]
  cases (es.take k).foldlM post1 xs with
  | error c => rfl
  | ok ys => show (List.foldlM post1 ys [rd es k]) = post1 ys (rd es k); simp
theorem fold_err (xs : List Acc) (es : List Ent) (k : Nat) (c : Int) (h : k ≤ es.length) (he : (es.take k).foldlM post1 xs = .error c) : es.foldlM post1 xs = .error c := by
  rw [← List.take_append_drop k es, List.foldlM_append, he]
  rfl
theorem ABs.upd {xs : List Acc} (h : ABs xs) {k : Int} (h0 : 0 ≤ k) {x : Acc} (hx : AB x) : ABs (upd xs k x) := by
  refine ⟨by rw [upd_len]; exact h.1, fun j hj hl => ?_⟩
  rw [upd_len] at hl
  rw [rd_upd xs k j x hj hl h0]
  split
  · exact hx
  · exact h.2 j hj hl

def PostRel (w : World) (v : Value) (xs : List Acc) (es : List Ent) (i : Value) (wr : World) : Prop :=
  ∃ k : Nat, k ≤ es.length ∧ i = .int .i64 k ∧ Below w.heap.size w wr ∧ ∃ cur, (es.take k).foldlM post1 xs = .ok cur ∧ Own wr w.heap.size 50 v cur ∧ cur.length = xs.length ∧ ABs cur
def SolvRel (w : World) (v : Value) (out : List Acc) (i : Value) (wr : World) : Prop :=
  ∃ k : Nat, k ≤ out.length ∧ i = .int .i64 k ∧ Below w.heap.size w wr ∧ Own wr w.heap.size 50 v out ∧ ∀ j : Nat, j < k → 9 ≤ j → (rd out (j : Int)).held ≤ (rd out (j : Int)).bal

theorem post_any (x y : Value) (xs : List Acc) (es : List Ent) (w : World) (h : Row w x xs) (hy : Row w y es) (hB : Bal xs es) (hA : ABs xs) :
    Calls Tryd.prog 41 #[x, y] w fun e w' => AccRes w w' (post xs es) e := by
  have hm := h.max
  have hm2 := hy.max
  obtain ⟨A, c, rfl⟩ := h.slice
  obtain ⟨A2, c2, rfl⟩ := hy.slice
  have hlen := hA.1
  go_enter Tryd.func41, Tryd.ntmps41
  go_wp2_with (first | (go_at_call 71; refine (balanced_any _ _ xs es _ h hy hB).mono ?_; rintro e w' ⟨rfl, hz⟩) | (go_at_call 58; refine (clone_any _ xs _ (h.below hz) (by omega)).mono ?_; rintro e w' ⟨v1, rfl, ho1, hz1⟩))
  have hz2 := below_next hz hz1
  have ho2 := ho1.lower hz.size
  clear ho1 hz1 hz
  go_loopw [22] (fun i wr => PostRel w v1 xs es i wr) (fun i _ => es.length - (intOf i).toNat)
  case atStart => exact ⟨0, by omega, rfl, hz2, xs, rfl, ho2, rfl, hA⟩
  case round =>
    obtain ⟨k, hk, rfl, hb, cur, hcur, hown, hlc, hAc⟩ := hrel
    clear ho2 hz2
    by_cases hlt : k < es.length
    · have hac := hB.acct k hlt
      have hft := fold_take xs es k hlt
      rw [hcur] at hft
      obtain ⟨b, o, c', hv, c1, c2, hl1⟩ := (hy.below hb).ent k hlt
      injection hv with hv1 _ hv3
      subst hv1 hv3
      obtain ⟨ha0, ha1⟩ := hac
      obtain ⟨b2, o2, c3, hvv, d1, d2, d3, f1, f2, hBb, hl2, os1, os2⟩ := hown.acc (rd es k).acct ha0 (by omega)
      subst hvv
      obtain ⟨hab, hah⟩ := hAc.2 (rd es k).acct ha0 (by omega)
      have hma := hB.amt k hlt
      have ha1' : (rd es k).acct < cur.length := by omega
      have HL := Lib.hid hlc
      clear hlc
      by_cases hp : mayP ((rd cur (rd es k).acct).bal + (rd es k).amt)
      · have hft2 : (es.take (k + 1)).foldlM post1 xs = .ok (upd cur (rd es k).acct { rd cur (rd es k).acct with bal := (rd cur (rd es k).acct).bal + (rd es k).amt }) := by
          rw [hft]; show post1 cur _ = _; unfold post1; rw [if_pos hp]
        have HP := Lib.hid hp
        have HM := Lib.hid hma
        have HF := Lib.hid hft2
        clear hft hft2 hcur hma hp
        unfold mayP at HP HM
        go_wp2
        go_quiet ((go_at_call 72; exact Calls.quiet_of_same (add_quiet _ _ _ hab HM.out HP.out)))
        go_wp2
        refine ⟨⟨k + 1, by omega, by go_num, (below_drewN (below_alloc hb _) nq).setCell hBb _, _, HF.out, Own.setBal (Own.drewN (hown.alloc _) nq) _ ha0 (by omega) _, by rw [upd_len]; exact HL.out, hAc.upd ha0 ⟨HP.out, hah⟩⟩, by simp [intOf]; omega⟩
      · have hft2 : es.foldlM post1 xs = .error 4 := fold_err xs es (k + 1) 4 (by omega) (by rw [hft]; show post1 cur _ = _; unfold post1; rw [if_neg hp])
        have hr := Lib.hid (show post xs es = .error 4 by unfold post; rw [hft2])
        have HP := Lib.hid hp
        have HM := Lib.hid hma
        clear hft hft2 hcur hma hp
        go_wp2
        go_quiet ((go_at_call 72; exact Calls.quiet_of_same (add_noq _ _ _ hab HM.out HP.out)))
        go_wp2
        go_ret2
        rw [hr.out]
        exact ⟨below_drewN (below_alloc hb _) nq, rfl⟩
    · obtain rfl : k = es.length := by omega
      rw [List.take_length] at hcur
      have Hcur := Lib.hid hcur
      clear hcur hm2 hlt hk
      obtain ⟨A3, c3, rfl⟩ := hown.row.slice
      clear hlc
      have hm3 := hown.row.max
      go_wp2
      go_loopw [50] (fun i wr => SolvRel w (.slice A3 cur.length c3) cur i wr) (fun i _ => cur.length - (intOf i).toNat)
      case atStart => exact ⟨0, by omega, rfl, hb, hown, fun j hj => by omega⟩
      case round =>
        clear hown hb
        obtain ⟨k, hk, rfl, hb, hown, hs⟩ := hrel
        by_cases hlt : k < cur.length
        · obtain ⟨b, o, c', hv, c1, c2, c3, hl1⟩ := hown.row.acc k hlt
          injection hv with hv1 _ hv3
          subst hv1 hv3
          obtain ⟨hab, hah⟩ := hAc.2 k (by omega) (by omega)
          by_cases h9 : 9 ≤ k
          · have hd := Lib.hid (isCl_yes (xs := cur) (k := (k : Int)) (by omega) (by omega))
            by_cases hf : (rd cur (k : Int)).bal - (rd cur (k : Int)).held < 0
            · have hsol : solvB cur = false := by
                unfold solvB
                rw [List.all_eq_false]
                exact ⟨k, List.mem_range.2 hlt, by simp; omega⟩
              have hr := Lib.hid (show post xs es = .error 3 by unfold post; rw [Hcur.out]; simp [hsol])
              clear hsol Hcur
              go_wp2_with (first | (go_at_call 57; refine (isClient_any _ cur _ _ (hown.row.alloc _)).mono ?_; rintro e w' ⟨rfl, rfl⟩; rw [hd.out]) | (go_at_call 18; refine (free_any (rd cur (k : Int)) _ hab hah).mono ?_; rintro e w' ⟨rfl, hz⟩))
              go_ret2
              rw [hr.out]
              exact ⟨below_next (below_alloc hb _) hz, rfl⟩
            · go_wp2_with (first | (go_at_call 57; refine (isClient_any _ cur _ _ (hown.row.alloc _)).mono ?_; rintro e w' ⟨rfl, rfl⟩; rw [hd.out]) | (go_at_call 18; refine (free_any (rd cur (k : Int)) _ hab hah).mono ?_; rintro e w' ⟨rfl, hz⟩))
              exact ⟨⟨k + 1, by omega, by go_num, below_next (below_alloc hb _) hz, (hown.alloc _).below hz, fun j hj h9 => by rcases Nat.lt_succ_iff_lt_or_eq.1 hj with hj | rfl; exact hs j hj h9; omega⟩, by simp [intOf]; omega⟩
          · have hd := Lib.hid (isCl_no (xs := cur) (k := (k : Int)) (by omega))
            go_wp2_with (first | (go_at_call 57; refine (isClient_any _ cur _ _ (hown.row.alloc _)).mono ?_; rintro e w' ⟨rfl, rfl⟩; rw [hd.out]) | (go_at_call 18; refine (free_any (rd cur (k : Int)) _ hab hah).mono ?_; rintro e w' ⟨rfl, hz⟩))
            exact ⟨⟨k + 1, by omega, by go_num, below_alloc hb _, hown.alloc _, fun j hj h9' => by rcases Nat.lt_succ_iff_lt_or_eq.1 hj with hj | rfl; exact hs j hj h9'; omega⟩, by simp [intOf]; omega⟩
        · have hsol : solvB cur = true := by
            unfold solvB
            rw [List.all_eq_true]
            intro j hj
            have hj' := List.mem_range.1 hj
            by_cases h9 : j < 9
            · simp [h9]
            · simp [h9]; exact hs j (by omega) (by omega)
          have hr := Lib.hid (show post xs es = .ok cur by unfold post; rw [Hcur.out]; simp [hsol])
          clear hsol Hcur
          go_wp2
          go_ret2
          rw [hr.out]
          exact ⟨hb, _, rfl, hown⟩
end Go.Proofs.YthjmficglpfgpaaDoor
namespace Go.Proofs.YthjmficglpfgpaaDoor
set_option linter.unusedVariables false
set_option linter.unusedSimpArgs false
open Go Go.RowKit Enc
set_option maxRecDepth 100000

def ratesCells : Array Value := #[.int .i64 1, .int .i64 1, .int .i64 9, .int .i64 10, .int .i64 150, .int .i64 1, .int .i64 11, .int .i64 10, .int .i64 1, .int .i64 1, .int .i64 160, .int .i64 1, .int .i64 1, .int .i64 151, .int .i64 1, .int .i64 161, .int .i64 1, .int .i64 1]
theorem rates_any (w : World) : Calls Tryd.prog 70 #[] w fun e w' => e = .returned (.agg ratesCells) ∧ Below w.heap.size w w' := by
  go_enter Tryd.func70, Tryd.ntmps70
  go_wp2_with (refine wpList_store_row rfl 133 _ _ rfl w.heap.size _ rfl rfl 133 _ (heap_alloc_last w _) (by kernel_rfl) rfl rfl ?_; rw [World.setRow_alloc_new])
  exact bodyPost_ret (results_cell_row rfl _ _ w.heap.size _ ratesCells (0, 0) _ rfl (heap_alloc_last w _) Tryd.underlying133 rfl (by kernel_rfl)) rfl ⟨rfl, below_alloc (Below.refl _ _) _⟩
end Go.Proofs.YthjmficglpfgpaaDoor
namespace Go.Proofs.YthjmficglpfgpaaDoor
set_option linter.unusedVariables false
set_option linter.unusedSimpArgs false
open Go Go.RowKit Enc
set_option maxRecDepth 100000

theorem right_rate (num den : Int) (w : World) (h1 : 1 ≤ num) (h2 : num ≤ 1024) (h3 : 1 ≤ den) (h4 : den ≤ 1024) :
    Calls Tryd.prog 93 #[.agg #[.int .i64 num, .int .i64 den]] w fun e w' => e = .returned (.bool true) ∧ Below w.heap.size w w' := by
  go_enter Tryd.func93, Tryd.ntmps93
  go_wp2
  go_ret
  exact ⟨rfl, below_alloc (Below.refl _ _) _⟩
theorem convert_yes (n num den : Int) (w : World) (hn : 1 ≤ n ∧ n ≤ 1099511627776) (h1 : 1 ≤ num) (h2 : num ≤ 1024) (h3 : 1 ≤ den) (h4 : den ≤ 1024) (hx0 : 0 ≤ n * num) (hx1 : n * num ≤ 1125899906842624) (hq : n * num / den ≤ 1099511627776) :
    Calls Tryd.prog 69 #[.int .i64 n, .agg #[.int .i64 num, .int .i64 den]] w fun e w' => e = .returned (.tuple #[.int .i64 (n * num / den), .int .i64 (n * num % den), .nilIface]) ∧ Below w.heap.size w w' := by
  have hf := Lib.hid (amt_yes hn.1 hn.2)
  have hq0 : 0 ≤ n * num / den := Int.ediv_nonneg hx0 (by omega)
  have hm0 : 0 ≤ n * num % den := Int.emod_nonneg _ (by omega)
  have hm1 : n * num % den < den := Int.emod_lt_of_pos _ (by omega)
  go_enter Tryd.func69, Tryd.ntmps69
  go_wp2_with (first | (go_at_call 54; refine (amount_any _ _).mono ?_; rintro e w' ⟨rfl, rfl⟩; rw [hf.out]) | (go_at_call 93; refine (right_rate _ _ _ h1 h2 h3 h4).mono ?_; rintro e w' ⟨rfl, hz⟩; have hk := (Blk.new _ _ _).next hz; have k0 := hk.at 0 _ rfl; have k1 := hk.at 1 _ rfl))
  go_quiet (fail)
  go_wp2
  go_ret3
  exact ⟨rfl, below_drewN (below_next (below_alloc (Below.refl _ _) _) hz) nq⟩
theorem convert_no (n num den : Int) (w : World) (hn : 1 ≤ n ∧ n ≤ 1099511627776) (h1 : 1 ≤ num) (h2 : num ≤ 1024) (h3 : 1 ≤ den) (h4 : den ≤ 1024) (hx0 : 0 ≤ n * num) (hx1 : n * num ≤ 1125899906842624) (hq : ¬ n * num / den ≤ 1099511627776) :
    Calls Tryd.prog 69 #[.int .i64 n, .agg #[.int .i64 num, .int .i64 den]] w fun e w' => e = .returned (.tuple #[.int .i64 0, .int .i64 0, .iface 38 (.int .i64 4)]) ∧ Below w.heap.size w w' := by
  have hf := Lib.hid (amt_yes hn.1 hn.2)
  have hq0 : 0 ≤ n * num / den := Int.ediv_nonneg hx0 (by omega)
  have hq1 : n * num / den ≤ n * num := Int.ediv_le_self _ hx0
  go_enter Tryd.func69, Tryd.ntmps69
  go_wp2_with (first | (go_at_call 54; refine (amount_any _ _).mono ?_; rintro e w' ⟨rfl, rfl⟩; rw [hf.out]) | (go_at_call 93; refine (right_rate _ _ _ h1 h2 h3 h4).mono ?_; rintro e w' ⟨rfl, hz⟩; have hk := (Blk.new _ _ _).next hz; have k0 := hk.at 0 _ rfl; have k1 := hk.at 1 _ rfl))
  go_ret3
  exact ⟨rfl, below_next (below_alloc (Below.refl _ _) _) hz⟩

/-! ### Back -/
def neg (e : Ent) : Ent := ⟨e.acct, -e.amt⟩
def back (es : List Ent) : List Ent := (es.map neg).reverse
def BackRel (w : World) (es : List Ent) (v i : Value) (wr : World) : Prop :=
  ∃ k : Nat, k ≤ es.length ∧ i = .int .i64 ((k : Int) - 1) ∧ Below w.heap.size w wr ∧ Own wr w.heap.size 109 v ((es.drop k).map neg).reverse
theorem back_step (es : List Ent) (k : Nat) (h : k < es.length) : ((es.drop k).map neg).reverse = ((es.drop (k + 1)).map neg).reverse ++ [neg (rd es k)] := by
  rw [List.drop_eq_getElem_cons h, List.map_cons, List.reverse_cons, rd_nat es k h]
theorem back_any (x : Value) (es : List Ent) (w : World) (h : Row w x es) (hn : es.length ≤ 1000) (ha : ∀ k : Nat, k < es.length → mayP (rd es k).amt) :
    Calls Tryd.prog 45 #[x] w fun e w' => ∃ v, e = .returned v ∧ Own w' w.heap.size 109 v (back es) ∧ Below w.heap.size w w' := by
  have hm := h.max
  obtain ⟨A, c, rfl⟩ := h.slice
  go_enter Tryd.func45, Tryd.ntmps45
  go_wp2
  go_loopw [3, 4] (fun v i wr => BackRel w es v i wr) (fun _ i _ => (intOf i + 1).toNat)
  case atStart => exact ⟨es.length, by omega, rfl, Below.refl _ _, by simp; exact Own.nil _ _ _⟩
  case round =>
    obtain ⟨k, hk, rfl, hb, hown⟩ := hrel
    rcases k with _ | k
    · go_wp2
      go_ret
      exact ⟨_, rfl, by simpa [back] using hown, hb⟩
    · have hlt : k < es.length := by omega
      obtain ⟨b, o, c', hv, c1, c2, hl⟩ := h.ent k hlt
      injection hv with hv1 _ hv3
      subst hv1 hv3
      replace c1 := cell_below hb c1
      replace c2 := cell_below hb c2
      have hl2 : b < wr.heap.size := Nat.lt_of_lt_of_le hl hb.size
      have hne := hown.ne hl
      have hma := ha k hlt
      unfold mayP at hma
      have e1 : (((k + 1 : Nat) : Int) - 1) = (k : Int) := by omega
      rw [e1]
      clear e1
      have HLB := Lib.hid (show ((((es.drop (k + 1)).map neg).reverse.length + [neg (rd es (k : Int))].length) * 16 ≤ 140737488355328) by simp; omega)
      have HSZ := Lib.hid (show w.heap.size ≤ (wr.alloc (.cells #[.int .i64 (rd es (k : Int)).acct, .int .i64 (-(rd es (k : Int)).amt)] 109)).drew.heap.size by have := hb.size; simp; omega)
      have hneg : IntKind.i64.wrap (-(rd es (k : Int)).amt) = -(rd es (k : Int)).amt := IntWalk.i64_in _ (by omega)
      go_wp2_with fail
      go_region_held3 (fun w' => w'.cell? ⟨b, o + k * 2, none⟩ = some (.int .i64 (rd es (k : Int)).acct) ∧ w'.cell? ⟨b, o + k * 2 + 1, none⟩ = some (.int .i64 (rd es (k : Int)).amt))
        (first | go_keep | (go_split_ands; constructor; all_goals (exact hg1.cell (by assumption) hne)))
        ((refine step_append (w := (wr.alloc (.cells #[.int .i64 (rd es (k : Int)).acct, .int .i64 (-(rd es (k : Int)).amt)] 109)).drew) (B := w.heap.size) sT_ent (by rfl) (by rfl) u3 (.slice (some ⟨wr.heap.size, 0, none⟩) 1 1) (by rfl) (by rfl) ((hown.alloc _).drew) (Row.box wr (neg (rd es (k : Int))) #[.int .i64 (rd es (k : Int)).acct, .int .i64 (-(rd es (k : Int)).amt)] rfl 109).drew HLB.out (by decide) HSZ.out ?_; intro v1 w1 hown1 hg1 hat1))
      clear hneg
      go_wp2
      refine ⟨⟨k, by omega, by go_num, ?_, by rw [back_step es k hlt]; exact hown1⟩, by simp [intOf]⟩
      exact (below_drew (below_alloc hb _)).grown hg1 HSZ.out (hown.base)
end Go.Proofs.YthjmficglpfgpaaDoor
namespace Go.Proofs.YthjmficglpfgpaaDoor
set_option linter.unusedVariables false
set_option linter.unusedSimpArgs false
open Go Go.RowKit Enc
set_option maxRecDepth 100000

def rate (a b : Int) : Int × Int :=
  if a = 0 then (if b = 1 then (9, 10) else if b = 2 then (150, 1) else (1, 1))
  else if a = 1 then (if b = 0 then (11, 10) else if b = 2 then (160, 1) else (1, 1))
  else (if b = 0 then (1, 151) else if b = 1 then (1, 161) else (1, 1))
theorem rate_bd (a b : Int) : (1 ≤ (rate a b).1 ∧ (rate a b).1 ≤ 160) ∧ 1 ≤ (rate a b).2 ∧ (rate a b).2 ≤ 161 := by
  unfold rate
  (repeat' split) <;> decide
def rateRow (a : Int) : Array Value :=
  if a = 0 then #[.int .i64 1, .int .i64 1, .int .i64 9, .int .i64 10, .int .i64 150, .int .i64 1]
  else if a = 1 then #[.int .i64 11, .int .i64 10, .int .i64 1, .int .i64 1, .int .i64 160, .int .i64 1]
  else #[.int .i64 1, .int .i64 151, .int .i64 1, .int .i64 161, .int .i64 1, .int .i64 1]
theorem ir0 (w : World) : (Instr.index 133 (.agg ratesCells) (.int .i64 0)).run Tryd.prog w = .ok (.agg (rateRow 0)) w := by kernel_rfl
theorem ir1 (w : World) : (Instr.index 133 (.agg ratesCells) (.int .i64 1)).run Tryd.prog w = .ok (.agg (rateRow 1)) w := by kernel_rfl
theorem ir2 (w : World) : (Instr.index 133 (.agg ratesCells) (.int .i64 2)).run Tryd.prog w = .ok (.agg (rateRow 2)) w := by kernel_rfl
theorem iw00 (w : World) : (Instr.index 132 (.agg (rateRow 0)) (.int .i64 0)).run Tryd.prog w = .ok (.agg #[.int .i64 (rate 0 0).1, .int .i64 (rate 0 0).2]) w := by kernel_rfl
theorem iw01 (w : World) : (Instr.index 132 (.agg (rateRow 0)) (.int .i64 1)).run Tryd.prog w = .ok (.agg #[.int .i64 (rate 0 1).1, .int .i64 (rate 0 1).2]) w := by kernel_rfl
theorem iw02 (w : World) : (Instr.index 132 (.agg (rateRow 0)) (.int .i64 2)).run Tryd.prog w = .ok (.agg #[.int .i64 (rate 0 2).1, .int .i64 (rate 0 2).2]) w := by kernel_rfl
theorem iw10 (w : World) : (Instr.index 132 (.agg (rateRow 1)) (.int .i64 0)).run Tryd.prog w = .ok (.agg #[.int .i64 (rate 1 0).1, .int .i64 (rate 1 0).2]) w := by kernel_rfl
theorem iw11 (w : World) : (Instr.index 132 (.agg (rateRow 1)) (.int .i64 1)).run Tryd.prog w = .ok (.agg #[.int .i64 (rate 1 1).1, .int .i64 (rate 1 1).2]) w := by kernel_rfl
theorem iw12 (w : World) : (Instr.index 132 (.agg (rateRow 1)) (.int .i64 2)).run Tryd.prog w = .ok (.agg #[.int .i64 (rate 1 2).1, .int .i64 (rate 1 2).2]) w := by kernel_rfl
theorem iw20 (w : World) : (Instr.index 132 (.agg (rateRow 2)) (.int .i64 0)).run Tryd.prog w = .ok (.agg #[.int .i64 (rate 2 0).1, .int .i64 (rate 2 0).2]) w := by kernel_rfl
theorem iw21 (w : World) : (Instr.index 132 (.agg (rateRow 2)) (.int .i64 1)).run Tryd.prog w = .ok (.agg #[.int .i64 (rate 2 1).1, .int .i64 (rate 2 1).2]) w := by kernel_rfl
theorem iw22 (w : World) : (Instr.index 132 (.agg (rateRow 2)) (.int .i64 2)).run Tryd.prog w = .ok (.agg #[.int .i64 (rate 2 2).1, .int .i64 (rate 2 2).2]) w := by kernel_rfl
theorem index_rates (a : Int) (h0 : 0 ≤ a) (h3 : a < 3) (w : World) : (Instr.index 133 (.agg ratesCells) (.int .i64 a)).run Tryd.prog w = .ok (.agg (rateRow a)) w := by
  have : a = 0 ∨ a = 1 ∨ a = 2 := by omega
  rcases this with rfl | rfl | rfl
  · exact ir0 w
  · exact ir1 w
  · exact ir2 w
theorem index_row (a b : Int) (h0 : 0 ≤ a) (h3 : a < 3) (g0 : 0 ≤ b) (g3 : b < 3) (w : World) : (Instr.index 132 (.agg (rateRow a)) (.int .i64 b)).run Tryd.prog w = .ok (.agg #[.int .i64 (rate a b).1, .int .i64 (rate a b).2]) w := by
  have h : a = 0 ∨ a = 1 ∨ a = 2 := by omega
  have g : b = 0 ∨ b = 1 ∨ b = 2 := by omega
  rcases h with rfl | rfl | rfl <;> rcases g with rfl | rfl | rfl
  · exact iw00 w
  · exact iw01 w
  · exact iw02 w
  · exact iw10 w
  · exact iw11 w
  · exact iw12 w
  · exact iw20 w
  · exact iw21 w
  · exact iw22 w
theorem number_any (k c : Int) (w : World) (h0 : 0 ≤ k) (h1 : k ≤ 2) (g0 : 0 ≤ c) (g1 : c < 3) :
    Calls Tryd.prog 68 #[.int .i64 k, .int .i64 c] w fun e w' => w = w' ∧ e = .returned (.int .i64 (3 * c + k)) := by
  go_enter Tryd.func68, Tryd.ntmps68
  go_wp2
  go_ret
  exact ⟨rfl, rfl⟩

def move (xs : List Acc) (frm to n : Int) : Except Int (List Ent) :=
  if ¬(0 ≤ frm ∧ frm < xs.length) then .error 2 else if ¬(0 ≤ to ∧ to < xs.length) then .error 2
  else if frm = to ∨ ¬(1 ≤ n ∧ n ≤ 1099511627776) then .error 1
  else if (rd xs frm).cur = (rd xs to).cur then .ok [⟨frm, -n⟩, ⟨to, n⟩]
  else if ¬ n * (rate (rd xs frm).cur (rd xs to).cur).1 / (rate (rd xs frm).cur (rd xs to).cur).2 ≤ 1099511627776 then .error 4
  else if n * (rate (rd xs frm).cur (rd xs to).cur).1 / (rate (rd xs frm).cur (rd xs to).cur).2 = 0 then .error 1
  else .ok [⟨frm, -n⟩, ⟨3 * (rd xs frm).cur + 1, n⟩, ⟨3 * (rd xs to).cur + 1, -(n * (rate (rd xs frm).cur (rd xs to).cur).1 / (rate (rd xs frm).cur (rd xs to).cur).2)⟩, ⟨to, n * (rate (rd xs frm).cur (rd xs to).cur).1 / (rate (rd xs frm).cur (rd xs to).cur).2⟩]
def CurOk (xs : List Acc) : Prop := ∀ k : Int, 0 ≤ k → k < xs.length → 0 ≤ (rd xs k).cur ∧ (rd xs k).cur < 3
def EntRes (w w' : World) (r : Except Int (List Ent)) (e : Ending) : Prop :=
  Below w.heap.size w w' ∧ match r with
  | .error c => e = .returned (.tuple #[.slice none 0 0, .iface 38 (.int .i64 c)])
  | .ok out => ∃ v, e = .returned (.tuple #[v, .nilIface]) ∧ Own w' w.heap.size 109 v out

theorem move_far (b o c : Nat) (xs : List Acc) (frm to n a b2 num den q rem : Int) (w : World) (h : Row w (.slice (some ⟨b, o, none⟩) xs.length c) xs) (hm : xs.length ≤ 9223372036854775807)
    (h1a : 0 ≤ frm) (h1b : frm < xs.length) (h2a : 0 ≤ to) (h2b : to < xs.length) (h3b : (frm == to) = false) (hf : Hid (amtB n = true)) (h4 : 1 ≤ n ∧ n ≤ 1099511627776)
    (c1 : w.cell? ⟨b, o + frm.toNat * 3, none⟩ = some (.int .i64 a)) (d1 : w.cell? ⟨b, o + to.toNat * 3, none⟩ = some (.int .i64 b2)) (hl : b < w.heap.size)
    (hca : 0 ≤ a ∧ a < 3) (hcb : 0 ≤ b2 ∧ b2 < 3) (h5b : (a == b2) = false)
    (ir : ∀ w, (Instr.index 133 (.agg ratesCells) (.int .i64 a)).run Tryd.prog w = .ok (.agg (rateRow a)) w)
    (iw : ∀ w, (Instr.index 132 (.agg (rateRow a)) (.int .i64 b2)).run Tryd.prog w = .ok (.agg #[.int .i64 num, .int .i64 den]) w)
    (er : Value)
    (CV : Hid (∀ w, Calls Tryd.prog 69 #[.int .i64 n, .agg #[.int .i64 num, .int .i64 den]] w fun e w' => e = .returned (.tuple #[.int .i64 q, .int .i64 rem, er]) ∧ Below w.heap.size w w'))
    (r : Except Int (List Ent))
    (hcase : (∃ k, er = .iface 38 (.int .i64 k) ∧ r = .error k) ∨ (er = .nilIface ∧ q = 0 ∧ r = .error 1) ∨ (er = .nilIface ∧ 0 ≤ q ∧ q ≤ 1099511627776 ∧ (q == 0) = false ∧ r = .ok [⟨frm, -n⟩, ⟨3 * a + 1, n⟩, ⟨3 * b2 + 1, -q⟩, ⟨to, q⟩])) :
    Calls Tryd.prog 39 #[.slice (some ⟨b, o, none⟩) xs.length c, .int .i64 frm, .int .i64 to, .int .i64 n] w fun e w' => EntRes w w' r e := by
  have CR := Lib.hid (fun w => rates_any w)
  have HCC := Lib.hid hcase
  clear hcase
  go_enter Tryd.func39, Tryd.ntmps39
  go_wp2_with fail
  refine (of_any _ xs _ _ h h1a h1b).mono ?_
  rintro e w' ⟨rfl, rfl⟩
  go_wp2_with fail
  refine (of_any _ xs _ _ h h2a h2b).mono ?_
  rintro e w' ⟨rfl, rfl⟩
  go_wp2_with (go_at_call 54; refine (amount_any _ _).mono ?_; rintro e w' ⟨rfl, rfl⟩; rw [hf.out])
  go_quiet (fail)
  go_wp2_with fail
  refine (number_any 1 a _ (by omega) (by omega) hca.1 hca.2).mono ?_
  rintro e w' ⟨rfl, rfl⟩
  go_wp2_with fail
  refine (number_any 1 b2 _ (by omega) (by omega) hcb.1 hcb.2).mono ?_
  rintro e w' ⟨rfl, rfl⟩
  go_wp2_with (first | (go_at_call 70; refine (CR.out _).mono ?_; rintro e w' ⟨rfl, hz⟩) | (go_at_call 69; refine (CV.out _).mono ?_; rintro e w' ⟨rfl, hz2⟩; clear ir iw; rcases HCC.out with ⟨ek, rfl, he⟩ | ⟨rfl, rfl, he⟩ | ⟨rfl, hq0, hq1, hqb, he⟩ <;> (have HE := Lib.hid he; clear he)))
  · go_ret2
    rw [HE.out]
    exact ⟨below_next (below_next (below_drewN (Below.refl _ _) nq) hz) hz2, rfl⟩
  · go_ret2
    rw [HE.out]
    exact ⟨below_next (below_next (below_drewN (Below.refl _ _) nq) hz) hz2, rfl⟩
  · go_ret2
    rw [HE.out]
    have hb2 := below_next (below_next (below_drewN (Below.refl _ _) nq) hz) hz2
    exact ⟨below_alloc hb2 _, _, rfl, Own.of_blk (Blk.new _ _ _) hb2.size rfl rfl (by simp) (by simp [maxLen])⟩

theorem move_any (x : Value) (xs : List Acc) (frm to n : Int) (w : World) (h : Row w x xs) (hC : CurOk xs) :
    Calls Tryd.prog 39 #[x, .int .i64 frm, .int .i64 to, .int .i64 n] w fun e w' => EntRes w w' (move xs frm to n) e := by
  have hm := h.max
  by_cases h1 : 0 ≤ frm ∧ frm < xs.length
  rotate_left
  · have hr := Lib.hid (show move xs frm to n = .error 2 by unfold move; rw [if_pos h1])
    obtain ⟨A, c, rfl⟩ := h.slice
    have H1 := Lib.hid h1
    clear h1
    go_enter Tryd.func39, Tryd.ntmps39
    go_wp2_with (go_at_call 67; refine (of_none _ xs _ _ h H1.out).mono ?_; rintro e w' ⟨rfl, rfl⟩)
    go_ret2
    rw [hr.out]
    exact ⟨Below.refl _ _, rfl⟩
  obtain ⟨h1a, h1b⟩ := h1
  by_cases h2 : 0 ≤ to ∧ to < xs.length
  rotate_left
  · have hr := Lib.hid (show move xs frm to n = .error 2 by unfold move; rw [if_neg (by simp; omega), if_pos h2])
    obtain ⟨A, c, rfl⟩ := h.slice
    have H2 := Lib.hid h2
    clear h2
    go_enter Tryd.func39, Tryd.ntmps39
    go_wp2_with fail
    refine (of_any _ xs _ _ h h1a h1b).mono ?_
    rintro e w' ⟨rfl, rfl⟩
    go_wp2_with fail
    refine (of_none _ xs _ _ h H2.out).mono ?_
    rintro e w' ⟨rfl, rfl⟩
    go_wp2
    go_ret2
    rw [hr.out]
    exact ⟨Below.refl _ _, rfl⟩
  obtain ⟨h2a, h2b⟩ := h2
  by_cases h3 : frm = to
  · have hr := Lib.hid (show move xs frm to n = .error 1 by unfold move; rw [if_neg (by simp; omega), if_neg (by simp; omega), if_pos (.inl h3)])
    obtain ⟨A, c, rfl⟩ := h.slice
    subst h3
    go_enter Tryd.func39, Tryd.ntmps39
    go_wp2_with (go_at_call 67; refine (of_any _ xs _ _ h h1a h1b).mono ?_; rintro e w' ⟨rfl, rfl⟩)
    go_ret2
    rw [hr.out]
    exact ⟨Below.refl _ _, rfl⟩
  have h3b : (frm == to) = false := by simpa using h3
  by_cases h4 : 1 ≤ n ∧ n ≤ 1099511627776
  rotate_left
  · have hr := Lib.hid (show move xs frm to n = .error 1 by unfold move; rw [if_neg (by simp; omega), if_neg (by simp; omega), if_pos (.inr h4)])
    have hf := Lib.hid (amt_no h4)
    obtain ⟨A, c, rfl⟩ := h.slice
    clear h4
    go_enter Tryd.func39, Tryd.ntmps39
    go_wp2_with fail
    refine (of_any _ xs _ _ h h1a h1b).mono ?_
    rintro e w' ⟨rfl, rfl⟩
    go_wp2_with fail
    refine (of_any _ xs _ _ h h2a h2b).mono ?_
    rintro e w' ⟨rfl, rfl⟩
    go_wp2_with (go_at_call 54; refine (amount_any _ _).mono ?_; rintro e w' ⟨rfl, rfl⟩; rw [hf.out])
    go_ret2
    rw [hr.out]
    exact ⟨Below.refl _ _, rfl⟩
  have hf := Lib.hid (amt_yes h4.1 h4.2)
  obtain ⟨b, o, c, rfl, c1, c2, c3, hl⟩ := h.accI frm h1a h1b
  obtain ⟨b', o', c', hv, d1, d2, d3, hl'⟩ := h.accI to h2a h2b
  injection hv with hv1 _ hv3
  injection hv1 with hv1
  injection hv1 with e1 e2
  subst e1 e2 hv3
  have hca := hC frm h1a h1b
  have hcb := hC to h2a h2b
  clear c2 c3 d2 d3
  generalize hga : (rd xs frm).cur = a at *
  generalize hgb : (rd xs to).cur = b2 at *
  have HA := Lib.hid hga
  have HB := Lib.hid hgb
  clear hga hgb
  by_cases h5 : a = b2
  · have hr := Lib.hid (show move xs frm to n = .ok [⟨frm, -n⟩, ⟨to, n⟩] by unfold move; rw [if_neg (by simp; omega), if_neg (by simp; omega), if_neg (by simp; omega), HA.out, HB.out, if_pos h5])
    subst h5
    go_enter Tryd.func39, Tryd.ntmps39
    go_wp2_with fail
    refine (of_any _ xs _ _ h h1a h1b).mono ?_
    rintro e w' ⟨rfl, rfl⟩
    go_wp2_with fail
    refine (of_any _ xs _ _ h h2a h2b).mono ?_
    rintro e w' ⟨rfl, rfl⟩
    go_wp2_with (go_at_call 54; refine (amount_any _ _).mono ?_; rintro e w' ⟨rfl, rfl⟩; rw [hf.out])
    go_quiet (fail)
    go_wp2
    go_ret2
    rw [hr.out]
    exact ⟨below_alloc (below_drewN (Below.refl _ _) nq) _, _, rfl, Own.of_blk (Blk.new _ _ _) (Nat.le_refl _) rfl rfl (by simp) (by simp [maxLen])⟩
  have h5b : (a == b2) = false := by simpa using h5
  obtain ⟨⟨r1, r2⟩, r3, r4⟩ := rate_bd a b2
  have HX := Lib.hid (show move xs frm to n = if ¬ n * (rate a b2).1 / (rate a b2).2 ≤ 1099511627776 then .error 4 else if n * (rate a b2).1 / (rate a b2).2 = 0 then .error 1 else .ok [⟨frm, -n⟩, ⟨3 * a + 1, n⟩, ⟨3 * b2 + 1, -(n * (rate a b2).1 / (rate a b2).2)⟩, ⟨to, n * (rate a b2).1 / (rate a b2).2⟩] by unfold move; rw [if_neg (by simp; omega), if_neg (by simp; omega), if_neg (by simp; omega), HA.out, HB.out, if_neg h5])
  have ir := index_rates a hca.1 hca.2
  have iw := index_row a b2 hca.1 hca.2 hcb.1 hcb.2
  generalize (rate a b2).1 = num at *
  generalize (rate a b2).2 = den at *
  have hx0 : 0 ≤ n * num := Int.mul_nonneg (by omega) (by omega)
  have hx1 : n * num ≤ 1125899906842624 := by
    have := Int.mul_le_mul h4.2 r2 (by omega) (by omega)
    omega
  have hq0 : 0 ≤ n * num / den := Int.ediv_nonneg hx0 (by omega)
  by_cases h6 : n * num / den ≤ 1099511627776
  · have CY := Lib.hid (fun w => convert_yes n num den w h4 r1 (by omega) r3 (by omega) hx0 hx1 h6)
    refine move_far b o c xs frm to n a b2 num den _ _ w h hm h1a h1b h2a h2b h3b hf h4 c1 d1 hl hca hcb h5b ir iw _ CY _ (.inr ?_)
    by_cases h7 : n * num / den = 0
    · exact .inl ⟨rfl, h7, by rw [HX.out, if_neg (by simpa using h6), if_pos h7]⟩
    · exact .inr ⟨rfl, hq0, h6, by simpa using h7, by rw [HX.out, if_neg (by simpa using h6), if_neg h7]⟩
  · have CN := Lib.hid (fun w => convert_no n num den w h4 r1 (by omega) r3 (by omega) hx0 hx1 h6)
    exact move_far b o c xs frm to n a b2 num den _ _ w h hm h1a h1b h2a h2b h3b hf h4 c1 d1 hl hca hcb h5b ir iw _ CN _ (.inl ⟨4, rfl, by rw [HX.out, if_pos h6]⟩)
end Go.Proofs.YthjmficglpfgpaaDoor
namespace Go.Proofs.YthjmficglpfgpaaDoor
set_option linter.unusedVariables false
set_option linter.unusedSimpArgs false
open Go Go.RowKit Enc
set_option maxRecDepth 100000

/-- A payment that may be. -/
structure PayOk (p : Pay) : Prop where
  auth : 1 ≤ p.auth ∧ p.auth ≤ 1099511627776
  capt : 0 ≤ p.capt ∧ p.capt ≤ p.auth
  refd : 0 ≤ p.refd
  chgd : 0 ≤ p.chgd
  gave : p.refd + p.chgd ≤ p.capt
  til : 0 ≤ p.til ∧ p.til ≤ 1073741824
  stage : p.stage = 0 ∨ p.stage = 1
def left (p : Pay) : Int := if p.stage = 0 then p.auth - p.capt else 0
def gave (p : Pay) : Int := p.capt - p.refd - p.chgd
def payDo (p : Pay) (op n : Int) : Except Int Pay :=
  if ¬(4 ≤ op ∧ op ≤ 7) then .error 13
  else if ¬ op = 5 ∧ n < 1 then .error 1
  else if op = 4 then (if n ≤ left p then .ok { p with capt := p.capt + n, stage := if p.capt + n = p.auth then 1 else p.stage } else .error 6)
  else if op = 5 then (if p.stage = 0 then .ok { p with stage := 1 } else .error 6)
  else if op = 6 then (if n ≤ gave p then .ok { p with refd := p.refd + n } else .error 6)
  else (if n ≤ gave p then .ok { p with chgd := p.chgd + n } else .error 6)

theorem left_any (p : Pay) (w : World) (hp : PayOk p) : Calls Tryd.prog 35 #[p.val] w fun e w' => e = .returned (.int .i64 (left p)) ∧ Below w.heap.size w w' := by
  obtain ⟨⟨a1, a2⟩, ⟨b1, b2⟩, c1, d1, g1, t1, s1⟩ := hp
  unfold left
  rcases s1 with s1 | s1
  · simp only [s1, if_true]
    go_enter Tryd.func35, Tryd.ntmps35
    go_wp2
    go_ret
    exact ⟨rfl, below_alloc (Below.refl _ _) _⟩
  · simp only [s1]
    go_enter Tryd.func35, Tryd.ntmps35
    go_wp2
    go_ret
    exact ⟨rfl, below_alloc (Below.refl _ _) _⟩
theorem gave_any (p : Pay) (w : World) (hp : PayOk p) : Calls Tryd.prog 17 #[p.val] w fun e w' => e = .returned (.int .i64 (gave p)) ∧ Below w.heap.size w w' := by
  obtain ⟨⟨a1, a2⟩, ⟨b1, b2⟩, c1, d1, g1, t1, s1⟩ := hp
  unfold gave
  go_enter Tryd.func17, Tryd.ntmps17
  go_wp2
  go_ret
  exact ⟨rfl, below_alloc (Below.refl _ _) _⟩

/-- What a doer hands back. -/
def DoerRes (w w' : World) (r : Option Pay) (e : Ending) : Prop :=
  Below w.heap.size w w' ∧ match r with
  | some q => e = .returned (.tuple #[q.val, .bool true])
  | none => ∃ q : Pay, e = .returned (.tuple #[q.val, .bool false])
def cap1 (p : Pay) (n : Int) : Option Pay := if n ≤ left p then some { p with capt := p.capt + n, stage := if p.capt + n = p.auth then 1 else p.stage } else none
theorem left_bd {p : Pay} (hp : PayOk p) : 0 ≤ left p ∧ left p ≤ 1099511627776 ∧ (left p = 0 ∨ (p.stage = 0 ∧ left p = p.auth - p.capt)) := by
  obtain ⟨⟨a1, a2⟩, ⟨b1, b2⟩, c1, d1, g1, t1, s1⟩ := hp
  unfold left
  split <;> omega
theorem capture_yes (p : Pay) (n : Int) (w : World) (hp : PayOk p) (hn : 1 ≤ n) (hl : n ≤ left p) :
    Calls Tryd.prog 95 #[p.val, .int .i64 n] w fun e w' => DoerRes w w' (some { p with capt := p.capt + n, stage := if p.capt + n = p.auth then 1 else p.stage }) e := by
  have hb := left_bd hp
  have HL := Lib.hid (fun w => left_any p w hp)
  obtain ⟨⟨a1, a2⟩, ⟨b1, b2⟩, c1, d1, g1, t1, s1⟩ := hp
  obtain ⟨frm, to, auth, capt, refd, chgd, til, stage⟩ := p
  simp only at *
  obtain rfl : stage = 0 := by omega
  have hla : n ≤ auth - capt := by omega
  clear hb s1
  generalize hle : left ⟨frm, to, auth, capt, refd, chgd, til, 0⟩ = l at *
  clear hle
  by_cases h : capt + n = auth
  · subst h
    rw [if_pos rfl]
    go_enter Tryd.func95, Tryd.ntmps95
    go_wp2_with (go_at_call 35; refine (HL.out _).mono ?_; rintro e w' ⟨rfl, hz⟩; have hk := ((Blk.new w _ _).alloc _).next hz; have hj := (Blk.new1 w _ _ _).next hz; obtain ⟨k0, k1, k2, k3, k4, k5, k6, k7⟩ := hk.c8; obtain ⟨j0, j1, j2, j3, j4, j5, j6, j7⟩ := hj.c8; have kf := hk.frozen; have jf := hj.frozen; have zs := hz.size)
    refine bodyPost_ret (v := .tuple #[Pay.val (Pay.mk frm to (capt + n) (capt + n) refd chgd til 1), .bool true]) (by simp [results, Tryd.results95, go_sem, j0, j1, j2, j3, j4, j5, j6, j7]) rfl ⟨?_, rfl⟩
    exact (by (repeat (refine Below.setCell ?_ (by simp) _)); exact below_next (below_alloc (below_alloc (Below.refl _ _) _) _) hz)
  · rw [if_neg h]
    have hbq : (capt + n == auth) = false := by simpa using h
    go_enter Tryd.func95, Tryd.ntmps95
    go_wp2_with (go_at_call 35; refine (HL.out _).mono ?_; rintro e w' ⟨rfl, hz⟩; have hk := ((Blk.new w _ _).alloc _).next hz; have hj := (Blk.new1 w _ _ _).next hz; obtain ⟨k0, k1, k2, k3, k4, k5, k6, k7⟩ := hk.c8; obtain ⟨j0, j1, j2, j3, j4, j5, j6, j7⟩ := hj.c8; have kf := hk.frozen; have jf := hj.frozen; have zs := hz.size)
    refine bodyPost_ret (v := .tuple #[Pay.val (Pay.mk frm to auth (capt + n) refd chgd til 0), .bool true]) (by simp [results, Tryd.results95, go_sem, j0, j1, j2, j3, j4, j5, j6, j7]) rfl ⟨?_, rfl⟩
    exact (by (repeat (refine Below.setCell ?_ (by simp) _)); exact below_next (below_alloc (below_alloc (Below.refl _ _) _) _) hz)
theorem capture_no (p : Pay) (n : Int) (w : World) (hp : PayOk p) (hn : 1 ≤ n) (hl : ¬ n ≤ left p) :
    Calls Tryd.prog 95 #[p.val, .int .i64 n] w fun e w' => DoerRes w w' none e := by
  have HL := Lib.hid (fun w => left_any p w hp)
  obtain ⟨⟨a1, a2⟩, ⟨b1, b2⟩, c1, d1, g1, t1, s1⟩ := hp
  obtain ⟨frm, to, auth, capt, refd, chgd, til, stage⟩ := p
  simp only at *
  generalize hle : left ⟨frm, to, auth, capt, refd, chgd, til, stage⟩ = l at *
  clear hle
  have hd : decide (n ≤ l) = false := by simpa using hl
  clear s1
  go_enter Tryd.func95, Tryd.ntmps95
  go_wp2_with (go_at_call 35; refine (HL.out _).mono ?_; rintro e w' ⟨rfl, hz⟩; have hk := ((Blk.new w _ _).alloc _).next hz; have hj := (Blk.new1 w _ _ _).next hz; obtain ⟨k0, k1, k2, k3, k4, k5, k6, k7⟩ := hk.c8; obtain ⟨j0, j1, j2, j3, j4, j5, j6, j7⟩ := hj.c8; have kf := hk.frozen; have jf := hj.frozen; have zs := hz.size)
  · refine bodyPost_ret (v := .tuple #[Pay.val (Pay.mk frm to auth (wrap64 (capt + n)) refd chgd til 1), .bool false]) (by simp [results, Tryd.results95, go_sem, j0, j1, j2, j3, j4, j5, j6, j7]) rfl ⟨?_, _, rfl⟩
    exact (by (repeat (refine Below.setCell ?_ (by simp) _)); exact below_next (below_alloc (below_alloc (Below.refl _ _) _) _) hz)
  · refine bodyPost_ret (v := .tuple #[Pay.val (Pay.mk frm to auth (wrap64 (capt + n)) refd chgd til stage), .bool false]) (by simp [results, Tryd.results95, go_sem, j0, j1, j2, j3, j4, j5, j6, j7]) rfl ⟨?_, _, rfl⟩
    exact (by (repeat (refine Below.setCell ?_ (by simp) _)); exact below_next (below_alloc (below_alloc (Below.refl _ _) _) _) hz)
theorem refund_yes (p : Pay) (n : Int) (w : World) (hp : PayOk p) (hn : 1 ≤ n) (hl : n ≤ gave p) :
    Calls Tryd.prog 96 #[p.val, .int .i64 n] w fun e w' => DoerRes w w' (some { p with refd := p.refd + n }) e := by
  have HL := Lib.hid (fun w => gave_any p w hp)
  have hg : n ≤ p.capt := by have := hp.refd; have := hp.chgd; unfold gave at hl; omega
  obtain ⟨⟨a1, a2⟩, ⟨b1, b2⟩, c1, d1, g1, t1, s1⟩ := hp
  obtain ⟨frm, to, auth, capt, refd, chgd, til, stage⟩ := p
  simp only at *
  generalize hle : gave ⟨frm, to, auth, capt, refd, chgd, til, stage⟩ = l at *
  clear hle s1
  · go_enter Tryd.func96, Tryd.ntmps96
    go_wp2_with (go_at_call 17; refine (HL.out _).mono ?_; rintro e w' ⟨rfl, hz⟩; have hk := ((Blk.new w _ _).alloc _).next hz; have hj := (Blk.new1 w _ _ _).next hz; obtain ⟨k0, k1, k2, k3, k4, k5, k6, k7⟩ := hk.c8; obtain ⟨j0, j1, j2, j3, j4, j5, j6, j7⟩ := hj.c8; have kf := hk.frozen; have jf := hj.frozen; have zs := hz.size)
    refine bodyPost_ret (v := .tuple #[Pay.val (Pay.mk frm to auth capt (refd + n) chgd til stage), .bool true]) (by simp [results, Tryd.results96, go_sem, j0, j1, j2, j3, j4, j5, j6, j7]) rfl ⟨?_, rfl⟩
    exact (by (repeat (refine Below.setCell ?_ (by simp) _)); exact below_next (below_alloc (below_alloc (Below.refl _ _) _) _) hz)
theorem refund_no (p : Pay) (n : Int) (w : World) (hp : PayOk p) (hn : 1 ≤ n) (hl : ¬ n ≤ gave p) :
    Calls Tryd.prog 96 #[p.val, .int .i64 n] w fun e w' => DoerRes w w' none e := by
  have HL := Lib.hid (fun w => gave_any p w hp)
  obtain ⟨⟨a1, a2⟩, ⟨b1, b2⟩, c1, d1, g1, t1, s1⟩ := hp
  obtain ⟨frm, to, auth, capt, refd, chgd, til, stage⟩ := p
  simp only at *
  generalize hle : gave ⟨frm, to, auth, capt, refd, chgd, til, stage⟩ = l at *
  clear hle s1
  have hd : decide (n ≤ l) = false := by simpa using hl
  · go_enter Tryd.func96, Tryd.ntmps96
    go_wp2_with (go_at_call 17; refine (HL.out _).mono ?_; rintro e w' ⟨rfl, hz⟩; have hk := ((Blk.new w _ _).alloc _).next hz; have hj := (Blk.new1 w _ _ _).next hz; obtain ⟨k0, k1, k2, k3, k4, k5, k6, k7⟩ := hk.c8; obtain ⟨j0, j1, j2, j3, j4, j5, j6, j7⟩ := hj.c8; have kf := hk.frozen; have jf := hj.frozen; have zs := hz.size)
    refine bodyPost_ret (v := .tuple #[Pay.val (Pay.mk frm to auth capt (wrap64 (refd + n)) chgd til stage), .bool false]) (by simp [results, Tryd.results96, go_sem, j0, j1, j2, j3, j4, j5, j6, j7]) rfl ⟨?_, _, rfl⟩
    exact (by (repeat (refine Below.setCell ?_ (by simp) _)); exact below_next (below_alloc (below_alloc (Below.refl _ _) _) _) hz)
theorem charge_yes (p : Pay) (n : Int) (w : World) (hp : PayOk p) (hn : 1 ≤ n) (hl : n ≤ gave p) :
    Calls Tryd.prog 97 #[p.val, .int .i64 n] w fun e w' => DoerRes w w' (some { p with chgd := p.chgd + n }) e := by
  have HL := Lib.hid (fun w => gave_any p w hp)
  have hg : n ≤ p.capt := by have := hp.refd; have := hp.chgd; unfold gave at hl; omega
  obtain ⟨⟨a1, a2⟩, ⟨b1, b2⟩, c1, d1, g1, t1, s1⟩ := hp
  obtain ⟨frm, to, auth, capt, refd, chgd, til, stage⟩ := p
  simp only at *
  generalize hle : gave ⟨frm, to, auth, capt, refd, chgd, til, stage⟩ = l at *
  clear hle s1
  · go_enter Tryd.func97, Tryd.ntmps97
    go_wp2_with (go_at_call 17; refine (HL.out _).mono ?_; rintro e w' ⟨rfl, hz⟩; have hk := ((Blk.new w _ _).alloc _).next hz; have hj := (Blk.new1 w _ _ _).next hz; obtain ⟨k0, k1, k2, k3, k4, k5, k6, k7⟩ := hk.c8; obtain ⟨j0, j1, j2, j3, j4, j5, j6, j7⟩ := hj.c8; have kf := hk.frozen; have jf := hj.frozen; have zs := hz.size)
    refine bodyPost_ret (v := .tuple #[Pay.val (Pay.mk frm to auth capt refd (chgd + n) til stage), .bool true]) (by simp [results, Tryd.results97, go_sem, j0, j1, j2, j3, j4, j5, j6, j7]) rfl ⟨?_, rfl⟩
    exact (by (repeat (refine Below.setCell ?_ (by simp) _)); exact below_next (below_alloc (below_alloc (Below.refl _ _) _) _) hz)
theorem charge_no (p : Pay) (n : Int) (w : World) (hp : PayOk p) (hn : 1 ≤ n) (hl : ¬ n ≤ gave p) :
    Calls Tryd.prog 97 #[p.val, .int .i64 n] w fun e w' => DoerRes w w' none e := by
  have HL := Lib.hid (fun w => gave_any p w hp)
  obtain ⟨⟨a1, a2⟩, ⟨b1, b2⟩, c1, d1, g1, t1, s1⟩ := hp
  obtain ⟨frm, to, auth, capt, refd, chgd, til, stage⟩ := p
  simp only at *
  generalize hle : gave ⟨frm, to, auth, capt, refd, chgd, til, stage⟩ = l at *
  clear hle s1
  have hd : decide (n ≤ l) = false := by simpa using hl
  · go_enter Tryd.func97, Tryd.ntmps97
    go_wp2_with (go_at_call 17; refine (HL.out _).mono ?_; rintro e w' ⟨rfl, hz⟩; have hk := ((Blk.new w _ _).alloc _).next hz; have hj := (Blk.new1 w _ _ _).next hz; obtain ⟨k0, k1, k2, k3, k4, k5, k6, k7⟩ := hk.c8; obtain ⟨j0, j1, j2, j3, j4, j5, j6, j7⟩ := hj.c8; have kf := hk.frozen; have jf := hj.frozen; have zs := hz.size)
    refine bodyPost_ret (v := .tuple #[Pay.val (Pay.mk frm to auth capt refd (wrap64 (chgd + n)) til stage), .bool false]) (by simp [results, Tryd.results97, go_sem, j0, j1, j2, j3, j4, j5, j6, j7]) rfl ⟨?_, _, rfl⟩
    exact (by (repeat (refine Below.setCell ?_ (by simp) _)); exact below_next (below_alloc (below_alloc (Below.refl _ _) _) _) hz)
theorem shut_yes (p : Pay) (n : Int) (w : World) (h : p.stage = 0) :
    Calls Tryd.prog 98 #[p.val, .int .i64 n] w fun e w' => DoerRes w w' (some { p with stage := 1 }) e := by
  obtain ⟨frm, to, auth, capt, refd, chgd, til, stage⟩ := p
  simp only at h
  subst h
  go_enter Tryd.func98, Tryd.ntmps98
  go_wp2
  exact bodyPost_ret (v := .tuple #[Pay.val (Pay.mk frm to auth capt refd chgd til 1), .bool true]) (by simp [results, Tryd.results98, go_sem]) rfl ⟨below_alloc (below_alloc (Below.refl _ _) _) _, rfl⟩
theorem shut_no (p : Pay) (n : Int) (w : World) (h : p.stage = 1) :
    Calls Tryd.prog 98 #[p.val, .int .i64 n] w fun e w' => DoerRes w w' none e := by
  obtain ⟨frm, to, auth, capt, refd, chgd, til, stage⟩ := p
  simp only at h
  subst h
  go_enter Tryd.func98, Tryd.ntmps98
  go_wp2
  exact bodyPost_ret (v := .tuple #[Pay.val (Pay.mk frm to auth capt refd chgd til 1), .bool false]) (by simp [results, Tryd.results98, go_sem]) rfl ⟨below_alloc (below_alloc (Below.refl _ _) _) _, _, rfl⟩
end Go.Proofs.YthjmficglpfgpaaDoor
namespace Go.Proofs.YthjmficglpfgpaaDoor
set_option linter.unusedVariables false
set_option linter.unusedSimpArgs false
open Go Go.RowKit Enc
set_option maxRecDepth 100000

theorem doer_nil (w : World) : (binOp .eql 139 .nilFunc .nilFunc).run Tryd.prog w = .ok (.bool true) w := by kernel_rfl
theorem doer_func (w : World) (f : Fn) (x y : Array Value) : (binOp .eql 139 (.func f x y) .nilFunc).run Tryd.prog w = .ok (.bool false) w := by kernel_rfl
def PayRes (w w' : World) (r : Except Int Pay) (e : Ending) : Prop :=
  Below w.heap.size w w' ∧ match r with
  | .error c => e = .returned (.tuple #[Pay.val (Pay.mk 0 0 0 0 0 0 0 0), .iface 38 (.int .i64 c)])
  | .ok q => e = .returned (.tuple #[q.val, .nilIface])
theorem by_any (op : Int) (w : World) (h : 4 ≤ op ∧ op ≤ 7) : Calls Tryd.prog 73 #[.int .i64 op] w fun e w' => w = w' ∧ e = .returned (.func (.func (if op = 4 then 95 else if op = 5 then 98 else if op = 6 then 96 else 97)) #[] #[]) := by
  have : op = 4 ∨ op = 5 ∨ op = 6 ∨ op = 7 := by omega
  clear h
  rcases this with rfl | rfl | rfl | rfl
  all_goals
    go_enter Tryd.func73, Tryd.ntmps73
    go_wp2
    go_ret
    exact ⟨rfl, rfl⟩
theorem by_none (op : Int) (w : World) (h : ¬(4 ≤ op ∧ op ≤ 7)) : Calls Tryd.prog 73 #[.int .i64 op] w fun e w' => w = w' ∧ e = .returned .nilFunc := by
  have h4 : (op == 4) = false := beq_eq_false_iff_ne.2 (by omega)
  have h5 : (op == 5) = false := beq_eq_false_iff_ne.2 (by omega)
  have h6 : (op == 6) = false := beq_eq_false_iff_ne.2 (by omega)
  have h7 : (op == 7) = false := beq_eq_false_iff_ne.2 (by omega)
  clear h
  go_enter Tryd.func73, Tryd.ntmps73
  go_wp2
  go_ret
  exact ⟨rfl, rfl⟩
theorem do_none (p : Pay) (op n : Int) (w : World) (h : ¬(4 ≤ op ∧ op ≤ 7)) : Calls Tryd.prog 42 #[p.val, .int .i64 op, .int .i64 n] w fun e w' => PayRes w w' (.error 13) e := by
  have H := Lib.hid h
  have hq := fun w => doer_nil w
  clear h
  go_enter Tryd.func42, Tryd.ntmps42
  go_wp2_with (go_at_call 73; refine (by_none _ _ H.out).mono ?_; rintro e w' ⟨rfl, rfl⟩)
  exact bodyPost_ret (v := .tuple #[Pay.val (Pay.mk 0 0 0 0 0 0 0 0), .iface 38 (.int .i64 13)]) (by simp [results, Tryd.results42, go_sem]) rfl ⟨below_alloc (below_alloc (Below.refl _ _) _) _, rfl⟩
theorem do_bad (p : Pay) (op n : Int) (w : World) (h : op = 4 ∨ op = 6 ∨ op = 7) (hn : n < 1) : Calls Tryd.prog 42 #[p.val, .int .i64 op, .int .i64 n] w fun e w' => PayRes w w' (.error 1) e := by
  rcases h with rfl | rfl | rfl
  all_goals
    have hq := fun w f x y => doer_func w f x y
    go_enter Tryd.func42, Tryd.ntmps42
    go_wp2_with (go_at_call 73; refine (by_any _ _ (by decide)).mono ?_; rintro e w' ⟨rfl, rfl⟩)
    exact bodyPost_ret (v := .tuple #[Pay.val (Pay.mk 0 0 0 0 0 0 0 0), .iface 38 (.int .i64 1)]) (by simp [results, Tryd.results42, go_sem]) rfl ⟨below_alloc (below_alloc (Below.refl _ _) _) _, rfl⟩
theorem agg_pay : AggT Tryd.prog 47 8 := ⟨⟨_, Tryd.underlying47, rfl⟩, by kernel_rfl⟩
theorem do_capture (p q : Pay) (n : Int) (w : World) (hn : 1 ≤ n) (hg : Hid (∀ w, Calls Tryd.prog 95 #[p.val, .int .i64 n] w fun e w' => DoerRes w w' (some q) e)) :
    Calls Tryd.prog 42 #[p.val, .int .i64 4, .int .i64 n] w fun e w' => PayRes w w' (.ok q) e := by
  have hq := fun w f x y => doer_func w f x y
  obtain ⟨q0, q1, q2, q3, q4, q5, q6, q7⟩ := q
  go_enter Tryd.func42, Tryd.ntmps42
  go_wp2_with (first | (go_at_call 73; refine (by_any _ _ (by decide)).mono ?_; rintro e w' ⟨rfl, rfl⟩) | (go_at_call 95; refine (hg.out _).mono ?_; rintro e w' ⟨hz, rfl⟩; have hj := (Blk.new1 w _ _ _).next hz; obtain ⟨j0, j1, j2, j3, j4, j5, j6, j7⟩ := hj.c8; have jf := hj.frozen; have zs : w.heap.size + 1 < w'.heap.size := by have := hz.size; simp at this; omega))
  refine bodyPost_ret (res_cell_tmp rfl _ rfl agg_pay rfl (hj.chain8.alloc _)) rfl ⟨?_, rfl⟩
  refine below_alloc ?_ _
  repeat (refine Below.setCell ?_ (by simp) _)
  exact below_next (below_alloc (below_alloc (Below.refl _ _) _) _) hz
theorem not_capture (p : Pay) (n : Int) (w : World) (hn : 1 ≤ n) (hg : Hid (∀ w, Calls Tryd.prog 95 #[p.val, .int .i64 n] w fun e w' => DoerRes w w' none e)) :
    Calls Tryd.prog 42 #[p.val, .int .i64 4, .int .i64 n] w fun e w' => PayRes w w' (.error 6) e := by
  have hq := fun w f x y => doer_func w f x y
  go_enter Tryd.func42, Tryd.ntmps42
  go_wp2_with (first | (go_at_call 73; refine (by_any _ _ (by decide)).mono ?_; rintro e w' ⟨rfl, rfl⟩) | (go_at_call 95; refine (hg.out _).mono ?_; rintro e w' ⟨hz, q, rfl⟩; obtain ⟨q0, q1, q2, q3, q4, q5, q6, q7⟩ := q; have hj := (Blk.new1 w _ _ _).next hz; obtain ⟨j0, j1, j2, j3, j4, j5, j6, j7⟩ := hj.c8; have jf := hj.frozen; have zs : w.heap.size + 1 < w'.heap.size := by have := hz.size; simp at this; omega))
  refine bodyPost_ret (res_cell_tmp rfl _ rfl agg_pay rfl (hj.chain8.alloc _)) rfl ⟨?_, rfl⟩
  refine below_alloc ?_ _
  repeat (refine Below.setCell ?_ (by simp) _)
  exact below_next (below_alloc (below_alloc (Below.refl _ _) _) _) hz
theorem do_shut (p q : Pay) (n : Int) (w : World) (hg : Hid (∀ w, Calls Tryd.prog 98 #[p.val, .int .i64 n] w fun e w' => DoerRes w w' (some q) e)) :
    Calls Tryd.prog 42 #[p.val, .int .i64 5, .int .i64 n] w fun e w' => PayRes w w' (.ok q) e := by
  have hq := fun w f x y => doer_func w f x y
  obtain ⟨q0, q1, q2, q3, q4, q5, q6, q7⟩ := q
  go_enter Tryd.func42, Tryd.ntmps42
  go_wp2_with (first | (go_at_call 73; refine (by_any _ _ (by decide)).mono ?_; rintro e w' ⟨rfl, rfl⟩) | (go_at_call 98; refine (hg.out _).mono ?_; rintro e w' ⟨hz, rfl⟩; have hj := (Blk.new1 w _ _ _).next hz; obtain ⟨j0, j1, j2, j3, j4, j5, j6, j7⟩ := hj.c8; have jf := hj.frozen; have zs : w.heap.size + 1 < w'.heap.size := by have := hz.size; simp at this; omega))
  refine bodyPost_ret (res_cell_tmp rfl _ rfl agg_pay rfl (hj.chain8.alloc _)) rfl ⟨?_, rfl⟩
  refine below_alloc ?_ _
  repeat (refine Below.setCell ?_ (by simp) _)
  exact below_next (below_alloc (below_alloc (Below.refl _ _) _) _) hz
theorem not_shut (p : Pay) (n : Int) (w : World) (hg : Hid (∀ w, Calls Tryd.prog 98 #[p.val, .int .i64 n] w fun e w' => DoerRes w w' none e)) :
    Calls Tryd.prog 42 #[p.val, .int .i64 5, .int .i64 n] w fun e w' => PayRes w w' (.error 6) e := by
  have hq := fun w f x y => doer_func w f x y
  go_enter Tryd.func42, Tryd.ntmps42
  go_wp2_with (first | (go_at_call 73; refine (by_any _ _ (by decide)).mono ?_; rintro e w' ⟨rfl, rfl⟩) | (go_at_call 98; refine (hg.out _).mono ?_; rintro e w' ⟨hz, q, rfl⟩; obtain ⟨q0, q1, q2, q3, q4, q5, q6, q7⟩ := q; have hj := (Blk.new1 w _ _ _).next hz; obtain ⟨j0, j1, j2, j3, j4, j5, j6, j7⟩ := hj.c8; have jf := hj.frozen; have zs : w.heap.size + 1 < w'.heap.size := by have := hz.size; simp at this; omega))
  refine bodyPost_ret (res_cell_tmp rfl _ rfl agg_pay rfl (hj.chain8.alloc _)) rfl ⟨?_, rfl⟩
  refine below_alloc ?_ _
  repeat (refine Below.setCell ?_ (by simp) _)
  exact below_next (below_alloc (below_alloc (Below.refl _ _) _) _) hz
theorem do_refund (p q : Pay) (n : Int) (w : World) (hn : 1 ≤ n) (hg : Hid (∀ w, Calls Tryd.prog 96 #[p.val, .int .i64 n] w fun e w' => DoerRes w w' (some q) e)) :
    Calls Tryd.prog 42 #[p.val, .int .i64 6, .int .i64 n] w fun e w' => PayRes w w' (.ok q) e := by
  have hq := fun w f x y => doer_func w f x y
  obtain ⟨q0, q1, q2, q3, q4, q5, q6, q7⟩ := q
  go_enter Tryd.func42, Tryd.ntmps42
  go_wp2_with (first | (go_at_call 73; refine (by_any _ _ (by decide)).mono ?_; rintro e w' ⟨rfl, rfl⟩) | (go_at_call 96; refine (hg.out _).mono ?_; rintro e w' ⟨hz, rfl⟩; have hj := (Blk.new1 w _ _ _).next hz; obtain ⟨j0, j1, j2, j3, j4, j5, j6, j7⟩ := hj.c8; have jf := hj.frozen; have zs : w.heap.size + 1 < w'.heap.size := by have := hz.size; simp at this; omega))
  refine bodyPost_ret (res_cell_tmp rfl _ rfl agg_pay rfl (hj.chain8.alloc _)) rfl ⟨?_, rfl⟩
  refine below_alloc ?_ _
  repeat (refine Below.setCell ?_ (by simp) _)
  exact below_next (below_alloc (below_alloc (Below.refl _ _) _) _) hz
theorem not_refund (p : Pay) (n : Int) (w : World) (hn : 1 ≤ n) (hg : Hid (∀ w, Calls Tryd.prog 96 #[p.val, .int .i64 n] w fun e w' => DoerRes w w' none e)) :
    Calls Tryd.prog 42 #[p.val, .int .i64 6, .int .i64 n] w fun e w' => PayRes w w' (.error 6) e := by
  have hq := fun w f x y => doer_func w f x y
  go_enter Tryd.func42, Tryd.ntmps42
  go_wp2_with (first | (go_at_call 73; refine (by_any _ _ (by decide)).mono ?_; rintro e w' ⟨rfl, rfl⟩) | (go_at_call 96; refine (hg.out _).mono ?_; rintro e w' ⟨hz, q, rfl⟩; obtain ⟨q0, q1, q2, q3, q4, q5, q6, q7⟩ := q; have hj := (Blk.new1 w _ _ _).next hz; obtain ⟨j0, j1, j2, j3, j4, j5, j6, j7⟩ := hj.c8; have jf := hj.frozen; have zs : w.heap.size + 1 < w'.heap.size := by have := hz.size; simp at this; omega))
  refine bodyPost_ret (res_cell_tmp rfl _ rfl agg_pay rfl (hj.chain8.alloc _)) rfl ⟨?_, rfl⟩
  refine below_alloc ?_ _
  repeat (refine Below.setCell ?_ (by simp) _)
  exact below_next (below_alloc (below_alloc (Below.refl _ _) _) _) hz
theorem do_charge (p q : Pay) (n : Int) (w : World) (hn : 1 ≤ n) (hg : Hid (∀ w, Calls Tryd.prog 97 #[p.val, .int .i64 n] w fun e w' => DoerRes w w' (some q) e)) :
    Calls Tryd.prog 42 #[p.val, .int .i64 7, .int .i64 n] w fun e w' => PayRes w w' (.ok q) e := by
  have hq := fun w f x y => doer_func w f x y
  obtain ⟨q0, q1, q2, q3, q4, q5, q6, q7⟩ := q
  go_enter Tryd.func42, Tryd.ntmps42
  go_wp2_with (first | (go_at_call 73; refine (by_any _ _ (by decide)).mono ?_; rintro e w' ⟨rfl, rfl⟩) | (go_at_call 97; refine (hg.out _).mono ?_; rintro e w' ⟨hz, rfl⟩; have hj := (Blk.new1 w _ _ _).next hz; obtain ⟨j0, j1, j2, j3, j4, j5, j6, j7⟩ := hj.c8; have jf := hj.frozen; have zs : w.heap.size + 1 < w'.heap.size := by have := hz.size; simp at this; omega))
  refine bodyPost_ret (res_cell_tmp rfl _ rfl agg_pay rfl (hj.chain8.alloc _)) rfl ⟨?_, rfl⟩
  refine below_alloc ?_ _
  repeat (refine Below.setCell ?_ (by simp) _)
  exact below_next (below_alloc (below_alloc (Below.refl _ _) _) _) hz
theorem not_charge (p : Pay) (n : Int) (w : World) (hn : 1 ≤ n) (hg : Hid (∀ w, Calls Tryd.prog 97 #[p.val, .int .i64 n] w fun e w' => DoerRes w w' none e)) :
    Calls Tryd.prog 42 #[p.val, .int .i64 7, .int .i64 n] w fun e w' => PayRes w w' (.error 6) e := by
  have hq := fun w f x y => doer_func w f x y
  go_enter Tryd.func42, Tryd.ntmps42
  go_wp2_with (first | (go_at_call 73; refine (by_any _ _ (by decide)).mono ?_; rintro e w' ⟨rfl, rfl⟩) | (go_at_call 97; refine (hg.out _).mono ?_; rintro e w' ⟨hz, q, rfl⟩; obtain ⟨q0, q1, q2, q3, q4, q5, q6, q7⟩ := q; have hj := (Blk.new1 w _ _ _).next hz; obtain ⟨j0, j1, j2, j3, j4, j5, j6, j7⟩ := hj.c8; have jf := hj.frozen; have zs : w.heap.size + 1 < w'.heap.size := by have := hz.size; simp at this; omega))
  refine bodyPost_ret (res_cell_tmp rfl _ rfl agg_pay rfl (hj.chain8.alloc _)) rfl ⟨?_, rfl⟩
  refine below_alloc ?_ _
  repeat (refine Below.setCell ?_ (by simp) _)
  exact below_next (below_alloc (below_alloc (Below.refl _ _) _) _) hz
theorem payDo_any (p : Pay) (op n : Int) (w : World) (hp : PayOk p) : Calls Tryd.prog 42 #[p.val, .int .i64 op, .int .i64 n] w fun e w' => PayRes w w' (payDo p op n) e := by
  unfold payDo
  by_cases h1 : 4 ≤ op ∧ op ≤ 7
  rotate_left
  · rw [if_pos h1]
    exact do_none p op n w h1
  rw [if_neg (by simpa using h1)]
  by_cases h2 : ¬ op = 5 ∧ n < 1
  · rw [if_pos h2]
    exact do_bad p op n w (by omega) h2.2
  rw [if_neg h2]
  have hn : op = 5 ∨ 1 ≤ n := by omega
  have hop : op = 4 ∨ op = 5 ∨ op = 6 ∨ op = 7 := by omega
  rcases hop with rfl | rfl | rfl | rfl
  · have hn' : 1 ≤ n := by omega
    simp only [if_true]
    by_cases h : n ≤ left p
    · rw [if_pos h]
      exact do_capture p _ n w hn' (fun w => capture_yes p n w hp hn' h)
    · rw [if_neg h]
      exact not_capture p n w hn' (fun w => capture_no p n w hp hn' h)
  · simp only [Int.reduceEq, if_false, if_true]
    rcases hp.stage with h | h
    · rw [if_pos h]
      exact do_shut p _ n w (fun w => shut_yes p n w h)
    · rw [if_neg (by omega)]
      exact not_shut p n w (fun w => shut_no p n w h)
  · have hn' : 1 ≤ n := by omega
    simp only [Int.reduceEq, if_false, if_true]
    by_cases h : n ≤ gave p
    · rw [if_pos h]
      exact do_refund p _ n w hn' (fun w => refund_yes p n w hp hn' h)
    · rw [if_neg h]
      exact not_refund p n w hn' (fun w => refund_no p n w hp hn' h)
  · have hn' : 1 ≤ n := by omega
    simp only [Int.reduceEq, if_false]
    by_cases h : n ≤ gave p
    · rw [if_pos h]
      exact do_charge p _ n w hn' (fun w => charge_yes p n w hp hn' h)
    · rw [if_neg h]
      exact not_charge p n w hn' (fun w => charge_no p n w hp hn' h)
end Go.Proofs.YthjmficglpfgpaaDoor
namespace Go.Proofs.YthjmficglpfgpaaDoor
set_option linter.unusedVariables false
set_option linter.unusedSimpArgs false
open Go Go.RowKit Enc
set_option maxRecDepth 100000

/-- A test's answer. -/
def SomeB (P : Prop) (w w' : World) (e : Ending) : Prop := ∃ b, e = .returned (.bool b) ∧ (b = true ↔ P) ∧ Below w.heap.size w w'

structure ReqOk (r : Req) : Prop where
  key : 0 ≤ r.key ∧ r.key < 1073741824
  legs : 0 ≤ r.legs ∧ r.legs ≤ 4
  til : 0 ≤ r.til ∧ r.til ≤ 1073741824
  long : 0 < r.legs → r.op = 2
  op : 0 ≤ r.op ∧ r.op ≤ 7
  cur : r.op = 0 → 0 ≤ r.a ∧ r.a < 3
  amt : r.op ≠ 0 → r.op ≠ 5 → 1 ≤ r.amt ∧ r.amt ≤ 1099511627776
theorem reqOk_iff (r : Req) : ReqOk r ↔ ((0 ≤ r.key ∧ r.key < 1073741824) ∧ (0 ≤ r.legs ∧ r.legs ≤ 4) ∧ (0 ≤ r.til ∧ r.til ≤ 1073741824) ∧ (0 < r.legs → r.op = 2) ∧ (0 ≤ r.op ∧ r.op ≤ 7) ∧ (r.op = 0 → 0 ≤ r.a ∧ r.a < 3) ∧ (¬ r.op = 0 → ¬ r.op = 5 → 1 ≤ r.amt ∧ r.amt ≤ 1099511627776)) :=
  ⟨fun h => ⟨h.key, h.legs, h.til, h.long, h.op, h.cur, h.amt⟩, fun ⟨a, b, c, d, e, f, g⟩ => ⟨a, b, c, d, e, f, g⟩⟩
instance (r : Req) : Decidable (ReqOk r) := decidable_of_iff _ (reqOk_iff r).symm
theorem may_req (r : Req) (w : World) : Calls Tryd.prog 29 #[r.val] w fun e w' => SomeB (ReqOk r) w w' e := by
  obtain ⟨key, op, a, b, amt, legs, til⟩ := r
  go_enter Tryd.func29, Tryd.ntmps29
  go_wp2
  all_goals
    go_ret
    refine ⟨_, rfl, ?_, below_alloc (Below.refl _ _) _⟩
    rw [reqOk_iff]
    simp only [beq_iff_eq, beq_eq_false_iff_ne, bne_iff_ne, bne_eq_false_iff_eq, ne_eq, Array.getD_eq_getD_getElem?, List.getElem?_toArray, List.getElem?_cons_zero, List.getElem?_cons_succ, Option.getD_some, decide_eq_true_eq, Bool.false_eq_true, false_iff, true_iff, Bool.and_eq_true] at *
    omega
/-- Does a request go on in steps? -/
def longB (r : Req) : Bool := decide (0 < r.legs ∧ r.op = 2)
theorem long_any (r : Req) (w : World) : Calls Tryd.prog 50 #[r.val] w fun e w' => e = .returned (.bool (longB r)) ∧ Below w.heap.size w w' := by
  obtain ⟨key, op, a, b, amt, legs, til⟩ := r
  unfold longB
  go_enter Tryd.func50, Tryd.ntmps50
  go_wp2
  all_goals
    go_ret
    refine ⟨?_, below_alloc (Below.refl _ _) _⟩
    simp_all
    first | omega | (rw [Bool.eq_iff_iff]; simp)
end Go.Proofs.YthjmficglpfgpaaDoor
namespace Go.Proofs.YthjmficglpfgpaaDoor
set_option linter.unusedVariables false
set_option linter.unusedSimpArgs false
open Go Go.RowKit Enc
set_option maxRecDepth 100000

/-- Accounts that may be. -/
structure Good (xs : List Acc) : Prop where
  len9 : 9 ≤ xs.length
  len64 : xs.length ≤ 64
  cur : ∀ k : Int, 0 ≤ k → k < xs.length → 0 ≤ (rd xs k).cur ∧ (rd xs k).cur < 3
  bal : ∀ k : Int, 0 ≤ k → k < xs.length → -1125899906842624 ≤ (rd xs k).bal ∧ (rd xs k).bal ≤ 1125899906842624
  house : ∀ k : Int, 0 ≤ k → k < 9 → (rd xs k).cur = k / 3 ∧ (rd xs k).held = 0
  client : ∀ k : Int, 9 ≤ k → k < xs.length → 0 ≤ (rd xs k).held ∧ (rd xs k).held ≤ (rd xs k).bal
theorem Good.curOk {xs : List Acc} (h : Good xs) : CurOk xs := h.cur
theorem Good.abs {xs : List Acc} (h : Good xs) : ABs xs := by
  refine ⟨by have := h.len64; omega, fun k h0 hk => ⟨h.bal k h0 hk, ?_⟩⟩
  have hb := h.bal k h0 hk
  by_cases h9 : k < 9
  · have := (h.house k h0 h9).2; omega
  · have := h.client k (by omega) hk; omega

theorem psum_bd (xs : List Acc) (c : Int) (M : Int) (hM : 0 ≤ M) : ∀ es : List Ent, (∀ e ∈ es, -M ≤ e.amt ∧ e.amt ≤ M) → -(es.length * M) ≤ psum xs c es ∧ psum xs c es ≤ es.length * M
  | [], _ => by simp [psum]
  | e :: es, h => by
    have h1 := psum_bd xs c M hM es fun x hx => h x (List.mem_cons_of_mem _ hx)
    have h2 := h e (List.mem_cons_self ..)
    have e1 : ((es.length + 1 : Nat) : Int) * M = es.length * M + M := by rw [Int.natCast_add, Int.add_mul]; simp
    simp only [psum, List.length_cons, e1]
    split <;> omega
theorem Bal.small {xs : List Acc} {es : List Ent} (hl : es.length ≤ 8) (hcur : CurOk xs) (h : ∀ e ∈ es, (0 ≤ e.acct ∧ e.acct < xs.length) ∧ -4398046511104 ≤ e.amt ∧ e.amt ≤ 4398046511104) (hz : ∀ c : Int, 0 ≤ c → c < 3 → psum xs c es = 0) : Bal xs es := by
  have hm : ∀ k : Nat, k < es.length → rd es k ∈ es := fun k hk => by rw [rd_nat es k hk]; exact List.getElem_mem hk
  refine ⟨fun k hk => (h _ (hm k hk)).1, fun k hk => by have := (h _ (hm k hk)).2; unfold mayP; omega, fun k hk => hcur _ (h _ (hm k hk)).1.1 (h _ (hm k hk)).1.2, fun c k h0 h3 hk => ?_, hz⟩
  have := psum_bd xs c 4398046511104 (by decide) (es.take k) fun e he => (h e (List.mem_of_mem_take he)).2
  have hl2 : ((es.take k).length : Int) ≤ 8 := by simp; omega
  unfold mayP
  omega
theorem psum_rev (xs : List Acc) (c : Int) : ∀ es : List Ent, psum xs c es.reverse = psum xs c es
  | [] => rfl
  | e :: es => by rw [List.reverse_cons, psum_append, psum_rev xs c es]; simp only [psum]; omega
theorem psum_neg (xs : List Acc) (c : Int) : ∀ es : List Ent, psum xs c (es.map neg) = - psum xs c es
  | [] => rfl
  | e :: es => by
    rw [List.map_cons]
    simp only [psum, psum_neg xs c es, neg]
    split <;> omega
theorem psum_back (xs : List Acc) (c : Int) (es : List Ent) : psum xs c (back es) = - psum xs c es := by
  unfold back
  first | rw [psum_rev, psum_neg] | rw [psum_neg, psum_rev] | simp [psum_rev, psum_neg]

/-- What the entries of a move are. -/
structure MoveOk (xs : List Acc) (frm to n : Int) (es : List Ent) : Prop where
  len : 2 ≤ es.length ∧ es.length ≤ 4
  all : ∀ e ∈ es, (0 ≤ e.acct ∧ e.acct < xs.length) ∧ -1099511627776 ≤ e.amt ∧ e.amt ≤ 1099511627776
  zero : ∀ c : Int, psum xs c es = 0
  head : rd es 0 = ⟨frm, -n⟩
  last : (rd (back es) 0).acct = to ∧ -1099511627776 ≤ (rd (back es) 0).amt ∧ (rd (back es) 0).amt < 0
theorem move_moveOk {xs : List Acc} {frm to n : Int} {es : List Ent} (hG : Good xs) (h : move xs frm to n = .ok es) : MoveOk xs frm to n es := by
  have h9 := hG.len9
  unfold move at h
  split at h
  · cases h
  rename_i h1
  split at h
  · cases h
  rename_i h2
  split at h
  · cases h
  rename_i h3
  have hn : 1 ≤ n ∧ n ≤ 1099511627776 := by
    rcases Decidable.em (1 ≤ n ∧ n ≤ 1099511627776) with h | h
    · exact h
    · exact absurd (.inr h) h3
  have h1' : 0 ≤ frm ∧ frm < xs.length := Decidable.not_not.1 h1
  have h2' : 0 ≤ to ∧ to < xs.length := Decidable.not_not.1 h2
  split at h
  · rename_i hc
    injection h with h
    subst h
    refine ⟨by simp, ?_, fun c => ?_, rfl, ?_⟩
    · simp only [List.mem_cons, List.not_mem_nil, or_false]
      rintro e (rfl | rfl)
      · exact ⟨h1', by simp; omega⟩
      · exact ⟨h2', by simp; omega⟩
    · simp only [psum, hc]
      split <;> omega
    · simp [back, neg, rd]; omega
  rename_i hc
  split at h
  · cases h
  rename_i h5
  split at h
  · cases h
  rename_i h6
  injection h with h
  subst h
  obtain ⟨a0, a3⟩ := hG.cur frm h1'.1 h1'.2
  obtain ⟨b0, b3⟩ := hG.cur to h2'.1 h2'.2
  have hq : n * (rate (rd xs frm).cur (rd xs to).cur).1 / (rate (rd xs frm).cur (rd xs to).cur).2 ≤ 1099511627776 := by simpa using h5
  obtain ⟨⟨r1, r2⟩, r3, r4⟩ := rate_bd (rd xs frm).cur (rd xs to).cur
  have hx0 : 0 ≤ n * (rate (rd xs frm).cur (rd xs to).cur).1 := Int.mul_nonneg (by omega) (by omega)
  have hq0 : 0 ≤ n * (rate (rd xs frm).cur (rd xs to).cur).1 / (rate (rd xs frm).cur (rd xs to).cur).2 := Int.ediv_nonneg hx0 (by omega)
  generalize n * (rate (rd xs frm).cur (rd xs to).cur).1 / (rate (rd xs frm).cur (rd xs to).cur).2 = q at *
  have e1 := (hG.house (3 * (rd xs frm).cur + 1) (by omega) (by omega)).1
  have e2 := (hG.house (3 * (rd xs to).cur + 1) (by omega) (by omega)).1
  generalize hA : (rd xs frm).cur = a at *
  generalize hB : (rd xs to).cur = b at *
  refine ⟨by simp, ?_, fun c => ?_, rfl, ?_⟩
  · simp only [List.mem_cons, List.not_mem_nil, or_false]
    rintro e (rfl | rfl | rfl | rfl)
    · exact ⟨h1', by simp; omega⟩
    · exact ⟨by simp; omega, by simp; omega⟩
    · exact ⟨by simp; omega, by simp; omega⟩
    · exact ⟨h2', by simp; omega⟩
  · simp only [psum, hA, hB, e1, e2]
    have x1 : (3 * a + 1) / 3 = a := by omega
    have x2 : (3 * b + 1) / 3 = b := by omega
    rw [x1, x2]
    (repeat' split) <;> omega
  · simp [back, neg, rd]; omega
theorem MoveOk.bal {xs : List Acc} {frm to n : Int} {es : List Ent} (hG : Good xs) (h : MoveOk xs frm to n es) : Bal xs es :=
  Bal.small (by have := h.len; omega) hG.cur (fun e he => ⟨(h.all e he).1, by have := (h.all e he).2; omega⟩) fun c _ _ => h.zero c
theorem mem_back {es : List Ent} {e : Ent} (h : e ∈ back es) : ∃ x ∈ es, e = neg x := by
  unfold back at h
  simp only [List.mem_reverse, List.mem_map] at h
  obtain ⟨x, hx, rfl⟩ := h
  exact ⟨x, hx, rfl⟩
theorem back_len (es : List Ent) : (back es).length = es.length := by simp [back]
theorem MoveOk.backs {xs : List Acc} {frm to n : Int} {es : List Ent} (h : MoveOk xs frm to n es) : ∀ e ∈ back es, (0 ≤ e.acct ∧ e.acct < xs.length) ∧ -1099511627776 ≤ e.amt ∧ e.amt ≤ 1099511627776 := by
  intro e he
  obtain ⟨x, hx, rfl⟩ := mem_back he
  obtain ⟨h1, h2⟩ := h.all x hx
  exact ⟨h1, by simp [neg]; omega⟩
theorem MoveOk.backBal {xs : List Acc} {frm to n : Int} {es : List Ent} (hG : Good xs) (h : MoveOk xs frm to n es) : Bal xs (back es) :=
  Bal.small (by rw [back_len]; have := h.len; omega) hG.cur (fun e he => ⟨(h.backs e he).1, by have := (h.backs e he).2; omega⟩) fun c _ _ => by rw [psum_back, h.zero c]; rfl
/-- What a charge makes of the entries, where the seller lacks l. -/
def lossy (xs : List Acc) (to l : Int) (es : List Ent) : List Ent := es.set 0 { rd es 0 with amt := (rd es 0).amt + l } ++ [⟨3 * (rd xs to).cur + 2, -l⟩]
theorem lossy_bal {xs : List Acc} {frm to n l : Int} {es : List Ent} (hG : Good xs) (h : MoveOk xs frm to n es) (h2 : 0 ≤ to ∧ to < xs.length) (hl : -1125899906842624 ≤ l ∧ l ≤ 1099511627776) (hl0 : 0 ≤ l) : Bal xs (lossy xs to l (back es)) := by
  obtain ⟨b0, b3⟩ := hG.cur to h2.1 h2.2
  have h9 := hG.len9
  have e2 := (hG.house (3 * (rd xs to).cur + 2) (by omega) (by omega)).1
  have hb := h.backs
  have hz : ∀ c, psum xs c (back es) = 0 := fun c => by rw [psum_back, h.zero c]; rfl
  have hlen : (back es).length ≤ 4 := by rw [back_len]; exact h.len.2
  have hlen2 : 2 ≤ (back es).length := by rw [back_len]; exact h.len.1
  have hla := h.last
  generalize back es = fs at *
  cases fs with
  | nil => simp at hlen2
  | cons f fs =>
    have hf : rd (f :: fs) 0 = f := rfl
    rw [hf] at hla
    unfold lossy
    rw [hf, List.set_cons_zero]
    obtain ⟨hla1, hla2⟩ := hla
    refine Bal.small (by simp at hlen ⊢; omega) hG.cur ?_ fun c _ _ => ?_
    · intro e he
      simp only [List.cons_append, List.mem_cons, List.mem_append, List.not_mem_nil, or_false] at he
      rcases he with rfl | he | rfl
      · exact ⟨by simp only [hla1]; exact h2, by simp only; omega⟩
      · have := hb e (List.mem_cons_of_mem _ he); exact ⟨this.1, by omega⟩
      · exact ⟨by simp only; omega, by simp only; omega⟩
    · have := hz c
      rw [psum_append]
      simp only [psum, hla1] at this ⊢
      rw [e2]
      have x2 : (3 * (rd xs to).cur + 2) / 3 = (rd xs to).cur := by omega
      rw [x2]
      split <;> simp_all <;> omega

theorem Bal.congr {xs ys : List Acc} {es : List Ent} (h : Bal xs es) (hl : ys.length = xs.length) (hc : ∀ k : Int, 0 ≤ k → k < xs.length → (rd ys k).cur = (rd xs k).cur) : Bal ys es := by
  have hs : ∀ (c : Int) (fs : List Ent), (∀ e ∈ fs, 0 ≤ e.acct ∧ e.acct < xs.length) → psum ys c fs = psum xs c fs := by
    intro c fs
    induction fs with
    | nil => intro _; rfl
    | cons f fs ih =>
      intro hf
      have h1 := hf f (List.mem_cons_self ..)
      simp only [psum, ih fun e he => hf e (List.mem_cons_of_mem _ he), hc f.acct h1.1 h1.2]
  have ha : ∀ e ∈ es, 0 ≤ e.acct ∧ e.acct < xs.length := fun e he => by
    obtain ⟨k, hk, rfl⟩ := List.getElem_of_mem he
    have := h.acct k hk
    rwa [rd_nat es k hk] at this
  refine ⟨fun k hk => by rw [hl]; exact h.acct k hk, h.amt, fun k hk => by rw [hc _ (h.acct k hk).1 (h.acct k hk).2]; exact h.cur k hk, fun c k h0 h3 hk => ?_, fun c h0 h3 => by rw [hs c es ha]; exact h.zero c h0 h3⟩
  rw [hs c _ fun e he => ha e (List.mem_of_mem_take he)]
  exact h.sums c k h0 h3 hk
theorem release_ok {xs ys : List Acc} {k n : Int} (hA : ABs xs) (h : release xs k n = .ok ys) : ABs ys ∧ ys.length = xs.length ∧ ∀ j : Int, 0 ≤ j → j < xs.length → (rd ys j).cur = (rd xs j).cur := by
  unfold release at h
  split at h
  · cases h
  rename_i h1
  have h1' : 9 ≤ k ∧ k < xs.length := Decidable.not_not.1 h1
  split at h
  · cases h
  rename_i h2
  split at h
  · cases h
  rename_i h3
  injection h with h
  subst h
  have := hA.2 k (by omega) h1'.2
  refine ⟨hA.upd (by omega) ⟨this.1, ?_⟩, upd_len _ _ _, fun j h0 hj => ?_⟩
  · have := this.2
    simp only
    omega
  · rw [rd_upd xs k j _ h0 hj (by omega)]
    split
    · rename_i hjk; subst hjk; rfl
    · rfl
/-- Letting an amount go that was held, and doing entries. -/
def spend (xs : List Acc) (n : Int) (es : List Ent) : Except Int (List Acc) := if es.length = 0 then .error 13 else (release xs (rd es 0).acct n).bind fun ys => post ys es
end Go.Proofs.YthjmficglpfgpaaDoor
