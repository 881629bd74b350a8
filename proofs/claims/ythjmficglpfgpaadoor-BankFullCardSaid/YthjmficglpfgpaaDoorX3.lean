/- The desk: a state while a request is done. The desk: a payment is put. The desk: a payment, and it behind an op; the entries by which an amount goes back. The entries by which an amount of a payment goes back; moving an amount at the desk. Spending; the desk: moving an amount. The desk: deposit and transfer. The desk: open. The desk: what is done with a payment: void. The desk: capture (printed by tools/deskpay.py). The desk: refund (printed by tools/deskpay.py). -/
import Derived.Test.YthjmficglpfgpaaDoorX2
import Derived.Test.YthjmficglpfgpaaDoorX1
import Derived.StillTailTactics
import Derived.Deep.MidRow
namespace Go.Proofs.YthjmficglpfgpaaDoor
set_option linter.unusedVariables false
set_option linter.unusedSimpArgs false
open Go Go.RowKit Enc
set_option maxRecDepth 100000

instance : Enc Int where
  sz := 1
  enc x := [.int .i64 x]
  len _ := rfl
  one x u h := by simp only [List.mem_cons, List.not_mem_nil, or_false] at h; subst h; rfl
  pos := by decide
theorem Row.int {w : World} {v : Value} {xs : List Int} (h : Row w v xs) (k : Nat) (hk : k < xs.length) : ∃ b o c, v = .slice (some ⟨b, o, none⟩) xs.length c ∧ w.cell? ⟨b, o + k, none⟩ = some (.int .i64 (rd xs k)) ∧ b < w.heap.size := by
  obtain ⟨b, o, c, hv, hc⟩ := h.at k hk
  have h0 : w.cell? ⟨b, o + k, none⟩ = some (.int .i64 (rd xs k)) := by
    have := hc 0 _ rfl
    simpa [sz] using this
  exact ⟨b, o, c, hv, h0, cell_lt h0⟩
/-- A new box of several reads as a slice of them. -/
theorem Row.lit {α : Type} [Enc α] (w : World) (xs : List α) (cs : Array Value) (hcs : cs.toList = xs.flatMap enc) (e : TypeId) (n : Nat) (hn : xs.length = n) (hm : n ≤ 1000) : Row (w.alloc (.cells cs e)) (.slice (some ⟨w.heap.size, 0, none⟩) n n) xs := by
  subst hn
  refine ⟨_, _, rfl, by simp [maxLen]; omega, fun k hk => ⟨_, _, rfl, fun j u hu => ?_⟩⟩
  rw [(Blk.new w e cs).cell]
  have := flat_get xs k hk j u hu
  rw [← hcs] at this
  simpa using this

/-- A region that draws its order, whose operations but the last ones, which have one order, only read. -/
theorem still_tail {P : Program} {id : Nat} {Q : Exit → Go.Act → World → Prop} {a : Go.Act} {w : World} {l : List Oper} (n : Nat) (hm : P.follows .mixedOrders = true) (hB : Region.lexTailB .any l.toArray n = true)
    (h : ∀ wd : World, Hid (wd = w.drew) → (∀ b, wd.cell? b = w.cell? b) → (∀ b, wd.frozen? b = w.frozen? b) → wd.heap.size = w.heap.size → wpStill P l.toArray wd (fun a' => wpList P l.toArray Q (l.drop n) a' wd) (l.take n) a) : (Code.region id l.toArray true).wp P Q a w :=
  wp_region_still_tail n hm hB (h w.drew rfl (fun _ => rfl) (fun _ => rfl) rfl)

/-- The world by what is known of it. -/
theorem abs_world {P : Program} {c : Code} {Q : Exit → Go.Act → World → Prop} {a : Go.Act} {w : World} (F : World → Prop) (hF : F w) (h : ∀ W, F W → c.wp P Q a W) : c.wp P Q a w := h w hF
theorem Blk.new2' (w : World) (o o' : Obj) (t : TypeId) (cs : Array Value) : Blk (((w.alloc o).alloc o').alloc (.cells cs t)) (w.heap.size + 1 + 1) t cs := Blk.new2 w o o' t cs
theorem Blk.c7 {w : World} {g : Nat} {t : TypeId} {a0 a1 a2 a3 a4 a5 a6 : Value} (h : Blk w g t #[a0, a1, a2, a3, a4, a5, a6]) :
    w.cell? ⟨g, 0, none⟩ = some a0 ∧ w.cell? ⟨g, 1, none⟩ = some a1 ∧ w.cell? ⟨g, 2, none⟩ = some a2 ∧ w.cell? ⟨g, 3, none⟩ = some a3 ∧ w.cell? ⟨g, 4, none⟩ = some a4 ∧ w.cell? ⟨g, 5, none⟩ = some a5 ∧ w.cell? ⟨g, 6, none⟩ = some a6 :=
  ⟨h.cell 0, h.cell 1, h.cell 2, h.cell 3, h.cell 4, h.cell 5, h.cell 6⟩
theorem Blk.c2 {w : World} {g : Nat} {t : TypeId} {a0 a1 : Value} (h : Blk w g t #[a0, a1]) : w.cell? ⟨g, 0, none⟩ = some a0 ∧ w.cell? ⟨g, 1, none⟩ = some a1 := ⟨h.cell 0, h.cell 1⟩

structure St where
  accs : List Acc
  pays : List Pay
  sagas : List Saga
  known : List Kn
  now : Int

theorem Blk.c5 {w : World} {g : Nat} {t : TypeId} {a0 a1 a2 a3 a4 : Value} (h : Blk w g t #[a0, a1, a2, a3, a4]) :
    w.cell? ⟨g, 0, none⟩ = some a0 ∧ w.cell? ⟨g, 1, none⟩ = some a1 ∧ w.cell? ⟨g, 2, none⟩ = some a2 ∧ w.cell? ⟨g, 3, none⟩ = some a3 ∧ w.cell? ⟨g, 4, none⟩ = some a4 :=
  ⟨h.cell 0, h.cell 1, h.cell 2, h.cell 3, h.cell 4⟩
/-- The desk at block g holds these cells. -/
abbrev DeskAt (w : World) (g : Nat) (a p s k : Value) (now : Int) : Prop := Blk w g 97 #[a, p, s, k, .int .i64 now]

theorem Blk.newS (w : World) (a : Addr) (v : Value) (t : TypeId) (cs : Array Value) : Blk ((w.setCell a v).alloc (.cells cs t)) w.heap.size t cs := by
  have := Blk.new (w.setCell a v) t cs
  rwa [World.size_setCell] at this
theorem _root_.Go.World.grownBy.alloc_ {w w' : World} {row : Option Nat} (h : w.grownBy w' row) (o : Obj) : w.grownBy (w'.alloc o) row := World.grownBy.trans h (World.grownBy_alloc w' o row)
theorem _root_.Go.World.grownBy.setCell {w w' : World} {g : Nat} (h : w.grownBy w' (some g)) {a : Addr} (ha : a.block = g) (u : Value) : w.grownBy (w'.setCell a u) (some g) :=
  ⟨h.os, h.tape, h.output, by simpa using h.size, fun k hk hne => (Below.heap_setCell w' a u k (fun e => hne (by rw [e, ha]))).trans (h.block k hk hne)⟩
theorem only_below {w0 w w' : World} {g : Nat} (h : Below w0.heap.size w0 w) (hg : w.grownBy w' (some g)) (h0 : w0.heap.size ≤ g) : Below w0.heap.size w0 w' := h.grown hg h.size (fun k hk => by injection hk with hk; omega)
/-- Nothing that stood has changed, but for block g. -/
theorem only_of_below {w w' : World} (h : Below w.heap.size w w') (g : Nat) : w.grownBy w' (some g) := ⟨h.os, h.tape, h.output, h.size, fun i hi _ => h.block i hi⟩

def allCl (xs : List Acc) (ks : List Int) : Bool := ks.all fun k => isCl xs k
def ClRel (w : World) (xs : List Acc) (ks : List Int) (i : Value) (wr : World) : Prop := ∃ k : Nat, k ≤ ks.length ∧ i = .int .i64 k ∧ w = wr ∧ ∀ j : Nat, j < k → isCl xs (rd ks (j : Int)) = true
theorem clients_any (g : Nat) (a p s kn : Value) (now : Int) (xs : List Acc) (ks : List Int) (y : Value) (w : World) (hd : DeskAt w g a p s kn now) (ha : Row w a xs) (hk : Row w y ks) :
    Calls Tryd.prog 87 #[.pointer (some ⟨g, 0, none⟩), y] w fun e w' => w = w' ∧ e = .returned (.bool (allCl xs ks)) := by
  have hm := hk.max
  obtain ⟨g0, g1, g2, g3, g4⟩ := hd.c5
  obtain ⟨A, c, rfl⟩ := hk.slice
  go_enter Tryd.func87, Tryd.ntmps87
  go_wp2
  go_loopw [9] (fun i wr => ClRel w xs ks i wr) (fun i _ => ks.length - (intOf i).toNat)
  case atStart => exact ⟨0, by omega, rfl, rfl, fun j hj => by omega⟩
  case round =>
    obtain ⟨k, hkk, rfl, rfl, hok⟩ := hrel
    by_cases hlt : k < ks.length
    · obtain ⟨b, o, c', hv, c1, hl⟩ := hk.int k hlt
      injection hv with hv1 _ hv3
      subst hv1 hv3
      cases hc : isCl xs (rd ks (k : Int)) with
      | true =>
        have HC := Lib.hid hc
        clear hc
        go_wp2_with (go_at_call 57; refine (isClient_any _ xs _ _ ha).mono ?_; rintro e w' ⟨rfl, rfl⟩; rw [HC.out])
        exact ⟨⟨k + 1, by omega, by go_num, rfl, fun j hj => by rcases Nat.lt_succ_iff_lt_or_eq.1 hj with hj | rfl; exact hok j hj; exact HC.out⟩, by simp [intOf]; omega⟩
      | false =>
        have HC := Lib.hid hc
        have hr := Lib.hid (show allCl xs ks = false by
          unfold allCl
          rw [List.all_eq_false]
          exact ⟨rd ks (k : Int), by rw [rd_nat ks k hlt]; exact List.getElem_mem hlt, by simp [hc]⟩)
        clear hc
        go_wp2_with (go_at_call 57; refine (isClient_any _ xs _ _ ha).mono ?_; rintro e w' ⟨rfl, rfl⟩; rw [HC.out])
        go_ret
        exact ⟨rfl, by rw [hr.out]; rfl⟩
    · have hr := Lib.hid (show allCl xs ks = true by
        unfold allCl
        rw [List.all_eq_true]
        intro x hx
        obtain ⟨j, hj, rfl⟩ := List.getElem_of_mem hx
        rw [← rd_nat ks j hj]
        exact hok j (by omega))
      clear hok
      go_wp2
      go_ret
      exact ⟨rfl, by rw [hr.out]; rfl⟩

theorem agg_rep : AggT Tryd.prog 40 2 := ⟨⟨_, Tryd.underlying40, rfl⟩, by kernel_rfl⟩
theorem take_yes (g : Nat) (a p s kn : Value) (A : Option Addr) (n c : Nat) (now id : Int) (w : World) (hd : DeskAt w g a p s kn now) :
    Calls Tryd.prog 86 #[.pointer (some ⟨g, 0, none⟩), .slice A n c, .nilIface, .int .i64 id] w fun e w' => e = .returned (Rep.val ⟨0, id⟩) ∧ DeskAt w' g (.slice A n c) p s kn now ∧ w.grownBy w' (some g) := by
  obtain ⟨g0, g1, g2, g3, g4⟩ := hd.c5
  have gf := hd.frozen
  have gl := hd.lt
  go_enter Tryd.func86, Tryd.ntmps86
  go_wp2
  refine bodyPost_ret (res_cell rfl _ rfl agg_rep rfl (Blk.newS _ _ _ _ _)) rfl ⟨rfl, ?_, ?_⟩
  · exact (hd.set_ 0 _).alloc _
  · exact ((World.grownBy.refl w _).setCell rfl _).alloc_ _
theorem take_no (g : Nat) (c id : Int) (x : Value) (w : World) (hg : GT w) :
    Calls Tryd.prog 86 #[.pointer (some ⟨g, 0, none⟩), x, .iface 38 (.int .i64 c), .int .i64 id] w fun e w' => e = .returned (Rep.val ⟨c, 0⟩) ∧ Below w.heap.size w w' := by
  have hg1 := hg.below (below_alloc (Below.refl _ _) (.cells #[.int .i64 0, .int .i64 0] 40))
  go_enter Tryd.func86, Tryd.ntmps86
  go_wp2_with (go_at_call 90; refine (number_err c _ hg1).mono ?_; rintro e w' ⟨rfl, hz⟩; have hj := (Blk.new _ _ _).next hz; have j0 := hj.at 0 _ rfl; have j1 := hj.at 1 _ rfl; have jf := hj.frozen)
  refine bodyPost_ret (res_cell rfl _ rfl agg_rep rfl (hj.chain2)) rfl ⟨rfl, ?_⟩
  repeat (refine Below.setCell ?_ (by simp) _)
  exact below_next (below_alloc (Below.refl _ _) _) hz
end Go.Proofs.YthjmficglpfgpaaDoor
namespace Go.Proofs.YthjmficglpfgpaaDoor
set_option linter.unusedVariables false
set_option linter.unusedSimpArgs false
open Go Go.RowKit Enc
set_option maxRecDepth 100000

theorem sT_pay : SlT Tryd.prog 32 47 Pay 64 := ⟨Tryd.underlying32, by obtain ⟨i, h1, h2, h3, h4⟩ := info_parts (show (Tryd.prog.info? 47).map (fun i => (i.zero, i.size, i.bytes)) = some (some (.agg #[.int .i64 0, .int .i64 0, .int .i64 0, .int .i64 0, .int .i64 0, .int .i64 0, .int .i64 0, .int .i64 0]), 8, 64) by kernel_rfl); exact ⟨i, _, h1, h2, h3, h4, rfl⟩⟩

/-- Several cells of a list, one behind the other. -/
def setMany (L : List Value) (i : Nat) : List Value → List Value
  | [] => L
  | u :: us => setMany (L.set i u) (i + 1) us
theorem setMany_eq (us : List Value) : ∀ (L : List Value) (i : Nat), i + us.length ≤ L.length → setMany L i us = L.take i ++ us ++ L.drop (i + us.length) := by
  induction us with
  | nil => intro L i h; simp [setMany]
  | cons u us ih =>
    intro L i h
    simp only [List.length_cons] at h
    rw [setMany, ih _ _ (by simp; omega)]
    rw [List.take_set, List.drop_set_of_lt (by omega)]
    rw [show i + 1 + us.length = i + (us.length + 1) by omega]
    simp only [List.length_cons]
    congr 1
    rw [List.take_succ_eq_append_getElem (by omega), List.set_append_right _ _ (by simp; omega)]
    simp
    have : min i L.length = i := by omega
    simp [this]
/-- Several cells of memory, one behind the other. -/
def putCells (w : World) (b o : Nat) : List Value → World
  | [] => w
  | u :: us => putCells (w.setCell ⟨b, o, none⟩ u) b (o + 1) us
theorem ownsRow_set {w : World} {B e size b n c : Nat} {L : List Value} (h : w.ownsRow B e size (.slice (some ⟨b, 0, none⟩) n c) n L) (i : Nat) (hi : i < n * size) (u : Value) :
    (w.setCell ⟨b, i, none⟩ u).ownsRow B e size (.slice (some ⟨b, 0, none⟩) n c) n (L.set i u) := by
  refine ⟨by simpa using h.1, ?_⟩
  rcases h.2 with ⟨h0, _⟩ | ⟨g, cap, cur, hv, hb, hh, h1, h2, h3, h4⟩
  · cases h0
  · injection hv with e1 e2 e3
    injection e1 with e1
    injection e1 with e4
    subst e4 e3
    have hs := Blk.set_ (show Blk w b e cur from hh) i u
    exact .inr ⟨b, c, _, rfl, hb, hs, h1, h2, by simpa using h3, by rw [← h4, Array.toList_setIfInBounds, List.take_set]⟩
theorem ownsRow_put {B e size b n c : Nat} (us : List Value) : ∀ {w : World} {L : List Value} (i : Nat), w.ownsRow B e size (.slice (some ⟨b, 0, none⟩) n c) n L → i + us.length ≤ n * size →
    (putCells w b i us).ownsRow B e size (.slice (some ⟨b, 0, none⟩) n c) n (setMany L i us) := by
  induction us with
  | nil => intro w L i h _; exact h
  | cons u us ih =>
    intro w L i h hi
    simp only [List.length_cons] at hi
    exact ih (i + 1) (ownsRow_set h i (by omega) u) (by omega)
theorem flat_put {α : Type} [Enc α] (xs : List α) (k : Nat) (hk : k < xs.length) (x : α) : setMany (xs.flatMap enc) (k * sz α) (enc x) = (xs.set k x).flatMap enc := by
  have hl := flat_len xs
  have h1 : (k + 1) * sz α ≤ xs.length * sz α := Nat.mul_le_mul_right _ hk
  rw [Nat.succ_mul] at h1
  rw [setMany_eq _ _ _ (by rw [len, hl]; omega), len]
  have e1 : xs = xs.take k ++ ([xs[k]] ++ xs.drop (k + 1)) := by simp
  have e2 : xs.set k x = xs.take k ++ ([x] ++ xs.drop (k + 1)) := by rw [List.set_eq_take_append_cons_drop, if_pos hk]; simp
  have hA : ((xs.take k).flatMap enc).length = k * sz α := by rw [flat_len, List.length_take, Nat.min_eq_left (by omega)]
  rw [e2]
  conv => lhs; rw [e1]
  simp only [List.flatMap_append, List.flatMap_cons, List.flatMap_nil, List.append_nil]
  rw [List.take_append_of_le_length (by rw [hA]; exact Nat.le_refl _), List.take_of_length_le (by rw [hA]; exact Nat.le_refl _)]
  rw [List.drop_append, hA, List.drop_of_length_le (by rw [hA]; omega)]
  rw [show k * sz α + sz α - k * sz α = sz α by omega, List.drop_append_of_le_length (by rw [len]; exact Nat.le_refl _), List.drop_of_length_le (by rw [len]; exact Nat.le_refl _)]
  simp
/-- A whole element of a row of the call's own is written. -/
theorem Own.put {w : World} {B e b o n c : Nat} {α : Type} [Enc α] {xs : List α} (h : Own w B e (.slice (some ⟨b, o, none⟩) n c) xs) (k : Nat) (hk : k < xs.length) (x : α) :
    Own (putCells w b (o + k * sz α) (enc x)) B e (.slice (some ⟨b, o, none⟩) n c) (xs.set k x) := by
  have hn : n = xs.length := by
    obtain ⟨A, c', hv⟩ := h.row.slice
    injection hv
  have ho : o = 0 := by
    rcases h.2 with ⟨h0, _⟩ | ⟨g, cap, cur, hv, _⟩
    · cases h0
    · injection hv with e1 e2 e3
      injection e1 with e1
      injection e1
  subst hn ho
  have h1 : (k + 1) * sz α ≤ xs.length * sz α := Nat.mul_le_mul_right _ hk
  rw [Nat.succ_mul] at h1
  have := ownsRow_put (enc x) (k * sz α) h (by rw [len]; omega)
  rw [flat_put xs k hk x] at this
  simpa [Own] using this
theorem put_eq (us : List Value) : ∀ (w : World) (b o : Nat), putCells w b o us = w.setCells b o us := by
  induction us with
  | nil => intro w b o; rfl
  | cons u us ih => intro w b o; simp only [putCells, World.setCells, ih]
theorem put_grown (us : List Value) : ∀ {w w0 : World} (b o : Nat), w0.grownBy w (some b) → w0.grownBy (putCells w b o us) (some b) := by
  induction us with
  | nil => intro w w0 b o h; exact h
  | cons u us ih => intro w w0 b o h; exact ih b (o + 1) (h.setCell rfl u)
theorem put_size (us : List Value) : ∀ (w : World) (b o : Nat), (putCells w b o us).heap.size = w.heap.size := by
  induction us with
  | nil => intro w b o; rfl
  | cons u us ih => intro w b o; simp only [putCells, ih, World.size_setCell]
theorem store_elem {α : Type} [Enc α] {P : Program} {ops : Array Oper} {rest : List Oper} {op : Oper} {a : Go.Act} {w : World} {Q : Exit → Go.Act → World → Prop} {B e b o n c : Nat} {xs : List α} (hown : Own w B e (.slice (some ⟨b, o, none⟩) n c) xs) (k : Nat) (hk : k < xs.length) (v : α)
    (hgd : op.guard = none) (ty : TypeId) (x y : Operand) (ho : op.op = .store ty x y) (hx : a.eval x = .pointer (some ⟨b, o + k * sz α, none⟩)) (hy : a.eval y = .agg (enc v).toArray) (hi : (P.info? ty).map (·.size) = some (sz α))
    (h : ∀ w', Own w' B e (.slice (some ⟨b, o, none⟩) n c) (xs.set k v) → w.grownBy w' (some b) → w'.heap.size = w.heap.size → wpList P ops Q rest (a.put op.dst undef) w') : wpList P ops Q (op :: rest) a w := by
  have hp := hown.put k hk v
  have hc : ∃ cap cur, o = 0 ∧ Blk w b e cur ∧ cur.size = cap * sz α ∧ xs.length ≤ cap := by
    rcases hown.2 with ⟨h0, _⟩ | ⟨g, cap, cur, hv, hb, hh, h1, h2, h3, h4⟩
    · cases h0
    · injection hv with e1 e2 e3
      injection e1 with e1
      injection e1 with e4 e5
      subst e4 e3
      exact ⟨_, cur, e5, hh, h3, h1⟩
  obtain ⟨cap, cur, rfl, hblk, hcs, hcl⟩ := hc
  have h1 : (k + 1) * sz α ≤ cap * sz α := Nat.mul_le_mul_right _ (by omega)
  rw [Nat.succ_mul] at h1
  refine wpList_store_mid hgd ty x y ho b (0 + k * sz α) (enc v).toArray hx hy ?_ (by rw [hi]; simp [len]) (all_oneCell_toArray (fun u hu => one v u hu)) ?_
  · intro j hj
    simp only [List.size_toArray, len] at hj
    refine ⟨?_, hblk.frozen _⟩
    rw [hblk.cell, Array.getElem?_eq_getElem (by omega)]
    rfl
  · rw [← put_eq]
    exact h _ hp (put_grown _ _ _ (World.grownBy.refl w _)) (put_size _ _ _ _)
theorem Own.payW {w : World} {B e : Nat} {v : Value} {xs : List Pay} (h : Own w B e v xs) (k : Nat) (hk : k < xs.length) : ∃ b o c, v = .slice (some ⟨b, o, none⟩) xs.length c ∧ (∀ j : Nat, j < 8 → ∃ u, w.cell? ⟨b, o + k * 8 + j, none⟩ = some u) ∧ (∀ i, w.frozen? ⟨b, i, none⟩ = false) ∧ B ≤ b ∧ b < w.heap.size := by
  rcases h.2 with ⟨rfl, h0⟩ | ⟨g, cap, cur, rfl, hb, hh, h1, h2, h3, h4⟩
  · omega
  · have hblk : Blk w g e cur := hh
    refine ⟨g, 0, cap, rfl, fun j hj => ?_, fun i => hblk.frozen i, hb, hblk.lt⟩
    rw [hblk.cell]
    have h3' : cur.size = cap * 8 := h3
    exact ⟨_, Array.getElem?_eq_getElem (by omega)⟩

theorem _root_.Go.World.grownBy.setNew {w w' : World} {row : Option Nat} (h : w.grownBy w' row) {a : Addr} (ha : w.heap.size ≤ a.block) (u : Value) : w.grownBy (w'.setCell a u) row :=
  ⟨h.os, h.tape, h.output, by simpa using h.size, fun k hk hne => (Below.heap_setCell w' a u k (by omega)).trans (h.block k hk hne)⟩
theorem Row.only {w w' : World} {g : Nat} {v : Value} {α : Type} [Enc α] {xs : List α} (h : Row w v xs) (hv : xs ≠ [] → v.ownBlock ≠ some g) (hg : w.grownBy w' (some g)) : Row w' v xs := by
  obtain ⟨A, c, rfl, hm, hc⟩ := h
  refine ⟨A, c, rfl, hm, fun k hk => ?_⟩
  obtain ⟨b, o, rfl, hj⟩ := hc k hk
  have hv := hv (by rintro rfl; simp at hk)
  exact ⟨b, o, rfl, fun j u hu => hg.cell (hj j u hu) (by simpa [Value.ownBlock] using hv)⟩
/-- What stood ahead of a block lies elsewhere. -/
theorem Row.apart {w : World} {g : Nat} {v : Value} {α : Type} [Enc α] {xs : List α} (h : Row w v xs) (hg : w.heap.size ≤ g) : xs ≠ [] → v.ownBlock ≠ some g := fun hne he => by
  obtain ⟨A, c, rfl, hm, hc⟩ := h
  have hl : 0 < xs.length := List.length_pos_iff.2 hne
  obtain ⟨b, o, rfl, hj⟩ := hc 0 hl
  have h0 : 0 < (enc (xs[0])).length := by rw [len]; exact pos
  have := cell_lt (hj 0 _ (List.getElem?_eq_getElem h0))
  simp only [Value.ownBlock] at he
  injection he with he
  simp only at this he
  omega
/-- A whole aggregate is stored into a block of its own. -/
theorem store_to {P : Program} {ops : Array Oper} {rest : List Oper} {op : Oper} {a : Go.Act} {w : World} {Q : Exit → Go.Act → World → Prop} (x y : Operand) {t n e g : Nat} {old cells : Array Value} (hb : Blk w g e old) (hT : AggT P t n)
    (hgd : op.guard = none) (ho : op.op = .store t x y) (hx : a.eval x = .pointer (some ⟨g, 0, none⟩)) (hy : a.eval y = .agg cells) (hc : cells.size = n) (hold : old.size = n) (h1 : cells.all (·.oneCell') = true)
    (h : ∀ w', Blk w' g e cells → w.grownBy w' (some g) → w'.heap.size = w.heap.size → wpList P ops Q rest (a.put op.dst undef) w') : wpList P ops Q (op :: rest) a w := by
  refine wpList_store_row hgd t x y ho g cells hx hy e old hb (by rw [hT.sz, hc]) (by rw [hold, hc]) h1 ?_
  refine h _ ?_ ⟨rfl, rfl, rfl, by simp [World.setRow], fun k _ hk => ?_⟩ (by simp [World.setRow])
  · unfold Blk at hb ⊢
    simp [World.setRow, Array.getElem?_modify, hb]
  · simp only [World.setRow, Array.getElem?_modify]
    rw [if_neg (fun e => hk (by rw [e]))]
theorem pay_yes (g : Nat) (a p s kn : Value) (A : Option Addr) (n c : Nat) (now : Int) (k : Nat) (q : Pay) (ps : List Pay) (w : World) (hd : DeskAt w g a p s kn now) (hp : Row w p ps) (hpg : ps ≠ [] → p.ownBlock ≠ some g) (hk : k < ps.length) (hl : ps.length ≤ 1000) :
    Calls Tryd.prog 91 #[.pointer (some ⟨g, 0, none⟩), .int .i64 k, q.val, .slice A n c, .nilIface] w fun e w' => e = .returned (Rep.val ⟨0, 0⟩) ∧ (∃ p', DeskAt w' g (.slice A n c) p' s kn now ∧ Own w' w.heap.size 47 p' (ps.set k q)) ∧ w.grownBy w' (some g) := by
  obtain ⟨q0, q1, q2, q3, q4, q5, q6, q7⟩ := q
  have gl := hd.lt
  have hne1 : some w.heap.size ≠ some g := by intro h; injection h with h; omega
  have hne2 : some (w.heap.size + 1) ≠ some g := by intro h; injection h with h; omega
  go_enter Tryd.func91, Tryd.ntmps91
  go_wp2_with fail
  refine (take_yes g a p s kn A n c now 0 _ ((hd.alloc _).alloc _)).mono ?_
  rintro e w1 ⟨rfl, hd1, hg1⟩
  obtain ⟨k0, k1, k2, k3, k4, k5, k6, k7⟩ := (((Blk.new w _ _).alloc _).grown hg1 hne1).c8
  have hj := (Blk.new1 w _ _ _).grown hg1 hne2
  have hz1 := hg1.size
  simp only [World.size_alloc] at hz1
  obtain ⟨g0, g1, g2, g3, g4⟩ := hd1.c5
  have gf := hd1.frozen
  have gl1 := hd1.lt
  have hlt' : k < ([] ++ ps).length := by simpa using hk
  go_wp2_with (at_builtin; refine wp_append sT_pay rfl rfl (.slice none 0 0) p rfl rfl (Own.nil _ w.heap.size _) ((hp.only hpg ((World.grownBy_alloc _ _ _).trans ((World.grownBy_alloc _ _ _).trans hg1))).alloc _) (by simp; omega) (by decide) (by simp; omega) ?_; intro v2 w2 hown2 hg2 hat2; obtain ⟨b', o', c', rfl, hcells, hfr, hBb, hl2⟩ := hown2.payW k hlt'; have hd2 := (hd1.alloc _).grown hg2 (by simp [Value.ownBlock]); have hk2 := ((((Blk.new w _ _).alloc _).grown hg1 hne1).alloc _).grown hg2 (by simp [Value.ownBlock]); have hj2 := (hj.alloc _).grown hg2 (by simp [Value.ownBlock]); have hr2 := (Blk.new w1 _ _).grown hg2 (by simp [Value.ownBlock]); clear k0 k1 k2 k3 k4 k5 k6 k7 g0 g1 g2 g3 g4 gf; obtain ⟨k0, k1, k2, k3, k4, k5, k6, k7⟩ := hk2.c8; obtain ⟨g0, g1, g2, g3, g4⟩ := hd2.c5; have gf := hd2.frozen)
  have hng : b' ≠ g := by have := hown2.blk_ne hd2 (by decide); simpa [Value.ownBlock] using this
  have hng' : g ≠ b' := Ne.symm hng
  have hk0 : (k : Int) < (([] ++ ps).length : Int) := by simpa using hk
  have hk1 : (0 : Int) ≤ (k : Int) := by omega
  refine still_tail 8 (by kernel_rfl) (by kernel_rfl) (fun wd hwd hwc hwf hws => ?_); simp only [List.take_succ_cons, List.take_zero, List.drop_succ_cons, List.drop_zero]; (repeat still_step); refine wpStill_nil ?_
  have howd : Own wd w.heap.size 47 (.slice (some ⟨b', o', none⟩) ([] ++ ps).length c') ([] ++ ps) := by
    rw [hwd.out]
    exact (hown2.kept ((World.grownBy.refl w2 _).setCell (g := g) rfl _) (.inr (by simpa [Value.ownBlock] using hng))).drew
  refine store_elem howd k hlt' (Pay.mk q0 q1 q2 q3 q4 q5 q6 q7) (by rfl) 47 _ _ (by rfl) (by rfl) (by rfl) (by kernel_rfl) ?_
  intro w5 hown5 hg5 hs5
  have hrd : Blk wd w1.heap.size 40 #[.int .i64 0, .int .i64 0] := by rw [hwd.out]; exact (hr2.far (p := ⟨g, 1, none⟩) (by simp; omega) _).drew
  have hjd : Blk wd (w.heap.size + 1) 40 #[.int .i64 0, .int .i64 0] := by rw [hwd.out]; exact (hj2.far (p := ⟨g, 1, none⟩) (by simp; omega) _).drew
  have hdd : DeskAt wd g (.slice A n c) (.slice (some ⟨b', o', none⟩) ([] ++ ps).length c') s kn now := by
    rw [hwd.out]
    exact (hd2.set_ 1 _).drew
  have hr5 := hrd.grown hg5 (fun h => howd.blk_ne hrd (by decide) h.symm)
  have hj5 := hjd.grown hg5 (fun h => howd.blk_ne hjd (by decide) h.symm)
  have hd5 := hdd.grown hg5 (fun h => howd.blk_ne hdd (by decide) h.symm)
  have r0 := hr5.at 0 _ rfl
  have r1 := hr5.at 1 _ rfl
  have s0 := hj5.at 0 _ rfl
  have s1 := hj5.at 1 _ rfl
  have sf := hj5.frozen
  have hgall : w.grownBy w5 (some g) := by
    have x1 : w.grownBy w1 (some g) := (World.grownBy_alloc _ _ _).trans ((World.grownBy_alloc _ _ _).trans hg1)
    have x2 : w.grownBy w2 (some g) := x1.trans ((World.grownBy_alloc _ _ _).trans ⟨hg2.os, hg2.tape, hg2.output, hg2.size, fun i hi _ => hg2.block i hi (by simp [Value.ownBlock])⟩)
    have x3 : w.grownBy wd (some g) := by rw [hwd.out]; exact ⟨x2.os, x2.tape, x2.output, by have := x2.size; simpa using this, (x2.setCell rfl _).block⟩
    exact ⟨hg5.os.trans x3.os, hg5.tape.trans x3.tape, hg5.output.trans x3.output, Nat.le_trans x3.size hg5.size, fun i hi hne => (hg5.block i (Nat.lt_of_lt_of_le hi x3.size) (fun h => by injection h with h; omega)).trans (x3.block i hi hne)⟩
  clear hcells hwc hwf hws hfr
  go_wp2
  refine bodyPost_ret (res_cell rfl _ rfl agg_rep rfl hj5.chain2) rfl ⟨rfl, ⟨_, hd5.far (p := ⟨w.heap.size + 1, 0, none⟩) (by simp; omega) _ |>.far (p := ⟨w.heap.size + 1, 1, none⟩) (by simp; omega) _, ?_⟩, ?_⟩
  · have hn5 := hown5.blk_ne hj5 (by decide)
    have := (hown5.kept ((World.grownBy.refl w5 _).setCell (a := ⟨w.heap.size + 1, 0, none⟩) (g := w.heap.size + 1) rfl (.int .i64 0)) (.inr hn5)).kept ((World.grownBy.refl _ _).setCell (a := ⟨w.heap.size + 1, 1, none⟩) (g := w.heap.size + 1) rfl (.int .i64 0)) (.inr hn5)
    simpa using this
  · exact (hgall.setNew (by simp) _).setNew (by simp) _
end Go.Proofs.YthjmficglpfgpaaDoor
namespace Go.Proofs.YthjmficglpfgpaaDoor
set_option linter.unusedVariables false
set_option linter.unusedSimpArgs false
open Go Go.RowKit Enc
set_option maxRecDepth 100000
set_option maxHeartbeats 800000

theorem agg_pay' : AggT Tryd.prog 47 8 := agg_pay
theorem pay_no (g : Nat) (k c : Int) (q : Pay) (x : Value) (w : World) (hg : GT w) (hgl : 0 < w.heap.size) :
    Calls Tryd.prog 91 #[.pointer (some ⟨g, 0, none⟩), .int .i64 k, q.val, x, .iface 38 (.int .i64 c)] w fun e w' => e = .returned (Rep.val ⟨c, 0⟩) ∧ Below w.heap.size w w' := by
  have hg2 := (hg.below (below_alloc (Below.refl _ _) (.cells #[.int .i64 q.frm, .int .i64 q.to, .int .i64 q.auth, .int .i64 q.capt, .int .i64 q.refd, .int .i64 q.chgd, .int .i64 q.til, .int .i64 q.stage] 47))).below (below_alloc (Below.refl _ _) (.cells #[.int .i64 0, .int .i64 0] 40))
  go_enter Tryd.func91, Tryd.ntmps91
  go_wp2_with (go_at_call 86; refine (take_no g c 0 x _ hg2).mono ?_; rintro e w' ⟨rfl, hz⟩; have hj := (Blk.new1 w _ _ _).next hz; have j0 := hj.at 0 _ rfl; have j1 := hj.at 1 _ rfl; have jf := hj.frozen; have zs : w.heap.size + 1 < w'.heap.size := by have := hz.size; simp at this; omega)
  refine bodyPost_ret (res_cell rfl _ rfl agg_rep rfl (hj.chain2.alloc _)) rfl ⟨rfl, ?_⟩
  refine below_alloc ?_ _
  repeat (refine Below.setCell ?_ (by simp) _)
  exact below_next (below_alloc (below_alloc (Below.refl _ _) _) _) hz

def z8 : Pay := ⟨0, 0, 0, 0, 0, 0, 0, 0⟩
/-- What both hands back. -/
def BothRes (w w' : World) (ps : List Pay) (r : Req) (e : Ending) : Prop :=
  Below w.heap.size w w' ∧
  if ¬(0 ≤ r.a ∧ r.a < ps.length) then e = .returned (.tuple #[z8.val, z8.val, .iface 38 (.int .i64 2)])
  else match payDo (rd ps r.a) r.op r.amt with
    | .error c => e = .returned (.tuple #[(rd ps r.a).val, z8.val, .iface 38 (.int .i64 c)])
    | .ok q => e = .returned (.tuple #[(rd ps r.a).val, q.val, .nilIface])
abbrev zc8 : Array Value := #[.int .i64 0, .int .i64 0, .int .i64 0, .int .i64 0, .int .i64 0, .int .i64 0, .int .i64 0, .int .i64 0]
theorem both_out (g : Nat) (a p s kn : Value) (now : Int) (r : Req) (ps : List Pay) (w : World) (hd : DeskAt w g a p s kn now) (hp : Row w p ps) (h : ¬(0 ≤ r.a ∧ r.a < ps.length)) :
    Calls Tryd.prog 89 #[.pointer (some ⟨g, 0, none⟩), r.val] w fun e w' => BothRes w w' ps r e := by
  obtain ⟨key, op, ra, rb, amt, legs, til⟩ := r
  simp only at h
  have hr := Lib.hid h
  have hm := hp.max
  obtain ⟨A, c, rfl⟩ := hp.slice
  obtain ⟨g0, g1, g2, g3, g4⟩ := hd.c5
  have gl := hd.lt
  have gl1 : g < w.heap.size + 1 := by omega
  have gl2 : g < w.heap.size + 1 + 1 := by omega
  by_cases h1 : ra < 0
  · clear h
    go_enter Tryd.func89, Tryd.ntmps89
    go_wp2
    go_quiet (fail)
    go_wp2
    refine bodyPost_ret (v := .tuple #[z8.val, z8.val, .iface 38 (.int .i64 2)]) (by simp [results, Tryd.results89, go_sem, z8]) rfl ⟨?_, ?_⟩
    · (repeat ((with_reducible refine Below.setCell ?_ ?_ _); rotate_left; (focus (first | (simp; done) | (simp; omega)))))
      exact below_drewN (below_alloc (below_alloc (below_alloc (Below.refl _ _) _) _) _) nq
    · rw [if_pos hr.out]
  · have h2 : (ps.length : Int) ≤ ra := by omega
    have h3 : decide (ra < 0) = false := by simpa using h1
    have h4 : 0 ≤ ra := by omega
    clear h h1
    go_enter Tryd.func89, Tryd.ntmps89
    go_wp2
    go_quiet (fail)
    go_wp2
    refine bodyPost_ret (v := .tuple #[z8.val, z8.val, .iface 38 (.int .i64 2)]) (by simp [results, Tryd.results89, go_sem, z8]) rfl ⟨?_, ?_⟩
    · (repeat ((with_reducible refine Below.setCell ?_ ?_ _); rotate_left; (focus (first | (simp; done) | (simp; omega)))))
      exact below_drewN (below_alloc (below_alloc (below_alloc (Below.refl _ _) _) _) _) nq
    · rw [if_pos hr.out]
theorem both_in (g : Nat) (a p s kn : Value) (now : Int) (r : Req) (ps : List Pay) (w : World) (hd : DeskAt w g a p s kn now) (hp : Row w p ps) (h0 : 0 ≤ r.a) (h1 : r.a < ps.length) (hok : PayOk (rd ps r.a)) :
    Calls Tryd.prog 89 #[.pointer (some ⟨g, 0, none⟩), r.val] w fun e w' => BothRes w w' ps r e := by
  obtain ⟨key, op, ra, rb, amt, legs, til⟩ := r
  simp only at h0 h1 hok
  have HP := Lib.hid (fun w => payDo_any (rd ps ra) op amt w hok)
  have hm := hp.max
  obtain ⟨A, c, hpv⟩ := hp.slice
  subst hpv
  have gl := hd.lt
  have gl1 : g < w.heap.size + 1 := by omega
  have gl2 : g < w.heap.size + 1 + 1 := by omega
  have h2 : decide (ra < 0) = false := by simp; omega
  obtain ⟨g0, g1, g2, g3, g4⟩ := hd.c5
  go_enter Tryd.func89, Tryd.ntmps89
  go_wp2
  go_quiet (fail)
  go_wp2
  refine abs_world (fun W => DeskAt W g a (.slice A ps.length c) s kn now ∧ Row W (.slice A ps.length c) ps ∧ Blk W w.heap.size 29 #[.int .i64 key, .int .i64 op, .int .i64 ra, .int .i64 rb, .int .i64 amt, .int .i64 legs, .int .i64 til] ∧ Blk W (w.heap.size + 1) 47 zc8 ∧ Blk W (w.heap.size + 1 + 1) 47 zc8 ∧ Below w.heap.size w W)
    ⟨((hd.alloc _).alloc _).alloc _, ((hp.alloc _).alloc _).alloc _, ((Blk.new _ _ _).alloc _).alloc _, (Blk.new1 _ _ _ _).alloc _, Blk.new2' _ _ _ _ _, below_drewN (below_alloc (below_alloc (below_alloc (Below.refl _ _) _) _) _) nq⟩ ?_
  clear hd hp g0 g1 g2 g3 g4
  rintro W ⟨hd, hp, hb0, hb1, hb2, hbl⟩
  obtain ⟨b, o, c', hv, c0, c1, c2, c3, c4, c5, c6, c7, hl⟩ := hp.payI ra h0 h1
  injection hv with hv1 _ hv3
  subst hv1 hv3
  obtain ⟨g0, g1, g2, g3, g4⟩ := hd.c5
  obtain ⟨k0, k1, k2, k3, k4, k5, k6⟩ := hb0.c7
  have l0 := hb0.lt
  have l1 := hb1.lt
  have l2 := hb2.lt
  have lg := hd.lt
  go_region_held3 (fun w' => w'.cell? ⟨g, 1, none⟩ = some (.slice (some ⟨b, o, none⟩) ps.length c) ∧ w'.cell? ⟨w.heap.size, 2, none⟩ = some (.int .i64 ra) ∧ w'.cell? ⟨b, o + ra.toNat * 8, none⟩ = some (.int .i64 (rd ps ra).frm) ∧ w'.cell? ⟨b, o + ra.toNat * 8 + 1, none⟩ = some (.int .i64 (rd ps ra).to) ∧ w'.cell? ⟨b, o + ra.toNat * 8 + 2, none⟩ = some (.int .i64 (rd ps ra).auth) ∧ w'.cell? ⟨b, o + ra.toNat * 8 + 3, none⟩ = some (.int .i64 (rd ps ra).capt) ∧ w'.cell? ⟨b, o + ra.toNat * 8 + 4, none⟩ = some (.int .i64 (rd ps ra).refd) ∧ w'.cell? ⟨b, o + ra.toNat * 8 + 5, none⟩ = some (.int .i64 (rd ps ra).chgd) ∧ w'.cell? ⟨b, o + ra.toNat * 8 + 6, none⟩ = some (.int .i64 (rd ps ra).til) ∧ w'.cell? ⟨b, o + ra.toNat * 8 + 7, none⟩ = some (.int .i64 (rd ps ra).stage)) (go_keep) ((fail))
  clear c0 c1 c2 c3 c4 c5 c6 c7 g0 g1 g2 g3 g4
  cases hpd : payDo (rd ps ra) op amt with
  | error ec =>
    go_wp2_with fail
    refine (HP.out _).mono ?_
    intro e w' hres
    rw [hpd] at hres
    obtain ⟨hz, rfl⟩ := hres
    go_wp2_with fail
    refine abs_world (fun W' => Blk W' (w.heap.size + 1) 47 zc8 ∧ Blk W' (w.heap.size + 1 + 1) 47 zc8 ∧ Blk W' W.heap.size 47 #[.int .i64 (rd ps ra).frm, .int .i64 (rd ps ra).to, .int .i64 (rd ps ra).auth, .int .i64 (rd ps ra).capt, .int .i64 (rd ps ra).refd, .int .i64 (rd ps ra).chgd, .int .i64 (rd ps ra).til, .int .i64 (rd ps ra).stage] ∧ Blk W' w'.heap.size 47 zc8 ∧ Below w.heap.size w W')
      ⟨((hb1.alloc _).drew.next hz).alloc _, ((hb2.alloc _).drew.next hz).alloc _, ((Blk.new W _ _).drew.next hz).alloc _, Blk.new _ _ _, below_alloc (below_next (below_drew (below_alloc hbl _)) hz) _⟩ ?_
    rintro W' ⟨e1, e2, e3, e4, hbl'⟩
    obtain ⟨m0, m1, m2, m3, m4, m5, m6, m7⟩ := e3.c8
    obtain ⟨n0, n1, n2, n3, n4, n5, n6, n7⟩ := e4.c8
    have ne1 : w.heap.size + 1 ≠ W.heap.size := by omega
    have ne2 : w.heap.size + 1 ≠ w'.heap.size := by have := hz.size; simp at this; omega
    have ne3 : w.heap.size + 1 + 1 ≠ W.heap.size := by omega
    have ne4 : w.heap.size + 1 + 1 ≠ w'.heap.size := by have := hz.size; simp at this; omega
    have ef1 := e1.frozen
    have ef2 := e2.frozen
    obtain ⟨r0, r1, r2, r3, r4, r5, r6, r7⟩ := e1.c8
    obtain ⟨t0, t1, t2, t3, t4, t5, t6, t7⟩ := e2.c8
    go_region_held3 (fun w9 => w9.cell? ⟨W.heap.size, 0, none⟩ = some (.int .i64 (rd ps ra).frm) ∧ w9.cell? ⟨W.heap.size, 1, none⟩ = some (.int .i64 (rd ps ra).to) ∧ w9.cell? ⟨W.heap.size, 2, none⟩ = some (.int .i64 (rd ps ra).auth) ∧ w9.cell? ⟨W.heap.size, 3, none⟩ = some (.int .i64 (rd ps ra).capt) ∧ w9.cell? ⟨W.heap.size, 4, none⟩ = some (.int .i64 (rd ps ra).refd) ∧ w9.cell? ⟨W.heap.size, 5, none⟩ = some (.int .i64 (rd ps ra).chgd) ∧ w9.cell? ⟨W.heap.size, 6, none⟩ = some (.int .i64 (rd ps ra).til) ∧ w9.cell? ⟨W.heap.size, 7, none⟩ = some (.int .i64 (rd ps ra).stage) ∧ w9.cell? ⟨w'.heap.size, 0, none⟩ = some (.int .i64 0) ∧ w9.cell? ⟨w'.heap.size, 1, none⟩ = some (.int .i64 0) ∧ w9.cell? ⟨w'.heap.size, 2, none⟩ = some (.int .i64 0) ∧ w9.cell? ⟨w'.heap.size, 3, none⟩ = some (.int .i64 0) ∧ w9.cell? ⟨w'.heap.size, 4, none⟩ = some (.int .i64 0) ∧ w9.cell? ⟨w'.heap.size, 5, none⟩ = some (.int .i64 0) ∧ w9.cell? ⟨w'.heap.size, 6, none⟩ = some (.int .i64 0) ∧ w9.cell? ⟨w'.heap.size, 7, none⟩ = some (.int .i64 0)) (go_keep) ((fail))
    go_wp2
    refine bodyPost_ret (v := .tuple #[(rd ps ra).val, z8.val, .iface 38 (.int .i64 ec)]) (by simp [results, Tryd.results89, go_sem, r0, r1, r2, r3, r4, r5, r6, r7, t0, t1, t2, t3, t4, t5, t6, t7, z8]) rfl ⟨?_, ?_⟩
    · (repeat (first | (with_reducible refine below_drew ?_) | (with_reducible refine below_drewN ?_ _) | (with_reducible refine below_alloc ?_ _) | ((with_reducible refine Below.setCell ?_ ?_ _); rotate_left; (focus (first | (simp; done) | (simp; omega))))))
      exact hbl'
    · rw [if_neg (by simp; omega), hpd]
  | ok q =>
    obtain ⟨q0, q1, q2, q3, q4, q5, q6, q7⟩ := q
    go_wp2_with fail
    refine (HP.out _).mono ?_
    intro e w' hres
    rw [hpd] at hres
    obtain ⟨hz, rfl⟩ := hres
    go_wp2_with fail
    refine abs_world (fun W' => Blk W' (w.heap.size + 1) 47 zc8 ∧ Blk W' (w.heap.size + 1 + 1) 47 zc8 ∧ Blk W' W.heap.size 47 #[.int .i64 (rd ps ra).frm, .int .i64 (rd ps ra).to, .int .i64 (rd ps ra).auth, .int .i64 (rd ps ra).capt, .int .i64 (rd ps ra).refd, .int .i64 (rd ps ra).chgd, .int .i64 (rd ps ra).til, .int .i64 (rd ps ra).stage] ∧ Blk W' w'.heap.size 47 #[.int .i64 q0, .int .i64 q1, .int .i64 q2, .int .i64 q3, .int .i64 q4, .int .i64 q5, .int .i64 q6, .int .i64 q7] ∧ Below w.heap.size w W')
      ⟨((hb1.alloc _).drew.next hz).alloc _, ((hb2.alloc _).drew.next hz).alloc _, ((Blk.new W _ _).drew.next hz).alloc _, Blk.new _ _ _, below_alloc (below_next (below_drew (below_alloc hbl _)) hz) _⟩ ?_
    rintro W' ⟨e1, e2, e3, e4, hbl'⟩
    obtain ⟨m0, m1, m2, m3, m4, m5, m6, m7⟩ := e3.c8
    obtain ⟨n0, n1, n2, n3, n4, n5, n6, n7⟩ := e4.c8
    have ne1 : w.heap.size + 1 ≠ W.heap.size := by omega
    have ne2 : w.heap.size + 1 ≠ w'.heap.size := by have := hz.size; simp at this; omega
    have ne3 : w.heap.size + 1 + 1 ≠ W.heap.size := by omega
    have ne4 : w.heap.size + 1 + 1 ≠ w'.heap.size := by have := hz.size; simp at this; omega
    have ef1 := e1.frozen
    have ef2 := e2.frozen
    obtain ⟨r0, r1, r2, r3, r4, r5, r6, r7⟩ := e1.c8
    obtain ⟨t0, t1, t2, t3, t4, t5, t6, t7⟩ := e2.c8
    go_region_held3 (fun w9 => w9.cell? ⟨W.heap.size, 0, none⟩ = some (.int .i64 (rd ps ra).frm) ∧ w9.cell? ⟨W.heap.size, 1, none⟩ = some (.int .i64 (rd ps ra).to) ∧ w9.cell? ⟨W.heap.size, 2, none⟩ = some (.int .i64 (rd ps ra).auth) ∧ w9.cell? ⟨W.heap.size, 3, none⟩ = some (.int .i64 (rd ps ra).capt) ∧ w9.cell? ⟨W.heap.size, 4, none⟩ = some (.int .i64 (rd ps ra).refd) ∧ w9.cell? ⟨W.heap.size, 5, none⟩ = some (.int .i64 (rd ps ra).chgd) ∧ w9.cell? ⟨W.heap.size, 6, none⟩ = some (.int .i64 (rd ps ra).til) ∧ w9.cell? ⟨W.heap.size, 7, none⟩ = some (.int .i64 (rd ps ra).stage) ∧ w9.cell? ⟨w'.heap.size, 0, none⟩ = some (.int .i64 q0) ∧ w9.cell? ⟨w'.heap.size, 1, none⟩ = some (.int .i64 q1) ∧ w9.cell? ⟨w'.heap.size, 2, none⟩ = some (.int .i64 q2) ∧ w9.cell? ⟨w'.heap.size, 3, none⟩ = some (.int .i64 q3) ∧ w9.cell? ⟨w'.heap.size, 4, none⟩ = some (.int .i64 q4) ∧ w9.cell? ⟨w'.heap.size, 5, none⟩ = some (.int .i64 q5) ∧ w9.cell? ⟨w'.heap.size, 6, none⟩ = some (.int .i64 q6) ∧ w9.cell? ⟨w'.heap.size, 7, none⟩ = some (.int .i64 q7)) (go_keep) ((fail))
    go_wp2
    refine bodyPost_ret (v := .tuple #[(rd ps ra).val, Pay.val (Pay.mk q0 q1 q2 q3 q4 q5 q6 q7), .nilIface]) (by simp [results, Tryd.results89, go_sem, r0, r1, r2, r3, r4, r5, r6, r7, t0, t1, t2, t3, t4, t5, t6, t7]) rfl ⟨?_, ?_⟩
    · (repeat (first | (with_reducible refine below_drew ?_) | (with_reducible refine below_drewN ?_ _) | (with_reducible refine below_alloc ?_ _) | ((with_reducible refine Below.setCell ?_ ?_ _); rotate_left; (focus (first | (simp; done) | (simp; omega))))))
      exact hbl'
    · rw [if_neg (by simp; omega), hpd]
theorem both_any (g : Nat) (a p s kn : Value) (now : Int) (r : Req) (ps : List Pay) (w : World) (hd : DeskAt w g a p s kn now) (hp : Row w p ps) (hok : ∀ k : Int, 0 ≤ k → k < ps.length → PayOk (rd ps k)) :
    Calls Tryd.prog 89 #[.pointer (some ⟨g, 0, none⟩), r.val] w fun e w' => BothRes w w' ps r e := by
  by_cases h : 0 ≤ r.a ∧ r.a < ps.length
  · exact both_in g a p s kn now r ps w hd hp h.1 h.2 (hok _ h.1 h.2)
  · exact both_out g a p s kn now r ps w hd hp h
end Go.Proofs.YthjmficglpfgpaaDoor
namespace Go.Proofs.YthjmficglpfgpaaDoor
set_option linter.unusedVariables false
set_option linter.unusedSimpArgs false
open Go Go.RowKit Enc
set_option maxRecDepth 100000
set_option maxHeartbeats 800000

theorem move_ok_len {xs : List Acc} {frm to n : Int} {es : List Ent} (h : move xs frm to n = .ok es) : es.length ≤ 4 ∧ (∀ k : Nat, k < es.length → mayP (rd es k).amt) := by
  unfold move at h
  split at h
  · cases h
  split at h
  · cases h
  split at h
  · cases h
  rename_i h3
  have hn : 1 ≤ n ∧ n ≤ 1099511627776 := by
    rcases Decidable.em (1 ≤ n ∧ n ≤ 1099511627776) with h | h
    · exact h
    · exact absurd (.inr h) h3
  split at h
  · injection h with h
    subst h
    refine ⟨by simp, fun k hk => ?_⟩
    have : k = 0 ∨ k = 1 := by simp at hk; omega
    rcases this with rfl | rfl <;> simp [rd, mayP] <;> omega
  split at h
  · cases h
  rename_i h5
  split at h
  · cases h
  injection h with h
  subst h
  have hq : n * (rate (rd xs frm).cur (rd xs to).cur).1 / (rate (rd xs frm).cur (rd xs to).cur).2 ≤ 1099511627776 := by simpa using h5
  obtain ⟨⟨r1, r2⟩, r3, r4⟩ := rate_bd (rd xs frm).cur (rd xs to).cur
  have hx0 : 0 ≤ n * (rate (rd xs frm).cur (rd xs to).cur).1 := Int.mul_nonneg (by omega) (by omega)
  have hq0 : 0 ≤ n * (rate (rd xs frm).cur (rd xs to).cur).1 / (rate (rd xs frm).cur (rd xs to).cur).2 := Int.ediv_nonneg hx0 (by omega)
  generalize n * (rate (rd xs frm).cur (rd xs to).cur).1 / (rate (rd xs frm).cur (rd xs to).cur).2 = q at *
  refine ⟨by simp, fun k hk => ?_⟩
  have : k = 0 ∨ k = 1 ∨ k = 2 ∨ k = 3 := by simp at hk; omega
  rcases this with rfl | rfl | rfl | rfl <;> simp [rd, mayP] <;> omega

def backE (xs : List Acc) (p : Pay) (n : Int) : Except Int (List Ent) := (move xs p.frm p.to n).map back
theorem back_desk (g : Nat) (a pp s kn : Value) (now : Int) (p : Pay) (n : Int) (xs : List Acc) (w : World) (hd : DeskAt w g a pp s kn now) (ha : Row w a xs) (hC : CurOk xs) :
    Calls Tryd.prog 92 #[.pointer (some ⟨g, 0, none⟩), p.val, .int .i64 n] w fun e w' => (∃ c, backE xs p n = .error c ∧ Below w.heap.size w w' ∧ ∃ v, e = .returned (.tuple #[v, .iface 38 (.int .i64 c)])) ∨ (∃ es, backE xs p n = .ok es ∧ EntRes w w' (.ok es) e) := by
  obtain ⟨p0, p1, p2, p3, p4, p5, p6, p7⟩ := p
  obtain ⟨g0, g1, g2, g3, g4⟩ := hd.c5
  have gl := hd.lt
  have hlb : w.heap.size < (w.alloc (.cells #[.int .i64 p0, .int .i64 p1, .int .i64 p2, .int .i64 p3, .int .i64 p4, .int .i64 p5, .int .i64 p6, .int .i64 p7] 47)).drew.heap.size := by simp
  have glb : g < (w.alloc (.cells #[.int .i64 p0, .int .i64 p1, .int .i64 p2, .int .i64 p3, .int .i64 p4, .int .i64 p5, .int .i64 p6, .int .i64 p7] 47)).drew.heap.size := by simp; omega
  have hra := (ha.alloc (.cells #[.int .i64 p0, .int .i64 p1, .int .i64 p2, .int .i64 p3, .int .i64 p4, .int .i64 p5, .int .i64 p6, .int .i64 p7] 47)).drew
  have hbb : Below w.heap.size w (w.alloc (.cells #[.int .i64 p0, .int .i64 p1, .int .i64 p2, .int .i64 p3, .int .i64 p4, .int .i64 p5, .int .i64 p6, .int .i64 p7] 47)).drew := below_drew (below_alloc (Below.refl _ _) _)
  have HM := Lib.hid (move_any a xs p0 p1 n _ hra hC)
  cases hmv : move xs p0 p1 n with
  | error c =>
    have hr := Lib.hid (show backE xs ⟨p0, p1, p2, p3, p4, p5, p6, p7⟩ n = .error c by simp [backE, hmv, Except.map])
    have hm := Lib.hid hmv
    clear hmv
    go_enter Tryd.func92, Tryd.ntmps92
    go_wp2_with fail
    go_region_held3 (fun w' => w'.cell? ⟨g, 0, none⟩ = some a ∧ w'.cell? ⟨w.heap.size, 0, none⟩ = some (.int .i64 p0) ∧ w'.cell? ⟨w.heap.size, 1, none⟩ = some (.int .i64 p1)) (first | go_keep | (go_split_ands; refine ⟨?_, ?_, ?_⟩ <;> exact cell_below hz (by assumption)))
      ((go_at_call 39; refine HM.out.mono ?_; intro e w' hres; rw [hm.out] at hres; obtain ⟨hz, rfl⟩ := hres))
    go_wp2_with fail
    refine (back_any (.slice none 0 0) [] _ (Row.nil _) (by simp) (by simp)).mono ?_
    rintro e w2 ⟨v, rfl, hown, hz2⟩
    go_wp2_with fail
    go_ret2
    exact .inl ⟨c, hr.out, below_next (below_next hbb hz) hz2, _, rfl⟩
  | ok es =>
    have hr := Lib.hid (show backE xs ⟨p0, p1, p2, p3, p4, p5, p6, p7⟩ n = .ok (back es) by simp [backE, hmv, Except.map])
    have hm := Lib.hid hmv
    obtain ⟨hl, hall⟩ := move_ok_len hmv
    clear hmv
    go_enter Tryd.func92, Tryd.ntmps92
    go_wp2_with fail
    go_region_held3 (fun w' => w'.cell? ⟨g, 0, none⟩ = some a ∧ w'.cell? ⟨w.heap.size, 0, none⟩ = some (.int .i64 p0) ∧ w'.cell? ⟨w.heap.size, 1, none⟩ = some (.int .i64 p1)) (first | go_keep | (go_split_ands; refine ⟨?_, ?_, ?_⟩ <;> exact cell_below hz (by assumption)))
      ((go_at_call 39; refine HM.out.mono ?_; intro e w' hres; rw [hm.out] at hres; obtain ⟨hz, v1, rfl, ho1⟩ := hres))
    go_wp2_with fail
    refine (back_any _ es _ ho1.row (by omega) hall).mono ?_
    rintro e w2 ⟨v, rfl, hown, hz2⟩
    go_wp2_with fail
    go_ret2
    exact .inr ⟨_, hr.out, below_next (below_next hbb hz) hz2, _, rfl, hown.lower (below_next hbb hz).size⟩
end Go.Proofs.YthjmficglpfgpaaDoor
namespace Go.Proofs.YthjmficglpfgpaaDoor
set_option linter.unusedVariables false
set_option linter.unusedSimpArgs false
open Go Go.RowKit Enc
set_option maxRecDepth 100000
set_option maxHeartbeats 800000

theorem spend_any (x y : Value) (xs : List Acc) (n : Int) (es : List Ent) (w : World) (h : Row w x xs) (hy : Row w y es) (hB : Bal xs es) (hA : ABs xs) :
    Calls Tryd.prog 44 #[x, .int .i64 n, y] w fun e w' => AccRes w w' (spend xs n es) e := by
  have hm := hy.max
  by_cases h0 : es.length = 0
  · have hr := Lib.hid (show spend xs n es = .error 13 by unfold spend; rw [if_pos h0])
    obtain ⟨A, c, rfl⟩ := hy.slice
    obtain rfl : es = [] := List.eq_nil_of_length_eq_zero h0
    go_enter Tryd.func44, Tryd.ntmps44
    go_wp2_with fail
    go_ret2
    rw [hr.out]
    exact ⟨Below.refl _ _, rfl⟩
  have hr0 := Lib.hid (show spend xs n es = (release xs (rd es 0).acct n).bind fun ys => post ys es by unfold spend; rw [if_neg h0])
  obtain ⟨b, o, c, rfl, c1, c2, hl⟩ := hy.ent 0 (by omega)
  have HM := Lib.hid (release_any x xs (rd es 0).acct n w h hA)
  have c1' : w.cell? ⟨b, o, none⟩ = some (.int .i64 (rd es 0).acct) := by simpa using c1
  have hlen : (0 : Int) < es.length := by omega
  have hnz : ((es.length : Int) == 0) = false := by simpa using h0
  cases hrl : release xs (rd es 0).acct n with
  | error c =>
    have hm := Lib.hid hrl
    clear hrl
    go_enter Tryd.func44, Tryd.ntmps44
    go_wp2_with fail
    refine HM.out.mono ?_
    intro e w1 hres
    rw [hm.out] at hres
    obtain ⟨hz, rfl⟩ := hres
    go_wp2_with fail
    go_ret2
    rw [hr0.out, hm.out]
    exact ⟨hz, rfl⟩
  | ok ys =>
    obtain ⟨hAy, hly, hcy⟩ := release_ok hA hrl
    have hBy := hB.congr hly hcy
    have hm := Lib.hid hrl
    clear hrl
    cases hps : post ys es with
    | error c =>
      have hm2 := Lib.hid hps
      clear hps
      go_enter Tryd.func44, Tryd.ntmps44
      go_wp2_with fail
      refine HM.out.mono ?_
      intro e w1 hres
      rw [hm.out] at hres
      obtain ⟨hz, v, rfl, ho⟩ := hres
      go_wp2_with fail
      refine (post_any v _ ys es w1 ho.row (hy.below hz) hBy hAy).mono ?_
      intro e w2 hres
      rw [hm2.out] at hres
      obtain ⟨hz2, rfl⟩ := hres
      go_wp2_with fail
      go_ret2
      rw [hr0.out, hm.out]
      refine ⟨below_next hz hz2, ?_⟩
      show match post ys es with | .error c => _ | .ok out => _
      rw [hm2.out]
      rfl
    | ok zs =>
      have hm2 := Lib.hid hps
      clear hps
      go_enter Tryd.func44, Tryd.ntmps44
      go_wp2_with fail
      refine HM.out.mono ?_
      intro e w1 hres
      rw [hm.out] at hres
      obtain ⟨hz, v, rfl, ho⟩ := hres
      go_wp2_with fail
      refine (post_any v _ ys es w1 ho.row (hy.below hz) hBy hAy).mono ?_
      intro e w2 hres
      rw [hm2.out] at hres
      obtain ⟨hz2, v2, rfl, ho2⟩ := hres
      go_wp2_with fail
      go_ret2
      rw [hr0.out, hm.out]
      refine ⟨below_next hz hz2, ?_⟩
      show match post ys es with | .error c => _ | .ok out => _
      rw [hm2.out]
      exact ⟨_, rfl, ho2.lower hz.size⟩

/-- What a request does to accounts and payments, where it may: with an error nothing is changed. -/
def DeskRes (w w' : World) (g : Nat) (p s kn : Value) (now : Int) (ps : List Pay) (r : Except Int (List Acc × List Pay × Int)) (e : Ending) : Prop :=
  match r with
  | .error c => e = .returned (Rep.val ⟨c, 0⟩) ∧ Below w.heap.size w w'
  | .ok (xs, qs, id) => e = .returned (Rep.val ⟨0, id⟩) ∧ (∃ a' p', DeskAt w' g a' p' s kn now ∧ Own w' w.heap.size 50 a' xs ∧ (p' = p ∧ qs = ps ∨ Own w' w.heap.size 47 p' qs)) ∧ w.grownBy w' (some g)
/-- A desk, whole. -/
structure Desk (w : World) (g : Nat) (a p s kn : Value) (now : Int) (xs : List Acc) (ps : List Pay) : Prop where
  at_ : DeskAt w g a p s kn now
  accs : Row w a xs
  pays : Row w p ps
  ne : ps ≠ [] → p.ownBlock ≠ some g
  good : Good xs
  err : GT w
def deskPost (xs : List Acc) (ps : List Pay) (frm to n : Int) : Except Int (List Acc × List Pay × Int) :=
  match move xs frm to n with
  | .error c => .error c
  | .ok es => match post xs es with
    | .error c => .error c
    | .ok ys => .ok (ys, ps, 0)
theorem post_desk (g : Nat) (a p s kn : Value) (now : Int) (xs : List Acc) (ps : List Pay) (frm to n : Int) (w : World) (hD : Desk w g a p s kn now xs ps) :
    Calls Tryd.prog 88 #[.pointer (some ⟨g, 0, none⟩), .int .i64 frm, .int .i64 to, .int .i64 n] w fun e w' => DeskRes w w' g p s kn now ps (deskPost xs ps frm to n) e := by
  obtain ⟨hd, ha, hp, hne, hG, hT⟩ := hD
  obtain ⟨g0, g1, g2, g3, g4⟩ := hd.c5
  have gl := hd.lt
  have HM := Lib.hid (move_any a xs frm to n _ (ha.alloc (.cells #[.int .i64 0, .int .i64 0] 40)) hG.curOk)
  cases hmv : move xs frm to n with
  | error c =>
    have hr := Lib.hid (show deskPost xs ps frm to n = .error c by simp [deskPost, hmv])
    have hm := Lib.hid hmv
    clear hmv
    go_enter Tryd.func88, Tryd.ntmps88
    go_wp2_with fail
    refine HM.out.mono ?_
    intro e w1 hres
    rw [hm.out] at hres
    obtain ⟨hz, rfl⟩ := hres
    go_wp2_with fail
    refine (number_err c _ ((hT.below (below_alloc (Below.refl _ _) _)).below hz)).mono ?_
    rintro e w2 ⟨rfl, hz2⟩
    have hj := ((Blk.new w _ _).next hz).next hz2
    have j0 := hj.at 0 _ rfl
    have j1 := hj.at 1 _ rfl
    have jf := hj.frozen
    go_wp2_with fail
    refine bodyPost_ret (res_cell rfl _ rfl agg_rep rfl (hj.chain2)) rfl ?_
    rw [hr.out]
    refine ⟨rfl, ?_⟩
    (repeat (first | (with_reducible refine below_drew ?_) | (with_reducible refine below_drewN ?_ _) | (with_reducible refine below_alloc ?_ _) | ((with_reducible refine Below.setCell ?_ ?_ _); rotate_left; (focus (first | (simp; done) | (simp; omega))))))
    exact below_next (below_next (below_alloc (Below.refl _ _) _) hz) hz2
  | ok es =>
    have hM := move_moveOk hG hmv
    have hB := hM.bal hG
    have hm := Lib.hid hmv
    cases hps : post xs es with
    | error c =>
      have hm2 := Lib.hid hps
      have hr := Lib.hid (show deskPost xs ps frm to n = .error c by simp [deskPost, hmv, hps])
      clear hps hmv
      go_enter Tryd.func88, Tryd.ntmps88
      go_wp2_with fail
      refine HM.out.mono ?_
      intro e w1 hres
      rw [hm.out] at hres
      obtain ⟨hz, v, rfl, ho⟩ := hres
      have hd1 := (hd.alloc (.cells #[.int .i64 0, .int .i64 0] 40)).next hz
      clear g0 g1 g2 g3 g4
      obtain ⟨g0, g1, g2, g3, g4⟩ := hd1.c5
      go_wp2_with fail
      refine (post_any a _ xs es w1 ((ha.alloc _).below hz) ho.row hB hG.abs).mono ?_
      intro e w2 hres
      rw [hm2.out] at hres
      obtain ⟨hz2, rfl⟩ := hres
      go_wp2_with fail
      refine (take_no g c 0 _ w2 (((hT.below (below_alloc (Below.refl _ _) _)).below hz).below hz2)).mono ?_
      rintro e w3 ⟨rfl, hz3⟩
      have hj := (((Blk.new w _ _).next hz).next hz2).next hz3
      have j0 := hj.at 0 _ rfl
      have j1 := hj.at 1 _ rfl
      have jf := hj.frozen
      go_wp2_with fail
      refine bodyPost_ret (res_cell rfl _ rfl agg_rep rfl (hj.chain2)) rfl ?_
      rw [hr.out]
      refine ⟨rfl, ?_⟩
      (repeat (first | (with_reducible refine below_drew ?_) | (with_reducible refine below_drewN ?_ _) | (with_reducible refine below_alloc ?_ _) | ((with_reducible refine Below.setCell ?_ ?_ _); rotate_left; (focus (first | (simp; done) | (simp; omega))))))
      exact below_next (below_next (below_next (below_alloc (Below.refl _ _) _) hz) hz2) hz3
    | ok ys =>
      have hm2 := Lib.hid hps
      have hr := Lib.hid (show deskPost xs ps frm to n = .ok (ys, ps, 0) by simp [deskPost, hmv, hps])
      clear hps hmv
      go_enter Tryd.func88, Tryd.ntmps88
      go_wp2_with fail
      refine HM.out.mono ?_
      intro e w1 hres
      rw [hm.out] at hres
      obtain ⟨hz, v, rfl, ho⟩ := hres
      have hd1 := (hd.alloc (.cells #[.int .i64 0, .int .i64 0] 40)).next hz
      clear g0 g1 g2 g3 g4
      obtain ⟨g0, g1, g2, g3, g4⟩ := hd1.c5
      go_wp2_with fail
      refine (post_any a _ xs es w1 ((ha.alloc _).below hz) ho.row hB hG.abs).mono ?_
      intro e w2 hres
      rw [hm2.out] at hres
      obtain ⟨hz2, v2, rfl, ho2⟩ := hres
      obtain ⟨A2, c2, rfl⟩ := ho2.row.slice
      go_wp2_with fail
      refine (take_yes g a p s kn A2 _ c2 now 0 w2 (hd1.next hz2)).mono ?_
      rintro e w3 ⟨rfl, hd3, hg3⟩
      have hzs := hz.size
      have hzs2 := hz2.size
      simp only [World.size_alloc] at hzs
      have hn0 : some w.heap.size ≠ some g := by intro h; injection h with h; omega
      have hj := (((Blk.new w _ _).next hz).next hz2).grown hg3 hn0
      have j0 := hj.at 0 _ rfl
      have j1 := hj.at 1 _ rfl
      have jf := hj.frozen
      go_wp2_with fail
      refine bodyPost_ret (res_cell rfl _ rfl agg_rep rfl (hj.chain2)) rfl ?_
      rw [hr.out]
      have hgw : w.grownBy w3 (some g) := (only_of_below (below_next (below_next (below_alloc (Below.refl _ _) _) hz) hz2) g).trans hg3
      have hgall := (hgw.setNew (a := ⟨w.heap.size, 0, none⟩) (by simp) (.int .i64 0)).setNew (a := ⟨w.heap.size, 1, none⟩) (by simp) (.int .i64 0)
      have hv2 : some g ≠ (Value.slice A2 ys.length c2).ownBlock := ho2.ne (by omega)
      have hv3 : some w.heap.size ≠ (Value.slice A2 ys.length c2).ownBlock := ho2.ne (by omega)
      refine ⟨rfl, ⟨_, _, (hd3.far (p := ⟨w.heap.size, 0, none⟩) (by simp; omega) _).far (p := ⟨w.heap.size, 1, none⟩) (by simp; omega) _, ?_, .inl ⟨rfl, rfl⟩⟩, hgall⟩
      exact (((ho2.kept hg3 (.inr hv2.symm)).kept ((World.grownBy.refl w3 _).setCell (a := ⟨w.heap.size, 0, none⟩) (g := w.heap.size) rfl (.int .i64 0)) (.inr hv3.symm)).kept ((World.grownBy.refl _ _).setCell (a := ⟨w.heap.size, 1, none⟩) (g := w.heap.size) rfl (.int .i64 0)) (.inr hv3.symm)).lower (by omega)
end Go.Proofs.YthjmficglpfgpaaDoor
namespace Go.Proofs.YthjmficglpfgpaaDoor
set_option linter.unusedVariables false
set_option linter.unusedSimpArgs false
open Go Go.RowKit Enc
set_option maxRecDepth 100000
set_option maxHeartbeats 800000

theorem allCl_one (xs : List Acc) (a : Int) : allCl xs [a] = isCl xs a := by simp [allCl]
theorem allCl_two (xs : List Acc) (a b : Int) : allCl xs [a, b] = (isCl xs a && isCl xs b) := by simp [allCl]
theorem Desk.alloc {w : World} {g : Nat} {a p s kn : Value} {now : Int} {xs : List Acc} {ps : List Pay} (h : Desk w g a p s kn now xs ps) (o : Obj) : Desk (w.alloc o) g a p s kn now xs ps :=
  ⟨h.at_.alloc o, h.accs.alloc o, h.pays.alloc o, h.ne, h.good, h.err.below (below_alloc (Below.refl _ _) o)⟩
theorem Desk.below {w w' : World} {g : Nat} {a p s kn : Value} {now : Int} {xs : List Acc} {ps : List Pay} (h : Desk w g a p s kn now xs ps) (hb : Below w.heap.size w w') : Desk w' g a p s kn now xs ps :=
  ⟨h.at_.next hb, h.accs.below hb, h.pays.below hb, h.ne, h.good, h.err.below hb⟩
/-- What is told, carried over into the box of the call's own answer. -/
theorem DeskRes.out {w0 w w' : World} {g : Nat} {p s kn : Value} {now : Int} {ps : List Pay} {r : Except Int (List Acc × List Pay × Int)} {e : Ending} (h : DeskRes w w' g p s kn now ps r e) (hb : Below w0.heap.size w0 w) (hg : g < w0.heap.size) :
    ∃ err id, e = .returned (Rep.val ⟨err, id⟩) ∧ w.grownBy w' (some g) ∧ ∀ (j : Nat) (u v : Value), w0.heap.size ≤ j → j < w.heap.size → DeskRes w0 ((w'.setCell ⟨j, 0, none⟩ u).setCell ⟨j, 1, none⟩ v) g p s kn now ps r (.returned (Rep.val ⟨err, id⟩)) := by
  unfold DeskRes at h ⊢
  have hs := hb.size
  cases r with
  | error c =>
    obtain ⟨rfl, hz⟩ := h
    refine ⟨_, _, rfl, only_of_below hz g, fun j u v hj hj2 => ⟨rfl, ?_⟩⟩
    exact ((below_next hb hz).setCell (by simpa using hj) _).setCell (by simpa using hj) _
  | ok t =>
    obtain ⟨ys, qs, id⟩ := t
    obtain ⟨rfl, ⟨a', p', hd, ha, hp⟩, hg2⟩ := h
    refine ⟨_, _, rfl, hg2, fun j u v hj hj2 => ⟨rfl, ⟨a', p', ?_, ?_, ?_⟩, ?_⟩⟩
    · exact (hd.far (p := ⟨j, 0, none⟩) (by simp; omega) _).far (p := ⟨j, 1, none⟩) (by simp; omega) _
    · have hn : some j ≠ a'.ownBlock := ha.ne hj2
      exact ((ha.kept ((World.grownBy.refl w' _).setCell (a := ⟨j, 0, none⟩) (g := j) rfl u) (.inr hn.symm)).kept ((World.grownBy.refl _ _).setCell (a := ⟨j, 1, none⟩) (g := j) rfl v) (.inr hn.symm)).lower hs
    · refine hp.imp (fun h => h) fun hp => ?_
      have hn : some j ≠ p'.ownBlock := hp.ne hj2
      exact ((hp.kept ((World.grownBy.refl w' _).setCell (a := ⟨j, 0, none⟩) (g := j) rfl u) (.inr hn.symm)).kept ((World.grownBy.refl _ _).setCell (a := ⟨j, 1, none⟩) (g := j) rfl v) (.inr hn.symm)).lower hs
    · exact (((only_of_below hb g).trans hg2).setNew (a := ⟨j, 0, none⟩) hj u).setNew (a := ⟨j, 1, none⟩) hj v

def deskTransfer (xs : List Acc) (ps : List Pay) (r : Req) : Except Int (List Acc × List Pay × Int) :=
  if isCl xs r.a && isCl xs r.b then deskPost xs ps r.a r.b r.amt else .error 2
theorem transfer_desk (g : Nat) (a p s kn : Value) (now : Int) (xs : List Acc) (ps : List Pay) (r : Req) (w : World) (hD : Desk w g a p s kn now xs ps) :
    Calls Tryd.prog 61 #[.pointer (some ⟨g, 0, none⟩), r.val] w fun e w' => DeskRes w w' g p s kn now ps (deskTransfer xs ps r) e := by
  obtain ⟨key, op, ra, rb, amt, legs, til⟩ := r
  have gl := hD.at_.lt
  have hD2 := ((hD.alloc (.cells #[.int .i64 key, .int .i64 op, .int .i64 ra, .int .i64 rb, .int .i64 amt, .int .i64 legs, .int .i64 til] 29)).alloc (.cells #[.int .i64 0, .int .i64 0] 40)).alloc (.cells #[.int .i64 ra, .int .i64 rb] 3)
  have hk : Row ((((w.alloc (.cells #[.int .i64 key, .int .i64 op, .int .i64 ra, .int .i64 rb, .int .i64 amt, .int .i64 legs, .int .i64 til] 29)).alloc (.cells #[.int .i64 0, .int .i64 0] 40))).alloc (.cells #[.int .i64 ra, .int .i64 rb] 3)) (.slice (some ⟨w.heap.size + 1 + 1, 0, none⟩) 2 2) [ra, rb] := by
    have := Row.lit ((w.alloc (.cells #[.int .i64 key, .int .i64 op, .int .i64 ra, .int .i64 rb, .int .i64 amt, .int .i64 legs, .int .i64 til] 29)).alloc (.cells #[.int .i64 0, .int .i64 0] 40)) [ra, rb] #[.int .i64 ra, .int .i64 rb] rfl 3 2 rfl (by decide)
    simpa using this
  have HC := Lib.hid (clients_any g a p s kn now xs [ra, rb] _ _ hD2.at_ hD2.accs hk)
  cases hc : allCl xs [ra, rb] with
  | false =>
    have hr := Lib.hid (show deskTransfer xs ps ⟨key, op, ra, rb, amt, legs, til⟩ = .error 2 by simp [deskTransfer, ← allCl_two, hc])
    have hcc := Lib.hid hc
    clear hc
    go_enter Tryd.func61, Tryd.ntmps61
    go_wp2_with fail
    refine HC.out.mono ?_
    rintro e w' ⟨rfl, rfl⟩
    rw [hcc.out]
    have hj := (Blk.new1 w (.cells #[.int .i64 key, .int .i64 op, .int .i64 ra, .int .i64 rb, .int .i64 amt, .int .i64 legs, .int .i64 til] 29) 40 #[.int .i64 0, .int .i64 0]).alloc (.cells #[.int .i64 ra, .int .i64 rb] 3)
    have j0 := hj.at 0 _ rfl
    have j1 := hj.at 1 _ rfl
    have jf := hj.frozen
    go_wp2_with fail
    refine bodyPost_ret (res_cell rfl _ rfl agg_rep rfl ((Blk.new1 _ _ _ _).alloc _)) rfl ?_
    rw [hr.out]
    refine ⟨rfl, ?_⟩
    (repeat (first | (with_reducible refine below_drew ?_) | (with_reducible refine below_drewN ?_ _) | (with_reducible refine below_alloc ?_ _) | ((with_reducible refine Below.setCell ?_ ?_ _); rotate_left; (focus (first | (simp; done) | (simp; omega))))))
    exact Below.refl _ _
  | true =>
    have hr := Lib.hid (show deskTransfer xs ps ⟨key, op, ra, rb, amt, legs, til⟩ = deskPost xs ps ra rb amt by simp [deskTransfer, ← allCl_two, hc])
    have hcc := Lib.hid hc
    clear hc
    go_enter Tryd.func61, Tryd.ntmps61
    go_wp2_with fail
    refine HC.out.mono ?_
    rintro e w' ⟨rfl, rfl⟩
    rw [hcc.out]
    obtain ⟨k0, k1, k2, k3, k4, k5, k6⟩ := (((Blk.new w 29 #[.int .i64 key, .int .i64 op, .int .i64 ra, .int .i64 rb, .int .i64 amt, .int .i64 legs, .int .i64 til]).alloc (.cells #[.int .i64 0, .int .i64 0] 40)).alloc (.cells #[.int .i64 ra, .int .i64 rb] 3)).c7
    go_wp2_with fail
    refine (post_desk g a p s kn now xs ps ra rb amt _ hD2).mono ?_
    intro e w1 hres
    obtain ⟨err, id, rfl, hg1, hall⟩ := hres.out (w0 := w) (below_alloc (below_alloc (below_alloc (Below.refl _ _) _) _) _) gl
    have hj := ((Blk.new1 w (.cells #[.int .i64 key, .int .i64 op, .int .i64 ra, .int .i64 rb, .int .i64 amt, .int .i64 legs, .int .i64 til] 29) 40 #[.int .i64 0, .int .i64 0]).alloc (.cells #[.int .i64 ra, .int .i64 rb] 3)).grown hg1 (by intro h; injection h with h; omega)
    have j0 := hj.at 0 _ rfl
    have j1 := hj.at 1 _ rfl
    have jf := hj.frozen
    go_wp2_with fail
    refine bodyPost_ret (res_cell rfl _ rfl agg_rep rfl (hj.chain2)) rfl ?_
    rw [hr.out]
    exact hall _ _ _ (by omega) (by simp)

theorem _root_.Go.Calls.still {P : Program} {f : FuncId} {args : Array Value} {w : World} {v : Value} (h : Calls P f args w fun e w' => w = w' ∧ e = .returned v) : Calls P f args w fun e w' => e = .returned v ∧ w' = w := h.mono fun _ _ ⟨h1, h2⟩ => ⟨h2, h1.symm⟩
def deskDeposit (xs : List Acc) (ps : List Pay) (r : Req) : Except Int (List Acc × List Pay × Int) :=
  if isCl xs r.a then deskPost xs ps (3 * (rd xs r.a).cur) r.a r.amt else .error 2
theorem deposit_desk (g : Nat) (a p s kn : Value) (now : Int) (xs : List Acc) (ps : List Pay) (r : Req) (w : World) (hD : Desk w g a p s kn now xs ps) :
    Calls Tryd.prog 60 #[.pointer (some ⟨g, 0, none⟩), r.val] w fun e w' => DeskRes w w' g p s kn now ps (deskDeposit xs ps r) e := by
  obtain ⟨key, op, ra, rb, amt, legs, til⟩ := r
  have gl := hD.at_.lt
  have hD2 := ((hD.alloc (.cells #[.int .i64 key, .int .i64 op, .int .i64 ra, .int .i64 rb, .int .i64 amt, .int .i64 legs, .int .i64 til] 29)).alloc (.cells #[.int .i64 0, .int .i64 0] 40)).alloc (.cells #[.int .i64 ra] 3)
  have hk : Row ((((w.alloc (.cells #[.int .i64 key, .int .i64 op, .int .i64 ra, .int .i64 rb, .int .i64 amt, .int .i64 legs, .int .i64 til] 29)).alloc (.cells #[.int .i64 0, .int .i64 0] 40))).alloc (.cells #[.int .i64 ra] 3)) (.slice (some ⟨w.heap.size + 1 + 1, 0, none⟩) 1 1) [ra] := by
    have := Row.lit ((w.alloc (.cells #[.int .i64 key, .int .i64 op, .int .i64 ra, .int .i64 rb, .int .i64 amt, .int .i64 legs, .int .i64 til] 29)).alloc (.cells #[.int .i64 0, .int .i64 0] 40)) [ra] #[.int .i64 ra] rfl 3 1 rfl (by decide)
    simpa using this
  have HC := Lib.hid (clients_any g a p s kn now xs [ra] _ _ hD2.at_ hD2.accs hk)
  cases hc : allCl xs [ra] with
  | false =>
    have hr := Lib.hid (show deskDeposit xs ps ⟨key, op, ra, rb, amt, legs, til⟩ = .error 2 by simp [deskDeposit, ← allCl_one, hc])
    have hcc := Lib.hid hc
    clear hc
    go_enter Tryd.func60, Tryd.ntmps60
    go_wp2_with fail
    refine HC.out.mono ?_
    rintro e w' ⟨rfl, rfl⟩
    rw [hcc.out]
    have hj := (Blk.new1 w (.cells #[.int .i64 key, .int .i64 op, .int .i64 ra, .int .i64 rb, .int .i64 amt, .int .i64 legs, .int .i64 til] 29) 40 #[.int .i64 0, .int .i64 0]).alloc (.cells #[.int .i64 ra] 3)
    have j0 := hj.at 0 _ rfl
    have j1 := hj.at 1 _ rfl
    have jf := hj.frozen
    go_wp2_with fail
    refine bodyPost_ret (res_cell rfl _ rfl agg_rep rfl ((Blk.new1 _ _ _ _).alloc _)) rfl ?_
    rw [hr.out]
    refine ⟨rfl, ?_⟩
    (repeat (first | (with_reducible refine below_drew ?_) | (with_reducible refine below_drewN ?_ _) | (with_reducible refine below_alloc ?_ _) | ((with_reducible refine Below.setCell ?_ ?_ _); rotate_left; (focus (first | (simp; done) | (simp; omega))))))
    exact Below.refl _ _
  | true =>
    have hr := Lib.hid (show deskDeposit xs ps ⟨key, op, ra, rb, amt, legs, til⟩ = deskPost xs ps (3 * (rd xs ra).cur) ra amt by simp [deskDeposit, ← allCl_one, hc])
    have hcc := Lib.hid hc
    have hcl : 9 ≤ ra ∧ ra < xs.length := by rw [allCl_one] at hc; simpa [isCl] using hc
    clear hc
    obtain ⟨hcl0, hcl1⟩ := hcl
    have hra0 : 0 ≤ ra := by omega
    obtain ⟨hcr0, hcr3⟩ := hD.good.cur ra hra0 hcl1
    go_enter Tryd.func60, Tryd.ntmps60
    go_wp2_with fail
    refine HC.out.mono ?_
    rintro e w' ⟨rfl, rfl⟩
    rw [hcc.out]
    obtain ⟨k0, k1, k2, k3, k4, k5, k6⟩ := (((Blk.new w 29 #[.int .i64 key, .int .i64 op, .int .i64 ra, .int .i64 rb, .int .i64 amt, .int .i64 legs, .int .i64 til]).alloc (.cells #[.int .i64 0, .int .i64 0] 40)).alloc (.cells #[.int .i64 ra] 3)).c7
    go_wp2_with fail
    have hb := below_alloc (below_alloc (below_alloc (Below.refl w.heap.size w) (.cells #[.int .i64 key, .int .i64 op, .int .i64 ra, .int .i64 rb, .int .i64 amt, .int .i64 legs, .int .i64 til] 29)) (.cells #[.int .i64 0, .int .i64 0] 40)) (.cells #[.int .i64 ra] 3)
    have hj := (Blk.new1 w (.cells #[.int .i64 key, .int .i64 op, .int .i64 ra, .int .i64 rb, .int .i64 amt, .int .i64 legs, .int .i64 til] 29) 40 #[.int .i64 0, .int .i64 0]).alloc (.cells #[.int .i64 ra] 3)
    refine abs_world (fun W => Desk W g a p s kn now xs ps ∧ Blk W (w.heap.size + 1) 40 #[.int .i64 0, .int .i64 0] ∧ Blk W w.heap.size 29 #[.int .i64 key, .int .i64 op, .int .i64 ra, .int .i64 rb, .int .i64 amt, .int .i64 legs, .int .i64 til] ∧ Below w.heap.size w W) ⟨hD2, hj, ((Blk.new w _ _).alloc _).alloc _, hb⟩ ?_
    clear hD2 hk HC k0 k1 k2 k3 k4 k5 k6 hj hb
    rintro W ⟨hD2, hj, hbx, hb⟩
    obtain ⟨b, o, c, hav, c1, c2, c3, hl⟩ := hD2.accs.accI ra hra0 hcl1
    obtain ⟨g0, g1, g2, g3, g4⟩ := hD2.at_.c5
    obtain ⟨k0, k1, k2, k3, k4, k5, k6⟩ := hbx.c7
    rw [hav] at g0
    refine still_tail 16 (by kernel_rfl) (by kernel_rfl) (fun wd hwd hwc hwf hws => ?_); simp only [List.take_succ_cons, List.take_zero, List.drop_succ_cons, List.drop_zero]; (repeat still_step); still_call (Go.Calls.still (number_any 0 (rd xs ra).cur _ (by omega) (by omega) hcr0 hcr3)); (repeat still_step); refine wpStill_nil ?_
    have hDd : Desk wd g a p s kn now xs ps := by rw [hwd.out]; exact hD2.below (below_drew (Below.refl _ _))
    have hbd : Below w.heap.size w wd := by rw [hwd.out]; exact below_drew hb
    have hjd : Blk wd (w.heap.size + 1) 40 #[.int .i64 0, .int .i64 0] := by rw [hwd.out]; exact hj.drew
    go_wp2_with fail
    refine (post_desk g a p s kn now xs ps _ ra amt _ hDd).mono ?_
    intro e w1 hres
    obtain ⟨err, id, rfl, hg1, hall⟩ := hres.out (w0 := w) hbd gl
    have hj1 := hjd.grown hg1 (by intro h; injection h with h; omega)
    have j0 := hj1.at 0 _ rfl
    have j1 := hj1.at 1 _ rfl
    have jf := hj1.frozen
    go_wp2_with fail
    refine bodyPost_ret (res_cell rfl _ rfl agg_rep rfl (hj1.chain2)) rfl ?_
    rw [hr.out]
    exact hall _ _ _ (by omega) hjd.lt
end Go.Proofs.YthjmficglpfgpaaDoor
namespace Go.Proofs.YthjmficglpfgpaaDoor
set_option linter.unusedVariables false
set_option linter.unusedSimpArgs false
open Go Go.RowKit Enc
set_option maxRecDepth 100000
set_option maxHeartbeats 800000

def deskOpen (xs : List Acc) (ps : List Pay) (r : Req) : Except Int (List Acc × List Pay × Int) :=
  if xs.length ≥ 64 then .error 7 else .ok (xs ++ [⟨r.a, 0, 0⟩], ps, xs.length)
theorem open_desk (g : Nat) (a p s kn : Value) (now : Int) (xs : List Acc) (ps : List Pay) (r : Req) (w : World) (hD : Desk w g a p s kn now xs ps) :
    Calls Tryd.prog 59 #[.pointer (some ⟨g, 0, none⟩), r.val] w fun e w' => DeskRes w w' g p s kn now ps (deskOpen xs ps r) e := by
  obtain ⟨key, op, ra, rb, amt, legs, til⟩ := r
  have gl := hD.at_.lt
  obtain ⟨A, c, rfl⟩ := hD.accs.slice
  obtain ⟨g0, g1, g2, g3, g4⟩ := hD.at_.c5
  have gl1 : g < w.heap.size + 1 := by omega
  have gl2 : g < w.heap.size + 1 + 1 := by omega
  by_cases h64 : xs.length ≥ 64
  · have hr := Lib.hid (show deskOpen xs ps ⟨key, op, ra, rb, amt, legs, til⟩ = .error 7 by simp [deskOpen, h64])
    have h64' : (64 : Int) ≤ xs.length := by omega
    clear h64
    go_enter Tryd.func59, Tryd.ntmps59
    go_wp2_with fail
    refine bodyPost_ret (res_cell rfl _ rfl agg_rep rfl (Blk.new1 _ _ _ _)) rfl ?_
    rw [hr.out]
    refine ⟨rfl, ?_⟩
    (repeat (first | (with_reducible refine below_drew ?_) | (with_reducible refine below_drewN ?_ _) | (with_reducible refine below_alloc ?_ _) | ((with_reducible refine Below.setCell ?_ ?_ _); rotate_left; (focus (first | (simp; done) | (simp; omega))))))
    exact Below.refl _ _
  · have hr := Lib.hid (show deskOpen xs ps ⟨key, op, ra, rb, amt, legs, til⟩ = .ok (xs ++ [⟨ra, 0, 0⟩], ps, xs.length) by simp [deskOpen, h64])
    have h64' : (xs.length : Int) < 64 := by omega
    have hlen : xs.length < 64 := by omega
    clear h64
    go_enter Tryd.func59, Tryd.ntmps59
    go_wp2_with fail
    refine abs_world (fun W => Desk W g (.slice A xs.length c) p s kn now xs ps ∧ Blk W (w.heap.size + 1) 40 #[.int .i64 0, .int .i64 0] ∧ Blk W w.heap.size 29 #[.int .i64 key, .int .i64 op, .int .i64 ra, .int .i64 rb, .int .i64 amt, .int .i64 legs, .int .i64 til] ∧ Below w.heap.size w W) ⟨(hD.alloc _).alloc _, Blk.new1 _ _ _ _, (Blk.new w _ _).alloc _, below_alloc (below_alloc (Below.refl _ _) _) _⟩ ?_
    clear hD g0 g1 g2 g3 g4
    rintro W ⟨hD2, hj, hbx, hb⟩
    obtain ⟨g0, g1, g2, g3, g4⟩ := hD2.at_.c5
    obtain ⟨k0, k1, k2, k3, k4, k5, k6⟩ := hbx.c7
    have lg := hD2.at_.lt
    have lb := hbx.lt
    have hbd : Below w.heap.size w W.drew := below_drew hb
    have g0d : W.drew.cell? ⟨g, 0, none⟩ = some (.slice A xs.length c) := g0
    have k2d : W.drew.cell? ⟨w.heap.size, 2, none⟩ = some (.int .i64 ra) := k2
    refine wp_region_head 18 (fun w' => Below W.heap.size W w' ∧ w'.cell? ⟨g, 0, none⟩ = some (.slice A xs.length c) ∧ w'.cell? ⟨w.heap.size, 2, none⟩ = some (.int .i64 ra)) (by kernel_rfl) (by kernel_rfl) ⟨below_drew (Below.refl _ _), g0d, k2d⟩ (fun hHeld => ?_)
    refine wpHead_take (i := 0) (v := ?_) rfl (by kernel_rfl) (by kernel_rfl) (by kernel_rfl) (by kernel_rfl) (fun _ _ _ h => h) (Or.inl ⟨by rfl, fun w hSw => ?_⟩) (by assumption) ?_; rotate_left; (focus ((try dsimp only at hSw); go_simp <;> with_reducible rfl)); (try simp only [Act.put, List.setIfInBounds_toArray, List.set_cons_zero, List.set_cons_succ])
    refine wpHead_take (i := 1) (v := ?_) rfl (by kernel_rfl) (by kernel_rfl) (by kernel_rfl) (by kernel_rfl) (fun _ _ _ h => h) (Or.inl ⟨by rfl, fun w hSw => ?_⟩) (by assumption) ?_; rotate_left; (focus ((try dsimp only at hSw); go_simp <;> with_reducible rfl)); (try simp only [Act.put, List.setIfInBounds_toArray, List.set_cons_zero, List.set_cons_succ])
    refine wpHead_take (i := 2) (v := ?_) rfl (by kernel_rfl) (by kernel_rfl) (by kernel_rfl) (by kernel_rfl) (fun _ _ _ h => h) (Or.inl ⟨by rfl, fun w hSw => ?_⟩) (by assumption) ?_; rotate_left; (focus ((try dsimp only at hSw); go_simp <;> with_reducible rfl)); (try simp only [Act.put, List.setIfInBounds_toArray, List.set_cons_zero, List.set_cons_succ])
    refine wpHead_take (i := 3) (v := ?_) rfl (by kernel_rfl) (by kernel_rfl) (by kernel_rfl) (by kernel_rfl) (fun _ _ _ h => h) (Or.inl ⟨by rfl, fun w hSw => ?_⟩) (by assumption) ?_; rotate_left; (focus ((try dsimp only at hSw); go_simp <;> with_reducible rfl)); (try simp only [Act.put, List.setIfInBounds_toArray, List.set_cons_zero, List.set_cons_succ])
    refine wpHead_take (i := 4) (v := ?_) rfl (by kernel_rfl) (by kernel_rfl) (by kernel_rfl) (by kernel_rfl) (fun _ _ _ h => h) (Or.inl ⟨by rfl, fun w hSw => ?_⟩) (by assumption) ?_; rotate_left; (focus ((try dsimp only at hSw); go_simp <;> with_reducible rfl)); (try simp only [Act.put, List.setIfInBounds_toArray, List.set_cons_zero, List.set_cons_succ])
    refine wpHead_take (i := 5) (v := ?_) rfl (by kernel_rfl) (by kernel_rfl) (by kernel_rfl) (by kernel_rfl) (fun _ _ _ h => h) (Or.inl ⟨by rfl, fun w hSw => ?_⟩) (by assumption) ?_; rotate_left; (focus ((try dsimp only at hSw); go_simp <;> with_reducible rfl)); (try simp only [Act.put, List.setIfInBounds_toArray, List.set_cons_zero, List.set_cons_succ])
    refine wpHead_take (i := 7) (v := ?_) rfl (by kernel_rfl) (by kernel_rfl) (by kernel_rfl) (by kernel_rfl) (fun _ _ _ h => h) (Or.inl ⟨by rfl, fun w hSw => ?_⟩) (by assumption) ?_; rotate_left; (focus ((try dsimp only at hSw); go_simp <;> with_reducible rfl)); (try simp only [Act.put, List.setIfInBounds_toArray, List.set_cons_zero, List.set_cons_succ])
    refine wpHead_take (i := 8) (v := ?_) rfl (by kernel_rfl) (by kernel_rfl) (by kernel_rfl) (by kernel_rfl) (fun _ _ _ h => h) (Or.inl ⟨by rfl, fun w hSw => ?_⟩) (by assumption) ?_; rotate_left; (focus ((try dsimp only at hSw); go_simp <;> with_reducible rfl)); (try simp only [Act.put, List.setIfInBounds_toArray, List.set_cons_zero, List.set_cons_succ])
    refine wpHead_take (i := 9) (v := ?_) rfl (by kernel_rfl) (by kernel_rfl) (by kernel_rfl) (by kernel_rfl) (fun _ _ _ h => h) (Or.inl ⟨by rfl, fun w hSw => ?_⟩) (by assumption) ?_; rotate_left; (focus ((try dsimp only at hSw); go_simp <;> with_reducible rfl)); (try simp only [Act.put, List.setIfInBounds_toArray, List.set_cons_zero, List.set_cons_succ])
    refine wpHead_take (i := 12) (v := ?_) rfl (by kernel_rfl) (by kernel_rfl) (by kernel_rfl) (by kernel_rfl) (fun _ _ _ h => h) (Or.inl ⟨by rfl, fun w hSw => ?_⟩) (by assumption) ?_; rotate_left; (focus ((try dsimp only at hSw); go_simp <;> with_reducible rfl)); (try simp only [Act.put, List.setIfInBounds_toArray, List.set_cons_zero, List.set_cons_succ])
    refine wpHead_take (i := 13) (v := ?_) rfl (by kernel_rfl) (by kernel_rfl) (by kernel_rfl) (by kernel_rfl) (fun _ _ _ h => h) (Or.inl ⟨by rfl, fun w hSw => ?_⟩) (by assumption) ?_; rotate_left; (focus ((try dsimp only at hSw); go_simp <;> with_reducible rfl)); (try simp only [Act.put, List.setIfInBounds_toArray, List.set_cons_zero, List.set_cons_succ])
    refine wpHead_take (i := 14) (v := ?_) rfl (by kernel_rfl) (by kernel_rfl) (by kernel_rfl) (by kernel_rfl) (fun _ _ _ h => h) (Or.inl ⟨by rfl, fun w hSw => ?_⟩) (by assumption) ?_; rotate_left; (focus ((try dsimp only at hSw); go_simp <;> with_reducible rfl)); (try simp only [Act.put, List.setIfInBounds_toArray, List.set_cons_zero, List.set_cons_succ])
    refine wpHead_take (i := 15) (v := ?_) rfl (by kernel_rfl) (by kernel_rfl) (by kernel_rfl) (by kernel_rfl) (fun _ _ _ h => h) (Or.inl ⟨by rfl, fun w hSw => ?_⟩) (by assumption) ?_; rotate_left; (focus ((try dsimp only at hSw); go_simp <;> with_reducible rfl)); (try simp only [Act.put, List.setIfInBounds_toArray, List.set_cons_zero, List.set_cons_succ])
    refine wpHead_take (i := 16) (v := ?_) rfl (by kernel_rfl) (by kernel_rfl) (by kernel_rfl) (by kernel_rfl) (fun _ _ _ h => h) (Or.inl ⟨by rfl, fun w hSw => ?_⟩) (by assumption) ?_; rotate_left; (focus ((try dsimp only at hSw); go_simp <;> with_reducible rfl)); (try simp only [Act.put, List.setIfInBounds_toArray, List.set_cons_zero, List.set_cons_succ])
    refine wpHead_take (i := 17) (v := ?_) rfl (by kernel_rfl) (by kernel_rfl) (by kernel_rfl) (by kernel_rfl) (fun _ _ _ h => h) (Or.inl ⟨by rfl, fun w hSw => ?_⟩) (by assumption) ?_; rotate_left; (focus ((try dsimp only at hSw); go_simp <;> with_reducible rfl)); (try simp only [Act.put, List.setIfInBounds_toArray, List.set_cons_zero, List.set_cons_succ])
    have HBY := Lib.hid (show (xs.length + [Acc.mk ra 0 0].length) * 24 ≤ 140737488355328 by simp; omega)
    have hjg : some (w.heap.size + 1) ≠ some g := by intro h; injection h with h; omega
    have lj := hj.lt
    have lg := hD2.at_.lt
    have hbd : Below W.heap.size W W.drew := below_drew (Below.refl _ _)
    refine wpHead_ready (rs := [6, 10]) (by kernel_rfl) (by simp) ?_
    refine AllHead.cons (i := 6) rfl (by kernel_rfl) (fun K hK => ?_) ?_
    · go_simp
      go_at_call 58
      refine (clone_any _ xs _ hD2.accs.drew (by omega)).mono ?_
      rintro e w1 ⟨v1, rfl, ho1, hz1⟩
      have hb1 : Below W.heap.size W w1 := below_next hbd hz1
      refine hK.out _ _ ⟨hb1, cell_below hb1 g0, cell_below hb1 k2⟩ (fun hHeld1 => ?_)
      clear hK K
      (try simp only [Act.put, List.setIfInBounds_toArray, List.set_cons_zero, List.set_cons_succ])
      refine wpHead_ready (rs := [10]) (by kernel_rfl) (by simp) ?_
      refine AllHead.cons (i := 10) rfl (by kernel_rfl) (fun K hK => ?_) ?_
      · go_simp
        refine hK.out _ _ ⟨below_alloc hb1 _, Lib.cell?_alloc_some _ hHeld1.2.1, Lib.cell?_alloc_some _ hHeld1.2.2⟩ (fun hHeld2 => ?_)
        clear hK K
        (try simp only [Act.put, List.setIfInBounds_toArray, List.set_cons_zero, List.set_cons_succ])
        refine wpHead_ready (rs := [11]) (by kernel_rfl) (by simp) ?_
        refine AllHead.cons (i := 11) rfl (by kernel_rfl) (fun K hK => ?_) ?_
        · skip
          refine step_append (B := W.heap.size) (xs := xs) (ys := [Acc.mk ra 0 0]) sT_acc (by rfl) (by rfl) v1 (.slice (some ⟨_, 0, none⟩) 1 1) (by rfl) (by rfl) (ho1.alloc _) (Row.box w1 (Acc.mk ra 0 0) _ rfl _) HBY.out (by decide) (below_alloc hb1 _).size ?_
          intro v2 w2 hown2 hg2 hat2
          have hb2 : Below W.heap.size W w2 := below_grown (below_alloc hb1 _) hg2 ho1.base
          obtain ⟨A2, c2, rfl⟩ := hown2.row.slice
          have hown3 : Own w2 W.heap.size 50 (.slice A2 (xs.length + 1) c2) (xs ++ [Acc.mk ra 0 0]) := by simpa using hown2
          refine hK.out _ _ ⟨hb2, cell_below hb2 g0, cell_below hb2 k2⟩ (fun hHeld3 => ?_)
          (try simp only [Act.put, List.setIfInBounds_toArray, List.set_cons_zero, List.set_cons_succ])
          refine wpHead_done (by kernel_rfl) ?_; simp only [List.drop_succ_cons, List.drop_zero]
          go_wp2_with fail
          refine (take_yes g _ p s kn A2 _ c2 now xs.length w2 (hD2.at_.next hb2)).mono ?_
          rintro e w3 ⟨rfl, hd3, hg3⟩
          have hj3 := (hj.next hb2).grown hg3 hjg
          have j0 := hj3.at 0 _ rfl
          have j1 := hj3.at 1 _ rfl
          have jf := hj3.frozen
          go_wp2_with fail
          refine bodyPost_ret (res_cell rfl _ rfl agg_rep rfl (hj3.chain2)) rfl ?_
          rw [hr.out]
          have hv3 : some (w.heap.size + 1) ≠ (Value.slice A2 (xs.length + 1) c2).ownBlock := hown3.ne lj
          have hvg : some g ≠ (Value.slice A2 (xs.length + 1) c2).ownBlock := hown3.ne lg
          have hS3 : w.grownBy w3 (some g) := (only_of_below (below_next hb hb2) g).trans hg3
          refine ⟨rfl, ⟨_, _, (hd3.far (p := ⟨w.heap.size + 1, 0, none⟩) (by simp; omega) _).far (p := ⟨w.heap.size + 1, 1, none⟩) (by simp; omega) _, ?_, .inl ⟨rfl, rfl⟩⟩, (hS3.setNew (a := ⟨w.heap.size + 1, 0, none⟩) (Nat.le_succ _) _).setNew (a := ⟨w.heap.size + 1, 1, none⟩) (Nat.le_succ _) _⟩
          exact (((hown3.kept hg3 (.inr hvg.symm)).kept ((World.grownBy.refl w3 _).setCell (a := ⟨w.heap.size + 1, 0, none⟩) (g := w.heap.size + 1) rfl (.int .i64 0)) (.inr hv3.symm)).kept ((World.grownBy.refl _ _).setCell (a := ⟨w.heap.size + 1, 1, none⟩) (g := w.heap.size + 1) rfl _) (.inr hv3.symm)).lower (show w.heap.size ≤ W.heap.size by omega)
        exact AllHead.nil
      exact AllHead.nil
    refine AllHead.cons (i := 10) rfl (by kernel_rfl) (fun K hK => ?_) ?_
    · go_simp
      refine hK.out _ _ ⟨below_alloc hbd _, Lib.cell?_alloc_some _ g0d, Lib.cell?_alloc_some _ k2d⟩ (fun hHeld2 => ?_)
      clear hK K
      (try simp only [Act.put, List.setIfInBounds_toArray, List.set_cons_zero, List.set_cons_succ])
      refine wpHead_ready (rs := [6]) (by kernel_rfl) (by simp) ?_
      refine AllHead.cons (i := 6) rfl (by kernel_rfl) (fun K hK => ?_) ?_
      · go_simp
        go_at_call 58
        refine (clone_any _ xs _ (hD2.accs.drew.alloc _) (by omega)).mono ?_
        rintro e w1 ⟨v1, rfl, ho1, hz1⟩
        have hb1 : Below W.heap.size W w1 := below_next (below_alloc hbd _) hz1
        refine hK.out _ _ ⟨hb1, cell_below hb1 g0, cell_below hb1 k2⟩ (fun hHeld1 => ?_)
        clear hK K
        (try simp only [Act.put, List.setIfInBounds_toArray, List.set_cons_zero, List.set_cons_succ])
        refine wpHead_ready (rs := [11]) (by kernel_rfl) (by simp) ?_
        refine AllHead.cons (i := 11) rfl (by kernel_rfl) (fun K hK => ?_) ?_
        · skip
          refine step_append (B := W.heap.size) (xs := xs) (ys := [Acc.mk ra 0 0]) sT_acc (by rfl) (by rfl) v1 (.slice (some ⟨_, 0, none⟩) 1 1) (by rfl) (by rfl) (ho1.lower (by simp)) ((Row.box W.drew (Acc.mk ra 0 0) #[.int .i64 ra, .int .i64 0, .int .i64 0] rfl 50).below hz1) HBY.out (by decide) hb1.size ?_
          intro v2 w2 hown2 hg2 hat2
          have hb2 : Below W.heap.size W w2 := below_grown hb1 hg2 (ho1.lower (B' := W.heap.size) (by simp)).base
          obtain ⟨A2, c2, rfl⟩ := hown2.row.slice
          have hown3 : Own w2 W.heap.size 50 (.slice A2 (xs.length + 1) c2) (xs ++ [Acc.mk ra 0 0]) := by simpa using hown2
          refine hK.out _ _ ⟨hb2, cell_below hb2 g0, cell_below hb2 k2⟩ (fun hHeld3 => ?_)
          (try simp only [Act.put, List.setIfInBounds_toArray, List.set_cons_zero, List.set_cons_succ])
          refine wpHead_done (by kernel_rfl) ?_; simp only [List.drop_succ_cons, List.drop_zero]
          go_wp2_with fail
          refine (take_yes g _ p s kn A2 _ c2 now xs.length w2 (hD2.at_.next hb2)).mono ?_
          rintro e w3 ⟨rfl, hd3, hg3⟩
          have hj3 := (hj.next hb2).grown hg3 hjg
          have j0 := hj3.at 0 _ rfl
          have j1 := hj3.at 1 _ rfl
          have jf := hj3.frozen
          go_wp2_with fail
          refine bodyPost_ret (res_cell rfl _ rfl agg_rep rfl (hj3.chain2)) rfl ?_
          rw [hr.out]
          have hv3 : some (w.heap.size + 1) ≠ (Value.slice A2 (xs.length + 1) c2).ownBlock := hown3.ne lj
          have hvg : some g ≠ (Value.slice A2 (xs.length + 1) c2).ownBlock := hown3.ne lg
          have hS3 : w.grownBy w3 (some g) := (only_of_below (below_next hb hb2) g).trans hg3
          refine ⟨rfl, ⟨_, _, (hd3.far (p := ⟨w.heap.size + 1, 0, none⟩) (by simp; omega) _).far (p := ⟨w.heap.size + 1, 1, none⟩) (by simp; omega) _, ?_, .inl ⟨rfl, rfl⟩⟩, (hS3.setNew (a := ⟨w.heap.size + 1, 0, none⟩) (Nat.le_succ _) _).setNew (a := ⟨w.heap.size + 1, 1, none⟩) (Nat.le_succ _) _⟩
          exact (((hown3.kept hg3 (.inr hvg.symm)).kept ((World.grownBy.refl w3 _).setCell (a := ⟨w.heap.size + 1, 0, none⟩) (g := w.heap.size + 1) rfl (.int .i64 0)) (.inr hv3.symm)).kept ((World.grownBy.refl _ _).setCell (a := ⟨w.heap.size + 1, 1, none⟩) (g := w.heap.size + 1) rfl _) (.inr hv3.symm)).lower (show w.heap.size ≤ W.heap.size by omega)
        exact AllHead.nil
      exact AllHead.nil
    exact AllHead.nil
end Go.Proofs.YthjmficglpfgpaaDoor
namespace Go.Proofs.YthjmficglpfgpaaDoor
set_option linter.unusedVariables false
set_option linter.unusedSimpArgs false
open Go Go.RowKit Enc
set_option maxRecDepth 100000
set_option maxHeartbeats 800000

/-- Payments that are right, of clients. -/
def PaysOk (xs : List Acc) (ps : List Pay) : Prop := ps.length ≤ 64 ∧ ∀ k : Int, 0 ≤ k → k < ps.length → PayOk (rd ps k) ∧ (9 ≤ (rd ps k).frm ∧ (rd ps k).frm < xs.length) ∧ (9 ≤ (rd ps k).to ∧ (rd ps k).to < xs.length)
def deskPay (f : Pay → Except Int (List Acc)) (ps : List Pay) (r : Req) : Except Int (List Acc × List Pay × Int) :=
  if ¬(0 ≤ r.a ∧ r.a < ps.length) then .error 2
  else match payDo (rd ps r.a) r.op r.amt with
    | .error c => .error c
    | .ok q => match f (rd ps r.a) with
      | .error c => .error c
      | .ok ys => .ok (ys, ps.set r.a.toNat q, 0)
abbrev rcells (r : Req) : Array Value := #[.int .i64 r.key, .int .i64 r.op, .int .i64 r.a, .int .i64 r.b, .int .i64 r.amt, .int .i64 r.legs, .int .i64 r.til]
abbrev pcells (p : Pay) : Array Value := #[.int .i64 p.frm, .int .i64 p.to, .int .i64 p.auth, .int .i64 p.capt, .int .i64 p.refd, .int .i64 p.chgd, .int .i64 p.til, .int .i64 p.stage]
/-- What both hands back, in words for a walk. -/
inductive BothWay (ps : List Pay) (r : Req) : Value → Value → Value → Prop
  | no (c : Int) (p q : Pay) (h : ∀ f, deskPay f ps r = .error c) : BothWay ps r p.val q.val (.iface 38 (.int .i64 c))
  | yes (q : Pay) (h0 : 0 ≤ r.a) (h1 : r.a < ps.length) (h : payDo (rd ps r.a) r.op r.amt = .ok q) : BothWay ps r (rd ps r.a).val q.val .nilIface
theorem both_way {w w' : World} {ps : List Pay} {r : Req} {e : Ending} (h : BothRes w w' ps r e) : Below w.heap.size w w' ∧ ∃ x y z, e = .returned (.tuple #[x, y, z]) ∧ BothWay ps r x y z := by
  refine ⟨h.1, ?_⟩
  have h2 := h.2
  split at h2
  · rename_i hn
    exact ⟨_, _, _, h2, .no 2 z8 z8 fun f => by simp only [deskPay]; rw [if_pos hn]⟩
  · rename_i hn
    have hn' : 0 ≤ r.a ∧ r.a < ps.length := Decidable.not_not.1 hn
    cases hp : payDo (rd ps r.a) r.op r.amt with
    | error c =>
      rw [hp] at h2
      exact ⟨_, _, _, h2, .no c _ z8 fun f => by simp only [deskPay]; rw [if_neg hn, hp]⟩
    | ok q =>
      rw [hp] at h2
      exact ⟨_, _, _, h2, .yes q hn'.1 hn'.2 hp⟩

theorem pay_res {w w3 w4 : World} {g B : Nat} {p s kn v p' x y : Value} {now : Int} {ys : List Acc} {ps qs : List Pay} (hb : Below w.heap.size w w3) (gl : g < w.heap.size) (hB : w.heap.size + 1 < B) (hB3 : w.heap.size + 1 < w3.heap.size)
    (ho : Own w3 B 50 v ys) (hd4 : DeskAt w4 g v p' s kn now) (hp4 : Own w4 w3.heap.size 47 p' qs) (hg4 : w3.grownBy w4 (some g)) :
    DeskRes w ((w4.setCell ⟨w.heap.size + 1, 0, none⟩ x).setCell ⟨w.heap.size + 1, 1, none⟩ y) g p s kn now ps (.ok (ys, qs, 0)) (.returned (Rep.val ⟨0, 0⟩)) := by
  have hv3 : some (w.heap.size + 1) ≠ v.ownBlock := ho.ne hB
  have hvg : some g ≠ v.ownBlock := ho.ne (by omega)
  have hq3 : some (w.heap.size + 1) ≠ p'.ownBlock := hp4.ne hB3
  refine ⟨rfl, ⟨v, p', (hd4.far (p := ⟨w.heap.size + 1, 0, none⟩) (by simp; omega) _).far (p := ⟨w.heap.size + 1, 1, none⟩) (by simp; omega) _, ?_, .inr ?_⟩, ?_⟩
  · exact (((ho.kept hg4 (.inr hvg.symm)).kept ((World.grownBy.refl w4 _).setCell (a := ⟨w.heap.size + 1, 0, none⟩) (g := w.heap.size + 1) rfl x) (.inr hv3.symm)).kept ((World.grownBy.refl _ _).setCell (a := ⟨w.heap.size + 1, 1, none⟩) (g := w.heap.size + 1) rfl y) (.inr hv3.symm)).lower (by omega)
  · exact ((hp4.kept ((World.grownBy.refl w4 _).setCell (a := ⟨w.heap.size + 1, 0, none⟩) (g := w.heap.size + 1) rfl x) (.inr hq3.symm)).kept ((World.grownBy.refl _ _).setCell (a := ⟨w.heap.size + 1, 1, none⟩) (g := w.heap.size + 1) rfl y) (.inr hq3.symm)).lower (by omega)
  · exact (((only_of_below hb g).trans hg4).setNew (a := ⟨w.heap.size + 1, 0, none⟩) (Nat.le_succ _) x).setNew (a := ⟨w.heap.size + 1, 1, none⟩) (Nat.le_succ _) y

theorem void_desk (g : Nat) (a p s kn : Value) (now : Int) (xs : List Acc) (ps : List Pay) (r : Req) (w : World) (hD : Desk w g a p s kn now xs ps) (hP : PaysOk xs ps) :
    Calls Tryd.prog 64 #[.pointer (some ⟨g, 0, none⟩), r.val] w fun e w' => DeskRes w w' g p s kn now ps (deskPay (fun p => release xs p.frm (left p)) ps r) e := by
  have gl := hD.at_.lt
  have HB := Lib.hid (both_any g a p s kn now r ps _ ((hD.at_.alloc (.cells (rcells r) 29)).alloc (.cells #[.int .i64 0, .int .i64 0] 40)) ((hD.pays.alloc (.cells (rcells r) 29)).alloc (.cells #[.int .i64 0, .int .i64 0] 40)) fun k h0 h1 => (hP.2 k h0 h1).1)
  obtain ⟨key, op, ra, rb, amt, legs, til⟩ := r
  go_enter Tryd.func64, Tryd.ntmps64
  go_wp2_with fail
  refine HB.out.mono ?_
  intro e w1 hres
  obtain ⟨hz, x, y, z, rfl, hway⟩ := both_way hres
  clear hres HB
  have hD1 := ((hD.alloc (.cells (rcells ⟨key, op, ra, rb, amt, legs, til⟩) 29)).alloc (.cells #[.int .i64 0, .int .i64 0] 40)).below hz
  have hj1 := (Blk.new1 w (.cells (rcells ⟨key, op, ra, rb, amt, legs, til⟩) 29) 40 #[.int .i64 0, .int .i64 0]).next hz
  have hr1 := ((Blk.new w 29 (rcells ⟨key, op, ra, rb, amt, legs, til⟩)).alloc (.cells #[.int .i64 0, .int .i64 0] 40)).next hz
  have hb1 : Below w.heap.size w w1 := below_next (below_alloc (below_alloc (Below.refl _ _) _) _) hz
  cases hway with
  | no c p' q' hf =>
    obtain ⟨m0, m1, m2, m3, m4, m5, m6, m7⟩ := p'
    obtain ⟨n0, n1, n2, n3, n4, n5, n6, n7⟩ := q'
    go_wp2_with fail
    have hbn := below_alloc (below_alloc hb1 (.cells (pcells ⟨m0, m1, m2, m3, m4, m5, m6, m7⟩) 47)) (.cells (pcells ⟨n0, n1, n2, n3, n4, n5, n6, n7⟩) 47)
    refine (number_err c _ ((hD1.alloc _).alloc _).err).mono ?_
    rintro e w2 ⟨rfl, hz2⟩
    have hj := ((hj1.alloc _).alloc _).next hz2
    have j0 := hj.at 0 _ rfl
    have j1 := hj.at 1 _ rfl
    have jf := hj.frozen
    go_wp2_with fail
    refine bodyPost_ret (res_cell rfl _ rfl agg_rep rfl (hj.chain2)) rfl ?_
    rw [hf]
    refine ⟨rfl, ?_⟩
    (repeat (first | (with_reducible refine below_drew ?_) | (with_reducible refine below_drewN ?_ _) | (with_reducible refine below_alloc ?_ _) | ((with_reducible refine Below.setCell ?_ ?_ _); rotate_left; (focus (first | (simp; done) | (simp; omega))))))
    exact below_next hbn hz2
  | yes q h0 h1 hq =>
    obtain ⟨q0, q1, q2, q3, q4, q5, q6, q7⟩ := q
    have hok := hP.2 _ h0 h1
    have HX : deskPay (fun p => release xs p.frm (left p)) ps ⟨key, op, ra, rb, amt, legs, til⟩ = match release xs (rd ps ra).frm (left (rd ps ra)) with | .error c => .error c | .ok ys => .ok (ys, ps.set ra.toNat ⟨q0, q1, q2, q3, q4, q5, q6, q7⟩, 0) := by
      simp only [deskPay]
      rw [if_neg (by simp only at h0 h1 ⊢; omega), hq]
    simp only at h0 h1 hok hq
    clear hq
    obtain ⟨k, rfl⟩ := Int.eq_ofNat_of_zero_le h0
    rw [Int.toNat_natCast] at HX
    have hk : k < ps.length := by omega
    obtain ⟨pp, hpp⟩ : ∃ pp, rd ps (k : Int) = pp := ⟨_, rfl⟩
    rw [show rd ps (Req.mk key op (k : Int) rb amt legs til).a = pp from hpp]
    rw [hpp] at HX hok
    clear hpp
    obtain ⟨p0, p1, p2, p3, p4, p5, p6, p7⟩ := pp
    have HX' := Lib.hid HX
    clear HX
    go_wp2_with fail
    refine abs_world (fun W => Desk W g a p s kn now xs ps ∧ Blk W (w.heap.size + 1) 40 #[.int .i64 0, .int .i64 0] ∧ Blk W w.heap.size 29 (rcells ⟨key, op, k, rb, amt, legs, til⟩) ∧ Blk W w1.heap.size 47 (pcells ⟨p0, p1, p2, p3, p4, p5, p6, p7⟩) ∧ Blk W (w1.heap.size + 1) 47 (pcells ⟨q0, q1, q2, q3, q4, q5, q6, q7⟩) ∧ Below w.heap.size w W)
      ⟨(hD1.alloc _).alloc _, (hj1.alloc _).alloc _, (hr1.alloc _).alloc _, (Blk.new w1 _ _).alloc _, Blk.new1 _ _ _ _, below_alloc (below_alloc hb1 _) _⟩ ?_
    clear hD1 hj1 hr1 hb1
    rintro W ⟨hD2, hj, hbr, hbp, hbq, hb⟩
    obtain ⟨g0, g1, g2, g3, g4⟩ := hD2.at_.c5
    obtain ⟨k0, k1, k2, k3, k4, k5, k6⟩ := hbr.c7
    obtain ⟨c0, c1, c2, c3, c4, c5, c6, c7⟩ := hbp.c8
    have hSof : ∀ w', Below W.heap.size W w' → (Below W.heap.size W w' ∧ w'.cell? ⟨g, 0, none⟩ = some a ∧ w'.cell? ⟨w1.heap.size, 0, none⟩ = some (.int .i64 p0) ∧ w'.cell? ⟨w1.heap.size, 1, none⟩ = some (.int .i64 p1) ∧ w'.cell? ⟨w1.heap.size, 2, none⟩ = some (.int .i64 p2) ∧ w'.cell? ⟨w1.heap.size, 3, none⟩ = some (.int .i64 p3) ∧ w'.cell? ⟨w1.heap.size, 4, none⟩ = some (.int .i64 p4) ∧ w'.cell? ⟨w1.heap.size, 5, none⟩ = some (.int .i64 p5) ∧ w'.cell? ⟨w1.heap.size, 6, none⟩ = some (.int .i64 p6) ∧ w'.cell? ⟨w1.heap.size, 7, none⟩ = some (.int .i64 p7)) :=
      fun w' hb => ⟨hb, cell_below hb g0, cell_below hb c0, cell_below hb c1, cell_below hb c2, cell_below hb c3, cell_below hb c4, cell_below hb c5, cell_below hb c6, cell_below hb c7⟩
    have hbW : Below W.heap.size W W.drew := below_drew (Below.refl _ _)
    cases hrl : release xs p0 (left ⟨p0, p1, p2, p3, p4, p5, p6, p7⟩) with
    | error c =>
      have hr := Lib.hid (HX'.out.trans (by rw [show release xs (Pay.mk p0 p1 p2 p3 p4 p5 p6 p7).frm (left ⟨p0, p1, p2, p3, p4, p5, p6, p7⟩) = .error c from hrl]))
      have hm := Lib.hid hrl
      clear hrl HX'
      go_region_held3 (fun w' => Below W.heap.size W w' ∧ w'.cell? ⟨g, 0, none⟩ = some a ∧ w'.cell? ⟨w1.heap.size, 0, none⟩ = some (.int .i64 p0) ∧ w'.cell? ⟨w1.heap.size, 1, none⟩ = some (.int .i64 p1) ∧ w'.cell? ⟨w1.heap.size, 2, none⟩ = some (.int .i64 p2) ∧ w'.cell? ⟨w1.heap.size, 3, none⟩ = some (.int .i64 p3) ∧ w'.cell? ⟨w1.heap.size, 4, none⟩ = some (.int .i64 p4) ∧ w'.cell? ⟨w1.heap.size, 5, none⟩ = some (.int .i64 p5) ∧ w'.cell? ⟨w1.heap.size, 6, none⟩ = some (.int .i64 p6) ∧ w'.cell? ⟨w1.heap.size, 7, none⟩ = some (.int .i64 p7))
        (first | exact hSof _ hbW | exact hSof _ hbB | exact hSof _ hbA | assumption)
        ((first
          | (go_at_call 35; refine (left_any ⟨p0, p1, p2, p3, p4, p5, p6, p7⟩ _ hok.1).mono ?_; rintro e w2 ⟨rfl, hz2⟩; have hbA : Below W.heap.size W w2 := below_next hbW hz2)
          | (go_at_call 43; refine (release_any a xs _ _ _ (hD2.accs.below hbA) hD2.good.abs).mono ?_; intro e w3 hres; rw [hm.out] at hres; obtain ⟨hz3, rfl⟩ := hres; have hbB : Below W.heap.size W w3 := below_next hbA hz3)))
      clear k0 k1 k2 k3 k4 k5 k6 g0 g1 g2 g3 g4
      have hj3 := hj.next hbB
      obtain ⟨k0, k1, k2, k3, k4, k5, k6⟩ := (hbr.next hbB).c7
      obtain ⟨d0, d1, d2, d3, d4, d5, d6, d7⟩ := (hbq.next hbB).c8
      have hpos := hj3.lt
      go_wp2_with fail
      refine (pay_no g k c ⟨q0, q1, q2, q3, q4, q5, q6, q7⟩ _ _ (hD2.err.below hbB) (by omega)).mono ?_
      rintro e w4 ⟨rfl, hz4⟩
      have hj4 := hj3.next hz4
      have j0 := hj4.at 0 _ rfl
      have j1 := hj4.at 1 _ rfl
      have jf := hj4.frozen
      go_wp2_with fail
      refine bodyPost_ret (res_cell rfl _ rfl agg_rep rfl (hj4.chain2)) rfl ?_
      rw [hr.out]
      refine ⟨rfl, ?_⟩
      (repeat (first | (with_reducible refine below_drew ?_) | (with_reducible refine below_drewN ?_ _) | (with_reducible refine below_alloc ?_ _) | ((with_reducible refine Below.setCell ?_ ?_ _); rotate_left; (focus (first | (simp; done) | (simp; omega))))))
      exact below_next (below_next hb hbB) hz4
    | ok ys =>
      have hr := Lib.hid (HX'.out.trans (by rw [show release xs (Pay.mk p0 p1 p2 p3 p4 p5 p6 p7).frm (left ⟨p0, p1, p2, p3, p4, p5, p6, p7⟩) = .ok ys from hrl]))
      have hm := Lib.hid hrl
      clear hrl HX'
      go_region_held3 (fun w' => Below W.heap.size W w' ∧ w'.cell? ⟨g, 0, none⟩ = some a ∧ w'.cell? ⟨w1.heap.size, 0, none⟩ = some (.int .i64 p0) ∧ w'.cell? ⟨w1.heap.size, 1, none⟩ = some (.int .i64 p1) ∧ w'.cell? ⟨w1.heap.size, 2, none⟩ = some (.int .i64 p2) ∧ w'.cell? ⟨w1.heap.size, 3, none⟩ = some (.int .i64 p3) ∧ w'.cell? ⟨w1.heap.size, 4, none⟩ = some (.int .i64 p4) ∧ w'.cell? ⟨w1.heap.size, 5, none⟩ = some (.int .i64 p5) ∧ w'.cell? ⟨w1.heap.size, 6, none⟩ = some (.int .i64 p6) ∧ w'.cell? ⟨w1.heap.size, 7, none⟩ = some (.int .i64 p7))
        (first | exact hSof _ hbW | exact hSof _ hbB | exact hSof _ hbA | assumption)
        ((first
          | (go_at_call 35; refine (left_any ⟨p0, p1, p2, p3, p4, p5, p6, p7⟩ _ hok.1).mono ?_; rintro e w2 ⟨rfl, hz2⟩; have hbA : Below W.heap.size W w2 := below_next hbW hz2)
          | (go_at_call 43; refine (release_any a xs _ _ _ (hD2.accs.below hbA) hD2.good.abs).mono ?_; intro e w3 hres; rw [hm.out] at hres; obtain ⟨hz3, v3, rfl, ho3⟩ := hres; have hbB : Below W.heap.size W w3 := below_next hbA hz3)))
      clear k0 k1 k2 k3 k4 k5 k6 g0 g1 g2 g3 g4
      have hj3 := hj.next hbB
      obtain ⟨k0, k1, k2, k3, k4, k5, k6⟩ := (hbr.next hbB).c7
      obtain ⟨d0, d1, d2, d3, d4, d5, d6, d7⟩ := (hbq.next hbB).c8
      have hD3 := hD2.below hbB
      have hs3 := hbA.size
      have lgW := hD2.at_.lt
      have ljW := hj.lt
      obtain ⟨A3, c3, rfl⟩ := ho3.row.slice
      go_wp2_with fail
      refine (pay_yes g a p s kn A3 _ c3 now k ⟨q0, q1, q2, q3, q4, q5, q6, q7⟩ ps _ hD3.at_ hD3.pays hD3.ne hk (by have := hP.1; omega)).mono ?_
      rintro e w4 ⟨rfl, ⟨p', hd4, hp4⟩, hg4⟩
      have hj4 := hj3.grown hg4 (by intro h; injection h with h; omega)
      have j0 := hj4.at 0 _ rfl
      have j1 := hj4.at 1 _ rfl
      have jf := hj4.frozen
      go_wp2_with fail
      refine bodyPost_ret (res_cell rfl _ rfl agg_rep rfl (hj4.chain2)) rfl ?_
      rw [hr.out]
      exact pay_res (below_next hb hbB) gl (by omega) hj3.lt ho3 hd4 hp4 hg4
end Go.Proofs.YthjmficglpfgpaaDoor
namespace Go.Proofs.YthjmficglpfgpaaDoor
set_option linter.unusedVariables false
set_option linter.unusedSimpArgs false
open Go Go.RowKit Enc
set_option maxRecDepth 100000
set_option maxHeartbeats 800000

/-- What a capture makes of accounts. -/
def capF (xs : List Acc) (n : Int) (p : Pay) : Except Int (List Acc) :=
  match move xs p.frm p.to n with
  | .error c => .error c
  | .ok es => spend xs n es
theorem capture_desk (g : Nat) (a p s kn : Value) (now : Int) (xs : List Acc) (ps : List Pay) (r : Req) (w : World) (hD : Desk w g a p s kn now xs ps) (hP : PaysOk xs ps) :
    Calls Tryd.prog 63 #[.pointer (some ⟨g, 0, none⟩), r.val] w fun e w' => DeskRes w w' g p s kn now ps (deskPay (capF xs r.amt) ps r) e := by
  have gl := hD.at_.lt
  have HB := Lib.hid (both_any g a p s kn now r ps _ ((hD.at_.alloc (.cells (rcells r) 29)).alloc (.cells #[.int .i64 0, .int .i64 0] 40)) ((hD.pays.alloc (.cells (rcells r) 29)).alloc (.cells #[.int .i64 0, .int .i64 0] 40)) fun k h0 h1 => (hP.2 k h0 h1).1)
  obtain ⟨key, op, ra, rb, amt, legs, til⟩ := r
  go_enter Tryd.func63, Tryd.ntmps63
  go_wp2_with fail
  refine HB.out.mono ?_
  intro e w1 hres
  obtain ⟨hz, x, y, z, rfl, hway⟩ := both_way hres
  clear hres HB
  have hD1 := ((hD.alloc (.cells (rcells ⟨key, op, ra, rb, amt, legs, til⟩) 29)).alloc (.cells #[.int .i64 0, .int .i64 0] 40)).below hz
  have hj1 := (Blk.new1 w (.cells (rcells ⟨key, op, ra, rb, amt, legs, til⟩) 29) 40 #[.int .i64 0, .int .i64 0]).next hz
  have hr1 := ((Blk.new w 29 (rcells ⟨key, op, ra, rb, amt, legs, til⟩)).alloc (.cells #[.int .i64 0, .int .i64 0] 40)).next hz
  have hb1 : Below w.heap.size w w1 := below_next (below_alloc (below_alloc (Below.refl _ _) _) _) hz
  cases hway with
  | no c p' q' hf =>
    obtain ⟨m0, m1, m2, m3, m4, m5, m6, m7⟩ := p'
    obtain ⟨n0, n1, n2, n3, n4, n5, n6, n7⟩ := q'
    go_wp2_with fail
    have hbn := below_alloc (below_alloc hb1 (.cells (pcells ⟨m0, m1, m2, m3, m4, m5, m6, m7⟩) 47)) (.cells (pcells ⟨n0, n1, n2, n3, n4, n5, n6, n7⟩) 47)
    refine (number_err c _ ((hD1.alloc _).alloc _).err).mono ?_
    rintro e w2 ⟨rfl, hz2⟩
    have hj := ((hj1.alloc _).alloc _).next hz2
    have j0 := hj.at 0 _ rfl
    have j1 := hj.at 1 _ rfl
    have jf := hj.frozen
    go_wp2_with fail
    refine bodyPost_ret (res_cell rfl _ rfl agg_rep rfl (hj.chain2)) rfl ?_
    rw [hf]
    refine ⟨rfl, ?_⟩
    (repeat (first | (with_reducible refine below_drew ?_) | (with_reducible refine below_drewN ?_ _) | (with_reducible refine below_alloc ?_ _) | ((with_reducible refine Below.setCell ?_ ?_ _); rotate_left; (focus (first | (simp; done) | (simp; omega))))))
    exact below_next hbn hz2
  | yes q h0 h1 hq =>
    obtain ⟨q0, q1, q2, q3, q4, q5, q6, q7⟩ := q
    have hok := hP.2 _ h0 h1
    have HX : deskPay (capF xs amt) ps ⟨key, op, ra, rb, amt, legs, til⟩ = match capF xs amt (rd ps ra) with | .error c => .error c | .ok ys => .ok (ys, ps.set ra.toNat ⟨q0, q1, q2, q3, q4, q5, q6, q7⟩, 0) := by
      simp only [deskPay]
      rw [if_neg (by simp only at h0 h1 ⊢; omega), hq]
      first | done | rfl
    simp only at h0 h1 hok hq
    clear hq
    obtain ⟨k, rfl⟩ := Int.eq_ofNat_of_zero_le h0
    rw [Int.toNat_natCast] at HX
    have hk : k < ps.length := by omega
    obtain ⟨pp, hpp⟩ : ∃ pp, rd ps (k : Int) = pp := ⟨_, rfl⟩
    rw [show rd ps (Req.mk key op (k : Int) rb amt legs til).a = pp from hpp]
    rw [hpp] at HX hok
    clear hpp
    obtain ⟨p0, p1, p2, p3, p4, p5, p6, p7⟩ := pp
    have HX' := Lib.hid HX
    clear HX
    go_wp2_with fail
    refine abs_world (fun W => Desk W g a p s kn now xs ps ∧ Blk W (w.heap.size + 1) 40 #[.int .i64 0, .int .i64 0] ∧ Blk W w.heap.size 29 (rcells ⟨key, op, k, rb, amt, legs, til⟩) ∧ Blk W w1.heap.size 47 (pcells ⟨p0, p1, p2, p3, p4, p5, p6, p7⟩) ∧ Blk W (w1.heap.size + 1) 47 (pcells ⟨q0, q1, q2, q3, q4, q5, q6, q7⟩) ∧ Below w.heap.size w W)
      ⟨(hD1.alloc _).alloc _, (hj1.alloc _).alloc _, (hr1.alloc _).alloc _, (Blk.new w1 _ _).alloc _, Blk.new1 _ _ _ _, below_alloc (below_alloc hb1 _) _⟩ ?_
    clear hD1 hj1 hr1 hb1
    rintro W ⟨hD2, hj, hbr, hbp, hbq, hb⟩
    obtain ⟨g0, g1, g2, g3, g4⟩ := hD2.at_.c5
    obtain ⟨k0, k1, k2, k3, k4, k5, k6⟩ := hbr.c7
    obtain ⟨c0, c1, c2, c3, c4, c5, c6, c7⟩ := hbp.c8
    have lgW := hD2.at_.lt
    have ljW := hj.lt
    have hbW : Below W.heap.size W W.drew := below_drew (Below.refl _ _)
    have hSof : ∀ w', Below W.heap.size W w' → (Below W.heap.size W w' ∧ w'.cell? ⟨g, 0, none⟩ = some a ∧ w'.cell? ⟨w1.heap.size, 0, none⟩ = some (.int .i64 p0) ∧ w'.cell? ⟨w1.heap.size, 1, none⟩ = some (.int .i64 p1) ∧ w'.cell? ⟨w.heap.size, 4, none⟩ = some (.int .i64 amt)) :=
      fun w' hb => ⟨hb, cell_below hb g0, cell_below hb c0, cell_below hb c1, cell_below hb k4⟩
    cases hmv : move xs p0 p1 amt with
    | error c =>
      have hr := Lib.hid (HX'.out.trans (by first | (simp only [capF, hmv]; done) | (simp only [capF, hmv]; rfl) | simp [capF, hmv]))
      have hm := Lib.hid hmv
      clear hmv HX'
      go_region_held3 (fun w' => Below W.heap.size W w' ∧ w'.cell? ⟨g, 0, none⟩ = some a ∧ w'.cell? ⟨w1.heap.size, 0, none⟩ = some (.int .i64 p0) ∧ w'.cell? ⟨w1.heap.size, 1, none⟩ = some (.int .i64 p1) ∧ w'.cell? ⟨w.heap.size, 4, none⟩ = some (.int .i64 amt))
        (first | exact hSof _ hbW | exact hSof _ hbA | assumption)
        ((go_at_call 39; refine (move_any a xs p0 p1 amt _ hD2.accs.drew hD2.good.curOk).mono ?_; intro e w2 hres; rw [hm.out] at hres; obtain ⟨hz2, rfl⟩ := hres; have hbA : Below W.heap.size W w2 := below_next hbW hz2))
      have hbE := hbA
      have hjE := hj.next hbE
      go_wp2_with fail
      refine (number_err c _ (hD2.err.below hbE)).mono ?_
      rintro e w8 ⟨rfl, hz8⟩
      have hj8 := hjE.next hz8
      have j0 := hj8.at 0 _ rfl
      have j1 := hj8.at 1 _ rfl
      have jf := hj8.frozen
      go_wp2_with fail
      refine bodyPost_ret (res_cell rfl _ rfl agg_rep rfl (hj8.chain2)) rfl ?_
      rw [hr.out]
      refine ⟨rfl, ?_⟩
      (repeat (first | (with_reducible refine below_drew ?_) | (with_reducible refine below_drewN ?_ _) | (with_reducible refine below_alloc ?_ _) | ((with_reducible refine Below.setCell ?_ ?_ _); rotate_left; (focus (first | (simp; done) | (simp; omega))))))
      exact below_next (below_next hb hbE) hz8
    | ok es =>
      have hB := (move_moveOk hD2.good hmv).bal hD2.good
      have hm := Lib.hid hmv
      cases hsp : spend xs amt es with
      | error c =>
        have hr := Lib.hid (HX'.out.trans (by first | (simp only [capF, hmv, hsp]; done) | (simp only [capF, hmv, hsp]; rfl) | simp [capF, hmv, hsp]))
        have hm2 := Lib.hid hsp
        clear hmv hsp HX'
        go_region_held3 (fun w' => Below W.heap.size W w' ∧ w'.cell? ⟨g, 0, none⟩ = some a ∧ w'.cell? ⟨w1.heap.size, 0, none⟩ = some (.int .i64 p0) ∧ w'.cell? ⟨w1.heap.size, 1, none⟩ = some (.int .i64 p1) ∧ w'.cell? ⟨w.heap.size, 4, none⟩ = some (.int .i64 amt))
          (first | exact hSof _ hbW | exact hSof _ hbA | assumption)
          ((go_at_call 39; refine (move_any a xs p0 p1 amt _ hD2.accs.drew hD2.good.curOk).mono ?_; intro e w2 hres; rw [hm.out] at hres; obtain ⟨hz2, v2, rfl, ho2⟩ := hres; have hbA : Below W.heap.size W w2 := below_next hbW hz2))
        go_wp2_with fail
        go_region_held3 (fun w' => Below W.heap.size W w' ∧ w'.cell? ⟨g, 0, none⟩ = some a ∧ w'.cell? ⟨w1.heap.size, 0, none⟩ = some (.int .i64 p0) ∧ w'.cell? ⟨w1.heap.size, 1, none⟩ = some (.int .i64 p1) ∧ w'.cell? ⟨w.heap.size, 4, none⟩ = some (.int .i64 amt))
          (first | exact hSof _ (below_drew hbA) | exact hSof _ hbB | assumption)
          ((go_at_call 44; refine (spend_any a v2 xs amt es _ (hD2.accs.below (below_drew hbA)) ho2.row.drew hB hD2.good.abs).mono ?_; intro e w3 hres; rw [hm2.out] at hres; obtain ⟨hz3, rfl⟩ := hres; have hbB : Below W.heap.size W w3 := below_next (below_drew hbA) hz3))
        clear k0 k1 k2 k3 k4 k5 k6 g0 g1 g2 g3 g4
        have hj3 := hj.next hbB
        obtain ⟨k0, k1, k2, k3, k4, k5, k6⟩ := (hbr.next hbB).c7
        obtain ⟨d0, d1, d2, d3, d4, d5, d6, d7⟩ := (hbq.next hbB).c8
        have hpos := hj3.lt
        go_wp2_with fail
        refine (pay_no g k c ⟨q0, q1, q2, q3, q4, q5, q6, q7⟩ _ _ (hD2.err.below hbB) (by omega)).mono ?_
        rintro e w4 ⟨rfl, hz4⟩
        have hj4 := hj3.next hz4
        have j0 := hj4.at 0 _ rfl
        have j1 := hj4.at 1 _ rfl
        have jf := hj4.frozen
        go_wp2_with fail
        refine bodyPost_ret (res_cell rfl _ rfl agg_rep rfl (hj4.chain2)) rfl ?_
        rw [hr.out]
        refine ⟨rfl, ?_⟩
        (repeat (first | (with_reducible refine below_drew ?_) | (with_reducible refine below_drewN ?_ _) | (with_reducible refine below_alloc ?_ _) | ((with_reducible refine Below.setCell ?_ ?_ _); rotate_left; (focus (first | (simp; done) | (simp; omega))))))
        exact below_next (below_next hb hbB) hz4
      | ok ys =>
        have hr := Lib.hid (HX'.out.trans (by first | (simp only [capF, hmv, hsp]; done) | (simp only [capF, hmv, hsp]; rfl) | simp [capF, hmv, hsp]))
        have hm2 := Lib.hid hsp
        clear hmv hsp HX'
        go_region_held3 (fun w' => Below W.heap.size W w' ∧ w'.cell? ⟨g, 0, none⟩ = some a ∧ w'.cell? ⟨w1.heap.size, 0, none⟩ = some (.int .i64 p0) ∧ w'.cell? ⟨w1.heap.size, 1, none⟩ = some (.int .i64 p1) ∧ w'.cell? ⟨w.heap.size, 4, none⟩ = some (.int .i64 amt))
          (first | exact hSof _ hbW | exact hSof _ hbA | assumption)
          ((go_at_call 39; refine (move_any a xs p0 p1 amt _ hD2.accs.drew hD2.good.curOk).mono ?_; intro e w2 hres; rw [hm.out] at hres; obtain ⟨hz2, v2, rfl, ho2⟩ := hres; have hbA : Below W.heap.size W w2 := below_next hbW hz2))
        go_wp2_with fail
        go_region_held3 (fun w' => Below W.heap.size W w' ∧ w'.cell? ⟨g, 0, none⟩ = some a ∧ w'.cell? ⟨w1.heap.size, 0, none⟩ = some (.int .i64 p0) ∧ w'.cell? ⟨w1.heap.size, 1, none⟩ = some (.int .i64 p1) ∧ w'.cell? ⟨w.heap.size, 4, none⟩ = some (.int .i64 amt))
          (first | exact hSof _ (below_drew hbA) | exact hSof _ hbB | assumption)
          ((go_at_call 44; refine (spend_any a v2 xs amt es _ (hD2.accs.below (below_drew hbA)) ho2.row.drew hB hD2.good.abs).mono ?_; intro e w3 hres; rw [hm2.out] at hres; obtain ⟨hz3, v3, rfl, ho3⟩ := hres; have hbB : Below W.heap.size W w3 := below_next (below_drew hbA) hz3))
        clear k0 k1 k2 k3 k4 k5 k6 g0 g1 g2 g3 g4
        have hj3 := hj.next hbB
        obtain ⟨k0, k1, k2, k3, k4, k5, k6⟩ := (hbr.next hbB).c7
        obtain ⟨d0, d1, d2, d3, d4, d5, d6, d7⟩ := (hbq.next hbB).c8
        have hD3 := hD2.below hbB
        have hs3 := hbA.size
        obtain ⟨A3, c3, rfl⟩ := ho3.row.slice
        go_wp2_with fail
        refine (pay_yes g a p s kn A3 _ c3 now k ⟨q0, q1, q2, q3, q4, q5, q6, q7⟩ ps _ hD3.at_ hD3.pays hD3.ne hk (by have := hP.1; omega)).mono ?_
        rintro e w4 ⟨rfl, ⟨p', hd4, hp4⟩, hg4⟩
        have hj4 := hj3.grown hg4 (by intro h; injection h with h; omega)
        have j0 := hj4.at 0 _ rfl
        have j1 := hj4.at 1 _ rfl
        have jf := hj4.frozen
        go_wp2_with fail
        refine bodyPost_ret (res_cell rfl _ rfl agg_rep rfl (hj4.chain2)) rfl ?_
        rw [hr.out]
        exact pay_res (below_next hb hbB) gl (by first | omega | (simp; omega)) hj3.lt ho3 hd4 hp4 hg4
end Go.Proofs.YthjmficglpfgpaaDoor
namespace Go.Proofs.YthjmficglpfgpaaDoor
set_option linter.unusedVariables false
set_option linter.unusedSimpArgs false
open Go Go.RowKit Enc
set_option maxRecDepth 100000
set_option maxHeartbeats 800000

/-- What a refund makes of accounts. -/
def refF (xs : List Acc) (n : Int) (p : Pay) : Except Int (List Acc) :=
  match backE xs p n with
  | .error c => .error c
  | .ok es => post xs es
theorem backE_bal {xs : List Acc} {p : Pay} {n : Int} {es : List Ent} (hG : Good xs) (h : backE xs p n = .ok es) : Bal xs es := by
  unfold backE at h
  cases hm : move xs p.frm p.to n with
  | error c => rw [hm] at h; cases h
  | ok fs =>
    rw [hm] at h
    injection h with h
    subst h
    exact (move_moveOk hG hm).backBal hG
theorem refund_desk (g : Nat) (a p s kn : Value) (now : Int) (xs : List Acc) (ps : List Pay) (r : Req) (w : World) (hD : Desk w g a p s kn now xs ps) (hP : PaysOk xs ps) :
    Calls Tryd.prog 65 #[.pointer (some ⟨g, 0, none⟩), r.val] w fun e w' => DeskRes w w' g p s kn now ps (deskPay (refF xs r.amt) ps r) e := by
  have gl := hD.at_.lt
  have HB := Lib.hid (both_any g a p s kn now r ps _ ((hD.at_.alloc (.cells (rcells r) 29)).alloc (.cells #[.int .i64 0, .int .i64 0] 40)) ((hD.pays.alloc (.cells (rcells r) 29)).alloc (.cells #[.int .i64 0, .int .i64 0] 40)) fun k h0 h1 => (hP.2 k h0 h1).1)
  obtain ⟨key, op, ra, rb, amt, legs, til⟩ := r
  go_enter Tryd.func65, Tryd.ntmps65
  go_wp2_with fail
  refine HB.out.mono ?_
  intro e w1 hres
  obtain ⟨hz, x, y, z, rfl, hway⟩ := both_way hres
  clear hres HB
  have hD1 := ((hD.alloc (.cells (rcells ⟨key, op, ra, rb, amt, legs, til⟩) 29)).alloc (.cells #[.int .i64 0, .int .i64 0] 40)).below hz
  have hj1 := (Blk.new1 w (.cells (rcells ⟨key, op, ra, rb, amt, legs, til⟩) 29) 40 #[.int .i64 0, .int .i64 0]).next hz
  have hr1 := ((Blk.new w 29 (rcells ⟨key, op, ra, rb, amt, legs, til⟩)).alloc (.cells #[.int .i64 0, .int .i64 0] 40)).next hz
  have hb1 : Below w.heap.size w w1 := below_next (below_alloc (below_alloc (Below.refl _ _) _) _) hz
  cases hway with
  | no c p' q' hf =>
    obtain ⟨m0, m1, m2, m3, m4, m5, m6, m7⟩ := p'
    obtain ⟨n0, n1, n2, n3, n4, n5, n6, n7⟩ := q'
    go_wp2_with fail
    have hbn := below_alloc (below_alloc hb1 (.cells (pcells ⟨m0, m1, m2, m3, m4, m5, m6, m7⟩) 47)) (.cells (pcells ⟨n0, n1, n2, n3, n4, n5, n6, n7⟩) 47)
    refine (number_err c _ ((hD1.alloc _).alloc _).err).mono ?_
    rintro e w2 ⟨rfl, hz2⟩
    have hj := ((hj1.alloc _).alloc _).next hz2
    have j0 := hj.at 0 _ rfl
    have j1 := hj.at 1 _ rfl
    have jf := hj.frozen
    go_wp2_with fail
    refine bodyPost_ret (res_cell rfl _ rfl agg_rep rfl (hj.chain2)) rfl ?_
    rw [hf]
    refine ⟨rfl, ?_⟩
    (repeat (first | (with_reducible refine below_drew ?_) | (with_reducible refine below_drewN ?_ _) | (with_reducible refine below_alloc ?_ _) | ((with_reducible refine Below.setCell ?_ ?_ _); rotate_left; (focus (first | (simp; done) | (simp; omega))))))
    exact below_next hbn hz2
  | yes q h0 h1 hq =>
    obtain ⟨q0, q1, q2, q3, q4, q5, q6, q7⟩ := q
    have hok := hP.2 _ h0 h1
    have HX : deskPay (refF xs amt) ps ⟨key, op, ra, rb, amt, legs, til⟩ = match refF xs amt (rd ps ra) with | .error c => .error c | .ok ys => .ok (ys, ps.set ra.toNat ⟨q0, q1, q2, q3, q4, q5, q6, q7⟩, 0) := by
      simp only [deskPay]
      rw [if_neg (by simp only at h0 h1 ⊢; omega), hq]
      first | done | rfl
    simp only at h0 h1 hok hq
    clear hq
    obtain ⟨k, rfl⟩ := Int.eq_ofNat_of_zero_le h0
    rw [Int.toNat_natCast] at HX
    have hk : k < ps.length := by omega
    obtain ⟨pp, hpp⟩ : ∃ pp, rd ps (k : Int) = pp := ⟨_, rfl⟩
    rw [show rd ps (Req.mk key op (k : Int) rb amt legs til).a = pp from hpp]
    rw [hpp] at HX hok
    clear hpp
    obtain ⟨p0, p1, p2, p3, p4, p5, p6, p7⟩ := pp
    have HX' := Lib.hid HX
    clear HX
    have hD2 := (hD1.alloc (.cells #[.int .i64 p0, .int .i64 p1, .int .i64 p2, .int .i64 p3, .int .i64 p4, .int .i64 p5, .int .i64 p6, .int .i64 p7] 47)).alloc (.cells #[.int .i64 q0, .int .i64 q1, .int .i64 q2, .int .i64 q3, .int .i64 q4, .int .i64 q5, .int .i64 q6, .int .i64 q7] 47)
    have hj := (hj1.alloc (.cells #[.int .i64 p0, .int .i64 p1, .int .i64 p2, .int .i64 p3, .int .i64 p4, .int .i64 p5, .int .i64 p6, .int .i64 p7] 47)).alloc (.cells #[.int .i64 q0, .int .i64 q1, .int .i64 q2, .int .i64 q3, .int .i64 q4, .int .i64 q5, .int .i64 q6, .int .i64 q7] 47)
    have hbr := (hr1.alloc (.cells #[.int .i64 p0, .int .i64 p1, .int .i64 p2, .int .i64 p3, .int .i64 p4, .int .i64 p5, .int .i64 p6, .int .i64 p7] 47)).alloc (.cells #[.int .i64 q0, .int .i64 q1, .int .i64 q2, .int .i64 q3, .int .i64 q4, .int .i64 q5, .int .i64 q6, .int .i64 q7] 47)
    have hbp := (Blk.new w1 47 #[.int .i64 p0, .int .i64 p1, .int .i64 p2, .int .i64 p3, .int .i64 p4, .int .i64 p5, .int .i64 p6, .int .i64 p7]).alloc (.cells #[.int .i64 q0, .int .i64 q1, .int .i64 q2, .int .i64 q3, .int .i64 q4, .int .i64 q5, .int .i64 q6, .int .i64 q7] 47)
    have hbq := Blk.new1 w1 (.cells #[.int .i64 p0, .int .i64 p1, .int .i64 p2, .int .i64 p3, .int .i64 p4, .int .i64 p5, .int .i64 p6, .int .i64 p7] 47) 47 #[.int .i64 q0, .int .i64 q1, .int .i64 q2, .int .i64 q3, .int .i64 q4, .int .i64 q5, .int .i64 q6, .int .i64 q7]
    have hb := below_alloc (below_alloc hb1 (.cells #[.int .i64 p0, .int .i64 p1, .int .i64 p2, .int .i64 p3, .int .i64 p4, .int .i64 p5, .int .i64 p6, .int .i64 p7] 47)) (.cells #[.int .i64 q0, .int .i64 q1, .int .i64 q2, .int .i64 q3, .int .i64 q4, .int .i64 q5, .int .i64 q6, .int .i64 q7] 47)
    obtain ⟨e0, e1, e2, e3, e4, e5, e6⟩ := hr1.c7
    have lr1 := hr1.lt
    have lr2 : w.heap.size < w1.heap.size + 1 := by omega
    clear hD1 hj1 hr1 hb1
    go_wp2_with fail
    clear e0 e1 e2 e3 e4 e5 e6
    generalize hWW : (w1.alloc (.cells #[.int .i64 p0, .int .i64 p1, .int .i64 p2, .int .i64 p3, .int .i64 p4, .int .i64 p5, .int .i64 p6, .int .i64 p7] 47)).alloc (.cells #[.int .i64 q0, .int .i64 q1, .int .i64 q2, .int .i64 q3, .int .i64 q4, .int .i64 q5, .int .i64 q6, .int .i64 q7] 47) = W at *
    obtain ⟨g0, g1, g2, g3, g4⟩ := hD2.at_.c5
    obtain ⟨k0, k1, k2, k3, k4, k5, k6⟩ := hbr.c7
    obtain ⟨c0, c1, c2, c3, c4, c5, c6, c7⟩ := hbp.c8
    have lgW := hD2.at_.lt
    have ljW := hj.lt
    have hbW : Below W.heap.size W W.drew := below_drew (Below.refl _ _)
    cases hmv : backE xs ⟨p0, p1, p2, p3, p4, p5, p6, p7⟩ amt with
    | error c =>
      have hr := Lib.hid (HX'.out.trans (by first | (simp only [refF, hmv]; done) | (simp only [refF, hmv]; rfl) | simp [refF, hmv]))
      have hm := Lib.hid hmv
      clear hmv HX'
      refine (back_desk g a p s kn now ⟨p0, p1, p2, p3, p4, p5, p6, p7⟩ amt xs _ hD2.at_ hD2.accs hD2.good.curOk).mono ?_
      intro e w2 hres
      rw [hm.out] at hres
      obtain ⟨c', hc', hz2, v2, rfl⟩ : ∃ c', (Except.error c : Except Int (List Ent)) = .error c' ∧ Below W.heap.size W w2 ∧ ∃ v, e = .returned (.tuple #[v, .iface 38 (.int .i64 c')]) := by
        rcases hres with h | ⟨es, h, _⟩
        · exact h
        · cases h
      injection hc' with hc'
      subst hc'
      have hbA : Below W.heap.size W w2 := hz2
      have hbE := hbA
      have hjE := hj.next hbE
      go_wp2_with fail
      refine (number_err c _ (hD2.err.below hbE)).mono ?_
      rintro e w8 ⟨rfl, hz8⟩
      have hj8 := hjE.next hz8
      have j0 := hj8.at 0 _ rfl
      have j1 := hj8.at 1 _ rfl
      have jf := hj8.frozen
      go_wp2_with fail
      refine bodyPost_ret (res_cell rfl _ rfl agg_rep rfl (hj8.chain2)) rfl ?_
      rw [hr.out]
      refine ⟨rfl, ?_⟩
      (repeat (first | (with_reducible refine below_drew ?_) | (with_reducible refine below_drewN ?_ _) | (with_reducible refine below_alloc ?_ _) | ((with_reducible refine Below.setCell ?_ ?_ _); rotate_left; (focus (first | (simp; done) | (simp; omega))))))
      exact below_next (below_next hb hbE) hz8
    | ok es =>
      have hB := backE_bal hD2.good hmv
      have hm := Lib.hid hmv
      cases hsp : post xs es with
      | error c =>
        have hr := Lib.hid (HX'.out.trans (by first | (simp only [refF, hmv, hsp]; done) | (simp only [refF, hmv, hsp]; rfl) | simp [refF, hmv, hsp]))
        have hm2 := Lib.hid hsp
        clear hmv hsp HX'
        refine (back_desk g a p s kn now ⟨p0, p1, p2, p3, p4, p5, p6, p7⟩ amt xs _ hD2.at_ hD2.accs hD2.good.curOk).mono ?_
        intro e w2 hres
        rw [hm.out] at hres
        obtain ⟨hz2, v2, rfl, ho2⟩ : Below W.heap.size W w2 ∧ ∃ v, e = .returned (.tuple #[v, .nilIface]) ∧ Own w2 W.heap.size 109 v es := by
          rcases hres with ⟨c, h, _⟩ | ⟨es', h, hE⟩
          · cases h
          · injection h with h
            subst h
            exact hE
        have hbA : Below W.heap.size W w2 := hz2
        clear hres
        have hD3 := hD2.below hbA
        obtain ⟨g0', g1', g2', g3', g4'⟩ := hD3.at_.c5
        go_wp2_with fail
        refine (post_any a v2 xs es w2 hD3.accs ho2.row hB hD2.good.abs).mono ?_
        intro e w3 hres
        rw [hm2.out] at hres
        obtain ⟨hz3, rfl⟩ := hres
        have hbB : Below W.heap.size W w3 := below_next hbA hz3
        clear g0' g1' g2' g3' g4'
        clear k0 k1 k2 k3 k4 k5 k6 g0 g1 g2 g3 g4
        have hj3 := hj.next hbB
        obtain ⟨k0, k1, k2, k3, k4, k5, k6⟩ := (hbr.next hbB).c7
        obtain ⟨d0, d1, d2, d3, d4, d5, d6, d7⟩ := (hbq.next hbB).c8
        have hpos := hj3.lt
        go_wp2_with fail
        refine (pay_no g k c ⟨q0, q1, q2, q3, q4, q5, q6, q7⟩ _ _ (hD2.err.below hbB) (by omega)).mono ?_
        rintro e w4 ⟨rfl, hz4⟩
        have hj4 := hj3.next hz4
        have j0 := hj4.at 0 _ rfl
        have j1 := hj4.at 1 _ rfl
        have jf := hj4.frozen
        go_wp2_with fail
        refine bodyPost_ret (res_cell rfl _ rfl agg_rep rfl (hj4.chain2)) rfl ?_
        rw [hr.out]
        refine ⟨rfl, ?_⟩
        (repeat (first | (with_reducible refine below_drew ?_) | (with_reducible refine below_drewN ?_ _) | (with_reducible refine below_alloc ?_ _) | ((with_reducible refine Below.setCell ?_ ?_ _); rotate_left; (focus (first | (simp; done) | (simp; omega))))))
        exact below_next (below_next hb hbB) hz4
      | ok ys =>
        have hr := Lib.hid (HX'.out.trans (by first | (simp only [refF, hmv, hsp]; done) | (simp only [refF, hmv, hsp]; rfl) | simp [refF, hmv, hsp]))
        have hm2 := Lib.hid hsp
        clear hmv hsp HX'
        refine (back_desk g a p s kn now ⟨p0, p1, p2, p3, p4, p5, p6, p7⟩ amt xs _ hD2.at_ hD2.accs hD2.good.curOk).mono ?_
        intro e w2 hres
        rw [hm.out] at hres
        obtain ⟨hz2, v2, rfl, ho2⟩ : Below W.heap.size W w2 ∧ ∃ v, e = .returned (.tuple #[v, .nilIface]) ∧ Own w2 W.heap.size 109 v es := by
          rcases hres with ⟨c, h, _⟩ | ⟨es', h, hE⟩
          · cases h
          · injection h with h
            subst h
            exact hE
        have hbA : Below W.heap.size W w2 := hz2
        clear hres
        have hD3 := hD2.below hbA
        obtain ⟨g0', g1', g2', g3', g4'⟩ := hD3.at_.c5
        go_wp2_with fail
        refine (post_any a v2 xs es w2 hD3.accs ho2.row hB hD2.good.abs).mono ?_
        intro e w3 hres
        rw [hm2.out] at hres
        obtain ⟨hz3, v3, rfl, ho3⟩ := hres
        have hbB : Below W.heap.size W w3 := below_next hbA hz3
        clear g0' g1' g2' g3' g4' hD3
        clear k0 k1 k2 k3 k4 k5 k6 g0 g1 g2 g3 g4
        have hj3 := hj.next hbB
        obtain ⟨k0, k1, k2, k3, k4, k5, k6⟩ := (hbr.next hbB).c7
        obtain ⟨d0, d1, d2, d3, d4, d5, d6, d7⟩ := (hbq.next hbB).c8
        have hD3 := hD2.below hbB
        have hs3 := hbA.size
        obtain ⟨A3, c3, rfl⟩ := ho3.row.slice
        go_wp2_with fail
        refine (pay_yes g a p s kn A3 _ c3 now k ⟨q0, q1, q2, q3, q4, q5, q6, q7⟩ ps _ hD3.at_ hD3.pays hD3.ne hk (by have := hP.1; omega)).mono ?_
        rintro e w4 ⟨rfl, ⟨p', hd4, hp4⟩, hg4⟩
        have hj4 := hj3.grown hg4 (by intro h; injection h with h; omega)
        have j0 := hj4.at 0 _ rfl
        have j1 := hj4.at 1 _ rfl
        have jf := hj4.frozen
        go_wp2_with fail
        refine bodyPost_ret (res_cell rfl _ rfl agg_rep rfl (hj4.chain2)) rfl ?_
        rw [hr.out]
        exact pay_res (below_next hb hbB) gl (by first | omega | (simp; omega)) hj3.lt ho3 hd4 hp4 hg4
end Go.Proofs.YthjmficglpfgpaaDoor
