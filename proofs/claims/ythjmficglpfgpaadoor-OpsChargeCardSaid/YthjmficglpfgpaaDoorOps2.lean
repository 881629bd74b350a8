/- The desk: a payment is put. -/
import Derived.Test.YthjmficglpfgpaaDoorOps1
import Derived.Deep.MidRow
namespace Go.Proofs.YthjmficglpfgpaaDoor
set_option linter.unusedVariables false
set_option linter.unusedSimpArgs false
open Go Go.RowKit Enc
set_option maxRecDepth 100000

theorem sT_pay : SlT Tryd.prog 32 47 Pay 64 := ⟨Tryd.underlying32, by obtain ⟨i, h1, h2, h3, h4⟩ := info_parts (show (Tryd.prog.info? 47).map (fun i => (i.zero, i.size, i.bytes)) = some (some (.agg #[.int .i64 0, .int .i64 0, .int .i64 0, .int .i64 0, .int .i64 0, .int .i64 0, .int .i64 0, .int .i64 0]), 8, 64) by kernel_rfl); exact ⟨i, _, h1, h2, h3, h4, rfl⟩⟩

/-- Several cells of a list, one behind the other. -/
def setMany (L : List Value) (i : Nat) : List Value → List Value
  | [] => L
  | u :: us => setMany (L.set i u) (i + 1) us
theorem setMany_eq (us : List Value) : ∀ (L : List Value) (i : Nat), i + us.length ≤ L.length → setMany L i us = L.take i ++ us ++ L.drop (i + us.length) := by
  induction us with
  | nil => intro L i h; simp [setMany]
  | cons u us ih =>
    intro L i h
    simp only [List.length_cons] at h
    rw [setMany, ih _ _ (by simp; omega)]
    rw [List.take_set, List.drop_set_of_lt (by omega)]
    rw [show i + 1 + us.length = i + (us.length + 1) by omega]
    simp only [List.length_cons]
    congr 1
    rw [List.take_succ_eq_append_getElem (by omega), List.set_append_right _ _ (by simp; omega)]
    simp
    have : min i L.length = i := by omega
    simp [this]
/-- Several cells of memory, one behind the other. -/
def putCells (w : World) (b o : Nat) : List Value → World
  | [] => w
  | u :: us => putCells (w.setCell ⟨b, o, none⟩ u) b (o + 1) us
theorem ownsRow_set {w : World} {B e size b n c : Nat} {L : List Value} (h : w.ownsRow B e size (.slice (some ⟨b, 0, none⟩) n c) n L) (i : Nat) (hi : i < n * size) (u : Value) :
    (w.setCell ⟨b, i, none⟩ u).ownsRow B e size (.slice (some ⟨b, 0, none⟩) n c) n (L.set i u) := by
  refine ⟨by simpa using h.1, ?_⟩
  rcases h.2 with ⟨h0, _⟩ | ⟨g, cap, cur, hv, hb, hh, h1, h2, h3, h4⟩
  · cases h0
  · injection hv with e1 e2 e3
    injection e1 with e1
    injection e1 with e4
    subst e4 e3
    have hs := Blk.set_ (show Blk w b e cur from hh) i u
    exact .inr ⟨b, c, _, rfl, hb, hs, h1, h2, by simpa using h3, by rw [← h4, Array.toList_setIfInBounds, List.take_set]⟩
theorem ownsRow_put {B e size b n c : Nat} (us : List Value) : ∀ {w : World} {L : List Value} (i : Nat), w.ownsRow B e size (.slice (some ⟨b, 0, none⟩) n c) n L → i + us.length ≤ n * size →
    (putCells w b i us).ownsRow B e size (.slice (some ⟨b, 0, none⟩) n c) n (setMany L i us) := by
  induction us with
  | nil => intro w L i h _; exact h
  | cons u us ih =>
    intro w L i h hi
    simp only [List.length_cons] at hi
    exact ih (i + 1) (ownsRow_set h i (by omega) u) (by omega)
theorem flat_put {α : Type} [Enc α] (xs : List α) (k : Nat) (hk : k < xs.length) (x : α) : setMany (xs.flatMap enc) (k * sz α) (enc x) = (xs.set k x).flatMap enc := by
  have hl := flat_len xs
  have h1 : (k + 1) * sz α ≤ xs.length * sz α := Nat.mul_le_mul_right _ hk
  rw [Nat.succ_mul] at h1
  rw [setMany_eq _ _ _ (by rw [len, hl]; omega), len]
  have e1 : xs = xs.take k ++ ([xs[k]] ++ xs.drop (k + 1)) := by simp
  have e2 : xs.set k x = xs.take k ++ ([x] ++ xs.drop (k + 1)) := by rw [List.set_eq_take_append_cons_drop, if_pos hk]; simp
  have hA : ((xs.take k).flatMap enc).length = k * sz α := by rw [flat_len, List.length_take, Nat.min_eq_left (by omega)]
  rw [e2]
  conv => lhs; rw [e1]
  simp only [List.flatMap_append, List.flatMap_cons, List.flatMap_nil, List.append_nil]
  rw [List.take_append_of_le_length (by rw [hA]; exact Nat.le_refl _), List.take_of_length_le (by rw [hA]; exact Nat.le_refl _)]
  rw [List.drop_append, hA, List.drop_of_length_le (by rw [hA]; omega)]
  rw [show k * sz α + sz α - k * sz α = sz α by omega, List.drop_append_of_le_length (by rw [len]; exact Nat.le_refl _), List.drop_of_length_le (by rw [len]; exact Nat.le_refl _)]
  simp
/-- A whole element of a row of the call's own is written. -/
theorem Own.put {w : World} {B e b o n c : Nat} {α : Type} [Enc α] {xs : List α} (h : Own w B e (.slice (some ⟨b, o, none⟩) n c) xs) (k : Nat) (hk : k < xs.length) (x : α) :
    Own (putCells w b (o + k * sz α) (enc x)) B e (.slice (some ⟨b, o, none⟩) n c) (xs.set k x) := by
  have hn : n = xs.length := by
    obtain ⟨A, c', hv⟩ := h.row.slice
    injection hv
  have ho : o = 0 := by
    rcases h.2 with ⟨h0, _⟩ | ⟨g, cap, cur, hv, _⟩
    · cases h0
    · injection hv with e1 e2 e3
      injection e1 with e1
      injection e1
  subst hn ho
  have h1 : (k + 1) * sz α ≤ xs.length * sz α := Nat.mul_le_mul_right _ hk
  rw [Nat.succ_mul] at h1
  have := ownsRow_put (enc x) (k * sz α) h (by rw [len]; omega)
  rw [flat_put xs k hk x] at this
  simpa [Own] using this
theorem put_eq (us : List Value) : ∀ (w : World) (b o : Nat), putCells w b o us = w.setCells b o us := by
  induction us with
  | nil => intro w b o; rfl
  | cons u us ih => intro w b o; simp only [putCells, World.setCells, ih]
theorem put_grown (us : List Value) : ∀ {w w0 : World} (b o : Nat), w0.grownBy w (some b) → w0.grownBy (putCells w b o us) (some b) := by
  induction us with
  | nil => intro w w0 b o h; exact h
  | cons u us ih => intro w w0 b o h; exact ih b (o + 1) (h.setCell rfl u)
theorem put_size (us : List Value) : ∀ (w : World) (b o : Nat), (putCells w b o us).heap.size = w.heap.size := by
  induction us with
  | nil => intro w b o; rfl
  | cons u us ih => intro w b o; simp only [putCells, ih, World.size_setCell]
theorem store_elem {α : Type} [Enc α] {P : Program} {ops : Array Oper} {rest : List Oper} {op : Oper} {a : Go.Act} {w : World} {Q : Exit → Go.Act → World → Prop} {B e b o n c : Nat} {xs : List α} (hown : Own w B e (.slice (some ⟨b, o, none⟩) n c) xs) (k : Nat) (hk : k < xs.length) (v : α)
    (hgd : op.guard = none) (ty : TypeId) (x y : Operand) (ho : op.op = .store ty x y) (hx : a.eval x = .pointer (some ⟨b, o + k * sz α, none⟩)) (hy : a.eval y = .agg (enc v).toArray) (hi : (P.info? ty).map (·.size) = some (sz α))
    (h : ∀ w', Own w' B e (.slice (some ⟨b, o, none⟩) n c) (xs.set k v) → w.grownBy w' (some b) → w'.heap.size = w.heap.size → wpList P ops Q rest (a.put op.dst undef) w') : wpList P ops Q (op :: rest) a w := by
  have hp := hown.put k hk v
  have hc : ∃ cap cur, o = 0 ∧ Blk w b e cur ∧ cur.size = cap * sz α ∧ xs.length ≤ cap := by
    rcases hown.2 with ⟨h0, _⟩ | ⟨g, cap, cur, hv, hb, hh, h1, h2, h3, h4⟩
    · cases h0
    · injection hv with e1 e2 e3
      injection e1 with e1
      injection e1 with e4 e5
      subst e4 e3
      exact ⟨_, cur, e5, hh, h3, h1⟩
  obtain ⟨cap, cur, rfl, hblk, hcs, hcl⟩ := hc
  have h1 : (k + 1) * sz α ≤ cap * sz α := Nat.mul_le_mul_right _ (by omega)
  rw [Nat.succ_mul] at h1
  refine wpList_store_mid hgd ty x y ho b (0 + k * sz α) (enc v).toArray hx hy ?_ (by rw [hi]; simp [len]) (all_oneCell_toArray (fun u hu => one v u hu)) ?_
  · intro j hj
    simp only [List.size_toArray, len] at hj
    refine ⟨?_, hblk.frozen _⟩
    rw [hblk.cell, Array.getElem?_eq_getElem (by omega)]
    rfl
  · rw [← put_eq]
    exact h _ hp (put_grown _ _ _ (World.grownBy.refl w _)) (put_size _ _ _ _)
theorem Own.payW {w : World} {B e : Nat} {v : Value} {xs : List Pay} (h : Own w B e v xs) (k : Nat) (hk : k < xs.length) : ∃ b o c, v = .slice (some ⟨b, o, none⟩) xs.length c ∧ (∀ j : Nat, j < 8 → ∃ u, w.cell? ⟨b, o + k * 8 + j, none⟩ = some u) ∧ (∀ i, w.frozen? ⟨b, i, none⟩ = false) ∧ B ≤ b ∧ b < w.heap.size := by
  rcases h.2 with ⟨rfl, h0⟩ | ⟨g, cap, cur, rfl, hb, hh, h1, h2, h3, h4⟩
  · omega
  · have hblk : Blk w g e cur := hh
    refine ⟨g, 0, cap, rfl, fun j hj => ?_, fun i => hblk.frozen i, hb, hblk.lt⟩
    rw [hblk.cell]
    have h3' : cur.size = cap * 8 := h3
    exact ⟨_, Array.getElem?_eq_getElem (by omega)⟩

theorem _root_.Go.World.grownBy.setNew {w w' : World} {row : Option Nat} (h : w.grownBy w' row) {a : Addr} (ha : w.heap.size ≤ a.block) (u : Value) : w.grownBy (w'.setCell a u) row :=
  ⟨h.os, h.tape, h.output, by simpa using h.size, fun k hk hne => (Below.heap_setCell w' a u k (by omega)).trans (h.block k hk hne)⟩
theorem Row.only {w w' : World} {g : Nat} {v : Value} {α : Type} [Enc α] {xs : List α} (h : Row w v xs) (hv : xs ≠ [] → v.ownBlock ≠ some g) (hg : w.grownBy w' (some g)) : Row w' v xs := by
  obtain ⟨A, c, rfl, hm, hc⟩ := h
  refine ⟨A, c, rfl, hm, fun k hk => ?_⟩
  obtain ⟨b, o, rfl, hj⟩ := hc k hk
  have hv := hv (by rintro rfl; simp at hk)
  exact ⟨b, o, rfl, fun j u hu => hg.cell (hj j u hu) (by simpa [Value.ownBlock] using hv)⟩
/-- What stood ahead of a block lies elsewhere. -/
theorem Row.apart {w : World} {g : Nat} {v : Value} {α : Type} [Enc α] {xs : List α} (h : Row w v xs) (hg : w.heap.size ≤ g) : xs ≠ [] → v.ownBlock ≠ some g := fun hne he => by
  obtain ⟨A, c, rfl, hm, hc⟩ := h
  have hl : 0 < xs.length := List.length_pos_iff.2 hne
  obtain ⟨b, o, rfl, hj⟩ := hc 0 hl
  have h0 : 0 < (enc (xs[0])).length := by rw [len]; exact pos
  have := cell_lt (hj 0 _ (List.getElem?_eq_getElem h0))
  simp only [Value.ownBlock] at he
  injection he with he
  simp only at this he
  omega
/-- A whole aggregate is stored into a block of its own. -/
theorem store_to {P : Program} {ops : Array Oper} {rest : List Oper} {op : Oper} {a : Go.Act} {w : World} {Q : Exit → Go.Act → World → Prop} (x y : Operand) {t n e g : Nat} {old cells : Array Value} (hb : Blk w g e old) (hT : AggT P t n)
    (hgd : op.guard = none) (ho : op.op = .store t x y) (hx : a.eval x = .pointer (some ⟨g, 0, none⟩)) (hy : a.eval y = .agg cells) (hc : cells.size = n) (hold : old.size = n) (h1 : cells.all (·.oneCell') = true)
    (h : ∀ w', Blk w' g e cells → w.grownBy w' (some g) → w'.heap.size = w.heap.size → wpList P ops Q rest (a.put op.dst undef) w') : wpList P ops Q (op :: rest) a w := by
  refine wpList_store_row hgd t x y ho g cells hx hy e old hb (by rw [hT.sz, hc]) (by rw [hold, hc]) h1 ?_
  refine h _ ?_ ⟨rfl, rfl, rfl, by simp [World.setRow], fun k _ hk => ?_⟩ (by simp [World.setRow])
  · unfold Blk at hb ⊢
    simp [World.setRow, Array.getElem?_modify, hb]
  · simp only [World.setRow, Array.getElem?_modify]
    rw [if_neg (fun e => hk (by rw [e]))]
theorem pay_yes (g : Nat) (a p s kn : Value) (A : Option Addr) (n c : Nat) (now : Int) (k : Nat) (q : Pay) (ps : List Pay) (w : World) (hd : DeskAt w g a p s kn now) (hp : Row w p ps) (hpg : ps ≠ [] → p.ownBlock ≠ some g) (hk : k < ps.length) (hl : ps.length ≤ 1000) :
    Calls Tryd.prog 91 #[.pointer (some ⟨g, 0, none⟩), .int .i64 k, q.val, .slice A n c, .nilIface] w fun e w' => e = .returned (Rep.val ⟨0, 0⟩) ∧ (∃ p', DeskAt w' g (.slice A n c) p' s kn now ∧ Own w' w.heap.size 47 p' (ps.set k q)) ∧ w.grownBy w' (some g) := by
  obtain ⟨q0, q1, q2, q3, q4, q5, q6, q7⟩ := q
  have gl := hd.lt
  have hne1 : some w.heap.size ≠ some g := by intro h; injection h with h; omega
  have hne2 : some (w.heap.size + 1) ≠ some g := by intro h; injection h with h; omega
  go_enter Tryd.func91, Tryd.ntmps91
  go_wp2_with fail
  refine (take_yes g a p s kn A n c now 0 _ ((hd.alloc _).alloc _)).mono ?_
  rintro e w1 ⟨rfl, hd1, hg1⟩
  obtain ⟨k0, k1, k2, k3, k4, k5, k6, k7⟩ := (((Blk.new w _ _).alloc _).grown hg1 hne1).c8
  have hj := (Blk.new1 w _ _ _).grown hg1 hne2
  have hz1 := hg1.size
  simp only [World.size_alloc] at hz1
  obtain ⟨g0, g1, g2, g3, g4⟩ := hd1.c5
  have gf := hd1.frozen
  have gl1 := hd1.lt
  have hlt' : k < ([] ++ ps).length := by simpa using hk
  go_wp2_with (at_builtin; refine wp_append sT_pay rfl rfl (.slice none 0 0) p rfl rfl (Own.nil _ w.heap.size _) ((hp.only hpg ((World.grownBy_alloc _ _ _).trans ((World.grownBy_alloc _ _ _).trans hg1))).alloc _) (by simp; omega) (by decide) (by simp; omega) ?_; intro v2 w2 hown2 hg2 hat2; obtain ⟨b', o', c', rfl, hcells, hfr, hBb, hl2⟩ := hown2.payW k hlt'; have hd2 := (hd1.alloc _).grown hg2 (by simp [Value.ownBlock]); have hk2 := ((((Blk.new w _ _).alloc _).grown hg1 hne1).alloc _).grown hg2 (by simp [Value.ownBlock]); have hj2 := (hj.alloc _).grown hg2 (by simp [Value.ownBlock]); have hr2 := (Blk.new w1 _ _).grown hg2 (by simp [Value.ownBlock]); clear k0 k1 k2 k3 k4 k5 k6 k7 g0 g1 g2 g3 g4 gf; obtain ⟨k0, k1, k2, k3, k4, k5, k6, k7⟩ := hk2.c8; obtain ⟨g0, g1, g2, g3, g4⟩ := hd2.c5; have gf := hd2.frozen)
  have hng : b' ≠ g := by have := hown2.blk_ne hd2 (by decide); simpa [Value.ownBlock] using this
  have hng' : g ≠ b' := Ne.symm hng
  have hk0 : (k : Int) < (([] ++ ps).length : Int) := by simpa using hk
  have hk1 : (0 : Int) ≤ (k : Int) := by omega
  refine still_tail 8 (by kernel_rfl) (by kernel_rfl) (fun wd hwd hwc hwf hws => ?_); simp only [List.take_succ_cons, List.take_zero, List.drop_succ_cons, List.drop_zero]; (repeat still_step); refine wpStill_nil ?_
  have howd : Own wd w.heap.size 47 (.slice (some ⟨b', o', none⟩) ([] ++ ps).length c') ([] ++ ps) := by
    rw [hwd.out]
    exact (hown2.kept ((World.grownBy.refl w2 _).setCell (g := g) rfl _) (.inr (by simpa [Value.ownBlock] using hng))).drew
  refine store_elem howd k hlt' (Pay.mk q0 q1 q2 q3 q4 q5 q6 q7) (by rfl) 47 _ _ (by rfl) (by rfl) (by rfl) (by kernel_rfl) ?_
  intro w5 hown5 hg5 hs5
  have hrd : Blk wd w1.heap.size 40 #[.int .i64 0, .int .i64 0] := by rw [hwd.out]; exact (hr2.far (p := ⟨g, 1, none⟩) (by simp; omega) _).drew
  have hjd : Blk wd (w.heap.size + 1) 40 #[.int .i64 0, .int .i64 0] := by rw [hwd.out]; exact (hj2.far (p := ⟨g, 1, none⟩) (by simp; omega) _).drew
  have hdd : DeskAt wd g (.slice A n c) (.slice (some ⟨b', o', none⟩) ([] ++ ps).length c') s kn now := by
    rw [hwd.out]
    exact (hd2.set_ 1 _).drew
  have hr5 := hrd.grown hg5 (fun h => howd.blk_ne hrd (by decide) h.symm)
  have hj5 := hjd.grown hg5 (fun h => howd.blk_ne hjd (by decide) h.symm)
  have hd5 := hdd.grown hg5 (fun h => howd.blk_ne hdd (by decide) h.symm)
  have r0 := hr5.at 0 _ rfl
  have r1 := hr5.at 1 _ rfl
  have s0 := hj5.at 0 _ rfl
  have s1 := hj5.at 1 _ rfl
  have sf := hj5.frozen
  have hgall : w.grownBy w5 (some g) := by
    have x1 : w.grownBy w1 (some g) := (World.grownBy_alloc _ _ _).trans ((World.grownBy_alloc _ _ _).trans hg1)
    have x2 : w.grownBy w2 (some g) := x1.trans ((World.grownBy_alloc _ _ _).trans ⟨hg2.os, hg2.tape, hg2.output, hg2.size, fun i hi _ => hg2.block i hi (by simp [Value.ownBlock])⟩)
    have x3 : w.grownBy wd (some g) := by rw [hwd.out]; exact ⟨x2.os, x2.tape, x2.output, by have := x2.size; simpa using this, (x2.setCell rfl _).block⟩
    exact ⟨hg5.os.trans x3.os, hg5.tape.trans x3.tape, hg5.output.trans x3.output, Nat.le_trans x3.size hg5.size, fun i hi hne => (hg5.block i (Nat.lt_of_lt_of_le hi x3.size) (fun h => by injection h with h; omega)).trans (x3.block i hi hne)⟩
  clear hcells hwc hwf hws hfr
  go_wp2
  refine bodyPost_ret (res_cell rfl _ rfl agg_rep rfl hj5.chain2) rfl ⟨rfl, ⟨_, hd5.far (p := ⟨w.heap.size + 1, 0, none⟩) (by simp; omega) _ |>.far (p := ⟨w.heap.size + 1, 1, none⟩) (by simp; omega) _, ?_⟩, ?_⟩
  · have hn5 := hown5.blk_ne hj5 (by decide)
    have := (hown5.kept ((World.grownBy.refl w5 _).setCell (a := ⟨w.heap.size + 1, 0, none⟩) (g := w.heap.size + 1) rfl (.int .i64 0)) (.inr hn5)).kept ((World.grownBy.refl _ _).setCell (a := ⟨w.heap.size + 1, 1, none⟩) (g := w.heap.size + 1) rfl (.int .i64 0)) (.inr hn5)
    simpa using this
  · exact (hgall.setNew (by simp) _).setNew (by simp) _
end Go.Proofs.YthjmficglpfgpaaDoor
