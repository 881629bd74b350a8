/- The desk: a state while a request is done. -/
import Derived.Test.YthjmficglpfgpaaDoorNum
import Derived.Test.YthjmficglpfgpaaDoorW4
import Derived.Test.YthjmficglpfgpaaDoorW7
import Derived.StillTailTactics
namespace Go.Proofs.YthjmficglpfgpaaDoor
set_option linter.unusedVariables false
set_option linter.unusedSimpArgs false
open Go Go.RowKit Enc
set_option maxRecDepth 100000

instance : Enc Int where
  sz := 1
  enc x := [.int .i64 x]
  len _ := rfl
  one x u h := by simp only [List.mem_cons, List.not_mem_nil, or_false] at h; subst h; rfl
  pos := by decide
theorem Row.int {w : World} {v : Value} {xs : List Int} (h : Row w v xs) (k : Nat) (hk : k < xs.length) : ∃ b o c, v = .slice (some ⟨b, o, none⟩) xs.length c ∧ w.cell? ⟨b, o + k, none⟩ = some (.int .i64 (rd xs k)) ∧ b < w.heap.size := by
  obtain ⟨b, o, c, hv, hc⟩ := h.at k hk
  have h0 : w.cell? ⟨b, o + k, none⟩ = some (.int .i64 (rd xs k)) := by
    have := hc 0 _ rfl
    simpa [sz] using this
  exact ⟨b, o, c, hv, h0, cell_lt h0⟩
/-- A new box of several reads as a slice of them. -/
theorem Row.lit {α : Type} [Enc α] (w : World) (xs : List α) (cs : Array Value) (hcs : cs.toList = xs.flatMap enc) (e : TypeId) (n : Nat) (hn : xs.length = n) (hm : n ≤ 1000) : Row (w.alloc (.cells cs e)) (.slice (some ⟨w.heap.size, 0, none⟩) n n) xs := by
  subst hn
  refine ⟨_, _, rfl, by simp [maxLen]; omega, fun k hk => ⟨_, _, rfl, fun j u hu => ?_⟩⟩
  rw [(Blk.new w e cs).cell]
  have := flat_get xs k hk j u hu
  rw [← hcs] at this
  simpa using this

/-- A region that draws its order, whose operations but the last ones, which have one order, only read. -/
theorem still_tail {P : Program} {id : Nat} {Q : Exit → Go.Act → World → Prop} {a : Go.Act} {w : World} {l : List Oper} (n : Nat) (hm : P.follows .mixedOrders = true) (hB : Region.lexTailB .any l.toArray n = true)
    (h : ∀ wd : World, Hid (wd = w.drew) → (∀ b, wd.cell? b = w.cell? b) → (∀ b, wd.frozen? b = w.frozen? b) → wd.heap.size = w.heap.size → wpStill P l.toArray wd (fun a' => wpList P l.toArray Q (l.drop n) a' wd) (l.take n) a) : (Code.region id l.toArray true).wp P Q a w :=
  wp_region_still_tail n hm hB (h w.drew rfl (fun _ => rfl) (fun _ => rfl) rfl)

/-- The world by what is known of it. -/
theorem abs_world {P : Program} {c : Code} {Q : Exit → Go.Act → World → Prop} {a : Go.Act} {w : World} (F : World → Prop) (hF : F w) (h : ∀ W, F W → c.wp P Q a W) : c.wp P Q a w := h w hF
theorem Blk.new2' (w : World) (o o' : Obj) (t : TypeId) (cs : Array Value) : Blk (((w.alloc o).alloc o').alloc (.cells cs t)) (w.heap.size + 1 + 1) t cs := Blk.new2 w o o' t cs
theorem Blk.c7 {w : World} {g : Nat} {t : TypeId} {a0 a1 a2 a3 a4 a5 a6 : Value} (h : Blk w g t #[a0, a1, a2, a3, a4, a5, a6]) :
    w.cell? ⟨g, 0, none⟩ = some a0 ∧ w.cell? ⟨g, 1, none⟩ = some a1 ∧ w.cell? ⟨g, 2, none⟩ = some a2 ∧ w.cell? ⟨g, 3, none⟩ = some a3 ∧ w.cell? ⟨g, 4, none⟩ = some a4 ∧ w.cell? ⟨g, 5, none⟩ = some a5 ∧ w.cell? ⟨g, 6, none⟩ = some a6 :=
  ⟨h.cell 0, h.cell 1, h.cell 2, h.cell 3, h.cell 4, h.cell 5, h.cell 6⟩
theorem Blk.c2 {w : World} {g : Nat} {t : TypeId} {a0 a1 : Value} (h : Blk w g t #[a0, a1]) : w.cell? ⟨g, 0, none⟩ = some a0 ∧ w.cell? ⟨g, 1, none⟩ = some a1 := ⟨h.cell 0, h.cell 1⟩

structure St where
  accs : List Acc
  pays : List Pay
  sagas : List Saga
  known : List Kn
  now : Int

theorem Blk.c5 {w : World} {g : Nat} {t : TypeId} {a0 a1 a2 a3 a4 : Value} (h : Blk w g t #[a0, a1, a2, a3, a4]) :
    w.cell? ⟨g, 0, none⟩ = some a0 ∧ w.cell? ⟨g, 1, none⟩ = some a1 ∧ w.cell? ⟨g, 2, none⟩ = some a2 ∧ w.cell? ⟨g, 3, none⟩ = some a3 ∧ w.cell? ⟨g, 4, none⟩ = some a4 :=
  ⟨h.cell 0, h.cell 1, h.cell 2, h.cell 3, h.cell 4⟩
/-- The desk at block g holds these cells. -/
abbrev DeskAt (w : World) (g : Nat) (a p s k : Value) (now : Int) : Prop := Blk w g 97 #[a, p, s, k, .int .i64 now]

theorem Blk.newS (w : World) (a : Addr) (v : Value) (t : TypeId) (cs : Array Value) : Blk ((w.setCell a v).alloc (.cells cs t)) w.heap.size t cs := by
  have := Blk.new (w.setCell a v) t cs
  rwa [World.size_setCell] at this
theorem _root_.Go.World.grownBy.alloc_ {w w' : World} {row : Option Nat} (h : w.grownBy w' row) (o : Obj) : w.grownBy (w'.alloc o) row := World.grownBy.trans h (World.grownBy_alloc w' o row)
theorem _root_.Go.World.grownBy.setCell {w w' : World} {g : Nat} (h : w.grownBy w' (some g)) {a : Addr} (ha : a.block = g) (u : Value) : w.grownBy (w'.setCell a u) (some g) :=
  ⟨h.os, h.tape, h.output, by simpa using h.size, fun k hk hne => (Below.heap_setCell w' a u k (fun e => hne (by rw [e, ha]))).trans (h.block k hk hne)⟩
theorem only_below {w0 w w' : World} {g : Nat} (h : Below w0.heap.size w0 w) (hg : w.grownBy w' (some g)) (h0 : w0.heap.size ≤ g) : Below w0.heap.size w0 w' := h.grown hg h.size (fun k hk => by injection hk with hk; omega)
/-- Nothing that stood has changed, but for block g. -/
theorem only_of_below {w w' : World} (h : Below w.heap.size w w') (g : Nat) : w.grownBy w' (some g) := ⟨h.os, h.tape, h.output, h.size, fun i hi _ => h.block i hi⟩

def allCl (xs : List Acc) (ks : List Int) : Bool := ks.all fun k => isCl xs k
def ClRel (w : World) (xs : List Acc) (ks : List Int) (i : Value) (wr : World) : Prop := ∃ k : Nat, k ≤ ks.length ∧ i = .int .i64 k ∧ w = wr ∧ ∀ j : Nat, j < k → isCl xs (rd ks (j : Int)) = true
theorem clients_any (g : Nat) (a p s kn : Value) (now : Int) (xs : List Acc) (ks : List Int) (y : Value) (w : World) (hd : DeskAt w g a p s kn now) (ha : Row w a xs) (hk : Row w y ks) :
    Calls Tryd.prog 87 #[.pointer (some ⟨g, 0, none⟩), y] w fun e w' => w = w' ∧ e = .returned (.bool (allCl xs ks)) := by
  have hm := hk.max
  obtain ⟨g0, g1, g2, g3, g4⟩ := hd.c5
  obtain ⟨A, c, rfl⟩ := hk.slice
  go_enter Tryd.func87, Tryd.ntmps87
  go_wp2
  go_loopw [9] (fun i wr => ClRel w xs ks i wr) (fun i _ => ks.length - (intOf i).toNat)
  case atStart => exact ⟨0, by omega, rfl, rfl, fun j hj => by omega⟩
  case round =>
    obtain ⟨k, hkk, rfl, rfl, hok⟩ := hrel
    by_cases hlt : k < ks.length
    · obtain ⟨b, o, c', hv, c1, hl⟩ := hk.int k hlt
      injection hv with hv1 _ hv3
      subst hv1 hv3
      cases hc : isCl xs (rd ks (k : Int)) with
      | true =>
        have HC := Lib.hid hc
        clear hc
        go_wp2_with (go_at_call 57; refine (isClient_any _ xs _ _ ha).mono ?_; rintro e w' ⟨rfl, rfl⟩; rw [HC.out])
        exact ⟨⟨k + 1, by omega, by go_num, rfl, fun j hj => by rcases Nat.lt_succ_iff_lt_or_eq.1 hj with hj | rfl; exact hok j hj; exact HC.out⟩, by simp [intOf]; omega⟩
      | false =>
        have HC := Lib.hid hc
        have hr := Lib.hid (show allCl xs ks = false by
          unfold allCl
          rw [List.all_eq_false]
          exact ⟨rd ks (k : Int), by rw [rd_nat ks k hlt]; exact List.getElem_mem hlt, by simp [hc]⟩)
        clear hc
        go_wp2_with (go_at_call 57; refine (isClient_any _ xs _ _ ha).mono ?_; rintro e w' ⟨rfl, rfl⟩; rw [HC.out])
        go_ret
        exact ⟨rfl, by rw [hr.out]; rfl⟩
    · have hr := Lib.hid (show allCl xs ks = true by
        unfold allCl
        rw [List.all_eq_true]
        intro x hx
        obtain ⟨j, hj, rfl⟩ := List.getElem_of_mem hx
        rw [← rd_nat ks j hj]
        exact hok j (by omega))
      clear hok
      go_wp2
      go_ret
      exact ⟨rfl, by rw [hr.out]; rfl⟩

theorem agg_rep : AggT Tryd.prog 40 2 := ⟨⟨_, Tryd.underlying40, rfl⟩, by kernel_rfl⟩
theorem take_yes (g : Nat) (a p s kn : Value) (A : Option Addr) (n c : Nat) (now id : Int) (w : World) (hd : DeskAt w g a p s kn now) :
    Calls Tryd.prog 86 #[.pointer (some ⟨g, 0, none⟩), .slice A n c, .nilIface, .int .i64 id] w fun e w' => e = .returned (Rep.val ⟨0, id⟩) ∧ DeskAt w' g (.slice A n c) p s kn now ∧ w.grownBy w' (some g) := by
  obtain ⟨g0, g1, g2, g3, g4⟩ := hd.c5
  have gf := hd.frozen
  have gl := hd.lt
  go_enter Tryd.func86, Tryd.ntmps86
  go_wp2
  refine bodyPost_ret (res_cell rfl _ rfl agg_rep rfl (Blk.newS _ _ _ _ _)) rfl ⟨rfl, ?_, ?_⟩
  · exact (hd.set_ 0 _).alloc _
  · exact ((World.grownBy.refl w _).setCell rfl _).alloc_ _
theorem take_no (g : Nat) (c id : Int) (x : Value) (w : World) (hg : GT w) :
    Calls Tryd.prog 86 #[.pointer (some ⟨g, 0, none⟩), x, .iface 38 (.int .i64 c), .int .i64 id] w fun e w' => e = .returned (Rep.val ⟨c, 0⟩) ∧ Below w.heap.size w w' := by
  have hg1 := hg.below (below_alloc (Below.refl _ _) (.cells #[.int .i64 0, .int .i64 0] 40))
  go_enter Tryd.func86, Tryd.ntmps86
  go_wp2_with (go_at_call 90; refine (number_err c _ hg1).mono ?_; rintro e w' ⟨rfl, hz⟩; have hj := (Blk.new _ _ _).next hz; have j0 := hj.at 0 _ rfl; have j1 := hj.at 1 _ rfl; have jf := hj.frozen)
  refine bodyPost_ret (res_cell rfl _ rfl agg_rep rfl (hj.chain2)) rfl ⟨rfl, ?_⟩
  repeat (refine Below.setCell ?_ (by simp) _)
  exact below_next (below_alloc (Below.refl _ _) _) hz
end Go.Proofs.YthjmficglpfgpaaDoor
