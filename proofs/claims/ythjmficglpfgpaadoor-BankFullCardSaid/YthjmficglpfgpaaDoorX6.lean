/- ops.Do (printed by tools/opsdo.py). -/
import Derived.Test.YthjmficglpfgpaaDoorX5
import Derived.Test.YthjmficglpfgpaaDoorX4
namespace Go.Proofs.YthjmficglpfgpaaDoor
set_option linter.unusedVariables false
set_option linter.unusedSimpArgs false
open Go Go.RowKit Enc
set_option maxRecDepth 100000
set_option maxHeartbeats 800000

theorem desk_nil (w : World) : (binOp .eql 93 .nilFunc .nilFunc).run Tryd.prog w = .ok (.bool true) w := by kernel_rfl
theorem desk_func (w : World) (f : Fn) (x y : Array Value) : (binOp .eql 93 (.func f x y) .nilFunc).run Tryd.prog w = .ok (.bool false) w := by kernel_rfl
theorem opsBy_none (op : Int) (w : World) (h : ¬(0 ≤ op ∧ op ≤ 7)) : Calls Tryd.prog 37 #[.int .i64 op] w fun e w' => e = .returned .nilFunc ∧ Below w.heap.size w w' := by
  by_cases h1 : op < 0
  · clear h
    go_enter Tryd.func37, Tryd.ntmps37
    go_wp2
    go_ret
    exact ⟨rfl, by (repeat (first | (with_reducible refine below_drew ?_) | (with_reducible refine below_drewN ?_ _) | (with_reducible refine below_alloc ?_ _) | ((with_reducible refine Below.setCell ?_ ?_ _); rotate_left; (focus (first | (simp; done) | (simp; omega)))))); exact Below.refl _ _⟩
  · have h2 : (8 : Int) ≤ op := by omega
    have h3 : decide (op < 0) = false := by simpa using h1
    clear h
    go_enter Tryd.func37, Tryd.ntmps37
    go_wp2
    go_ret
    exact ⟨rfl, by (repeat (first | (with_reducible refine below_drew ?_) | (with_reducible refine below_drewN ?_ _) | (with_reducible refine below_alloc ?_ _) | ((with_reducible refine Below.setCell ?_ ?_ _); rotate_left; (focus (first | (simp; done) | (simp; omega)))))); exact Below.refl _ _⟩
theorem opsBy_0 (w : World) : Calls Tryd.prog 37 #[.int .i64 0] w fun e w' => e = .returned (.func (.func 59) #[] #[]) ∧ Below w.heap.size w w' := by
  go_enter Tryd.func37, Tryd.ntmps37
  go_wp2
  go_ret
  exact ⟨rfl, by (repeat (first | (with_reducible refine below_drew ?_) | (with_reducible refine below_drewN ?_ _) | (with_reducible refine below_alloc ?_ _) | ((with_reducible refine Below.setCell ?_ ?_ _); rotate_left; (focus (first | (simp; done) | (simp; omega)))))); exact Below.refl _ _⟩
theorem opsBy_1 (w : World) : Calls Tryd.prog 37 #[.int .i64 1] w fun e w' => e = .returned (.func (.func 60) #[] #[]) ∧ Below w.heap.size w w' := by
  go_enter Tryd.func37, Tryd.ntmps37
  go_wp2
  go_ret
  exact ⟨rfl, by (repeat (first | (with_reducible refine below_drew ?_) | (with_reducible refine below_drewN ?_ _) | (with_reducible refine below_alloc ?_ _) | ((with_reducible refine Below.setCell ?_ ?_ _); rotate_left; (focus (first | (simp; done) | (simp; omega)))))); exact Below.refl _ _⟩
theorem opsBy_2 (w : World) : Calls Tryd.prog 37 #[.int .i64 2] w fun e w' => e = .returned (.func (.func 61) #[] #[]) ∧ Below w.heap.size w w' := by
  go_enter Tryd.func37, Tryd.ntmps37
  go_wp2
  go_ret
  exact ⟨rfl, by (repeat (first | (with_reducible refine below_drew ?_) | (with_reducible refine below_drewN ?_ _) | (with_reducible refine below_alloc ?_ _) | ((with_reducible refine Below.setCell ?_ ?_ _); rotate_left; (focus (first | (simp; done) | (simp; omega)))))); exact Below.refl _ _⟩
theorem opsBy_3 (w : World) : Calls Tryd.prog 37 #[.int .i64 3] w fun e w' => e = .returned (.func (.func 62) #[] #[]) ∧ Below w.heap.size w w' := by
  go_enter Tryd.func37, Tryd.ntmps37
  go_wp2
  go_ret
  exact ⟨rfl, by (repeat (first | (with_reducible refine below_drew ?_) | (with_reducible refine below_drewN ?_ _) | (with_reducible refine below_alloc ?_ _) | ((with_reducible refine Below.setCell ?_ ?_ _); rotate_left; (focus (first | (simp; done) | (simp; omega)))))); exact Below.refl _ _⟩
theorem opsBy_4 (w : World) : Calls Tryd.prog 37 #[.int .i64 4] w fun e w' => e = .returned (.func (.func 63) #[] #[]) ∧ Below w.heap.size w w' := by
  go_enter Tryd.func37, Tryd.ntmps37
  go_wp2
  go_ret
  exact ⟨rfl, by (repeat (first | (with_reducible refine below_drew ?_) | (with_reducible refine below_drewN ?_ _) | (with_reducible refine below_alloc ?_ _) | ((with_reducible refine Below.setCell ?_ ?_ _); rotate_left; (focus (first | (simp; done) | (simp; omega)))))); exact Below.refl _ _⟩
theorem opsBy_5 (w : World) : Calls Tryd.prog 37 #[.int .i64 5] w fun e w' => e = .returned (.func (.func 64) #[] #[]) ∧ Below w.heap.size w w' := by
  go_enter Tryd.func37, Tryd.ntmps37
  go_wp2
  go_ret
  exact ⟨rfl, by (repeat (first | (with_reducible refine below_drew ?_) | (with_reducible refine below_drewN ?_ _) | (with_reducible refine below_alloc ?_ _) | ((with_reducible refine Below.setCell ?_ ?_ _); rotate_left; (focus (first | (simp; done) | (simp; omega)))))); exact Below.refl _ _⟩
theorem opsBy_6 (w : World) : Calls Tryd.prog 37 #[.int .i64 6] w fun e w' => e = .returned (.func (.func 65) #[] #[]) ∧ Below w.heap.size w w' := by
  go_enter Tryd.func37, Tryd.ntmps37
  go_wp2
  go_ret
  exact ⟨rfl, by (repeat (first | (with_reducible refine below_drew ?_) | (with_reducible refine below_drewN ?_ _) | (with_reducible refine below_alloc ?_ _) | ((with_reducible refine Below.setCell ?_ ?_ _); rotate_left; (focus (first | (simp; done) | (simp; omega)))))); exact Below.refl _ _⟩
theorem opsBy_7 (w : World) : Calls Tryd.prog 37 #[.int .i64 7] w fun e w' => e = .returned (.func (.func 66) #[] #[]) ∧ Below w.heap.size w w' := by
  go_enter Tryd.func37, Tryd.ntmps37
  go_wp2
  go_ret
  exact ⟨rfl, by (repeat (first | (with_reducible refine below_drew ?_) | (with_reducible refine below_drewN ?_ _) | (with_reducible refine below_alloc ?_ _) | ((with_reducible refine Below.setCell ?_ ?_ _); rotate_left; (focus (first | (simp; done) | (simp; omega)))))); exact Below.refl _ _⟩

/-- The value v is the state s. -/
def StV (w : World) (v : Value) (s : St) : Prop :=
  ∃ a p g k, v = .agg #[a, p, g, k, .int .i64 s.now] ∧ Row w a s.accs ∧ Row w p s.pays ∧ Row w g s.sagas ∧ Row w k s.known
theorem StV.below {w w' : World} {v : Value} {s : St} (h : StV w v s) (hb : Below w.heap.size w w') : StV w' v s := by
  obtain ⟨a, p, g, k, rfl, h1, h2, h3, h4⟩ := h
  exact ⟨a, p, g, k, rfl, h1.below hb, h2.below hb, h3.below hb, h4.below hb⟩
/-- What ops.Do hands back. -/
def DoRes (w w' : World) (sg kn : Value) (s : St) (x : St × Rep) (e : Ending) : Prop :=
  Below w.heap.size w w' ∧ ∃ a' p', e = .returned (.tuple #[.agg #[a', p', sg, kn, .int .i64 s.now], x.2.val]) ∧ Row w' a' x.1.accs ∧ Row w' p' x.1.pays
theorem agg_st : AggT Tryd.prog 36 5 := ⟨⟨_, Tryd.underlying36, rfl⟩, by kernel_rfl⟩
theorem Blk.new4 (w : World) (o o' o'' o3 : Obj) (t : TypeId) (cs : Array Value) : Blk (((((w.alloc o).alloc o').alloc o'').alloc o3).alloc (.cells cs t)) (w.heap.size + 4) t cs := by
  have := Blk.new3 (w.alloc o) o' o'' o3 t cs
  rwa [World.size_alloc] at this
/-- A row lies outside of what is new. -/
def Aside {α : Type} (m n : Nat) (v : Value) (xs : List α) : Prop := xs ≠ [] → ∀ j, m ≤ j → j < n → v.ownBlock ≠ some j
theorem Row.aside {w : World} {v : Value} {α : Type} [Enc α] {xs : List α} (h : Row w v xs) (n : Nat) : Aside w.heap.size n v xs := fun hne j hj _ => h.apart hj hne
theorem Own.aside {w : World} {B e : Nat} {v : Value} {α : Type} [Enc α] {xs : List α} (h : Own w B e v xs) (m : Nat) : Aside m B v xs := fun _ _ _ hj => (h.ne hj).symm
theorem Row.setTwo {w : World} {v : Value} {α : Type} [Enc α] {xs : List α} {m n j : Nat} (h : Row w v xs) (ha : Aside m n v xs) (hm : m ≤ j) (hn : j < n) (i : Nat) (u : Value) : Row (w.setCell ⟨j, i, none⟩ u) v xs :=
  h.only (fun hne => ha hne j hm hn) ((World.grownBy.refl w _).setCell rfl u)
/-- What a desk hands back, told of the state. -/
theorem DeskRes.st {w w' : World} {g : Nat} {p sg kn : Value} {s : St} {r : Req} {e : Ending} (h : DeskRes w w' g p sg kn s.now s.pays (opsR s.now s.accs s.pays r) e) {a : Value} (hD : DeskAt w g a p sg kn s.now) (ha : Row w a s.accs) (hp : Row w p s.pays) {w0 : World} (h0 : Below w0.heap.size w0 w) (hg : w0.heap.size ≤ g) (ha0 : Row w0 a s.accs) (hp0 : Row w0 p s.pays) :
    ∃ a' p' err id, e = .returned (Rep.val ⟨err, id⟩) ∧ (opsDo s r).2 = ⟨err, id⟩ ∧ DeskAt w' g a' p' sg kn s.now ∧ Row w' a' (opsDo s r).1.accs ∧ Row w' p' (opsDo s r).1.pays ∧ Below w0.heap.size w0 w' ∧ w.grownBy w' (some g) ∧ Aside w0.heap.size w.heap.size a' (opsDo s r).1.accs ∧ Aside w0.heap.size w.heap.size p' (opsDo s r).1.pays := by
  unfold opsDo
  cases hx : opsR s.now s.accs s.pays r with
  | error c =>
    rw [hx] at h
    obtain ⟨rfl, hb⟩ := h
    have h1 := below_next h0 hb
    exact ⟨a, p, c, 0, rfl, rfl, hD.next hb, ha0.below h1, hp0.below h1, h1, only_of_below hb g, ha0.aside _, hp0.aside _⟩
  | ok t =>
    obtain ⟨xs, qs, id⟩ := t
    rw [hx] at h
    obtain ⟨rfl, ⟨a', p', hd, ho, hq⟩, hgr⟩ := h
    have h1 := only_below h0 hgr hg
    refine ⟨a', p', 0, id, rfl, rfl, hd, ho.row, ?_, h1, hgr, ho.aside _, ?_⟩
    · rcases hq with ⟨rfl, rfl⟩ | hq
      · exact hp0.below h1
      · exact hq.row
    · rcases hq with ⟨rfl, rfl⟩ | hq
      · exact hp0.aside _
      · exact hq.aside _

theorem opsDo_0 (s : St) (a p sg kn : Value) (r : Req) (w : World) (hop : r.op = 0) (ha : Row w a s.accs) (hp : Row w p s.pays) (hsg : Row w sg s.sagas) (hkn : Row w kn s.known) (hG : Good s.accs) (hP : PaysOk s.accs s.pays) (hT : GT w) :
    Calls Tryd.prog 14 #[.agg #[a, p, sg, kn, .int .i64 s.now], r.val] w fun e w' => DoRes w w' sg kn s (opsDo s r) e := by
  have hq := fun w f x y => desk_func w f x y
  have HC : ∀ (g : Nat) (W : World) (hD : Desk W g a p sg kn s.now s.accs s.pays), Calls Tryd.prog 59 #[.pointer (some ⟨g, 0, none⟩), r.val] W fun e w' => DeskRes W w' g p sg kn s.now s.pays (opsR s.now s.accs s.pays r) e := fun g W hD => by
    rw [show opsR s.now s.accs s.pays r = deskOpen s.accs s.pays r by unfold opsR; rw [if_pos hop]]
    exact open_desk g a p sg kn s.now s.accs s.pays r W hD
  have HCC := Lib.hid HC
  clear HC
  have HS := Lib.hid (fun (W w' : World) (g : Nat) (e : Ending) (h : DeskRes W w' g p sg kn s.now s.pays (opsR s.now s.accs s.pays r) e) (hD : DeskAt W g a p sg kn s.now) (h0 : Below w.heap.size w W) (hg : w.heap.size ≤ g) => h.st hD (ha.below h0) (hp.below h0) h0 hg ha hp)
  generalize hX : opsR s.now s.accs s.pays r = X at *
  clear hX
  generalize hY : opsDo s r = Y at *
  clear hY
  obtain ⟨key, op, ra, rb, amt, legs, til⟩ := r
  obtain rfl : op = 0 := hop
  obtain ⟨xs, ps, sas, kns, now⟩ := s
  simp only at *
  go_enter Tryd.func14, Tryd.ntmps14
  go_wp2_with fail
  refine (opsBy_0 _).mono ?_
  rintro e w1 ⟨rfl, hz⟩
  have hb0 := ((((Blk.new w 36 #[a, p, sg, kn, .int .i64 now]).alloc (.cells (rcells ⟨key, 0, ra, rb, amt, legs, til⟩) 29)).alloc (.cells #[.slice none 0 0, .slice none 0 0, .slice none 0 0, .slice none 0 0, .int .i64 0] 36)).alloc (.cells #[.int .i64 0, .int .i64 0] 40)).next hz
  have hb1 := (((Blk.new1 w (.cells #[a, p, sg, kn, .int .i64 now] 36) 29 (rcells ⟨key, 0, ra, rb, amt, legs, til⟩)).alloc (.cells #[.slice none 0 0, .slice none 0 0, .slice none 0 0, .slice none 0 0, .int .i64 0] 36)).alloc (.cells #[.int .i64 0, .int .i64 0] 40)).next hz
  obtain ⟨s0, s1, s2, s3, s4⟩ := hb0.c5
  obtain ⟨r0, r1, r2, r3, r4, r5, r6⟩ := hb1.c7
  have l0 := hb0.lt
  have l1 := hb1.lt
  have hbw : Below w.heap.size w w1 := below_next (below_alloc (below_alloc (below_alloc (below_alloc (Below.refl _ _) _) _) _) _) hz
  go_wp2_with fail
  have hbw2 := below_alloc hbw (.cells #[a, p, sg, kn, .int .i64 now] 97)
  refine (HCC.out w1.heap.size _ ⟨Blk.new _ _ _, ha.below hbw2, hp.below hbw2, Row.apart (hp.below hbw) (Nat.le_refl _), hG, hT.below hbw2⟩).mono ?_
  intro e w2 hres
  obtain ⟨a', p', err, id, rfl, hy, hd2, ha2, hp2, hbw3, hg2, has2, hps2⟩ := HS.out _ _ _ _ hres (Blk.new _ _ _) hbw2 hbw.size
  clear hres HCC HS
  have hn4 : some (w.heap.size + 2) ≠ some w1.heap.size := by intro h; injection h with h; have := hz.size; simp at this; omega
  have hn5 : some (w.heap.size + 3) ≠ some w1.heap.size := by intro h; injection h with h; have := hz.size; simp at this; omega
  have hb4 := ((((Blk.new2 w (.cells #[a, p, sg, kn, .int .i64 now] 36) (.cells (rcells ⟨key, 0, ra, rb, amt, legs, til⟩) 29) 36 #[.slice none 0 0, .slice none 0 0, .slice none 0 0, .slice none 0 0, .int .i64 0]).alloc (.cells #[.int .i64 0, .int .i64 0] 40)).next hz).alloc (.cells #[a, p, sg, kn, .int .i64 now] 97)).grown hg2 hn4
  have hb5 := (((Blk.new3 w (.cells #[a, p, sg, kn, .int .i64 now] 36) (.cells (rcells ⟨key, 0, ra, rb, amt, legs, til⟩) 29) (.cells #[.slice none 0 0, .slice none 0 0, .slice none 0 0, .slice none 0 0, .int .i64 0] 36) 40 #[.int .i64 0, .int .i64 0]).next hz).alloc (.cells #[a, p, sg, kn, .int .i64 now] 97)).grown hg2 hn5
  have HYY := Lib.hid hy
  clear hy
  go_wp2_with fail
  refine abs_world (fun V => Blk V w1.heap.size 97 #[a', p', sg, kn, .int .i64 now] ∧ Blk V w2.heap.size 40 #[.int .i64 err, .int .i64 id] ∧ Blk V (w.heap.size + 1 + 1) 36 #[.slice none 0 0, .slice none 0 0, .slice none 0 0, .slice none 0 0, .int .i64 0] ∧ Blk V (w.heap.size + 1 + 1 + 1) 40 #[.int .i64 0, .int .i64 0] ∧ Row V a' Y.1.accs ∧ Row V p' Y.1.pays ∧ Below w.heap.size w V ∧ w2.heap.size ≠ w.heap.size + 1 + 1 + 1)
    ⟨hd2.alloc _, Blk.new _ _ _, hb4.alloc _, hb5.alloc _, ha2.alloc _, hp2.alloc _, below_alloc hbw3 _, by have := hb5.lt; omega⟩ ?_
  clear hd2 hb4 hb5 ha2 hp2 hbw3 hb0 hb1 s0 s1 s2 s3 s4 r0 r1 r2 r3 r4 r5 r6 hg2
  rintro V ⟨hd, ho, hb4, hb5, ha2, hp2, hbV, hne⟩
  obtain ⟨g0, g1, g2, g3, g4⟩ := hd.c5
  obtain ⟨o0, o1⟩ := ho.c2
  obtain ⟨x0, x1, x2, x3, x4⟩ := hb4.c5
  obtain ⟨y0, y1⟩ := hb5.c2
  obtain ⟨A1, c1, rfl⟩ := ha2.slice
  obtain ⟨A2, c2, rfl⟩ := hp2.slice
  obtain ⟨A3, c3, rfl⟩ := hsg.slice
  obtain ⟨A4, c4, rfl⟩ := hkn.slice
  have xf := hb4.frozen
  have yf := hb5.frozen
  have le1 := hb4.lt
  have le2 := hb5.lt
  have le3 := hd.lt
  have le4 := ho.lt
  have m1 : w.heap.size + 1 + 1 ≠ w1.heap.size := by have := hz.size; simp at this; omega
  have m2 : w.heap.size + 1 + 1 ≠ w2.heap.size := Blk.ne_ hb4 ho (by decide)
  have m3 : w.heap.size + 1 + 1 + 1 ≠ w1.heap.size := Blk.ne_ hb5 hd (by decide)
  have m4 := Ne.symm hne
  have m5 := Ne.symm m1
  have m6 := Ne.symm m2
  have m7 := Ne.symm m3
  go_region_held3 (fun w' => w'.cell? ⟨w1.heap.size, 0, none⟩ = some (.slice A1 Y.1.accs.length c1) ∧ w'.cell? ⟨w1.heap.size, 1, none⟩ = some (.slice A2 Y.1.pays.length c2) ∧ w'.cell? ⟨w1.heap.size, 2, none⟩ = some (.slice A3 sas.length c3) ∧ w'.cell? ⟨w1.heap.size, 3, none⟩ = some (.slice A4 kns.length c4) ∧ w'.cell? ⟨w1.heap.size, 4, none⟩ = some (.int .i64 now) ∧ w'.cell? ⟨w2.heap.size, 0, none⟩ = some (.int .i64 err) ∧ w'.cell? ⟨w2.heap.size, 1, none⟩ = some (.int .i64 id)) (go_keep) ((fail))
  go_wp2_with fail
  have HAB := Lib.hid (show w.heap.size + 1 + 1 + 1 < (w1.alloc (.cells #[a, p, .slice A3 sas.length c3, .slice A4 kns.length c4, .int .i64 now] 97)).heap.size by simp only [World.size_alloc]; have := hz.size; simp at this; omega)
  refine bodyPost_ret (res_cell_cell rfl _ rfl rfl agg_st rfl ((hb4.chain5.far2 (by omega)).drew) agg_rep rfl ((hb5.far5 (by omega)).chain2.drew)) rfl ⟨?_, .slice A1 Y.1.accs.length c1, .slice A2 Y.1.pays.length c2, by rw [HYY.out], ?_, ?_⟩
  · (repeat (first | (with_reducible refine below_drew ?_) | (with_reducible refine below_drewN ?_ _) | (with_reducible refine below_alloc ?_ _) | ((with_reducible refine Below.setCell ?_ ?_ _); rotate_left; (focus (first | (simp; done) | (simp; omega))))))
    exact hbV
  · have h2 : w.heap.size + 1 + 1 < (w1.alloc (.cells #[a, p, .slice A3 sas.length c3, .slice A4 kns.length c4, .int .i64 now] 97)).heap.size := by have := HAB.out; omega
    exact ((((((((ha2).setTwo has2 (by omega) h2 _ _).setTwo has2 (by omega) h2 _ _).setTwo has2 (by omega) h2 _ _).setTwo has2 (by omega) h2 _ _).setTwo has2 (by omega) h2 _ _).setTwo has2 (by omega) HAB.out _ _).setTwo has2 (by omega) HAB.out _ _).drew
  · have h2 : w.heap.size + 1 + 1 < (w1.alloc (.cells #[a, p, .slice A3 sas.length c3, .slice A4 kns.length c4, .int .i64 now] 97)).heap.size := by have := HAB.out; omega
    exact ((((((((hp2).setTwo hps2 (by omega) h2 _ _).setTwo hps2 (by omega) h2 _ _).setTwo hps2 (by omega) h2 _ _).setTwo hps2 (by omega) h2 _ _).setTwo hps2 (by omega) h2 _ _).setTwo hps2 (by omega) HAB.out _ _).setTwo hps2 (by omega) HAB.out _ _).drew


theorem opsDo_1 (s : St) (a p sg kn : Value) (r : Req) (w : World) (hop : r.op = 1) (ha : Row w a s.accs) (hp : Row w p s.pays) (hsg : Row w sg s.sagas) (hkn : Row w kn s.known) (hG : Good s.accs) (hP : PaysOk s.accs s.pays) (hT : GT w) :
    Calls Tryd.prog 14 #[.agg #[a, p, sg, kn, .int .i64 s.now], r.val] w fun e w' => DoRes w w' sg kn s (opsDo s r) e := by
  have hq := fun w f x y => desk_func w f x y
  have HC : ∀ (g : Nat) (W : World) (hD : Desk W g a p sg kn s.now s.accs s.pays), Calls Tryd.prog 60 #[.pointer (some ⟨g, 0, none⟩), r.val] W fun e w' => DeskRes W w' g p sg kn s.now s.pays (opsR s.now s.accs s.pays r) e := fun g W hD => by
    rw [show opsR s.now s.accs s.pays r = deskDeposit s.accs s.pays r by unfold opsR; rw [if_neg (by omega), if_pos hop]]
    exact deposit_desk g a p sg kn s.now s.accs s.pays r W hD
  have HCC := Lib.hid HC
  clear HC
  have HS := Lib.hid (fun (W w' : World) (g : Nat) (e : Ending) (h : DeskRes W w' g p sg kn s.now s.pays (opsR s.now s.accs s.pays r) e) (hD : DeskAt W g a p sg kn s.now) (h0 : Below w.heap.size w W) (hg : w.heap.size ≤ g) => h.st hD (ha.below h0) (hp.below h0) h0 hg ha hp)
  generalize hX : opsR s.now s.accs s.pays r = X at *
  clear hX
  generalize hY : opsDo s r = Y at *
  clear hY
  obtain ⟨key, op, ra, rb, amt, legs, til⟩ := r
  obtain rfl : op = 1 := hop
  obtain ⟨xs, ps, sas, kns, now⟩ := s
  simp only at *
  go_enter Tryd.func14, Tryd.ntmps14
  go_wp2_with fail
  refine (opsBy_1 _).mono ?_
  rintro e w1 ⟨rfl, hz⟩
  have hb0 := ((((Blk.new w 36 #[a, p, sg, kn, .int .i64 now]).alloc (.cells (rcells ⟨key, 1, ra, rb, amt, legs, til⟩) 29)).alloc (.cells #[.slice none 0 0, .slice none 0 0, .slice none 0 0, .slice none 0 0, .int .i64 0] 36)).alloc (.cells #[.int .i64 0, .int .i64 0] 40)).next hz
  have hb1 := (((Blk.new1 w (.cells #[a, p, sg, kn, .int .i64 now] 36) 29 (rcells ⟨key, 1, ra, rb, amt, legs, til⟩)).alloc (.cells #[.slice none 0 0, .slice none 0 0, .slice none 0 0, .slice none 0 0, .int .i64 0] 36)).alloc (.cells #[.int .i64 0, .int .i64 0] 40)).next hz
  obtain ⟨s0, s1, s2, s3, s4⟩ := hb0.c5
  obtain ⟨r0, r1, r2, r3, r4, r5, r6⟩ := hb1.c7
  have l0 := hb0.lt
  have l1 := hb1.lt
  have hbw : Below w.heap.size w w1 := below_next (below_alloc (below_alloc (below_alloc (below_alloc (Below.refl _ _) _) _) _) _) hz
  go_wp2_with fail
  have hbw2 := below_alloc hbw (.cells #[a, p, sg, kn, .int .i64 now] 97)
  refine (HCC.out w1.heap.size _ ⟨Blk.new _ _ _, ha.below hbw2, hp.below hbw2, Row.apart (hp.below hbw) (Nat.le_refl _), hG, hT.below hbw2⟩).mono ?_
  intro e w2 hres
  obtain ⟨a', p', err, id, rfl, hy, hd2, ha2, hp2, hbw3, hg2, has2, hps2⟩ := HS.out _ _ _ _ hres (Blk.new _ _ _) hbw2 hbw.size
  clear hres HCC HS
  have hn4 : some (w.heap.size + 2) ≠ some w1.heap.size := by intro h; injection h with h; have := hz.size; simp at this; omega
  have hn5 : some (w.heap.size + 3) ≠ some w1.heap.size := by intro h; injection h with h; have := hz.size; simp at this; omega
  have hb4 := ((((Blk.new2 w (.cells #[a, p, sg, kn, .int .i64 now] 36) (.cells (rcells ⟨key, 1, ra, rb, amt, legs, til⟩) 29) 36 #[.slice none 0 0, .slice none 0 0, .slice none 0 0, .slice none 0 0, .int .i64 0]).alloc (.cells #[.int .i64 0, .int .i64 0] 40)).next hz).alloc (.cells #[a, p, sg, kn, .int .i64 now] 97)).grown hg2 hn4
  have hb5 := (((Blk.new3 w (.cells #[a, p, sg, kn, .int .i64 now] 36) (.cells (rcells ⟨key, 1, ra, rb, amt, legs, til⟩) 29) (.cells #[.slice none 0 0, .slice none 0 0, .slice none 0 0, .slice none 0 0, .int .i64 0] 36) 40 #[.int .i64 0, .int .i64 0]).next hz).alloc (.cells #[a, p, sg, kn, .int .i64 now] 97)).grown hg2 hn5
  have HYY := Lib.hid hy
  clear hy
  go_wp2_with fail
  refine abs_world (fun V => Blk V w1.heap.size 97 #[a', p', sg, kn, .int .i64 now] ∧ Blk V w2.heap.size 40 #[.int .i64 err, .int .i64 id] ∧ Blk V (w.heap.size + 1 + 1) 36 #[.slice none 0 0, .slice none 0 0, .slice none 0 0, .slice none 0 0, .int .i64 0] ∧ Blk V (w.heap.size + 1 + 1 + 1) 40 #[.int .i64 0, .int .i64 0] ∧ Row V a' Y.1.accs ∧ Row V p' Y.1.pays ∧ Below w.heap.size w V ∧ w2.heap.size ≠ w.heap.size + 1 + 1 + 1)
    ⟨hd2.alloc _, Blk.new _ _ _, hb4.alloc _, hb5.alloc _, ha2.alloc _, hp2.alloc _, below_alloc hbw3 _, by have := hb5.lt; omega⟩ ?_
  clear hd2 hb4 hb5 ha2 hp2 hbw3 hb0 hb1 s0 s1 s2 s3 s4 r0 r1 r2 r3 r4 r5 r6 hg2
  rintro V ⟨hd, ho, hb4, hb5, ha2, hp2, hbV, hne⟩
  obtain ⟨g0, g1, g2, g3, g4⟩ := hd.c5
  obtain ⟨o0, o1⟩ := ho.c2
  obtain ⟨x0, x1, x2, x3, x4⟩ := hb4.c5
  obtain ⟨y0, y1⟩ := hb5.c2
  obtain ⟨A1, c1, rfl⟩ := ha2.slice
  obtain ⟨A2, c2, rfl⟩ := hp2.slice
  obtain ⟨A3, c3, rfl⟩ := hsg.slice
  obtain ⟨A4, c4, rfl⟩ := hkn.slice
  have xf := hb4.frozen
  have yf := hb5.frozen
  have le1 := hb4.lt
  have le2 := hb5.lt
  have le3 := hd.lt
  have le4 := ho.lt
  have m1 : w.heap.size + 1 + 1 ≠ w1.heap.size := by have := hz.size; simp at this; omega
  have m2 : w.heap.size + 1 + 1 ≠ w2.heap.size := Blk.ne_ hb4 ho (by decide)
  have m3 : w.heap.size + 1 + 1 + 1 ≠ w1.heap.size := Blk.ne_ hb5 hd (by decide)
  have m4 := Ne.symm hne
  have m5 := Ne.symm m1
  have m6 := Ne.symm m2
  have m7 := Ne.symm m3
  go_region_held3 (fun w' => w'.cell? ⟨w1.heap.size, 0, none⟩ = some (.slice A1 Y.1.accs.length c1) ∧ w'.cell? ⟨w1.heap.size, 1, none⟩ = some (.slice A2 Y.1.pays.length c2) ∧ w'.cell? ⟨w1.heap.size, 2, none⟩ = some (.slice A3 sas.length c3) ∧ w'.cell? ⟨w1.heap.size, 3, none⟩ = some (.slice A4 kns.length c4) ∧ w'.cell? ⟨w1.heap.size, 4, none⟩ = some (.int .i64 now) ∧ w'.cell? ⟨w2.heap.size, 0, none⟩ = some (.int .i64 err) ∧ w'.cell? ⟨w2.heap.size, 1, none⟩ = some (.int .i64 id)) (go_keep) ((fail))
  go_wp2_with fail
  have HAB := Lib.hid (show w.heap.size + 1 + 1 + 1 < (w1.alloc (.cells #[a, p, .slice A3 sas.length c3, .slice A4 kns.length c4, .int .i64 now] 97)).heap.size by simp only [World.size_alloc]; have := hz.size; simp at this; omega)
  refine bodyPost_ret (res_cell_cell rfl _ rfl rfl agg_st rfl ((hb4.chain5.far2 (by omega)).drew) agg_rep rfl ((hb5.far5 (by omega)).chain2.drew)) rfl ⟨?_, .slice A1 Y.1.accs.length c1, .slice A2 Y.1.pays.length c2, by rw [HYY.out], ?_, ?_⟩
  · (repeat (first | (with_reducible refine below_drew ?_) | (with_reducible refine below_drewN ?_ _) | (with_reducible refine below_alloc ?_ _) | ((with_reducible refine Below.setCell ?_ ?_ _); rotate_left; (focus (first | (simp; done) | (simp; omega))))))
    exact hbV
  · have h2 : w.heap.size + 1 + 1 < (w1.alloc (.cells #[a, p, .slice A3 sas.length c3, .slice A4 kns.length c4, .int .i64 now] 97)).heap.size := by have := HAB.out; omega
    exact ((((((((ha2).setTwo has2 (by omega) h2 _ _).setTwo has2 (by omega) h2 _ _).setTwo has2 (by omega) h2 _ _).setTwo has2 (by omega) h2 _ _).setTwo has2 (by omega) h2 _ _).setTwo has2 (by omega) HAB.out _ _).setTwo has2 (by omega) HAB.out _ _).drew
  · have h2 : w.heap.size + 1 + 1 < (w1.alloc (.cells #[a, p, .slice A3 sas.length c3, .slice A4 kns.length c4, .int .i64 now] 97)).heap.size := by have := HAB.out; omega
    exact ((((((((hp2).setTwo hps2 (by omega) h2 _ _).setTwo hps2 (by omega) h2 _ _).setTwo hps2 (by omega) h2 _ _).setTwo hps2 (by omega) h2 _ _).setTwo hps2 (by omega) h2 _ _).setTwo hps2 (by omega) HAB.out _ _).setTwo hps2 (by omega) HAB.out _ _).drew


theorem opsDo_2 (s : St) (a p sg kn : Value) (r : Req) (w : World) (hop : r.op = 2) (ha : Row w a s.accs) (hp : Row w p s.pays) (hsg : Row w sg s.sagas) (hkn : Row w kn s.known) (hG : Good s.accs) (hP : PaysOk s.accs s.pays) (hT : GT w) :
    Calls Tryd.prog 14 #[.agg #[a, p, sg, kn, .int .i64 s.now], r.val] w fun e w' => DoRes w w' sg kn s (opsDo s r) e := by
  have hq := fun w f x y => desk_func w f x y
  have HC : ∀ (g : Nat) (W : World) (hD : Desk W g a p sg kn s.now s.accs s.pays), Calls Tryd.prog 61 #[.pointer (some ⟨g, 0, none⟩), r.val] W fun e w' => DeskRes W w' g p sg kn s.now s.pays (opsR s.now s.accs s.pays r) e := fun g W hD => by
    rw [show opsR s.now s.accs s.pays r = deskTransfer s.accs s.pays r by unfold opsR; rw [if_neg (by omega), if_neg (by omega), if_pos hop]]
    exact transfer_desk g a p sg kn s.now s.accs s.pays r W hD
  have HCC := Lib.hid HC
  clear HC
  have HS := Lib.hid (fun (W w' : World) (g : Nat) (e : Ending) (h : DeskRes W w' g p sg kn s.now s.pays (opsR s.now s.accs s.pays r) e) (hD : DeskAt W g a p sg kn s.now) (h0 : Below w.heap.size w W) (hg : w.heap.size ≤ g) => h.st hD (ha.below h0) (hp.below h0) h0 hg ha hp)
  generalize hX : opsR s.now s.accs s.pays r = X at *
  clear hX
  generalize hY : opsDo s r = Y at *
  clear hY
  obtain ⟨key, op, ra, rb, amt, legs, til⟩ := r
  obtain rfl : op = 2 := hop
  obtain ⟨xs, ps, sas, kns, now⟩ := s
  simp only at *
  go_enter Tryd.func14, Tryd.ntmps14
  go_wp2_with fail
  refine (opsBy_2 _).mono ?_
  rintro e w1 ⟨rfl, hz⟩
  have hb0 := ((((Blk.new w 36 #[a, p, sg, kn, .int .i64 now]).alloc (.cells (rcells ⟨key, 2, ra, rb, amt, legs, til⟩) 29)).alloc (.cells #[.slice none 0 0, .slice none 0 0, .slice none 0 0, .slice none 0 0, .int .i64 0] 36)).alloc (.cells #[.int .i64 0, .int .i64 0] 40)).next hz
  have hb1 := (((Blk.new1 w (.cells #[a, p, sg, kn, .int .i64 now] 36) 29 (rcells ⟨key, 2, ra, rb, amt, legs, til⟩)).alloc (.cells #[.slice none 0 0, .slice none 0 0, .slice none 0 0, .slice none 0 0, .int .i64 0] 36)).alloc (.cells #[.int .i64 0, .int .i64 0] 40)).next hz
  obtain ⟨s0, s1, s2, s3, s4⟩ := hb0.c5
  obtain ⟨r0, r1, r2, r3, r4, r5, r6⟩ := hb1.c7
  have l0 := hb0.lt
  have l1 := hb1.lt
  have hbw : Below w.heap.size w w1 := below_next (below_alloc (below_alloc (below_alloc (below_alloc (Below.refl _ _) _) _) _) _) hz
  go_wp2_with fail
  have hbw2 := below_alloc hbw (.cells #[a, p, sg, kn, .int .i64 now] 97)
  refine (HCC.out w1.heap.size _ ⟨Blk.new _ _ _, ha.below hbw2, hp.below hbw2, Row.apart (hp.below hbw) (Nat.le_refl _), hG, hT.below hbw2⟩).mono ?_
  intro e w2 hres
  obtain ⟨a', p', err, id, rfl, hy, hd2, ha2, hp2, hbw3, hg2, has2, hps2⟩ := HS.out _ _ _ _ hres (Blk.new _ _ _) hbw2 hbw.size
  clear hres HCC HS
  have hn4 : some (w.heap.size + 2) ≠ some w1.heap.size := by intro h; injection h with h; have := hz.size; simp at this; omega
  have hn5 : some (w.heap.size + 3) ≠ some w1.heap.size := by intro h; injection h with h; have := hz.size; simp at this; omega
  have hb4 := ((((Blk.new2 w (.cells #[a, p, sg, kn, .int .i64 now] 36) (.cells (rcells ⟨key, 2, ra, rb, amt, legs, til⟩) 29) 36 #[.slice none 0 0, .slice none 0 0, .slice none 0 0, .slice none 0 0, .int .i64 0]).alloc (.cells #[.int .i64 0, .int .i64 0] 40)).next hz).alloc (.cells #[a, p, sg, kn, .int .i64 now] 97)).grown hg2 hn4
  have hb5 := (((Blk.new3 w (.cells #[a, p, sg, kn, .int .i64 now] 36) (.cells (rcells ⟨key, 2, ra, rb, amt, legs, til⟩) 29) (.cells #[.slice none 0 0, .slice none 0 0, .slice none 0 0, .slice none 0 0, .int .i64 0] 36) 40 #[.int .i64 0, .int .i64 0]).next hz).alloc (.cells #[a, p, sg, kn, .int .i64 now] 97)).grown hg2 hn5
  have HYY := Lib.hid hy
  clear hy
  go_wp2_with fail
  refine abs_world (fun V => Blk V w1.heap.size 97 #[a', p', sg, kn, .int .i64 now] ∧ Blk V w2.heap.size 40 #[.int .i64 err, .int .i64 id] ∧ Blk V (w.heap.size + 1 + 1) 36 #[.slice none 0 0, .slice none 0 0, .slice none 0 0, .slice none 0 0, .int .i64 0] ∧ Blk V (w.heap.size + 1 + 1 + 1) 40 #[.int .i64 0, .int .i64 0] ∧ Row V a' Y.1.accs ∧ Row V p' Y.1.pays ∧ Below w.heap.size w V ∧ w2.heap.size ≠ w.heap.size + 1 + 1 + 1)
    ⟨hd2.alloc _, Blk.new _ _ _, hb4.alloc _, hb5.alloc _, ha2.alloc _, hp2.alloc _, below_alloc hbw3 _, by have := hb5.lt; omega⟩ ?_
  clear hd2 hb4 hb5 ha2 hp2 hbw3 hb0 hb1 s0 s1 s2 s3 s4 r0 r1 r2 r3 r4 r5 r6 hg2
  rintro V ⟨hd, ho, hb4, hb5, ha2, hp2, hbV, hne⟩
  obtain ⟨g0, g1, g2, g3, g4⟩ := hd.c5
  obtain ⟨o0, o1⟩ := ho.c2
  obtain ⟨x0, x1, x2, x3, x4⟩ := hb4.c5
  obtain ⟨y0, y1⟩ := hb5.c2
  obtain ⟨A1, c1, rfl⟩ := ha2.slice
  obtain ⟨A2, c2, rfl⟩ := hp2.slice
  obtain ⟨A3, c3, rfl⟩ := hsg.slice
  obtain ⟨A4, c4, rfl⟩ := hkn.slice
  have xf := hb4.frozen
  have yf := hb5.frozen
  have le1 := hb4.lt
  have le2 := hb5.lt
  have le3 := hd.lt
  have le4 := ho.lt
  have m1 : w.heap.size + 1 + 1 ≠ w1.heap.size := by have := hz.size; simp at this; omega
  have m2 : w.heap.size + 1 + 1 ≠ w2.heap.size := Blk.ne_ hb4 ho (by decide)
  have m3 : w.heap.size + 1 + 1 + 1 ≠ w1.heap.size := Blk.ne_ hb5 hd (by decide)
  have m4 := Ne.symm hne
  have m5 := Ne.symm m1
  have m6 := Ne.symm m2
  have m7 := Ne.symm m3
  go_region_held3 (fun w' => w'.cell? ⟨w1.heap.size, 0, none⟩ = some (.slice A1 Y.1.accs.length c1) ∧ w'.cell? ⟨w1.heap.size, 1, none⟩ = some (.slice A2 Y.1.pays.length c2) ∧ w'.cell? ⟨w1.heap.size, 2, none⟩ = some (.slice A3 sas.length c3) ∧ w'.cell? ⟨w1.heap.size, 3, none⟩ = some (.slice A4 kns.length c4) ∧ w'.cell? ⟨w1.heap.size, 4, none⟩ = some (.int .i64 now) ∧ w'.cell? ⟨w2.heap.size, 0, none⟩ = some (.int .i64 err) ∧ w'.cell? ⟨w2.heap.size, 1, none⟩ = some (.int .i64 id)) (go_keep) ((fail))
  go_wp2_with fail
  have HAB := Lib.hid (show w.heap.size + 1 + 1 + 1 < (w1.alloc (.cells #[a, p, .slice A3 sas.length c3, .slice A4 kns.length c4, .int .i64 now] 97)).heap.size by simp only [World.size_alloc]; have := hz.size; simp at this; omega)
  refine bodyPost_ret (res_cell_cell rfl _ rfl rfl agg_st rfl ((hb4.chain5.far2 (by omega)).drew) agg_rep rfl ((hb5.far5 (by omega)).chain2.drew)) rfl ⟨?_, .slice A1 Y.1.accs.length c1, .slice A2 Y.1.pays.length c2, by rw [HYY.out], ?_, ?_⟩
  · (repeat (first | (with_reducible refine below_drew ?_) | (with_reducible refine below_drewN ?_ _) | (with_reducible refine below_alloc ?_ _) | ((with_reducible refine Below.setCell ?_ ?_ _); rotate_left; (focus (first | (simp; done) | (simp; omega))))))
    exact hbV
  · have h2 : w.heap.size + 1 + 1 < (w1.alloc (.cells #[a, p, .slice A3 sas.length c3, .slice A4 kns.length c4, .int .i64 now] 97)).heap.size := by have := HAB.out; omega
    exact ((((((((ha2).setTwo has2 (by omega) h2 _ _).setTwo has2 (by omega) h2 _ _).setTwo has2 (by omega) h2 _ _).setTwo has2 (by omega) h2 _ _).setTwo has2 (by omega) h2 _ _).setTwo has2 (by omega) HAB.out _ _).setTwo has2 (by omega) HAB.out _ _).drew
  · have h2 : w.heap.size + 1 + 1 < (w1.alloc (.cells #[a, p, .slice A3 sas.length c3, .slice A4 kns.length c4, .int .i64 now] 97)).heap.size := by have := HAB.out; omega
    exact ((((((((hp2).setTwo hps2 (by omega) h2 _ _).setTwo hps2 (by omega) h2 _ _).setTwo hps2 (by omega) h2 _ _).setTwo hps2 (by omega) h2 _ _).setTwo hps2 (by omega) h2 _ _).setTwo hps2 (by omega) HAB.out _ _).setTwo hps2 (by omega) HAB.out _ _).drew


theorem opsDo_3 (s : St) (a p sg kn : Value) (r : Req) (w : World) (hop : r.op = 3) (ha : Row w a s.accs) (hp : Row w p s.pays) (hsg : Row w sg s.sagas) (hkn : Row w kn s.known) (hG : Good s.accs) (hP : PaysOk s.accs s.pays) (hT : GT w) :
    Calls Tryd.prog 14 #[.agg #[a, p, sg, kn, .int .i64 s.now], r.val] w fun e w' => DoRes w w' sg kn s (opsDo s r) e := by
  have hq := fun w f x y => desk_func w f x y
  have HC : ∀ (g : Nat) (W : World) (hD : Desk W g a p sg kn s.now s.accs s.pays), Calls Tryd.prog 62 #[.pointer (some ⟨g, 0, none⟩), r.val] W fun e w' => DeskRes W w' g p sg kn s.now s.pays (opsR s.now s.accs s.pays r) e := fun g W hD => by
    rw [show opsR s.now s.accs s.pays r = deskAuth s.now s.accs s.pays r by unfold opsR; rw [if_neg (by omega), if_neg (by omega), if_neg (by omega), if_pos hop]]
    exact auth_desk g a p sg kn s.now s.accs s.pays r W hD hP
  have HCC := Lib.hid HC
  clear HC
  have HS := Lib.hid (fun (W w' : World) (g : Nat) (e : Ending) (h : DeskRes W w' g p sg kn s.now s.pays (opsR s.now s.accs s.pays r) e) (hD : DeskAt W g a p sg kn s.now) (h0 : Below w.heap.size w W) (hg : w.heap.size ≤ g) => h.st hD (ha.below h0) (hp.below h0) h0 hg ha hp)
  generalize hX : opsR s.now s.accs s.pays r = X at *
  clear hX
  generalize hY : opsDo s r = Y at *
  clear hY
  obtain ⟨key, op, ra, rb, amt, legs, til⟩ := r
  obtain rfl : op = 3 := hop
  obtain ⟨xs, ps, sas, kns, now⟩ := s
  simp only at *
  go_enter Tryd.func14, Tryd.ntmps14
  go_wp2_with fail
  refine (opsBy_3 _).mono ?_
  rintro e w1 ⟨rfl, hz⟩
  have hb0 := ((((Blk.new w 36 #[a, p, sg, kn, .int .i64 now]).alloc (.cells (rcells ⟨key, 3, ra, rb, amt, legs, til⟩) 29)).alloc (.cells #[.slice none 0 0, .slice none 0 0, .slice none 0 0, .slice none 0 0, .int .i64 0] 36)).alloc (.cells #[.int .i64 0, .int .i64 0] 40)).next hz
  have hb1 := (((Blk.new1 w (.cells #[a, p, sg, kn, .int .i64 now] 36) 29 (rcells ⟨key, 3, ra, rb, amt, legs, til⟩)).alloc (.cells #[.slice none 0 0, .slice none 0 0, .slice none 0 0, .slice none 0 0, .int .i64 0] 36)).alloc (.cells #[.int .i64 0, .int .i64 0] 40)).next hz
  obtain ⟨s0, s1, s2, s3, s4⟩ := hb0.c5
  obtain ⟨r0, r1, r2, r3, r4, r5, r6⟩ := hb1.c7
  have l0 := hb0.lt
  have l1 := hb1.lt
  have hbw : Below w.heap.size w w1 := below_next (below_alloc (below_alloc (below_alloc (below_alloc (Below.refl _ _) _) _) _) _) hz
  go_wp2_with fail
  have hbw2 := below_alloc hbw (.cells #[a, p, sg, kn, .int .i64 now] 97)
  refine (HCC.out w1.heap.size _ ⟨Blk.new _ _ _, ha.below hbw2, hp.below hbw2, Row.apart (hp.below hbw) (Nat.le_refl _), hG, hT.below hbw2⟩).mono ?_
  intro e w2 hres
  obtain ⟨a', p', err, id, rfl, hy, hd2, ha2, hp2, hbw3, hg2, has2, hps2⟩ := HS.out _ _ _ _ hres (Blk.new _ _ _) hbw2 hbw.size
  clear hres HCC HS
  have hn4 : some (w.heap.size + 2) ≠ some w1.heap.size := by intro h; injection h with h; have := hz.size; simp at this; omega
  have hn5 : some (w.heap.size + 3) ≠ some w1.heap.size := by intro h; injection h with h; have := hz.size; simp at this; omega
  have hb4 := ((((Blk.new2 w (.cells #[a, p, sg, kn, .int .i64 now] 36) (.cells (rcells ⟨key, 3, ra, rb, amt, legs, til⟩) 29) 36 #[.slice none 0 0, .slice none 0 0, .slice none 0 0, .slice none 0 0, .int .i64 0]).alloc (.cells #[.int .i64 0, .int .i64 0] 40)).next hz).alloc (.cells #[a, p, sg, kn, .int .i64 now] 97)).grown hg2 hn4
  have hb5 := (((Blk.new3 w (.cells #[a, p, sg, kn, .int .i64 now] 36) (.cells (rcells ⟨key, 3, ra, rb, amt, legs, til⟩) 29) (.cells #[.slice none 0 0, .slice none 0 0, .slice none 0 0, .slice none 0 0, .int .i64 0] 36) 40 #[.int .i64 0, .int .i64 0]).next hz).alloc (.cells #[a, p, sg, kn, .int .i64 now] 97)).grown hg2 hn5
  have HYY := Lib.hid hy
  clear hy
  go_wp2_with fail
  refine abs_world (fun V => Blk V w1.heap.size 97 #[a', p', sg, kn, .int .i64 now] ∧ Blk V w2.heap.size 40 #[.int .i64 err, .int .i64 id] ∧ Blk V (w.heap.size + 1 + 1) 36 #[.slice none 0 0, .slice none 0 0, .slice none 0 0, .slice none 0 0, .int .i64 0] ∧ Blk V (w.heap.size + 1 + 1 + 1) 40 #[.int .i64 0, .int .i64 0] ∧ Row V a' Y.1.accs ∧ Row V p' Y.1.pays ∧ Below w.heap.size w V ∧ w2.heap.size ≠ w.heap.size + 1 + 1 + 1)
    ⟨hd2.alloc _, Blk.new _ _ _, hb4.alloc _, hb5.alloc _, ha2.alloc _, hp2.alloc _, below_alloc hbw3 _, by have := hb5.lt; omega⟩ ?_
  clear hd2 hb4 hb5 ha2 hp2 hbw3 hb0 hb1 s0 s1 s2 s3 s4 r0 r1 r2 r3 r4 r5 r6 hg2
  rintro V ⟨hd, ho, hb4, hb5, ha2, hp2, hbV, hne⟩
  obtain ⟨g0, g1, g2, g3, g4⟩ := hd.c5
  obtain ⟨o0, o1⟩ := ho.c2
  obtain ⟨x0, x1, x2, x3, x4⟩ := hb4.c5
  obtain ⟨y0, y1⟩ := hb5.c2
  obtain ⟨A1, c1, rfl⟩ := ha2.slice
  obtain ⟨A2, c2, rfl⟩ := hp2.slice
  obtain ⟨A3, c3, rfl⟩ := hsg.slice
  obtain ⟨A4, c4, rfl⟩ := hkn.slice
  have xf := hb4.frozen
  have yf := hb5.frozen
  have le1 := hb4.lt
  have le2 := hb5.lt
  have le3 := hd.lt
  have le4 := ho.lt
  have m1 : w.heap.size + 1 + 1 ≠ w1.heap.size := by have := hz.size; simp at this; omega
  have m2 : w.heap.size + 1 + 1 ≠ w2.heap.size := Blk.ne_ hb4 ho (by decide)
  have m3 : w.heap.size + 1 + 1 + 1 ≠ w1.heap.size := Blk.ne_ hb5 hd (by decide)
  have m4 := Ne.symm hne
  have m5 := Ne.symm m1
  have m6 := Ne.symm m2
  have m7 := Ne.symm m3
  go_region_held3 (fun w' => w'.cell? ⟨w1.heap.size, 0, none⟩ = some (.slice A1 Y.1.accs.length c1) ∧ w'.cell? ⟨w1.heap.size, 1, none⟩ = some (.slice A2 Y.1.pays.length c2) ∧ w'.cell? ⟨w1.heap.size, 2, none⟩ = some (.slice A3 sas.length c3) ∧ w'.cell? ⟨w1.heap.size, 3, none⟩ = some (.slice A4 kns.length c4) ∧ w'.cell? ⟨w1.heap.size, 4, none⟩ = some (.int .i64 now) ∧ w'.cell? ⟨w2.heap.size, 0, none⟩ = some (.int .i64 err) ∧ w'.cell? ⟨w2.heap.size, 1, none⟩ = some (.int .i64 id)) (go_keep) ((fail))
  go_wp2_with fail
  have HAB := Lib.hid (show w.heap.size + 1 + 1 + 1 < (w1.alloc (.cells #[a, p, .slice A3 sas.length c3, .slice A4 kns.length c4, .int .i64 now] 97)).heap.size by simp only [World.size_alloc]; have := hz.size; simp at this; omega)
  refine bodyPost_ret (res_cell_cell rfl _ rfl rfl agg_st rfl ((hb4.chain5.far2 (by omega)).drew) agg_rep rfl ((hb5.far5 (by omega)).chain2.drew)) rfl ⟨?_, .slice A1 Y.1.accs.length c1, .slice A2 Y.1.pays.length c2, by rw [HYY.out], ?_, ?_⟩
  · (repeat (first | (with_reducible refine below_drew ?_) | (with_reducible refine below_drewN ?_ _) | (with_reducible refine below_alloc ?_ _) | ((with_reducible refine Below.setCell ?_ ?_ _); rotate_left; (focus (first | (simp; done) | (simp; omega))))))
    exact hbV
  · have h2 : w.heap.size + 1 + 1 < (w1.alloc (.cells #[a, p, .slice A3 sas.length c3, .slice A4 kns.length c4, .int .i64 now] 97)).heap.size := by have := HAB.out; omega
    exact ((((((((ha2).setTwo has2 (by omega) h2 _ _).setTwo has2 (by omega) h2 _ _).setTwo has2 (by omega) h2 _ _).setTwo has2 (by omega) h2 _ _).setTwo has2 (by omega) h2 _ _).setTwo has2 (by omega) HAB.out _ _).setTwo has2 (by omega) HAB.out _ _).drew
  · have h2 : w.heap.size + 1 + 1 < (w1.alloc (.cells #[a, p, .slice A3 sas.length c3, .slice A4 kns.length c4, .int .i64 now] 97)).heap.size := by have := HAB.out; omega
    exact ((((((((hp2).setTwo hps2 (by omega) h2 _ _).setTwo hps2 (by omega) h2 _ _).setTwo hps2 (by omega) h2 _ _).setTwo hps2 (by omega) h2 _ _).setTwo hps2 (by omega) h2 _ _).setTwo hps2 (by omega) HAB.out _ _).setTwo hps2 (by omega) HAB.out _ _).drew


theorem opsDo_4 (s : St) (a p sg kn : Value) (r : Req) (w : World) (hop : r.op = 4) (ha : Row w a s.accs) (hp : Row w p s.pays) (hsg : Row w sg s.sagas) (hkn : Row w kn s.known) (hG : Good s.accs) (hP : PaysOk s.accs s.pays) (hT : GT w) :
    Calls Tryd.prog 14 #[.agg #[a, p, sg, kn, .int .i64 s.now], r.val] w fun e w' => DoRes w w' sg kn s (opsDo s r) e := by
  have hq := fun w f x y => desk_func w f x y
  have HC : ∀ (g : Nat) (W : World) (hD : Desk W g a p sg kn s.now s.accs s.pays), Calls Tryd.prog 63 #[.pointer (some ⟨g, 0, none⟩), r.val] W fun e w' => DeskRes W w' g p sg kn s.now s.pays (opsR s.now s.accs s.pays r) e := fun g W hD => by
    rw [show opsR s.now s.accs s.pays r = deskPay (capF s.accs r.amt) s.pays r by unfold opsR; rw [if_neg (by omega), if_neg (by omega), if_neg (by omega), if_neg (by omega), if_pos hop]]
    exact capture_desk g a p sg kn s.now s.accs s.pays r W hD hP
  have HCC := Lib.hid HC
  clear HC
  have HS := Lib.hid (fun (W w' : World) (g : Nat) (e : Ending) (h : DeskRes W w' g p sg kn s.now s.pays (opsR s.now s.accs s.pays r) e) (hD : DeskAt W g a p sg kn s.now) (h0 : Below w.heap.size w W) (hg : w.heap.size ≤ g) => h.st hD (ha.below h0) (hp.below h0) h0 hg ha hp)
  generalize hX : opsR s.now s.accs s.pays r = X at *
  clear hX
  generalize hY : opsDo s r = Y at *
  clear hY
  obtain ⟨key, op, ra, rb, amt, legs, til⟩ := r
  obtain rfl : op = 4 := hop
  obtain ⟨xs, ps, sas, kns, now⟩ := s
  simp only at *
  go_enter Tryd.func14, Tryd.ntmps14
  go_wp2_with fail
  refine (opsBy_4 _).mono ?_
  rintro e w1 ⟨rfl, hz⟩
  have hb0 := ((((Blk.new w 36 #[a, p, sg, kn, .int .i64 now]).alloc (.cells (rcells ⟨key, 4, ra, rb, amt, legs, til⟩) 29)).alloc (.cells #[.slice none 0 0, .slice none 0 0, .slice none 0 0, .slice none 0 0, .int .i64 0] 36)).alloc (.cells #[.int .i64 0, .int .i64 0] 40)).next hz
  have hb1 := (((Blk.new1 w (.cells #[a, p, sg, kn, .int .i64 now] 36) 29 (rcells ⟨key, 4, ra, rb, amt, legs, til⟩)).alloc (.cells #[.slice none 0 0, .slice none 0 0, .slice none 0 0, .slice none 0 0, .int .i64 0] 36)).alloc (.cells #[.int .i64 0, .int .i64 0] 40)).next hz
  obtain ⟨s0, s1, s2, s3, s4⟩ := hb0.c5
  obtain ⟨r0, r1, r2, r3, r4, r5, r6⟩ := hb1.c7
  have l0 := hb0.lt
  have l1 := hb1.lt
  have hbw : Below w.heap.size w w1 := below_next (below_alloc (below_alloc (below_alloc (below_alloc (Below.refl _ _) _) _) _) _) hz
  go_wp2_with fail
  have hbw2 := below_alloc hbw (.cells #[a, p, sg, kn, .int .i64 now] 97)
  refine (HCC.out w1.heap.size _ ⟨Blk.new _ _ _, ha.below hbw2, hp.below hbw2, Row.apart (hp.below hbw) (Nat.le_refl _), hG, hT.below hbw2⟩).mono ?_
  intro e w2 hres
  obtain ⟨a', p', err, id, rfl, hy, hd2, ha2, hp2, hbw3, hg2, has2, hps2⟩ := HS.out _ _ _ _ hres (Blk.new _ _ _) hbw2 hbw.size
  clear hres HCC HS
  have hn4 : some (w.heap.size + 2) ≠ some w1.heap.size := by intro h; injection h with h; have := hz.size; simp at this; omega
  have hn5 : some (w.heap.size + 3) ≠ some w1.heap.size := by intro h; injection h with h; have := hz.size; simp at this; omega
  have hb4 := ((((Blk.new2 w (.cells #[a, p, sg, kn, .int .i64 now] 36) (.cells (rcells ⟨key, 4, ra, rb, amt, legs, til⟩) 29) 36 #[.slice none 0 0, .slice none 0 0, .slice none 0 0, .slice none 0 0, .int .i64 0]).alloc (.cells #[.int .i64 0, .int .i64 0] 40)).next hz).alloc (.cells #[a, p, sg, kn, .int .i64 now] 97)).grown hg2 hn4
  have hb5 := (((Blk.new3 w (.cells #[a, p, sg, kn, .int .i64 now] 36) (.cells (rcells ⟨key, 4, ra, rb, amt, legs, til⟩) 29) (.cells #[.slice none 0 0, .slice none 0 0, .slice none 0 0, .slice none 0 0, .int .i64 0] 36) 40 #[.int .i64 0, .int .i64 0]).next hz).alloc (.cells #[a, p, sg, kn, .int .i64 now] 97)).grown hg2 hn5
  have HYY := Lib.hid hy
  clear hy
  go_wp2_with fail
  refine abs_world (fun V => Blk V w1.heap.size 97 #[a', p', sg, kn, .int .i64 now] ∧ Blk V w2.heap.size 40 #[.int .i64 err, .int .i64 id] ∧ Blk V (w.heap.size + 1 + 1) 36 #[.slice none 0 0, .slice none 0 0, .slice none 0 0, .slice none 0 0, .int .i64 0] ∧ Blk V (w.heap.size + 1 + 1 + 1) 40 #[.int .i64 0, .int .i64 0] ∧ Row V a' Y.1.accs ∧ Row V p' Y.1.pays ∧ Below w.heap.size w V ∧ w2.heap.size ≠ w.heap.size + 1 + 1 + 1)
    ⟨hd2.alloc _, Blk.new _ _ _, hb4.alloc _, hb5.alloc _, ha2.alloc _, hp2.alloc _, below_alloc hbw3 _, by have := hb5.lt; omega⟩ ?_
  clear hd2 hb4 hb5 ha2 hp2 hbw3 hb0 hb1 s0 s1 s2 s3 s4 r0 r1 r2 r3 r4 r5 r6 hg2
  rintro V ⟨hd, ho, hb4, hb5, ha2, hp2, hbV, hne⟩
  obtain ⟨g0, g1, g2, g3, g4⟩ := hd.c5
  obtain ⟨o0, o1⟩ := ho.c2
  obtain ⟨x0, x1, x2, x3, x4⟩ := hb4.c5
  obtain ⟨y0, y1⟩ := hb5.c2
  obtain ⟨A1, c1, rfl⟩ := ha2.slice
  obtain ⟨A2, c2, rfl⟩ := hp2.slice
  obtain ⟨A3, c3, rfl⟩ := hsg.slice
  obtain ⟨A4, c4, rfl⟩ := hkn.slice
  have xf := hb4.frozen
  have yf := hb5.frozen
  have le1 := hb4.lt
  have le2 := hb5.lt
  have le3 := hd.lt
  have le4 := ho.lt
  have m1 : w.heap.size + 1 + 1 ≠ w1.heap.size := by have := hz.size; simp at this; omega
  have m2 : w.heap.size + 1 + 1 ≠ w2.heap.size := Blk.ne_ hb4 ho (by decide)
  have m3 : w.heap.size + 1 + 1 + 1 ≠ w1.heap.size := Blk.ne_ hb5 hd (by decide)
  have m4 := Ne.symm hne
  have m5 := Ne.symm m1
  have m6 := Ne.symm m2
  have m7 := Ne.symm m3
  go_region_held3 (fun w' => w'.cell? ⟨w1.heap.size, 0, none⟩ = some (.slice A1 Y.1.accs.length c1) ∧ w'.cell? ⟨w1.heap.size, 1, none⟩ = some (.slice A2 Y.1.pays.length c2) ∧ w'.cell? ⟨w1.heap.size, 2, none⟩ = some (.slice A3 sas.length c3) ∧ w'.cell? ⟨w1.heap.size, 3, none⟩ = some (.slice A4 kns.length c4) ∧ w'.cell? ⟨w1.heap.size, 4, none⟩ = some (.int .i64 now) ∧ w'.cell? ⟨w2.heap.size, 0, none⟩ = some (.int .i64 err) ∧ w'.cell? ⟨w2.heap.size, 1, none⟩ = some (.int .i64 id)) (go_keep) ((fail))
  go_wp2_with fail
  have HAB := Lib.hid (show w.heap.size + 1 + 1 + 1 < (w1.alloc (.cells #[a, p, .slice A3 sas.length c3, .slice A4 kns.length c4, .int .i64 now] 97)).heap.size by simp only [World.size_alloc]; have := hz.size; simp at this; omega)
  refine bodyPost_ret (res_cell_cell rfl _ rfl rfl agg_st rfl ((hb4.chain5.far2 (by omega)).drew) agg_rep rfl ((hb5.far5 (by omega)).chain2.drew)) rfl ⟨?_, .slice A1 Y.1.accs.length c1, .slice A2 Y.1.pays.length c2, by rw [HYY.out], ?_, ?_⟩
  · (repeat (first | (with_reducible refine below_drew ?_) | (with_reducible refine below_drewN ?_ _) | (with_reducible refine below_alloc ?_ _) | ((with_reducible refine Below.setCell ?_ ?_ _); rotate_left; (focus (first | (simp; done) | (simp; omega))))))
    exact hbV
  · have h2 : w.heap.size + 1 + 1 < (w1.alloc (.cells #[a, p, .slice A3 sas.length c3, .slice A4 kns.length c4, .int .i64 now] 97)).heap.size := by have := HAB.out; omega
    exact ((((((((ha2).setTwo has2 (by omega) h2 _ _).setTwo has2 (by omega) h2 _ _).setTwo has2 (by omega) h2 _ _).setTwo has2 (by omega) h2 _ _).setTwo has2 (by omega) h2 _ _).setTwo has2 (by omega) HAB.out _ _).setTwo has2 (by omega) HAB.out _ _).drew
  · have h2 : w.heap.size + 1 + 1 < (w1.alloc (.cells #[a, p, .slice A3 sas.length c3, .slice A4 kns.length c4, .int .i64 now] 97)).heap.size := by have := HAB.out; omega
    exact ((((((((hp2).setTwo hps2 (by omega) h2 _ _).setTwo hps2 (by omega) h2 _ _).setTwo hps2 (by omega) h2 _ _).setTwo hps2 (by omega) h2 _ _).setTwo hps2 (by omega) h2 _ _).setTwo hps2 (by omega) HAB.out _ _).setTwo hps2 (by omega) HAB.out _ _).drew


theorem opsDo_5 (s : St) (a p sg kn : Value) (r : Req) (w : World) (hop : r.op = 5) (ha : Row w a s.accs) (hp : Row w p s.pays) (hsg : Row w sg s.sagas) (hkn : Row w kn s.known) (hG : Good s.accs) (hP : PaysOk s.accs s.pays) (hT : GT w) :
    Calls Tryd.prog 14 #[.agg #[a, p, sg, kn, .int .i64 s.now], r.val] w fun e w' => DoRes w w' sg kn s (opsDo s r) e := by
  have hq := fun w f x y => desk_func w f x y
  have HC : ∀ (g : Nat) (W : World) (hD : Desk W g a p sg kn s.now s.accs s.pays), Calls Tryd.prog 64 #[.pointer (some ⟨g, 0, none⟩), r.val] W fun e w' => DeskRes W w' g p sg kn s.now s.pays (opsR s.now s.accs s.pays r) e := fun g W hD => by
    rw [show opsR s.now s.accs s.pays r = deskPay (fun p => release s.accs p.frm (left p)) s.pays r by unfold opsR; rw [if_neg (by omega), if_neg (by omega), if_neg (by omega), if_neg (by omega), if_neg (by omega), if_pos hop]]
    exact void_desk g a p sg kn s.now s.accs s.pays r W hD hP
  have HCC := Lib.hid HC
  clear HC
  have HS := Lib.hid (fun (W w' : World) (g : Nat) (e : Ending) (h : DeskRes W w' g p sg kn s.now s.pays (opsR s.now s.accs s.pays r) e) (hD : DeskAt W g a p sg kn s.now) (h0 : Below w.heap.size w W) (hg : w.heap.size ≤ g) => h.st hD (ha.below h0) (hp.below h0) h0 hg ha hp)
  generalize hX : opsR s.now s.accs s.pays r = X at *
  clear hX
  generalize hY : opsDo s r = Y at *
  clear hY
  obtain ⟨key, op, ra, rb, amt, legs, til⟩ := r
  obtain rfl : op = 5 := hop
  obtain ⟨xs, ps, sas, kns, now⟩ := s
  simp only at *
  go_enter Tryd.func14, Tryd.ntmps14
  go_wp2_with fail
  refine (opsBy_5 _).mono ?_
  rintro e w1 ⟨rfl, hz⟩
  have hb0 := ((((Blk.new w 36 #[a, p, sg, kn, .int .i64 now]).alloc (.cells (rcells ⟨key, 5, ra, rb, amt, legs, til⟩) 29)).alloc (.cells #[.slice none 0 0, .slice none 0 0, .slice none 0 0, .slice none 0 0, .int .i64 0] 36)).alloc (.cells #[.int .i64 0, .int .i64 0] 40)).next hz
  have hb1 := (((Blk.new1 w (.cells #[a, p, sg, kn, .int .i64 now] 36) 29 (rcells ⟨key, 5, ra, rb, amt, legs, til⟩)).alloc (.cells #[.slice none 0 0, .slice none 0 0, .slice none 0 0, .slice none 0 0, .int .i64 0] 36)).alloc (.cells #[.int .i64 0, .int .i64 0] 40)).next hz
  obtain ⟨s0, s1, s2, s3, s4⟩ := hb0.c5
  obtain ⟨r0, r1, r2, r3, r4, r5, r6⟩ := hb1.c7
  have l0 := hb0.lt
  have l1 := hb1.lt
  have hbw : Below w.heap.size w w1 := below_next (below_alloc (below_alloc (below_alloc (below_alloc (Below.refl _ _) _) _) _) _) hz
  go_wp2_with fail
  have hbw2 := below_alloc hbw (.cells #[a, p, sg, kn, .int .i64 now] 97)
  refine (HCC.out w1.heap.size _ ⟨Blk.new _ _ _, ha.below hbw2, hp.below hbw2, Row.apart (hp.below hbw) (Nat.le_refl _), hG, hT.below hbw2⟩).mono ?_
  intro e w2 hres
  obtain ⟨a', p', err, id, rfl, hy, hd2, ha2, hp2, hbw3, hg2, has2, hps2⟩ := HS.out _ _ _ _ hres (Blk.new _ _ _) hbw2 hbw.size
  clear hres HCC HS
  have hn4 : some (w.heap.size + 2) ≠ some w1.heap.size := by intro h; injection h with h; have := hz.size; simp at this; omega
  have hn5 : some (w.heap.size + 3) ≠ some w1.heap.size := by intro h; injection h with h; have := hz.size; simp at this; omega
  have hb4 := ((((Blk.new2 w (.cells #[a, p, sg, kn, .int .i64 now] 36) (.cells (rcells ⟨key, 5, ra, rb, amt, legs, til⟩) 29) 36 #[.slice none 0 0, .slice none 0 0, .slice none 0 0, .slice none 0 0, .int .i64 0]).alloc (.cells #[.int .i64 0, .int .i64 0] 40)).next hz).alloc (.cells #[a, p, sg, kn, .int .i64 now] 97)).grown hg2 hn4
  have hb5 := (((Blk.new3 w (.cells #[a, p, sg, kn, .int .i64 now] 36) (.cells (rcells ⟨key, 5, ra, rb, amt, legs, til⟩) 29) (.cells #[.slice none 0 0, .slice none 0 0, .slice none 0 0, .slice none 0 0, .int .i64 0] 36) 40 #[.int .i64 0, .int .i64 0]).next hz).alloc (.cells #[a, p, sg, kn, .int .i64 now] 97)).grown hg2 hn5
  have HYY := Lib.hid hy
  clear hy
  go_wp2_with fail
  refine abs_world (fun V => Blk V w1.heap.size 97 #[a', p', sg, kn, .int .i64 now] ∧ Blk V w2.heap.size 40 #[.int .i64 err, .int .i64 id] ∧ Blk V (w.heap.size + 1 + 1) 36 #[.slice none 0 0, .slice none 0 0, .slice none 0 0, .slice none 0 0, .int .i64 0] ∧ Blk V (w.heap.size + 1 + 1 + 1) 40 #[.int .i64 0, .int .i64 0] ∧ Row V a' Y.1.accs ∧ Row V p' Y.1.pays ∧ Below w.heap.size w V ∧ w2.heap.size ≠ w.heap.size + 1 + 1 + 1)
    ⟨hd2.alloc _, Blk.new _ _ _, hb4.alloc _, hb5.alloc _, ha2.alloc _, hp2.alloc _, below_alloc hbw3 _, by have := hb5.lt; omega⟩ ?_
  clear hd2 hb4 hb5 ha2 hp2 hbw3 hb0 hb1 s0 s1 s2 s3 s4 r0 r1 r2 r3 r4 r5 r6 hg2
  rintro V ⟨hd, ho, hb4, hb5, ha2, hp2, hbV, hne⟩
  obtain ⟨g0, g1, g2, g3, g4⟩ := hd.c5
  obtain ⟨o0, o1⟩ := ho.c2
  obtain ⟨x0, x1, x2, x3, x4⟩ := hb4.c5
  obtain ⟨y0, y1⟩ := hb5.c2
  obtain ⟨A1, c1, rfl⟩ := ha2.slice
  obtain ⟨A2, c2, rfl⟩ := hp2.slice
  obtain ⟨A3, c3, rfl⟩ := hsg.slice
  obtain ⟨A4, c4, rfl⟩ := hkn.slice
  have xf := hb4.frozen
  have yf := hb5.frozen
  have le1 := hb4.lt
  have le2 := hb5.lt
  have le3 := hd.lt
  have le4 := ho.lt
  have m1 : w.heap.size + 1 + 1 ≠ w1.heap.size := by have := hz.size; simp at this; omega
  have m2 : w.heap.size + 1 + 1 ≠ w2.heap.size := Blk.ne_ hb4 ho (by decide)
  have m3 : w.heap.size + 1 + 1 + 1 ≠ w1.heap.size := Blk.ne_ hb5 hd (by decide)
  have m4 := Ne.symm hne
  have m5 := Ne.symm m1
  have m6 := Ne.symm m2
  have m7 := Ne.symm m3
  go_region_held3 (fun w' => w'.cell? ⟨w1.heap.size, 0, none⟩ = some (.slice A1 Y.1.accs.length c1) ∧ w'.cell? ⟨w1.heap.size, 1, none⟩ = some (.slice A2 Y.1.pays.length c2) ∧ w'.cell? ⟨w1.heap.size, 2, none⟩ = some (.slice A3 sas.length c3) ∧ w'.cell? ⟨w1.heap.size, 3, none⟩ = some (.slice A4 kns.length c4) ∧ w'.cell? ⟨w1.heap.size, 4, none⟩ = some (.int .i64 now) ∧ w'.cell? ⟨w2.heap.size, 0, none⟩ = some (.int .i64 err) ∧ w'.cell? ⟨w2.heap.size, 1, none⟩ = some (.int .i64 id)) (go_keep) ((fail))
  go_wp2_with fail
  have HAB := Lib.hid (show w.heap.size + 1 + 1 + 1 < (w1.alloc (.cells #[a, p, .slice A3 sas.length c3, .slice A4 kns.length c4, .int .i64 now] 97)).heap.size by simp only [World.size_alloc]; have := hz.size; simp at this; omega)
  refine bodyPost_ret (res_cell_cell rfl _ rfl rfl agg_st rfl ((hb4.chain5.far2 (by omega)).drew) agg_rep rfl ((hb5.far5 (by omega)).chain2.drew)) rfl ⟨?_, .slice A1 Y.1.accs.length c1, .slice A2 Y.1.pays.length c2, by rw [HYY.out], ?_, ?_⟩
  · (repeat (first | (with_reducible refine below_drew ?_) | (with_reducible refine below_drewN ?_ _) | (with_reducible refine below_alloc ?_ _) | ((with_reducible refine Below.setCell ?_ ?_ _); rotate_left; (focus (first | (simp; done) | (simp; omega))))))
    exact hbV
  · have h2 : w.heap.size + 1 + 1 < (w1.alloc (.cells #[a, p, .slice A3 sas.length c3, .slice A4 kns.length c4, .int .i64 now] 97)).heap.size := by have := HAB.out; omega
    exact ((((((((ha2).setTwo has2 (by omega) h2 _ _).setTwo has2 (by omega) h2 _ _).setTwo has2 (by omega) h2 _ _).setTwo has2 (by omega) h2 _ _).setTwo has2 (by omega) h2 _ _).setTwo has2 (by omega) HAB.out _ _).setTwo has2 (by omega) HAB.out _ _).drew
  · have h2 : w.heap.size + 1 + 1 < (w1.alloc (.cells #[a, p, .slice A3 sas.length c3, .slice A4 kns.length c4, .int .i64 now] 97)).heap.size := by have := HAB.out; omega
    exact ((((((((hp2).setTwo hps2 (by omega) h2 _ _).setTwo hps2 (by omega) h2 _ _).setTwo hps2 (by omega) h2 _ _).setTwo hps2 (by omega) h2 _ _).setTwo hps2 (by omega) h2 _ _).setTwo hps2 (by omega) HAB.out _ _).setTwo hps2 (by omega) HAB.out _ _).drew


theorem opsDo_6 (s : St) (a p sg kn : Value) (r : Req) (w : World) (hop : r.op = 6) (ha : Row w a s.accs) (hp : Row w p s.pays) (hsg : Row w sg s.sagas) (hkn : Row w kn s.known) (hG : Good s.accs) (hP : PaysOk s.accs s.pays) (hT : GT w) :
    Calls Tryd.prog 14 #[.agg #[a, p, sg, kn, .int .i64 s.now], r.val] w fun e w' => DoRes w w' sg kn s (opsDo s r) e := by
  have hq := fun w f x y => desk_func w f x y
  have HC : ∀ (g : Nat) (W : World) (hD : Desk W g a p sg kn s.now s.accs s.pays), Calls Tryd.prog 65 #[.pointer (some ⟨g, 0, none⟩), r.val] W fun e w' => DeskRes W w' g p sg kn s.now s.pays (opsR s.now s.accs s.pays r) e := fun g W hD => by
    rw [show opsR s.now s.accs s.pays r = deskPay (refF s.accs r.amt) s.pays r by unfold opsR; rw [if_neg (by omega), if_neg (by omega), if_neg (by omega), if_neg (by omega), if_neg (by omega), if_neg (by omega), if_pos hop]]
    exact refund_desk g a p sg kn s.now s.accs s.pays r W hD hP
  have HCC := Lib.hid HC
  clear HC
  have HS := Lib.hid (fun (W w' : World) (g : Nat) (e : Ending) (h : DeskRes W w' g p sg kn s.now s.pays (opsR s.now s.accs s.pays r) e) (hD : DeskAt W g a p sg kn s.now) (h0 : Below w.heap.size w W) (hg : w.heap.size ≤ g) => h.st hD (ha.below h0) (hp.below h0) h0 hg ha hp)
  generalize hX : opsR s.now s.accs s.pays r = X at *
  clear hX
  generalize hY : opsDo s r = Y at *
  clear hY
  obtain ⟨key, op, ra, rb, amt, legs, til⟩ := r
  obtain rfl : op = 6 := hop
  obtain ⟨xs, ps, sas, kns, now⟩ := s
  simp only at *
  go_enter Tryd.func14, Tryd.ntmps14
  go_wp2_with fail
  refine (opsBy_6 _).mono ?_
  rintro e w1 ⟨rfl, hz⟩
  have hb0 := ((((Blk.new w 36 #[a, p, sg, kn, .int .i64 now]).alloc (.cells (rcells ⟨key, 6, ra, rb, amt, legs, til⟩) 29)).alloc (.cells #[.slice none 0 0, .slice none 0 0, .slice none 0 0, .slice none 0 0, .int .i64 0] 36)).alloc (.cells #[.int .i64 0, .int .i64 0] 40)).next hz
  have hb1 := (((Blk.new1 w (.cells #[a, p, sg, kn, .int .i64 now] 36) 29 (rcells ⟨key, 6, ra, rb, amt, legs, til⟩)).alloc (.cells #[.slice none 0 0, .slice none 0 0, .slice none 0 0, .slice none 0 0, .int .i64 0] 36)).alloc (.cells #[.int .i64 0, .int .i64 0] 40)).next hz
  obtain ⟨s0, s1, s2, s3, s4⟩ := hb0.c5
  obtain ⟨r0, r1, r2, r3, r4, r5, r6⟩ := hb1.c7
  have l0 := hb0.lt
  have l1 := hb1.lt
  have hbw : Below w.heap.size w w1 := below_next (below_alloc (below_alloc (below_alloc (below_alloc (Below.refl _ _) _) _) _) _) hz
  go_wp2_with fail
  have hbw2 := below_alloc hbw (.cells #[a, p, sg, kn, .int .i64 now] 97)
  refine (HCC.out w1.heap.size _ ⟨Blk.new _ _ _, ha.below hbw2, hp.below hbw2, Row.apart (hp.below hbw) (Nat.le_refl _), hG, hT.below hbw2⟩).mono ?_
  intro e w2 hres
  obtain ⟨a', p', err, id, rfl, hy, hd2, ha2, hp2, hbw3, hg2, has2, hps2⟩ := HS.out _ _ _ _ hres (Blk.new _ _ _) hbw2 hbw.size
  clear hres HCC HS
  have hn4 : some (w.heap.size + 2) ≠ some w1.heap.size := by intro h; injection h with h; have := hz.size; simp at this; omega
  have hn5 : some (w.heap.size + 3) ≠ some w1.heap.size := by intro h; injection h with h; have := hz.size; simp at this; omega
  have hb4 := ((((Blk.new2 w (.cells #[a, p, sg, kn, .int .i64 now] 36) (.cells (rcells ⟨key, 6, ra, rb, amt, legs, til⟩) 29) 36 #[.slice none 0 0, .slice none 0 0, .slice none 0 0, .slice none 0 0, .int .i64 0]).alloc (.cells #[.int .i64 0, .int .i64 0] 40)).next hz).alloc (.cells #[a, p, sg, kn, .int .i64 now] 97)).grown hg2 hn4
  have hb5 := (((Blk.new3 w (.cells #[a, p, sg, kn, .int .i64 now] 36) (.cells (rcells ⟨key, 6, ra, rb, amt, legs, til⟩) 29) (.cells #[.slice none 0 0, .slice none 0 0, .slice none 0 0, .slice none 0 0, .int .i64 0] 36) 40 #[.int .i64 0, .int .i64 0]).next hz).alloc (.cells #[a, p, sg, kn, .int .i64 now] 97)).grown hg2 hn5
  have HYY := Lib.hid hy
  clear hy
  go_wp2_with fail
  refine abs_world (fun V => Blk V w1.heap.size 97 #[a', p', sg, kn, .int .i64 now] ∧ Blk V w2.heap.size 40 #[.int .i64 err, .int .i64 id] ∧ Blk V (w.heap.size + 1 + 1) 36 #[.slice none 0 0, .slice none 0 0, .slice none 0 0, .slice none 0 0, .int .i64 0] ∧ Blk V (w.heap.size + 1 + 1 + 1) 40 #[.int .i64 0, .int .i64 0] ∧ Row V a' Y.1.accs ∧ Row V p' Y.1.pays ∧ Below w.heap.size w V ∧ w2.heap.size ≠ w.heap.size + 1 + 1 + 1)
    ⟨hd2.alloc _, Blk.new _ _ _, hb4.alloc _, hb5.alloc _, ha2.alloc _, hp2.alloc _, below_alloc hbw3 _, by have := hb5.lt; omega⟩ ?_
  clear hd2 hb4 hb5 ha2 hp2 hbw3 hb0 hb1 s0 s1 s2 s3 s4 r0 r1 r2 r3 r4 r5 r6 hg2
  rintro V ⟨hd, ho, hb4, hb5, ha2, hp2, hbV, hne⟩
  obtain ⟨g0, g1, g2, g3, g4⟩ := hd.c5
  obtain ⟨o0, o1⟩ := ho.c2
  obtain ⟨x0, x1, x2, x3, x4⟩ := hb4.c5
  obtain ⟨y0, y1⟩ := hb5.c2
  obtain ⟨A1, c1, rfl⟩ := ha2.slice
  obtain ⟨A2, c2, rfl⟩ := hp2.slice
  obtain ⟨A3, c3, rfl⟩ := hsg.slice
  obtain ⟨A4, c4, rfl⟩ := hkn.slice
  have xf := hb4.frozen
  have yf := hb5.frozen
  have le1 := hb4.lt
  have le2 := hb5.lt
  have le3 := hd.lt
  have le4 := ho.lt
  have m1 : w.heap.size + 1 + 1 ≠ w1.heap.size := by have := hz.size; simp at this; omega
  have m2 : w.heap.size + 1 + 1 ≠ w2.heap.size := Blk.ne_ hb4 ho (by decide)
  have m3 : w.heap.size + 1 + 1 + 1 ≠ w1.heap.size := Blk.ne_ hb5 hd (by decide)
  have m4 := Ne.symm hne
  have m5 := Ne.symm m1
  have m6 := Ne.symm m2
  have m7 := Ne.symm m3
  go_region_held3 (fun w' => w'.cell? ⟨w1.heap.size, 0, none⟩ = some (.slice A1 Y.1.accs.length c1) ∧ w'.cell? ⟨w1.heap.size, 1, none⟩ = some (.slice A2 Y.1.pays.length c2) ∧ w'.cell? ⟨w1.heap.size, 2, none⟩ = some (.slice A3 sas.length c3) ∧ w'.cell? ⟨w1.heap.size, 3, none⟩ = some (.slice A4 kns.length c4) ∧ w'.cell? ⟨w1.heap.size, 4, none⟩ = some (.int .i64 now) ∧ w'.cell? ⟨w2.heap.size, 0, none⟩ = some (.int .i64 err) ∧ w'.cell? ⟨w2.heap.size, 1, none⟩ = some (.int .i64 id)) (go_keep) ((fail))
  go_wp2_with fail
  have HAB := Lib.hid (show w.heap.size + 1 + 1 + 1 < (w1.alloc (.cells #[a, p, .slice A3 sas.length c3, .slice A4 kns.length c4, .int .i64 now] 97)).heap.size by simp only [World.size_alloc]; have := hz.size; simp at this; omega)
  refine bodyPost_ret (res_cell_cell rfl _ rfl rfl agg_st rfl ((hb4.chain5.far2 (by omega)).drew) agg_rep rfl ((hb5.far5 (by omega)).chain2.drew)) rfl ⟨?_, .slice A1 Y.1.accs.length c1, .slice A2 Y.1.pays.length c2, by rw [HYY.out], ?_, ?_⟩
  · (repeat (first | (with_reducible refine below_drew ?_) | (with_reducible refine below_drewN ?_ _) | (with_reducible refine below_alloc ?_ _) | ((with_reducible refine Below.setCell ?_ ?_ _); rotate_left; (focus (first | (simp; done) | (simp; omega))))))
    exact hbV
  · have h2 : w.heap.size + 1 + 1 < (w1.alloc (.cells #[a, p, .slice A3 sas.length c3, .slice A4 kns.length c4, .int .i64 now] 97)).heap.size := by have := HAB.out; omega
    exact ((((((((ha2).setTwo has2 (by omega) h2 _ _).setTwo has2 (by omega) h2 _ _).setTwo has2 (by omega) h2 _ _).setTwo has2 (by omega) h2 _ _).setTwo has2 (by omega) h2 _ _).setTwo has2 (by omega) HAB.out _ _).setTwo has2 (by omega) HAB.out _ _).drew
  · have h2 : w.heap.size + 1 + 1 < (w1.alloc (.cells #[a, p, .slice A3 sas.length c3, .slice A4 kns.length c4, .int .i64 now] 97)).heap.size := by have := HAB.out; omega
    exact ((((((((hp2).setTwo hps2 (by omega) h2 _ _).setTwo hps2 (by omega) h2 _ _).setTwo hps2 (by omega) h2 _ _).setTwo hps2 (by omega) h2 _ _).setTwo hps2 (by omega) h2 _ _).setTwo hps2 (by omega) HAB.out _ _).setTwo hps2 (by omega) HAB.out _ _).drew


theorem opsDo_7 (s : St) (a p sg kn : Value) (r : Req) (w : World) (hop : r.op = 7) (ha : Row w a s.accs) (hp : Row w p s.pays) (hsg : Row w sg s.sagas) (hkn : Row w kn s.known) (hG : Good s.accs) (hP : PaysOk s.accs s.pays) (hT : GT w) :
    Calls Tryd.prog 14 #[.agg #[a, p, sg, kn, .int .i64 s.now], r.val] w fun e w' => DoRes w w' sg kn s (opsDo s r) e := by
  have hq := fun w f x y => desk_func w f x y
  have HC : ∀ (g : Nat) (W : World) (hD : Desk W g a p sg kn s.now s.accs s.pays), Calls Tryd.prog 66 #[.pointer (some ⟨g, 0, none⟩), r.val] W fun e w' => DeskRes W w' g p sg kn s.now s.pays (opsR s.now s.accs s.pays r) e := fun g W hD => by
    rw [show opsR s.now s.accs s.pays r = deskPay (chargeF s.accs r.amt) s.pays r by unfold opsR; rw [if_neg (by omega), if_neg (by omega), if_neg (by omega), if_neg (by omega), if_neg (by omega), if_neg (by omega), if_neg (by omega), if_pos hop]]
    exact charge_desk g a p sg kn s.now s.accs s.pays r W hD hP
  have HCC := Lib.hid HC
  clear HC
  have HS := Lib.hid (fun (W w' : World) (g : Nat) (e : Ending) (h : DeskRes W w' g p sg kn s.now s.pays (opsR s.now s.accs s.pays r) e) (hD : DeskAt W g a p sg kn s.now) (h0 : Below w.heap.size w W) (hg : w.heap.size ≤ g) => h.st hD (ha.below h0) (hp.below h0) h0 hg ha hp)
  generalize hX : opsR s.now s.accs s.pays r = X at *
  clear hX
  generalize hY : opsDo s r = Y at *
  clear hY
  obtain ⟨key, op, ra, rb, amt, legs, til⟩ := r
  obtain rfl : op = 7 := hop
  obtain ⟨xs, ps, sas, kns, now⟩ := s
  simp only at *
  go_enter Tryd.func14, Tryd.ntmps14
  go_wp2_with fail
  refine (opsBy_7 _).mono ?_
  rintro e w1 ⟨rfl, hz⟩
  have hb0 := ((((Blk.new w 36 #[a, p, sg, kn, .int .i64 now]).alloc (.cells (rcells ⟨key, 7, ra, rb, amt, legs, til⟩) 29)).alloc (.cells #[.slice none 0 0, .slice none 0 0, .slice none 0 0, .slice none 0 0, .int .i64 0] 36)).alloc (.cells #[.int .i64 0, .int .i64 0] 40)).next hz
  have hb1 := (((Blk.new1 w (.cells #[a, p, sg, kn, .int .i64 now] 36) 29 (rcells ⟨key, 7, ra, rb, amt, legs, til⟩)).alloc (.cells #[.slice none 0 0, .slice none 0 0, .slice none 0 0, .slice none 0 0, .int .i64 0] 36)).alloc (.cells #[.int .i64 0, .int .i64 0] 40)).next hz
  obtain ⟨s0, s1, s2, s3, s4⟩ := hb0.c5
  obtain ⟨r0, r1, r2, r3, r4, r5, r6⟩ := hb1.c7
  have l0 := hb0.lt
  have l1 := hb1.lt
  have hbw : Below w.heap.size w w1 := below_next (below_alloc (below_alloc (below_alloc (below_alloc (Below.refl _ _) _) _) _) _) hz
  go_wp2_with fail
  have hbw2 := below_alloc hbw (.cells #[a, p, sg, kn, .int .i64 now] 97)
  refine (HCC.out w1.heap.size _ ⟨Blk.new _ _ _, ha.below hbw2, hp.below hbw2, Row.apart (hp.below hbw) (Nat.le_refl _), hG, hT.below hbw2⟩).mono ?_
  intro e w2 hres
  obtain ⟨a', p', err, id, rfl, hy, hd2, ha2, hp2, hbw3, hg2, has2, hps2⟩ := HS.out _ _ _ _ hres (Blk.new _ _ _) hbw2 hbw.size
  clear hres HCC HS
  have hn4 : some (w.heap.size + 2) ≠ some w1.heap.size := by intro h; injection h with h; have := hz.size; simp at this; omega
  have hn5 : some (w.heap.size + 3) ≠ some w1.heap.size := by intro h; injection h with h; have := hz.size; simp at this; omega
  have hb4 := ((((Blk.new2 w (.cells #[a, p, sg, kn, .int .i64 now] 36) (.cells (rcells ⟨key, 7, ra, rb, amt, legs, til⟩) 29) 36 #[.slice none 0 0, .slice none 0 0, .slice none 0 0, .slice none 0 0, .int .i64 0]).alloc (.cells #[.int .i64 0, .int .i64 0] 40)).next hz).alloc (.cells #[a, p, sg, kn, .int .i64 now] 97)).grown hg2 hn4
  have hb5 := (((Blk.new3 w (.cells #[a, p, sg, kn, .int .i64 now] 36) (.cells (rcells ⟨key, 7, ra, rb, amt, legs, til⟩) 29) (.cells #[.slice none 0 0, .slice none 0 0, .slice none 0 0, .slice none 0 0, .int .i64 0] 36) 40 #[.int .i64 0, .int .i64 0]).next hz).alloc (.cells #[a, p, sg, kn, .int .i64 now] 97)).grown hg2 hn5
  have HYY := Lib.hid hy
  clear hy
  go_wp2_with fail
  refine abs_world (fun V => Blk V w1.heap.size 97 #[a', p', sg, kn, .int .i64 now] ∧ Blk V w2.heap.size 40 #[.int .i64 err, .int .i64 id] ∧ Blk V (w.heap.size + 1 + 1) 36 #[.slice none 0 0, .slice none 0 0, .slice none 0 0, .slice none 0 0, .int .i64 0] ∧ Blk V (w.heap.size + 1 + 1 + 1) 40 #[.int .i64 0, .int .i64 0] ∧ Row V a' Y.1.accs ∧ Row V p' Y.1.pays ∧ Below w.heap.size w V ∧ w2.heap.size ≠ w.heap.size + 1 + 1 + 1)
    ⟨hd2.alloc _, Blk.new _ _ _, hb4.alloc _, hb5.alloc _, ha2.alloc _, hp2.alloc _, below_alloc hbw3 _, by have := hb5.lt; omega⟩ ?_
  clear hd2 hb4 hb5 ha2 hp2 hbw3 hb0 hb1 s0 s1 s2 s3 s4 r0 r1 r2 r3 r4 r5 r6 hg2
  rintro V ⟨hd, ho, hb4, hb5, ha2, hp2, hbV, hne⟩
  obtain ⟨g0, g1, g2, g3, g4⟩ := hd.c5
  obtain ⟨o0, o1⟩ := ho.c2
  obtain ⟨x0, x1, x2, x3, x4⟩ := hb4.c5
  obtain ⟨y0, y1⟩ := hb5.c2
  obtain ⟨A1, c1, rfl⟩ := ha2.slice
  obtain ⟨A2, c2, rfl⟩ := hp2.slice
  obtain ⟨A3, c3, rfl⟩ := hsg.slice
  obtain ⟨A4, c4, rfl⟩ := hkn.slice
  have xf := hb4.frozen
  have yf := hb5.frozen
  have le1 := hb4.lt
  have le2 := hb5.lt
  have le3 := hd.lt
  have le4 := ho.lt
  have m1 : w.heap.size + 1 + 1 ≠ w1.heap.size := by have := hz.size; simp at this; omega
  have m2 : w.heap.size + 1 + 1 ≠ w2.heap.size := Blk.ne_ hb4 ho (by decide)
  have m3 : w.heap.size + 1 + 1 + 1 ≠ w1.heap.size := Blk.ne_ hb5 hd (by decide)
  have m4 := Ne.symm hne
  have m5 := Ne.symm m1
  have m6 := Ne.symm m2
  have m7 := Ne.symm m3
  go_region_held3 (fun w' => w'.cell? ⟨w1.heap.size, 0, none⟩ = some (.slice A1 Y.1.accs.length c1) ∧ w'.cell? ⟨w1.heap.size, 1, none⟩ = some (.slice A2 Y.1.pays.length c2) ∧ w'.cell? ⟨w1.heap.size, 2, none⟩ = some (.slice A3 sas.length c3) ∧ w'.cell? ⟨w1.heap.size, 3, none⟩ = some (.slice A4 kns.length c4) ∧ w'.cell? ⟨w1.heap.size, 4, none⟩ = some (.int .i64 now) ∧ w'.cell? ⟨w2.heap.size, 0, none⟩ = some (.int .i64 err) ∧ w'.cell? ⟨w2.heap.size, 1, none⟩ = some (.int .i64 id)) (go_keep) ((fail))
  go_wp2_with fail
  have HAB := Lib.hid (show w.heap.size + 1 + 1 + 1 < (w1.alloc (.cells #[a, p, .slice A3 sas.length c3, .slice A4 kns.length c4, .int .i64 now] 97)).heap.size by simp only [World.size_alloc]; have := hz.size; simp at this; omega)
  refine bodyPost_ret (res_cell_cell rfl _ rfl rfl agg_st rfl ((hb4.chain5.far2 (by omega)).drew) agg_rep rfl ((hb5.far5 (by omega)).chain2.drew)) rfl ⟨?_, .slice A1 Y.1.accs.length c1, .slice A2 Y.1.pays.length c2, by rw [HYY.out], ?_, ?_⟩
  · (repeat (first | (with_reducible refine below_drew ?_) | (with_reducible refine below_drewN ?_ _) | (with_reducible refine below_alloc ?_ _) | ((with_reducible refine Below.setCell ?_ ?_ _); rotate_left; (focus (first | (simp; done) | (simp; omega))))))
    exact hbV
  · have h2 : w.heap.size + 1 + 1 < (w1.alloc (.cells #[a, p, .slice A3 sas.length c3, .slice A4 kns.length c4, .int .i64 now] 97)).heap.size := by have := HAB.out; omega
    exact ((((((((ha2).setTwo has2 (by omega) h2 _ _).setTwo has2 (by omega) h2 _ _).setTwo has2 (by omega) h2 _ _).setTwo has2 (by omega) h2 _ _).setTwo has2 (by omega) h2 _ _).setTwo has2 (by omega) HAB.out _ _).setTwo has2 (by omega) HAB.out _ _).drew
  · have h2 : w.heap.size + 1 + 1 < (w1.alloc (.cells #[a, p, .slice A3 sas.length c3, .slice A4 kns.length c4, .int .i64 now] 97)).heap.size := by have := HAB.out; omega
    exact ((((((((hp2).setTwo hps2 (by omega) h2 _ _).setTwo hps2 (by omega) h2 _ _).setTwo hps2 (by omega) h2 _ _).setTwo hps2 (by omega) h2 _ _).setTwo hps2 (by omega) h2 _ _).setTwo hps2 (by omega) HAB.out _ _).setTwo hps2 (by omega) HAB.out _ _).drew


theorem opsDo_none (s : St) (a p sg kn : Value) (r : Req) (w : World) (hop : ¬(0 ≤ r.op ∧ r.op ≤ 7)) (ha : Row w a s.accs) (hp : Row w p s.pays) (hsg : Row w sg s.sagas) (hkn : Row w kn s.known) :
    Calls Tryd.prog 14 #[.agg #[a, p, sg, kn, .int .i64 s.now], r.val] w fun e w' => DoRes w w' sg kn s (opsDo s r) e := by
  have hR : opsDo s r = (s, ⟨1, 0⟩) := by
    unfold opsDo
    rw [show opsR s.now s.accs s.pays r = .error 1 by unfold opsR; rw [if_neg (by omega), if_neg (by omega), if_neg (by omega), if_neg (by omega), if_neg (by omega), if_neg (by omega), if_neg (by omega), if_neg (by omega)]]
  rw [hR]
  clear hR
  have hq := desk_nil
  obtain ⟨key, op, ra, rb, amt, legs, til⟩ := r
  obtain ⟨xs, ps, sas, kns, now⟩ := s
  have HOP := Lib.hid hop
  simp only at *
  clear hop
  obtain ⟨A1, c1, rfl⟩ := ha.slice
  obtain ⟨A2, c2, rfl⟩ := hp.slice
  obtain ⟨A3, c3, rfl⟩ := hsg.slice
  obtain ⟨A4, c4, rfl⟩ := hkn.slice
  go_enter Tryd.func14, Tryd.ntmps14
  go_wp2_with fail
  refine (opsBy_none _ _ HOP.out).mono ?_
  rintro e w1 ⟨rfl, hz⟩
  have hb0 := ((((Blk.new w 36 #[.slice A1 xs.length c1, .slice A2 ps.length c2, .slice A3 sas.length c3, .slice A4 kns.length c4, .int .i64 now]).alloc (.cells (rcells ⟨key, op, ra, rb, amt, legs, til⟩) 29)).alloc (.cells #[.slice none 0 0, .slice none 0 0, .slice none 0 0, .slice none 0 0, .int .i64 0] 36)).alloc (.cells #[.int .i64 0, .int .i64 0] 40)).next hz
  have hb4 := ((Blk.new2 w (.cells #[.slice A1 xs.length c1, .slice A2 ps.length c2, .slice A3 sas.length c3, .slice A4 kns.length c4, .int .i64 now] 36) (.cells (rcells ⟨key, op, ra, rb, amt, legs, til⟩) 29) 36 #[.slice none 0 0, .slice none 0 0, .slice none 0 0, .slice none 0 0, .int .i64 0]).alloc (.cells #[.int .i64 0, .int .i64 0] 40)).next hz
  have hb5 := (Blk.new3 w (.cells #[.slice A1 xs.length c1, .slice A2 ps.length c2, .slice A3 sas.length c3, .slice A4 kns.length c4, .int .i64 now] 36) (.cells (rcells ⟨key, op, ra, rb, amt, legs, til⟩) 29) (.cells #[.slice none 0 0, .slice none 0 0, .slice none 0 0, .slice none 0 0, .int .i64 0] 36) 40 #[.int .i64 0, .int .i64 0]).next hz
  have hbw : Below w.heap.size w w1 := below_next (below_alloc (below_alloc (below_alloc (below_alloc (Below.refl _ _) _) _) _) _) hz
  obtain ⟨s0, s1, s2, s3, s4⟩ := hb0.c5
  obtain ⟨x0, x1, x2, x3, x4⟩ := hb4.c5
  obtain ⟨y0, y1⟩ := hb5.c2
  have xf := hb4.frozen
  have yf := hb5.frozen
  have l0 := hb0.lt
  go_wp2_with fail
  refine bodyPost_ret (res_cell_cell rfl _ rfl rfl agg_st rfl (hb4.chain5.far2 (by omega)) agg_rep rfl ((hb5.far5 (by omega)).chain2)) rfl ⟨?_, _, _, rfl, ?_, ?_⟩
  · (repeat (first | (with_reducible refine below_drew ?_) | (with_reducible refine below_drewN ?_ _) | (with_reducible refine below_alloc ?_ _) | ((with_reducible refine Below.setCell ?_ ?_ _); rotate_left; (focus (first | (simp; done) | (simp; omega))))))
    exact hbw
  · refine ha.below ?_
    (repeat (first | (with_reducible refine below_drew ?_) | (with_reducible refine below_drewN ?_ _) | (with_reducible refine below_alloc ?_ _) | ((with_reducible refine Below.setCell ?_ ?_ _); rotate_left; (focus (first | (simp; done) | (simp; omega))))))
    exact hbw
  · refine hp.below ?_
    (repeat (first | (with_reducible refine below_drew ?_) | (with_reducible refine below_drewN ?_ _) | (with_reducible refine below_alloc ?_ _) | ((with_reducible refine Below.setCell ?_ ?_ _); rotate_left; (focus (first | (simp; done) | (simp; omega))))))
    exact hbw
/-- ops.Do. -/
theorem opsDo_any (s : St) (a p sg kn : Value) (r : Req) (w : World) (ha : Row w a s.accs) (hp : Row w p s.pays) (hsg : Row w sg s.sagas) (hkn : Row w kn s.known) (hG : Good s.accs) (hP : PaysOk s.accs s.pays) (hT : GT w) :
    Calls Tryd.prog 14 #[.agg #[a, p, sg, kn, .int .i64 s.now], r.val] w fun e w' => DoRes w w' sg kn s (opsDo s r) e := by
  by_cases h : 0 ≤ r.op ∧ r.op ≤ 7
  · have : r.op = 0 ∨ r.op = 1 ∨ r.op = 2 ∨ r.op = 3 ∨ r.op = 4 ∨ r.op = 5 ∨ r.op = 6 ∨ r.op = 7 := by omega
    rcases this with h | h | h | h | h | h | h | h
    · exact opsDo_0 s a p sg kn r w h ha hp hsg hkn hG hP hT
    · exact opsDo_1 s a p sg kn r w h ha hp hsg hkn hG hP hT
    · exact opsDo_2 s a p sg kn r w h ha hp hsg hkn hG hP hT
    · exact opsDo_3 s a p sg kn r w h ha hp hsg hkn hG hP hT
    · exact opsDo_4 s a p sg kn r w h ha hp hsg hkn hG hP hT
    · exact opsDo_5 s a p sg kn r w h ha hp hsg hkn hG hP hT
    · exact opsDo_6 s a p sg kn r w h ha hp hsg hkn hG hP hT
    · exact opsDo_7 s a p sg kn r w h ha hp hsg hkn hG hP hT
  · exact opsDo_none s a p sg kn r w h ha hp hsg hkn
/-- What ops.Do hands back, as a state. -/
def DoSt (w w' : World) (x : St × Rep) (e : Ending) : Prop := Below w.heap.size w w' ∧ ∃ v, e = .returned (.tuple #[v, x.2.val]) ∧ StV w' v x.1
theorem opsDo_sagas (s : St) (r : Req) : (opsDo s r).1.sagas = s.sagas ∧ (opsDo s r).1.known = s.known ∧ (opsDo s r).1.now = s.now := by
  unfold opsDo
  split <;> exact ⟨rfl, rfl, rfl⟩
theorem opsDo_st (s : St) (v : Value) (r : Req) (w : World) (hv : StV w v s) (hG : Good s.accs) (hP : PaysOk s.accs s.pays) (hT : GT w) : Calls Tryd.prog 14 #[v, r.val] w fun e w' => DoSt w w' (opsDo s r) e := by
  obtain ⟨a, p, sg, kn, rfl, h1, h2, h3, h4⟩ := hv
  refine (opsDo_any s a p sg kn r w h1 h2 h3 h4 hG hP hT).mono ?_
  rintro e w' ⟨hb, a', p', rfl, ha, hp⟩
  obtain ⟨k1, k2, k3⟩ := opsDo_sagas s r
  exact ⟨hb, _, rfl, a', p', sg, kn, by rw [k3], ha, hp, by rw [k1]; exact h3.below hb, by rw [k2]; exact h4.below hb⟩
end Go.Proofs.YthjmficglpfgpaaDoor
