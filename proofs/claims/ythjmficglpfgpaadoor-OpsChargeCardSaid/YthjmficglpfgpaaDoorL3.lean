/- The document's examples of requests. -/
import Derived.Test.YthjmficglpfgpaaDoorStW
import Derived.Test.YthjmficglpfgpaaDoorPlain8
namespace Go.Proofs.YthjmficglpfgpaaDoor
set_option linter.unusedVariables false
set_option linter.unusedSimpArgs false
open Go Go.RowKit Enc
set_option maxRecDepth 100000
set_option maxHeartbeats 1600000

def aw1 : St := ⟨house ++ [⟨1, 0, 0⟩], [], [], [], 0⟩
def aw2 : St := ⟨[⟨0, 0, 0⟩, ⟨0, 0, 0⟩, ⟨0, 0, 0⟩, ⟨1, -50, 0⟩, ⟨1, 0, 0⟩, ⟨1, 0, 0⟩, ⟨2, 0, 0⟩, ⟨2, 0, 0⟩, ⟨2, 0, 0⟩, ⟨1, 50, 0⟩], [], [], [], 0⟩
theorem aw_1 : opsDo newSt ⟨0, 0, 1, 0, 0, 0, 0⟩ = (aw1, ⟨0, 9⟩) := by rfl
theorem aw_2 : opsDo aw1 ⟨0, 1, 9, 0, 50, 0, 0⟩ = (aw2, ⟨0, 0⟩) := by rfl
theorem aw_3 : opsDo aw2 ⟨0, 2, 9, 9, 60, 0, 0⟩ = (aw2, ⟨1, 0⟩) := by rfl
theorem aw1_ok : Ok (fun _ => 0) aw1.accs aw1.pays := by
  have := opsDo_ok (s := newSt) (r := ⟨0, 0, 1, 0, 0, 0, 0⟩) house_ok (Int.le_refl _) ⟨fun _ => by decide, fun h => by simp at h⟩
  rw [aw_1] at this
  exact this.1
theorem aw2_ok : Ok (fun _ => 0) aw2.accs aw2.pays := by
  have := opsDo_ok (s := aw1) (r := ⟨0, 1, 9, 0, 50, 0, 0⟩) aw1_ok (Int.le_refl _) ⟨fun h => by simp at h, fun h => by simp at h⟩
  rw [aw_2] at this
  exact this.1
theorem awake15 (w : World) (hT : GT w) : Calls Tryd.prog 12 #[] w fun e w' => e = .returned (.bool true) ∧ Below w.heap.size w w' := by
  go_enter Tryd.func12, Tryd.ntmps12
  go_wp2_with fail
  refine (new_st _).mono ?_
  rintro e w1 ⟨v, rfl, hS, hb⟩
  go_wp2_with fail
  refine (opsDo_st newSt v ⟨0, 0, 1, 0, 0, 0, 0⟩ _ hS house_ok.good house_ok.pays (hT.below hb)).mono ?_
  rw [aw_1]
  rintro e w2 ⟨hb2, v2, rfl, hS2⟩
  obtain ⟨A1, c1, A2, c2, A3, c3, A4, c4, rfl, k1, k2, k3, k4⟩ := hS2.open
  replace hb := below_next hb hb2
  clear hb2 hS
  go_wp2_with fail
  refine (opsDo_st aw1 _ ⟨0, 1, 9, 0, 50, 0, 0⟩ _ (hS2.below (below_alloc (below_alloc (Below.refl _ _) _) _)) aw1_ok.good aw1_ok.pays (hT.below (below_alloc (below_alloc hb _) _))).mono ?_
  rw [aw_2]
  rintro e w3 ⟨hb3, v3, rfl, hS3⟩
  obtain ⟨B1, d1, B2, d2, B3, d3, B4, d4, rfl, l1, l2, l3, l4⟩ := hS3.open
  have hs := ((Blk.new w2 36 #[.slice A1 aw1.accs.length c1, .slice A2 aw1.pays.length c2, .slice A3 aw1.sagas.length c3, .slice A4 aw1.known.length c4, .int .i64 aw1.now]).alloc (.cells #[.int .i64 0, .int .i64 9] 40)).next hb3
  have hr := (Blk.new1 w2 (.cells #[.slice A1 aw1.accs.length c1, .slice A2 aw1.pays.length c2, .slice A3 aw1.sagas.length c3, .slice A4 aw1.known.length c4, .int .i64 aw1.now] 36) 40 #[.int .i64 0, .int .i64 9]).next hb3
  have hbb := below_next (below_alloc (below_alloc hb (.cells #[.slice A1 aw1.accs.length c1, .slice A2 aw1.pays.length c2, .slice A3 aw1.sagas.length c3, .slice A4 aw1.known.length c4, .int .i64 aw1.now] 36)) (.cells #[.int .i64 0, .int .i64 9] 40)) hb3
  have has : ∀ {α : Type} [Enc α] (u : Value) (xs : List α), Row w2 u xs → True := fun _ _ _ => trivial
  obtain ⟨x0, x1, x2, x3, x4⟩ := hs.c5
  obtain ⟨y0, y1⟩ := hr.c2
  have sf := hs.frozen
  have ls := hs.lt
  have lr := hr.lt
  have hbW := hb.size
  clear hS2 k1 k2 k3 k4 hb hb3
  go_wp2_with fail
  have hS3' := hS3.over hs (set5_grown w3 w2.heap.size (.slice B1 aw2.accs.length d1) (.slice B2 aw2.pays.length d2) (.slice B3 aw2.sagas.length d3) (.slice B4 aw2.known.length d4) (.int .i64 aw2.now))
  have hs' := hs.chain5 (a0 := .slice B1 aw2.accs.length d1) (a1 := .slice B2 aw2.pays.length d2) (a2 := .slice B3 aw2.sagas.length d3) (a3 := .slice B4 aw2.known.length d4) (a4 := .int .i64 aw2.now)
  have hr' := hr.far5 (g' := w2.heap.size) (by omega) (a0 := .slice B1 aw2.accs.length d1) (a1 := .slice B2 aw2.pays.length d2) (a2 := .slice B3 aw2.sagas.length d3) (a3 := .slice B4 aw2.known.length d4) (a4 := .int .i64 aw2.now)
  have hbZ : Below w.heap.size w (((((w3.setCell ⟨w2.heap.size, 0, none⟩ (.slice B1 aw2.accs.length d1)).setCell ⟨w2.heap.size, 1, none⟩ (.slice B2 aw2.pays.length d2)).setCell ⟨w2.heap.size, 2, none⟩ (.slice B3 aw2.sagas.length d3)).setCell ⟨w2.heap.size, 3, none⟩ (.slice B4 aw2.known.length d4)).setCell ⟨w2.heap.size, 4, none⟩ (.int .i64 aw2.now)) := by
    (repeat (first | (with_reducible refine below_drew ?_) | (with_reducible refine below_drewN ?_ _) | (with_reducible refine below_alloc ?_ _) | ((with_reducible refine Below.setCell ?_ ?_ _); rotate_left; (focus (first | (simp; done) | (simp; omega))))))
    exact hbb
  clear hS3 hs hr hbb l1 l2 l3 l4 x0 x1 x2 x3 x4 y0 y1 sf ls lr hbW
  have hsz : (((((w3.setCell ⟨w2.heap.size, 0, none⟩ (.slice B1 aw2.accs.length d1)).setCell ⟨w2.heap.size, 1, none⟩ (.slice B2 aw2.pays.length d2)).setCell ⟨w2.heap.size, 2, none⟩ (.slice B3 aw2.sagas.length d3)).setCell ⟨w2.heap.size, 3, none⟩ (.slice B4 aw2.known.length d4)).setCell ⟨w2.heap.size, 4, none⟩ (.int .i64 aw2.now)).heap.size = w3.heap.size := by simp
  generalize (((((w3.setCell ⟨w2.heap.size, 0, none⟩ (.slice B1 aw2.accs.length d1)).setCell ⟨w2.heap.size, 1, none⟩ (.slice B2 aw2.pays.length d2)).setCell ⟨w2.heap.size, 2, none⟩ (.slice B3 aw2.sagas.length d3)).setCell ⟨w2.heap.size, 3, none⟩ (.slice B4 aw2.known.length d4)).setCell ⟨w2.heap.size, 4, none⟩ (.int .i64 aw2.now)) = W at *
  have hq := Blk.new W 40 #[.int .i64 0, .int .i64 0]
  rw [hsz] at hq
  clear hsz
  refine (opsDo_st aw2 _ ⟨0, 2, 9, 9, 60, 0, 0⟩ _ (hS3'.alloc _) aw2_ok.good aw2_ok.pays (hT.below (below_alloc hbZ _))).mono ?_
  rw [aw_3]
  rintro e w4 ⟨hb4, v4, rfl, hS4⟩
  obtain ⟨C1, f1, C2, f2, C3, f3, C4, f4, rfl, m1, m2, m3, m4⟩ := hS4.open
  have hS5 := (hS3'.alloc _).below hb4
  obtain ⟨E1, g1, E2, g2, E3, g3, E4, g4, he, n1, n2, n3, n4⟩ := hS5.open
  injection he with he
  simp only [Array.mk.injEq, List.cons.injEq, Value.slice.injEq, and_true, true_and] at he
  obtain ⟨⟨rfl, rfl⟩, ⟨rfl, rfl⟩, ⟨rfl, rfl⟩, rfl, rfl⟩ := he
  obtain ⟨x0, x1, x2, x3, x4⟩ := ((hs'.alloc _).next hb4).c5
  obtain ⟨y0, y1⟩ := ((hr'.alloc _).next hb4).c2
  obtain ⟨q0, q1⟩ := (hq.next hb4).c2
  have lx := ((hs'.alloc (.cells #[.int .i64 0, .int .i64 0] 40)).next hb4).lt
  have ly := ((hr'.alloc (.cells #[.int .i64 0, .int .i64 0] 40)).next hb4).lt
  have lq := (hq.next hb4).lt
  obtain ⟨o1, p1, cc1, hv1, _, z1, _, lz1⟩ := n1.acc 9 (by decide)
  obtain ⟨o2, p2, cc2, hv2, _, z2, _, lz2⟩ := n1.acc 3 (by decide)
  injection hv1 with hv1 _ hv3
  subst hv1 hv3
  injection hv2 with hv2 _ _
  injection hv2 with hv2
  injection hv2 with hv2 hv4
  subst hv2 hv4
  have z1' : w4.cell? ⟨o1, p1 + 27 + 1, none⟩ = some (.int .i64 50) := z1
  have z2' : w4.cell? ⟨o1, p1 + 9 + 1, none⟩ = some (.int .i64 (-50)) := z2
  have hlen : ((aw2.accs.length : Nat) : Int) = 10 := by rfl
  clear z1 z2 m1 m2 m3 m4 n1 n2 n3 n4 hS5 hS4 hS3' hs' hr' hq
  go_wp2_with fail
  go_ret
  exact ⟨rfl, by (repeat (first | (with_reducible refine below_drew ?_) | (with_reducible refine below_drewN ?_ _) | (with_reducible refine below_alloc ?_ _) | ((with_reducible refine Below.setCell ?_ ?_ _); rotate_left; (focus (first | (simp; done) | (simp; omega)))))); exact below_next (below_alloc hbZ _) hb4⟩
end Go.Proofs.YthjmficglpfgpaaDoor
