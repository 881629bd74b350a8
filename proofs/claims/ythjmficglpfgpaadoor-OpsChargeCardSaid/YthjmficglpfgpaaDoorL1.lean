/- New accounts, and a new state. -/
import Derived.Test.YthjmficglpfgpaaDoorOps13
import Derived.Test.YthjmficglpfgpaaDoorPlain4
namespace Go.Proofs.YthjmficglpfgpaaDoor
set_option linter.unusedVariables false
set_option linter.unusedSimpArgs false
open Go Go.RowKit Enc
set_option maxRecDepth 100000
set_option maxHeartbeats 800000

theorem house_snoc : ∀ c : Nat, c < 3 → ∀ k : Nat, k < 3 → house.take (3 * c + k + 1) = house.take (3 * c + k) ++ [⟨(c : Int), 0, 0⟩] := by decide
def NewRel (w : World) (v i : Value) (wr : World) : Prop := ∃ c : Nat, c ≤ 3 ∧ i = .int .i64 c ∧ Below w.heap.size w wr ∧ Own wr w.heap.size 50 v (house.take (3 * c))
def NewRel2 (w : World) (c : Nat) (v i : Value) (wr : World) : Prop := ∃ k : Nat, k ≤ 3 ∧ i = .int .i64 k ∧ Below w.heap.size w wr ∧ Own wr w.heap.size 50 v (house.take (3 * c + k))
theorem new_accs (w : World) : Calls Tryd.prog 56 #[] w fun e w' => ∃ v, e = .returned v ∧ Own w' w.heap.size 50 v house ∧ Below w.heap.size w w' := by
  go_enter Tryd.func56, Tryd.ntmps56
  go_wp2
  go_loopw [1, 3] (fun v i wr => NewRel w v i wr) (fun _ i _ => 3 - (intOf i).toNat)
  case atStart => exact ⟨0, by omega, rfl, Below.refl _ _, by simpa using Own.nil _ _ _⟩
  case round =>
    obtain ⟨c, hc, rfl, hb, hown⟩ := hrel
    by_cases hlt : c < 3
    · obtain ⟨wo, rfl⟩ : ∃ wo : World, wo = wr := ⟨_, rfl⟩
      have hltI : decide ((c : Int) < 3) = true := by simp; omega
      go_wp2
      go_loopw [1, 6] (fun v i wr => NewRel2 w c v i wr) (fun _ i _ => 3 - (intOf i).toNat)
      case atStart => exact ⟨0, by omega, rfl, hb, by simpa using hown⟩
      case round =>
        clear hown hb
        obtain ⟨k, hk, rfl, hb, hown⟩ := hrel
        by_cases hlk : k < 3
        · have hsn := Lib.hid (house_snoc c hlt k hlk)
          have HBY := Lib.hid (show ((house.take (3 * c + k)).length + [Acc.mk (c : Int) 0 0].length) * 24 ≤ 140737488355328 by simp [house]; omega)
          have HSZ := Lib.hid (below_alloc hb (.cells #[.int .i64 c, .int .i64 0, .int .i64 0] 50)).size
          go_wp2_with (at_builtin; refine wp_append (B := w.heap.size) (xs := house.take (3 * c + k)) (ys := [Acc.mk (c : Int) 0 0]) sT_acc rfl rfl _ (.slice (some ⟨wr.heap.size, 0, none⟩) 1 1) rfl rfl (hown.alloc _) (Row.box wr (Acc.mk (c : Int) 0 0) #[.int .i64 c, .int .i64 0, .int .i64 0] rfl 50) HBY.out (by decide) HSZ.out ?_; intro v2 w2 hown2 hg2 hat2)
          rw [← hsn.out] at hown2
          exact ⟨⟨k + 1, by omega, by go_num, below_grown (below_alloc hb _) hg2 hown.base, hown2⟩, by simp [intOf]; omega⟩
        · obtain rfl : k = 3 := by omega
          go_wp2
          exact ⟨⟨c + 1, by omega, by go_num, hb, by rw [show 3 * (c + 1) = 3 * c + 3 by omega]; exact hown⟩, by simp [intOf]; omega⟩
    · obtain rfl : c = 3 := by omega
      go_wp2
      go_ret
      exact ⟨_, rfl, by simpa [house] using hown, hb⟩
def newSt : St := ⟨house, [], [], [], 0⟩
theorem new_st (w : World) : Calls Tryd.prog 32 #[] w fun e w' => ∃ v, e = .returned v ∧ StV w' v newSt ∧ Below w.heap.size w w' := by
  go_enter Tryd.func32, Tryd.ntmps32
  go_wp2_with fail
  refine (new_accs _).mono ?_
  rintro e w1 ⟨v, rfl, hown, hb⟩
  obtain ⟨A, c, rfl⟩ := hown.row.slice
  have hj := (Blk.new w 36 #[.slice none 0 0, .slice none 0 0, .slice none 0 0, .slice none 0 0, .int .i64 0]).next hb
  obtain ⟨x0, x1, x2, x3, x4⟩ := hj.c5
  have jf := hj.frozen
  have lj := hj.lt
  go_wp2_with fail
  refine bodyPost_ret (res_cell rfl _ rfl agg_st rfl (hj.chain5)) rfl ⟨_, rfl, ⟨_, _, _, _, rfl, ?_, Row.nil _, Row.nil _, Row.nil _⟩, ?_⟩
  · have hs : ∀ (W : World) (i : Nat) (u : Value), Row W (.slice A house.length c) house → Row (W.setCell ⟨w.heap.size, i, none⟩ u) (.slice A house.length c) house := fun W i u h => h.only (fun _ => (hown.ne (by simp)).symm) ((World.grownBy.refl W _).setCell rfl u)
    exact hs _ _ _ (hs _ _ _ (hs _ _ _ (hs _ _ _ (hs _ _ _ hown.row))))
  · (repeat (first | (with_reducible refine below_drew ?_) | (with_reducible refine below_drewN ?_ _) | (with_reducible refine below_alloc ?_ _) | ((with_reducible refine Below.setCell ?_ ?_ _); rotate_left; (focus (first | (simp; done) | (simp; omega))))))
    exact below_next (below_alloc (Below.refl _ _) _) hb
end Go.Proofs.YthjmficglpfgpaaDoor
