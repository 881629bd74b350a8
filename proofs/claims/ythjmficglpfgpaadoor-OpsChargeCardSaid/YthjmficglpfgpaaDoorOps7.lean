/- The desk: open. -/
import Derived.Test.YthjmficglpfgpaaDoorOps6
import Derived.Test.YthjmficglpfgpaaDoorHeadS
namespace Go.Proofs.YthjmficglpfgpaaDoor
set_option linter.unusedVariables false
set_option linter.unusedSimpArgs false
open Go Go.RowKit Enc
set_option maxRecDepth 100000
set_option maxHeartbeats 800000

def deskOpen (xs : List Acc) (ps : List Pay) (r : Req) : Except Int (List Acc × List Pay × Int) :=
  if xs.length ≥ 64 then .error 7 else .ok (xs ++ [⟨r.a, 0, 0⟩], ps, xs.length)
theorem open_desk (g : Nat) (a p s kn : Value) (now : Int) (xs : List Acc) (ps : List Pay) (r : Req) (w : World) (hD : Desk w g a p s kn now xs ps) :
    Calls Tryd.prog 59 #[.pointer (some ⟨g, 0, none⟩), r.val] w fun e w' => DeskRes w w' g p s kn now ps (deskOpen xs ps r) e := by
  obtain ⟨key, op, ra, rb, amt, legs, til⟩ := r
  have gl := hD.at_.lt
  obtain ⟨A, c, rfl⟩ := hD.accs.slice
  obtain ⟨g0, g1, g2, g3, g4⟩ := hD.at_.c5
  have gl1 : g < w.heap.size + 1 := by omega
  have gl2 : g < w.heap.size + 1 + 1 := by omega
  by_cases h64 : xs.length ≥ 64
  · have hr := Lib.hid (show deskOpen xs ps ⟨key, op, ra, rb, amt, legs, til⟩ = .error 7 by simp [deskOpen, h64])
    have h64' : (64 : Int) ≤ xs.length := by omega
    clear h64
    go_enter Tryd.func59, Tryd.ntmps59
    go_wp2_with fail
    refine bodyPost_ret (res_cell rfl _ rfl agg_rep rfl (Blk.new1 _ _ _ _)) rfl ?_
    rw [hr.out]
    refine ⟨rfl, ?_⟩
    (repeat (first | (with_reducible refine below_drew ?_) | (with_reducible refine below_drewN ?_ _) | (with_reducible refine below_alloc ?_ _) | ((with_reducible refine Below.setCell ?_ ?_ _); rotate_left; (focus (first | (simp; done) | (simp; omega))))))
    exact Below.refl _ _
  · have hr := Lib.hid (show deskOpen xs ps ⟨key, op, ra, rb, amt, legs, til⟩ = .ok (xs ++ [⟨ra, 0, 0⟩], ps, xs.length) by simp [deskOpen, h64])
    have h64' : (xs.length : Int) < 64 := by omega
    have hlen : xs.length < 64 := by omega
    clear h64
    go_enter Tryd.func59, Tryd.ntmps59
    go_wp2_with fail
    refine abs_world (fun W => Desk W g (.slice A xs.length c) p s kn now xs ps ∧ Blk W (w.heap.size + 1) 40 #[.int .i64 0, .int .i64 0] ∧ Blk W w.heap.size 29 #[.int .i64 key, .int .i64 op, .int .i64 ra, .int .i64 rb, .int .i64 amt, .int .i64 legs, .int .i64 til] ∧ Below w.heap.size w W) ⟨(hD.alloc _).alloc _, Blk.new1 _ _ _ _, (Blk.new w _ _).alloc _, below_alloc (below_alloc (Below.refl _ _) _) _⟩ ?_
    clear hD g0 g1 g2 g3 g4
    rintro W ⟨hD2, hj, hbx, hb⟩
    obtain ⟨g0, g1, g2, g3, g4⟩ := hD2.at_.c5
    obtain ⟨k0, k1, k2, k3, k4, k5, k6⟩ := hbx.c7
    have lg := hD2.at_.lt
    have lb := hbx.lt
    have hbd : Below w.heap.size w W.drew := below_drew hb
    have g0d : W.drew.cell? ⟨g, 0, none⟩ = some (.slice A xs.length c) := g0
    have k2d : W.drew.cell? ⟨w.heap.size, 2, none⟩ = some (.int .i64 ra) := k2
    refine wp_region_head 18 (fun w' => Below W.heap.size W w' ∧ w'.cell? ⟨g, 0, none⟩ = some (.slice A xs.length c) ∧ w'.cell? ⟨w.heap.size, 2, none⟩ = some (.int .i64 ra)) (by kernel_rfl) (by kernel_rfl) ⟨below_drew (Below.refl _ _), g0d, k2d⟩ (fun hHeld => ?_)
    refine wpHead_take (i := 0) (v := ?_) rfl (by kernel_rfl) (by kernel_rfl) (by kernel_rfl) (by kernel_rfl) (fun _ _ _ h => h) (Or.inl ⟨by rfl, fun w hSw => ?_⟩) (by assumption) ?_; rotate_left; (focus ((try dsimp only at hSw); go_simp <;> with_reducible rfl)); (try simp only [Act.put, List.setIfInBounds_toArray, List.set_cons_zero, List.set_cons_succ])
    refine wpHead_take (i := 1) (v := ?_) rfl (by kernel_rfl) (by kernel_rfl) (by kernel_rfl) (by kernel_rfl) (fun _ _ _ h => h) (Or.inl ⟨by rfl, fun w hSw => ?_⟩) (by assumption) ?_; rotate_left; (focus ((try dsimp only at hSw); go_simp <;> with_reducible rfl)); (try simp only [Act.put, List.setIfInBounds_toArray, List.set_cons_zero, List.set_cons_succ])
    refine wpHead_take (i := 2) (v := ?_) rfl (by kernel_rfl) (by kernel_rfl) (by kernel_rfl) (by kernel_rfl) (fun _ _ _ h => h) (Or.inl ⟨by rfl, fun w hSw => ?_⟩) (by assumption) ?_; rotate_left; (focus ((try dsimp only at hSw); go_simp <;> with_reducible rfl)); (try simp only [Act.put, List.setIfInBounds_toArray, List.set_cons_zero, List.set_cons_succ])
    refine wpHead_take (i := 3) (v := ?_) rfl (by kernel_rfl) (by kernel_rfl) (by kernel_rfl) (by kernel_rfl) (fun _ _ _ h => h) (Or.inl ⟨by rfl, fun w hSw => ?_⟩) (by assumption) ?_; rotate_left; (focus ((try dsimp only at hSw); go_simp <;> with_reducible rfl)); (try simp only [Act.put, List.setIfInBounds_toArray, List.set_cons_zero, List.set_cons_succ])
    refine wpHead_take (i := 4) (v := ?_) rfl (by kernel_rfl) (by kernel_rfl) (by kernel_rfl) (by kernel_rfl) (fun _ _ _ h => h) (Or.inl ⟨by rfl, fun w hSw => ?_⟩) (by assumption) ?_; rotate_left; (focus ((try dsimp only at hSw); go_simp <;> with_reducible rfl)); (try simp only [Act.put, List.setIfInBounds_toArray, List.set_cons_zero, List.set_cons_succ])
    refine wpHead_take (i := 5) (v := ?_) rfl (by kernel_rfl) (by kernel_rfl) (by kernel_rfl) (by kernel_rfl) (fun _ _ _ h => h) (Or.inl ⟨by rfl, fun w hSw => ?_⟩) (by assumption) ?_; rotate_left; (focus ((try dsimp only at hSw); go_simp <;> with_reducible rfl)); (try simp only [Act.put, List.setIfInBounds_toArray, List.set_cons_zero, List.set_cons_succ])
    refine wpHead_take (i := 7) (v := ?_) rfl (by kernel_rfl) (by kernel_rfl) (by kernel_rfl) (by kernel_rfl) (fun _ _ _ h => h) (Or.inl ⟨by rfl, fun w hSw => ?_⟩) (by assumption) ?_; rotate_left; (focus ((try dsimp only at hSw); go_simp <;> with_reducible rfl)); (try simp only [Act.put, List.setIfInBounds_toArray, List.set_cons_zero, List.set_cons_succ])
    refine wpHead_take (i := 8) (v := ?_) rfl (by kernel_rfl) (by kernel_rfl) (by kernel_rfl) (by kernel_rfl) (fun _ _ _ h => h) (Or.inl ⟨by rfl, fun w hSw => ?_⟩) (by assumption) ?_; rotate_left; (focus ((try dsimp only at hSw); go_simp <;> with_reducible rfl)); (try simp only [Act.put, List.setIfInBounds_toArray, List.set_cons_zero, List.set_cons_succ])
    refine wpHead_take (i := 9) (v := ?_) rfl (by kernel_rfl) (by kernel_rfl) (by kernel_rfl) (by kernel_rfl) (fun _ _ _ h => h) (Or.inl ⟨by rfl, fun w hSw => ?_⟩) (by assumption) ?_; rotate_left; (focus ((try dsimp only at hSw); go_simp <;> with_reducible rfl)); (try simp only [Act.put, List.setIfInBounds_toArray, List.set_cons_zero, List.set_cons_succ])
    refine wpHead_take (i := 12) (v := ?_) rfl (by kernel_rfl) (by kernel_rfl) (by kernel_rfl) (by kernel_rfl) (fun _ _ _ h => h) (Or.inl ⟨by rfl, fun w hSw => ?_⟩) (by assumption) ?_; rotate_left; (focus ((try dsimp only at hSw); go_simp <;> with_reducible rfl)); (try simp only [Act.put, List.setIfInBounds_toArray, List.set_cons_zero, List.set_cons_succ])
    refine wpHead_take (i := 13) (v := ?_) rfl (by kernel_rfl) (by kernel_rfl) (by kernel_rfl) (by kernel_rfl) (fun _ _ _ h => h) (Or.inl ⟨by rfl, fun w hSw => ?_⟩) (by assumption) ?_; rotate_left; (focus ((try dsimp only at hSw); go_simp <;> with_reducible rfl)); (try simp only [Act.put, List.setIfInBounds_toArray, List.set_cons_zero, List.set_cons_succ])
    refine wpHead_take (i := 14) (v := ?_) rfl (by kernel_rfl) (by kernel_rfl) (by kernel_rfl) (by kernel_rfl) (fun _ _ _ h => h) (Or.inl ⟨by rfl, fun w hSw => ?_⟩) (by assumption) ?_; rotate_left; (focus ((try dsimp only at hSw); go_simp <;> with_reducible rfl)); (try simp only [Act.put, List.setIfInBounds_toArray, List.set_cons_zero, List.set_cons_succ])
    refine wpHead_take (i := 15) (v := ?_) rfl (by kernel_rfl) (by kernel_rfl) (by kernel_rfl) (by kernel_rfl) (fun _ _ _ h => h) (Or.inl ⟨by rfl, fun w hSw => ?_⟩) (by assumption) ?_; rotate_left; (focus ((try dsimp only at hSw); go_simp <;> with_reducible rfl)); (try simp only [Act.put, List.setIfInBounds_toArray, List.set_cons_zero, List.set_cons_succ])
    refine wpHead_take (i := 16) (v := ?_) rfl (by kernel_rfl) (by kernel_rfl) (by kernel_rfl) (by kernel_rfl) (fun _ _ _ h => h) (Or.inl ⟨by rfl, fun w hSw => ?_⟩) (by assumption) ?_; rotate_left; (focus ((try dsimp only at hSw); go_simp <;> with_reducible rfl)); (try simp only [Act.put, List.setIfInBounds_toArray, List.set_cons_zero, List.set_cons_succ])
    refine wpHead_take (i := 17) (v := ?_) rfl (by kernel_rfl) (by kernel_rfl) (by kernel_rfl) (by kernel_rfl) (fun _ _ _ h => h) (Or.inl ⟨by rfl, fun w hSw => ?_⟩) (by assumption) ?_; rotate_left; (focus ((try dsimp only at hSw); go_simp <;> with_reducible rfl)); (try simp only [Act.put, List.setIfInBounds_toArray, List.set_cons_zero, List.set_cons_succ])
    have HBY := Lib.hid (show (xs.length + [Acc.mk ra 0 0].length) * 24 ≤ 140737488355328 by simp; omega)
    have hjg : some (w.heap.size + 1) ≠ some g := by intro h; injection h with h; omega
    have lj := hj.lt
    have lg := hD2.at_.lt
    have hbd : Below W.heap.size W W.drew := below_drew (Below.refl _ _)
    refine wpHead_ready (rs := [6, 10]) (by kernel_rfl) (by simp) ?_
    refine AllHead.cons (i := 6) rfl (by kernel_rfl) (fun K hK => ?_) ?_
    · go_simp
      go_at_call 58
      refine (clone_any _ xs _ hD2.accs.drew (by omega)).mono ?_
      rintro e w1 ⟨v1, rfl, ho1, hz1⟩
      have hb1 : Below W.heap.size W w1 := below_next hbd hz1
      refine hK.out _ _ ⟨hb1, cell_below hb1 g0, cell_below hb1 k2⟩ (fun hHeld1 => ?_)
      clear hK K
      (try simp only [Act.put, List.setIfInBounds_toArray, List.set_cons_zero, List.set_cons_succ])
      refine wpHead_ready (rs := [10]) (by kernel_rfl) (by simp) ?_
      refine AllHead.cons (i := 10) rfl (by kernel_rfl) (fun K hK => ?_) ?_
      · go_simp
        refine hK.out _ _ ⟨below_alloc hb1 _, Lib.cell?_alloc_some _ hHeld1.2.1, Lib.cell?_alloc_some _ hHeld1.2.2⟩ (fun hHeld2 => ?_)
        clear hK K
        (try simp only [Act.put, List.setIfInBounds_toArray, List.set_cons_zero, List.set_cons_succ])
        refine wpHead_ready (rs := [11]) (by kernel_rfl) (by simp) ?_
        refine AllHead.cons (i := 11) rfl (by kernel_rfl) (fun K hK => ?_) ?_
        · skip
          refine step_append (B := W.heap.size) (xs := xs) (ys := [Acc.mk ra 0 0]) sT_acc (by rfl) (by rfl) v1 (.slice (some ⟨_, 0, none⟩) 1 1) (by rfl) (by rfl) (ho1.alloc _) (Row.box w1 (Acc.mk ra 0 0) _ rfl _) HBY.out (by decide) (below_alloc hb1 _).size ?_
          intro v2 w2 hown2 hg2 hat2
          have hb2 : Below W.heap.size W w2 := below_grown (below_alloc hb1 _) hg2 ho1.base
          obtain ⟨A2, c2, rfl⟩ := hown2.row.slice
          have hown3 : Own w2 W.heap.size 50 (.slice A2 (xs.length + 1) c2) (xs ++ [Acc.mk ra 0 0]) := by simpa using hown2
          refine hK.out _ _ ⟨hb2, cell_below hb2 g0, cell_below hb2 k2⟩ (fun hHeld3 => ?_)
          (try simp only [Act.put, List.setIfInBounds_toArray, List.set_cons_zero, List.set_cons_succ])
          refine wpHead_done (by kernel_rfl) ?_; simp only [List.drop_succ_cons, List.drop_zero]
          go_wp2_with fail
          refine (take_yes g _ p s kn A2 _ c2 now xs.length w2 (hD2.at_.next hb2)).mono ?_
          rintro e w3 ⟨rfl, hd3, hg3⟩
          have hj3 := (hj.next hb2).grown hg3 hjg
          have j0 := hj3.at 0 _ rfl
          have j1 := hj3.at 1 _ rfl
          have jf := hj3.frozen
          go_wp2_with fail
          refine bodyPost_ret (res_cell rfl _ rfl agg_rep rfl (hj3.chain2)) rfl ?_
          rw [hr.out]
          have hv3 : some (w.heap.size + 1) ≠ (Value.slice A2 (xs.length + 1) c2).ownBlock := hown3.ne lj
          have hvg : some g ≠ (Value.slice A2 (xs.length + 1) c2).ownBlock := hown3.ne lg
          have hS3 : w.grownBy w3 (some g) := (only_of_below (below_next hb hb2) g).trans hg3
          refine ⟨rfl, ⟨_, _, (hd3.far (p := ⟨w.heap.size + 1, 0, none⟩) (by simp; omega) _).far (p := ⟨w.heap.size + 1, 1, none⟩) (by simp; omega) _, ?_, .inl ⟨rfl, rfl⟩⟩, (hS3.setNew (a := ⟨w.heap.size + 1, 0, none⟩) (Nat.le_succ _) _).setNew (a := ⟨w.heap.size + 1, 1, none⟩) (Nat.le_succ _) _⟩
          exact (((hown3.kept hg3 (.inr hvg.symm)).kept ((World.grownBy.refl w3 _).setCell (a := ⟨w.heap.size + 1, 0, none⟩) (g := w.heap.size + 1) rfl (.int .i64 0)) (.inr hv3.symm)).kept ((World.grownBy.refl _ _).setCell (a := ⟨w.heap.size + 1, 1, none⟩) (g := w.heap.size + 1) rfl _) (.inr hv3.symm)).lower (show w.heap.size ≤ W.heap.size by omega)
        exact AllHead.nil
      exact AllHead.nil
    refine AllHead.cons (i := 10) rfl (by kernel_rfl) (fun K hK => ?_) ?_
    · go_simp
      refine hK.out _ _ ⟨below_alloc hbd _, Lib.cell?_alloc_some _ g0d, Lib.cell?_alloc_some _ k2d⟩ (fun hHeld2 => ?_)
      clear hK K
      (try simp only [Act.put, List.setIfInBounds_toArray, List.set_cons_zero, List.set_cons_succ])
      refine wpHead_ready (rs := [6]) (by kernel_rfl) (by simp) ?_
      refine AllHead.cons (i := 6) rfl (by kernel_rfl) (fun K hK => ?_) ?_
      · go_simp
        go_at_call 58
        refine (clone_any _ xs _ (hD2.accs.drew.alloc _) (by omega)).mono ?_
        rintro e w1 ⟨v1, rfl, ho1, hz1⟩
        have hb1 : Below W.heap.size W w1 := below_next (below_alloc hbd _) hz1
        refine hK.out _ _ ⟨hb1, cell_below hb1 g0, cell_below hb1 k2⟩ (fun hHeld1 => ?_)
        clear hK K
        (try simp only [Act.put, List.setIfInBounds_toArray, List.set_cons_zero, List.set_cons_succ])
        refine wpHead_ready (rs := [11]) (by kernel_rfl) (by simp) ?_
        refine AllHead.cons (i := 11) rfl (by kernel_rfl) (fun K hK => ?_) ?_
        · skip
          refine step_append (B := W.heap.size) (xs := xs) (ys := [Acc.mk ra 0 0]) sT_acc (by rfl) (by rfl) v1 (.slice (some ⟨_, 0, none⟩) 1 1) (by rfl) (by rfl) (ho1.lower (by simp)) ((Row.box W.drew (Acc.mk ra 0 0) #[.int .i64 ra, .int .i64 0, .int .i64 0] rfl 50).below hz1) HBY.out (by decide) hb1.size ?_
          intro v2 w2 hown2 hg2 hat2
          have hb2 : Below W.heap.size W w2 := below_grown hb1 hg2 (ho1.lower (B' := W.heap.size) (by simp)).base
          obtain ⟨A2, c2, rfl⟩ := hown2.row.slice
          have hown3 : Own w2 W.heap.size 50 (.slice A2 (xs.length + 1) c2) (xs ++ [Acc.mk ra 0 0]) := by simpa using hown2
          refine hK.out _ _ ⟨hb2, cell_below hb2 g0, cell_below hb2 k2⟩ (fun hHeld3 => ?_)
          (try simp only [Act.put, List.setIfInBounds_toArray, List.set_cons_zero, List.set_cons_succ])
          refine wpHead_done (by kernel_rfl) ?_; simp only [List.drop_succ_cons, List.drop_zero]
          go_wp2_with fail
          refine (take_yes g _ p s kn A2 _ c2 now xs.length w2 (hD2.at_.next hb2)).mono ?_
          rintro e w3 ⟨rfl, hd3, hg3⟩
          have hj3 := (hj.next hb2).grown hg3 hjg
          have j0 := hj3.at 0 _ rfl
          have j1 := hj3.at 1 _ rfl
          have jf := hj3.frozen
          go_wp2_with fail
          refine bodyPost_ret (res_cell rfl _ rfl agg_rep rfl (hj3.chain2)) rfl ?_
          rw [hr.out]
          have hv3 : some (w.heap.size + 1) ≠ (Value.slice A2 (xs.length + 1) c2).ownBlock := hown3.ne lj
          have hvg : some g ≠ (Value.slice A2 (xs.length + 1) c2).ownBlock := hown3.ne lg
          have hS3 : w.grownBy w3 (some g) := (only_of_below (below_next hb hb2) g).trans hg3
          refine ⟨rfl, ⟨_, _, (hd3.far (p := ⟨w.heap.size + 1, 0, none⟩) (by simp; omega) _).far (p := ⟨w.heap.size + 1, 1, none⟩) (by simp; omega) _, ?_, .inl ⟨rfl, rfl⟩⟩, (hS3.setNew (a := ⟨w.heap.size + 1, 0, none⟩) (Nat.le_succ _) _).setNew (a := ⟨w.heap.size + 1, 1, none⟩) (Nat.le_succ _) _⟩
          exact (((hown3.kept hg3 (.inr hvg.symm)).kept ((World.grownBy.refl w3 _).setCell (a := ⟨w.heap.size + 1, 0, none⟩) (g := w.heap.size + 1) rfl (.int .i64 0)) (.inr hv3.symm)).kept ((World.grownBy.refl _ _).setCell (a := ⟨w.heap.size + 1, 1, none⟩) (g := w.heap.size + 1) rfl _) (.inr hv3.symm)).lower (show w.heap.size ≤ W.heap.size by omega)
        exact AllHead.nil
      exact AllHead.nil
    exact AllHead.nil
end Go.Proofs.YthjmficglpfgpaaDoor
