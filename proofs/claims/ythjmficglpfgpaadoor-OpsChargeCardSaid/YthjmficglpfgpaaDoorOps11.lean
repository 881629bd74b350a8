/- The desk: auth. -/
import Derived.Test.YthjmficglpfgpaaDoorDefs
namespace Go.Proofs.YthjmficglpfgpaaDoor
set_option linter.unusedVariables false
set_option linter.unusedSimpArgs false
open Go Go.RowKit Enc
set_option maxRecDepth 100000
set_option maxHeartbeats 800000

/-- The end of auth: what is stored, and what is told. -/
theorem auth_res {w V U w2 : World} {g : Nat} {p A2 A3 : Value} {s kn x y : Value} {now id : Int} {ys : List Acc} {ps qs : List Pay} (hb2 : Below U.heap.size U w2) (gl : g < w.heap.size) (hgU : w.grownBy U (some g)) (hVU : V.heap.size ≤ U.heap.size) (hwV : w.heap.size + 1 < V.heap.size)
    (hd6 : DeskAt w2 g A2 p s kn now) (ho5 : Own U V.heap.size 50 A2 ys) (h3 : Own w2 U.heap.size 47 A3 qs) :
    DeskRes w (((w2.setCell ⟨g, 1, none⟩ A3).setCell ⟨w.heap.size + 1, 0, none⟩ x).setCell ⟨w.heap.size + 1, 1, none⟩ y) g p s kn now ps (.ok (ys, qs, id)) (.returned (Rep.val ⟨0, id⟩)) := by
  have hv1 : some (w.heap.size + 1) ≠ A2.ownBlock := ho5.ne hwV
  have hv0 : some g ≠ A2.ownBlock := ho5.ne (by omega)
  have hq1 : some (w.heap.size + 1) ≠ A3.ownBlock := h3.ne (by omega)
  have hq0 : some g ≠ A3.ownBlock := h3.ne (by omega)
  have hd7 : DeskAt (w2.setCell ⟨g, 1, none⟩ A3) g A2 A3 s kn now := hd6.set_ 1 A3
  refine ⟨rfl, ⟨A2, A3, (hd7.far (p := ⟨w.heap.size + 1, 0, none⟩) (by simp; omega) _).far (p := ⟨w.heap.size + 1, 1, none⟩) (by simp; omega) _, ?_, .inr ?_⟩, ?_⟩
  · exact ((((ho5.below hb2).kept ((World.grownBy.refl w2 _).setCell (a := ⟨g, 1, none⟩) (g := g) rfl A3) (.inr hv0.symm)).kept ((World.grownBy.refl _ _).setCell (a := ⟨w.heap.size + 1, 0, none⟩) (g := w.heap.size + 1) rfl x) (.inr hv1.symm)).kept ((World.grownBy.refl _ _).setCell (a := ⟨w.heap.size + 1, 1, none⟩) (g := w.heap.size + 1) rfl y) (.inr hv1.symm)).lower (by omega)
  · exact (((h3.kept ((World.grownBy.refl w2 _).setCell (a := ⟨g, 1, none⟩) (g := g) rfl A3) (.inr hq0.symm)).kept ((World.grownBy.refl _ _).setCell (a := ⟨w.heap.size + 1, 0, none⟩) (g := w.heap.size + 1) rfl x) (.inr hq1.symm)).kept ((World.grownBy.refl _ _).setCell (a := ⟨w.heap.size + 1, 1, none⟩) (g := w.heap.size + 1) rfl y) (.inr hq1.symm)).lower (by omega)
  · exact (((hgU.trans (only_of_below hb2 g)).setCell (a := ⟨g, 1, none⟩) rfl A3).setNew (a := ⟨w.heap.size + 1, 0, none⟩) (Nat.le_succ _) x).setNew (a := ⟨w.heap.size + 1, 1, none⟩) (Nat.le_succ _) y
theorem auth_desk (g : Nat) (a p s kn : Value) (now : Int) (xs : List Acc) (ps : List Pay) (r : Req) (w : World) (hD : Desk w g a p s kn now xs ps) (hP : PaysOk xs ps) :
    Calls Tryd.prog 62 #[.pointer (some ⟨g, 0, none⟩), r.val] w fun e w' => DeskRes w w' g p s kn now ps (deskAuth now xs ps r) e := by
  obtain ⟨key, op, ra, rb, amt, legs, til⟩ := r
  have gl := hD.at_.lt
  obtain ⟨A, c, hpv⟩ := hD.pays.slice
  subst hpv
  have hD2 := ((hD.alloc (.cells #[.int .i64 key, .int .i64 op, .int .i64 ra, .int .i64 rb, .int .i64 amt, .int .i64 legs, .int .i64 til] 29)).alloc (.cells #[.int .i64 0, .int .i64 0] 40)).alloc (.cells #[.int .i64 ra, .int .i64 rb] 3)
  have hk : Row ((((w.alloc (.cells #[.int .i64 key, .int .i64 op, .int .i64 ra, .int .i64 rb, .int .i64 amt, .int .i64 legs, .int .i64 til] 29)).alloc (.cells #[.int .i64 0, .int .i64 0] 40))).alloc (.cells #[.int .i64 ra, .int .i64 rb] 3)) (.slice (some ⟨w.heap.size + 1 + 1, 0, none⟩) 2 2) [ra, rb] := by
    have := Row.lit ((w.alloc (.cells #[.int .i64 key, .int .i64 op, .int .i64 ra, .int .i64 rb, .int .i64 amt, .int .i64 legs, .int .i64 til] 29)).alloc (.cells #[.int .i64 0, .int .i64 0] 40)) [ra, rb] #[.int .i64 ra, .int .i64 rb] rfl 3 2 rfl (by decide)
    simpa using this
  have HC := Lib.hid (clients_any g a _ s kn now xs [ra, rb] _ _ hD2.at_ hD2.accs hk)
  have hj := (Blk.new1 w (.cells #[.int .i64 key, .int .i64 op, .int .i64 ra, .int .i64 rb, .int .i64 amt, .int .i64 legs, .int .i64 til] 29) 40 #[.int .i64 0, .int .i64 0]).alloc (.cells #[.int .i64 ra, .int .i64 rb] 3)
  have hbr := ((Blk.new w 29 #[.int .i64 key, .int .i64 op, .int .i64 ra, .int .i64 rb, .int .i64 amt, .int .i64 legs, .int .i64 til]).alloc (.cells #[.int .i64 0, .int .i64 0] 40)).alloc (.cells #[.int .i64 ra, .int .i64 rb] 3)
  have hb := below_alloc (below_alloc (below_alloc (Below.refl w.heap.size w) (.cells #[.int .i64 key, .int .i64 op, .int .i64 ra, .int .i64 rb, .int .i64 amt, .int .i64 legs, .int .i64 til] 29)) (.cells #[.int .i64 0, .int .i64 0] 40)) (.cells #[.int .i64 ra, .int .i64 rb] 3)
  cases hc : allCl xs [ra, rb] with
  | false =>
    have hr := Lib.hid (show deskAuth now xs ps ⟨key, op, ra, rb, amt, legs, til⟩ = .error 2 by simp only [deskAuth]; rw [if_pos (by rw [← allCl_two]; exact hc)])
    have hcc := Lib.hid hc
    clear hc
    go_enter Tryd.func62, Tryd.ntmps62
    go_wp2_with fail
    refine HC.out.mono ?_
    rintro e w' ⟨rfl, rfl⟩
    rw [hcc.out]
    have j0 := hj.at 0 _ rfl
    have j1 := hj.at 1 _ rfl
    have jf := hj.frozen
    go_wp2_with fail
    refine bodyPost_ret (res_cell rfl _ rfl agg_rep rfl ((Blk.new1 _ _ _ _).alloc _)) rfl ?_
    rw [hr.out]
    refine ⟨rfl, ?_⟩
    (repeat (first | (with_reducible refine below_drew ?_) | (with_reducible refine below_drewN ?_ _) | (with_reducible refine below_alloc ?_ _) | ((with_reducible refine Below.setCell ?_ ?_ _); rotate_left; (focus (first | (simp; done) | (simp; omega))))))
    exact Below.refl _ _
  | true =>
    have hcc := Lib.hid hc
    clear hc
    have hcd : ¬ (isCl xs ra && isCl xs rb) = false := by rw [← allCl_two, hcc.out]; simp
    by_cases h1 : ra = rb ∨ til ≤ now
    · have hr := Lib.hid (show deskAuth now xs ps ⟨key, op, ra, rb, amt, legs, til⟩ = .error 1 by simp only [deskAuth]; rw [if_neg hcd, if_pos h1])
      clear hcd
      go_enter Tryd.func62, Tryd.ntmps62
      go_wp2_with fail
      refine HC.out.mono ?_
      rintro e w' ⟨rfl, rfl⟩
      rw [hcc.out]
      obtain ⟨k0, k1, k2, k3, k4, k5, k6⟩ := hbr.c7
      obtain ⟨g0, g1, g2, g3, g4⟩ := hD2.at_.c5
      go_wp2_with fail
      refine abs_world (fun W => Desk W g a (.slice A ps.length c) s kn now xs ps ∧ Blk W (w.heap.size + 1) 40 #[.int .i64 0, .int .i64 0] ∧ Blk W w.heap.size 29 (rcells ⟨key, op, ra, rb, amt, legs, til⟩) ∧ Below w.heap.size w W) ⟨hD2, hj, hbr, hb⟩ ?_
      clear hD2 hj hbr hb k0 k1 k2 k3 k4 k5 k6 g0 g1 g2 g3 g4 hk HC
      rintro W ⟨hD2, hj, hbr, hb⟩
      obtain ⟨k0, k1, k2, k3, k4, k5, k6⟩ := hbr.c7
      obtain ⟨g0, g1, g2, g3, g4⟩ := hD2.at_.c5
      by_cases h2 : ra = rb
      · subst h2
        go_quiet (fail)
        have j0 := hj.at 0 _ rfl
        have j1 := hj.at 1 _ rfl
        have jf := hj.frozen
        go_wp2_with fail
        refine bodyPost_ret (res_cell rfl _ rfl agg_rep rfl ((hj.drewN _).chain2)) rfl ?_
        rw [hr.out]
        refine ⟨rfl, ?_⟩
        (repeat (first | (with_reducible refine below_drew ?_) | (with_reducible refine below_drewN ?_ _) | (with_reducible refine below_alloc ?_ _) | ((with_reducible refine Below.setCell ?_ ?_ _); rotate_left; (focus (first | (simp; done) | (simp; omega))))))
        exact hb
      · have h2' : (ra == rb) = false := by simpa using h2
        have h3 : til ≤ now := by rcases h1 with h | h; exact absurd h h2; exact h
        go_quiet (fail)
        have j0 := hj.at 0 _ rfl
        have j1 := hj.at 1 _ rfl
        have jf := hj.frozen
        go_wp2_with fail
        refine bodyPost_ret (res_cell rfl _ rfl agg_rep rfl ((hj.drewN _).chain2)) rfl ?_
        rw [hr.out]
        refine ⟨rfl, ?_⟩
        (repeat (first | (with_reducible refine below_drew ?_) | (with_reducible refine below_drewN ?_ _) | (with_reducible refine below_alloc ?_ _) | ((with_reducible refine Below.setCell ?_ ?_ _); rotate_left; (focus (first | (simp; done) | (simp; omega))))))
        exact hb
    · have h2 : (ra == rb) = false := by simp; omega
      have h3 : decide (til ≤ now) = false := by simp; omega
      go_enter Tryd.func62, Tryd.ntmps62
      go_wp2_with fail
      refine HC.out.mono ?_
      rintro e w' ⟨rfl, rfl⟩
      rw [hcc.out]
      obtain ⟨k0, k1, k2, k3, k4, k5, k6⟩ := hbr.c7
      obtain ⟨g0, g1, g2, g3, g4⟩ := hD2.at_.c5
      go_wp2_with fail
      refine abs_world (fun W => Desk W g a (.slice A ps.length c) s kn now xs ps ∧ Blk W (w.heap.size + 1) 40 #[.int .i64 0, .int .i64 0] ∧ Blk W w.heap.size 29 (rcells ⟨key, op, ra, rb, amt, legs, til⟩) ∧ Below w.heap.size w W) ⟨hD2, hj, hbr, hb⟩ ?_
      clear hD2 hj hbr hb k0 k1 k2 k3 k4 k5 k6 g0 g1 g2 g3 g4 hk HC
      rintro W ⟨hD2, hj, hbr, hb⟩
      obtain ⟨k0, k1, k2, k3, k4, k5, k6⟩ := hbr.c7
      obtain ⟨g0, g1, g2, g3, g4⟩ := hD2.at_.c5
      have h3' : ¬ til ≤ now := by omega
      have lenH := hP.1
      by_cases h64 : ps.length ≥ 64
      · have hr := Lib.hid (show deskAuth now xs ps ⟨key, op, ra, rb, amt, legs, til⟩ = .error 7 by simp only [deskAuth]; rw [if_neg hcd, if_neg h1, if_pos h64])
        have h64' : (64 : Int) ≤ ps.length := by omega
        clear hcd h1 h64
        have j0 := hj.at 0 _ rfl
        have j1 := hj.at 1 _ rfl
        have jf := hj.frozen
        go_quiet (fail)
        go_wp2_with fail
        refine bodyPost_ret (res_cell rfl _ rfl agg_rep rfl ((hj.drewN _).chain2)) rfl ?_
        rw [hr.out]
        refine ⟨rfl, ?_⟩
        (repeat (first | (with_reducible refine below_drew ?_) | (with_reducible refine below_drewN ?_ _) | (with_reducible refine below_alloc ?_ _) | ((with_reducible refine Below.setCell ?_ ?_ _); rotate_left; (focus (first | (simp; done) | (simp; omega))))))
        exact hb
      · have h64' : (ps.length : Int) < 64 := by omega
        have HX := Lib.hid (show deskAuth now xs ps ⟨key, op, ra, rb, amt, legs, til⟩ = match hold xs ra amt with | .error c => .error c | .ok ys => .ok (ys, ps ++ [⟨ra, rb, amt, 0, 0, 0, til, 0⟩], ps.length) by simp only [deskAuth]; rw [if_neg hcd, if_neg h1, if_neg h64]; cases hold xs ra amt <;> rfl)
        clear hcd h1
        go_quiet (fail)
        go_wp2_with fail
        refine abs_world (fun V => Desk V g a (.slice A ps.length c) s kn now xs ps ∧ Blk V (w.heap.size + 1) 40 #[.int .i64 0, .int .i64 0] ∧ Blk V w.heap.size 29 (rcells ⟨key, op, ra, rb, amt, legs, til⟩) ∧ Below w.heap.size w V) ⟨hD2.below (below_drewN (Below.refl _ _) _), hj.drewN _, hbr.drewN _, below_drewN hb _⟩ ?_
        clear hD2 hj hbr hb k0 k1 k2 k3 k4 k5 k6 g0 g1 g2 g3 g4
        rintro V ⟨hD2, hj, hbr, hb⟩
        obtain ⟨k0, k1, k2, k3, k4, k5, k6⟩ := hbr.c7
        obtain ⟨g0, g1, g2, g3, g4⟩ := hD2.at_.c5
        have hbW : Below V.heap.size V V.drew := below_drew (Below.refl _ _)
        have hSof : ∀ w', Below V.heap.size V w' → (Below V.heap.size V w' ∧ w'.cell? ⟨g, 0, none⟩ = some a ∧ w'.cell? ⟨w.heap.size, 2, none⟩ = some (.int .i64 ra) ∧ w'.cell? ⟨w.heap.size, 4, none⟩ = some (.int .i64 amt)) :=
          fun w' hb => ⟨hb, cell_below hb g0, cell_below hb k2, cell_below hb k4⟩
        cases hhd : hold xs ra amt with
        | error ec =>
          have hr := Lib.hid (HX.out.trans (by rw [hhd]))
          have hm := Lib.hid hhd
          clear hhd HX
          go_region_held3 (fun w' => Below V.heap.size V w' ∧ w'.cell? ⟨g, 0, none⟩ = some a ∧ w'.cell? ⟨w.heap.size, 2, none⟩ = some (.int .i64 ra) ∧ w'.cell? ⟨w.heap.size, 4, none⟩ = some (.int .i64 amt))
            (first | exact hSof _ hbW | exact hSof _ hbA | assumption)
            ((go_at_call 36; refine (hold_any a xs ra amt _ hD2.accs.drew hD2.good.abs).mono ?_; intro e w2 hres; rw [hm.out] at hres; obtain ⟨hz2, rfl⟩ := hres; have hbA : Below V.heap.size V w2 := below_next hbW hz2))
          clear k0 k1 k2 k3 k4 k5 k6 g0 g1 g2 g3 g4
          have hD3 := hD2.below hbA
          have hj3 := hj.next hbA
          obtain ⟨g0, g1, g2, g3, g4⟩ := hD3.at_.c5
          go_wp2_with fail
          refine (take_no g ec _ _ _ hD3.err).mono ?_
          rintro e w3 ⟨rfl, hz3⟩
          have hj4 := hj3.next hz3
          have j0 := hj4.at 0 _ rfl
          have j1 := hj4.at 1 _ rfl
          have jf := hj4.frozen
          have lj4 := hj4.lt
          go_wp2_with fail
          refine bodyPost_ret (res_cell rfl _ rfl agg_rep rfl ((hj4.chain2).alloc _)) rfl ?_
          rw [hr.out]
          refine ⟨rfl, ?_⟩
          (repeat (first | (with_reducible refine below_drew ?_) | (with_reducible refine below_drewN ?_ _) | (with_reducible refine below_alloc ?_ _) | ((with_reducible refine Below.setCell ?_ ?_ _); rotate_left; (focus (first | (simp; done) | (simp; omega))))))
          exact below_next (below_next hb hbA) hz3
        | ok ys =>
          have hr := Lib.hid (HX.out.trans (by rw [hhd]))
          have hm := Lib.hid hhd
          clear hhd HX
          go_region_held3 (fun w' => Below V.heap.size V w' ∧ w'.cell? ⟨g, 0, none⟩ = some a ∧ w'.cell? ⟨w.heap.size, 2, none⟩ = some (.int .i64 ra) ∧ w'.cell? ⟨w.heap.size, 4, none⟩ = some (.int .i64 amt))
            (first | exact hSof _ hbW | exact hSof _ hbA | assumption)
            ((go_at_call 36; refine (hold_any a xs ra amt _ hD2.accs.drew hD2.good.abs).mono ?_; intro e w2 hres; rw [hm.out] at hres; obtain ⟨hz2, v2, rfl, ho2⟩ := hres; have hbA : Below V.heap.size V w2 := below_next hbW hz2))
          clear k0 k1 k2 k3 k4 k5 k6 g0 g1 g2 g3 g4
          have hD3 := hD2.below hbA
          have hj3 := hj.next hbA
          have hbr3 := hbr.next hbA
          obtain ⟨A2, c2, rfl⟩ := ho2.row.slice
          obtain ⟨g0, g1, g2, g3, g4⟩ := hD3.at_.c5
          go_wp2_with fail
          refine (take_yes g a _ s kn A2 _ c2 now ps.length _ hD3.at_).mono ?_
          rintro e w3 ⟨rfl, hd4, hg4⟩
          go_wp2_with fail
          have hzs := hbA.size
          have lgV := hD2.at_.lt
          have ljV := hj.lt
          have hng1 : some (w.heap.size + 1) ≠ some g := by intro h; injection h with h; omega
          have hng0 : some w.heap.size ≠ some g := by intro h; injection h with h; omega
          have hvg : some g ≠ (Value.slice A2 ys.length c2).ownBlock := ho2.ne lgV
          refine abs_world (fun U => DeskAt U g (.slice A2 ys.length c2) (.slice A ps.length c) s kn now ∧ Row U (.slice A ps.length c) ps ∧ Own U V.heap.size 50 (.slice A2 ys.length c2) ys ∧ Blk U (w.heap.size + 1) 40 #[.int .i64 0, .int .i64 0] ∧ Blk U w.heap.size 29 (rcells ⟨key, op, ra, rb, amt, legs, til⟩) ∧ Blk U w3.heap.size 40 #[.int .i64 0, .int .i64 ps.length] ∧ w.grownBy U (some g) ∧ V.heap.size ≤ U.heap.size)
            ⟨hd4.alloc _, (hD3.pays.only hD3.ne hg4).alloc _, ((ho2.kept hg4 (.inr hvg.symm)).alloc _), (hj3.grown hg4 hng1).alloc _, (hbr3.grown hg4 hng0).alloc _, Blk.new _ _ _, ((only_of_below (below_next hb hbA) g).trans hg4).alloc_ _, by have := hg4.size; simp; omega⟩ ?_
          clear hd4 hj3 hbr3 g0 g1 g2 g3 g4
          rintro U ⟨hd5, hp5, ho5, hj5, hbr5, hout, hgU, hVU⟩
          obtain ⟨g0, g1, g2, g3, g4⟩ := hd5.c5
          obtain ⟨k0, k1, k2, k3, k4, k5, k6⟩ := hbr5.c7
          clear g0 g1 g2 g3 g4 k0 k1 k2 k3 k4 k5 k6
          obtain ⟨g0, g1, g2, g3, g4⟩ := hd5.c5
          obtain ⟨k0, k1, k2, k3, k4, k5, k6⟩ := hbr5.c7
          have lg := hd5.lt
          have lb := hbr5.lt
          have hbd : Below U.heap.size U U.drew := below_drew (Below.refl _ _)
          have hSof : ∀ w', Below U.heap.size U w' → (Below U.heap.size U w' ∧ w'.cell? ⟨g, 1, none⟩ = some (.slice A ps.length c) ∧ w'.cell? ⟨w.heap.size, 2, none⟩ = some (.int .i64 ra) ∧ w'.cell? ⟨w.heap.size, 3, none⟩ = some (.int .i64 rb) ∧ w'.cell? ⟨w.heap.size, 4, none⟩ = some (.int .i64 amt) ∧ w'.cell? ⟨w.heap.size, 6, none⟩ = some (.int .i64 til)) :=
            fun w' hb => ⟨hb, cell_below hb g1, cell_below hb k2, cell_below hb k3, cell_below hb k4, cell_below hb k6⟩
          clear g0 g1 g2 g3 g4 k0 k1 k2 k3 k4 k5 k6
          refine wp_region_head 18 (fun w' => Below U.heap.size U w' ∧ w'.cell? ⟨g, 1, none⟩ = some (.slice A ps.length c) ∧ w'.cell? ⟨w.heap.size, 2, none⟩ = some (.int .i64 ra) ∧ w'.cell? ⟨w.heap.size, 3, none⟩ = some (.int .i64 rb) ∧ w'.cell? ⟨w.heap.size, 4, none⟩ = some (.int .i64 amt) ∧ w'.cell? ⟨w.heap.size, 6, none⟩ = some (.int .i64 til)) (by kernel_rfl) (by kernel_rfl) (hSof _ hbd) (fun hHeld => ?_)
          refine wpHead_take (i := 0) (v := ?_) rfl (by kernel_rfl) (by kernel_rfl) (by kernel_rfl) (by kernel_rfl) (fun _ _ _ h => h) (Or.inl ⟨by rfl, fun w hSw => ?_⟩) (by assumption) ?_; rotate_left; (focus ((try dsimp only at hSw); go_simp <;> with_reducible rfl)); (try simp only [Act.put, List.setIfInBounds_toArray, List.set_cons_zero, List.set_cons_succ])
          refine wpHead_take (i := 1) (v := ?_) rfl (by kernel_rfl) (by kernel_rfl) (by kernel_rfl) (by kernel_rfl) (fun _ _ _ h => h) (Or.inl ⟨by rfl, fun w hSw => ?_⟩) (by assumption) ?_; rotate_left; (focus ((try dsimp only at hSw); go_simp <;> with_reducible rfl)); (try simp only [Act.put, List.setIfInBounds_toArray, List.set_cons_zero, List.set_cons_succ])
          refine wpHead_take (i := 2) (v := ?_) rfl (by kernel_rfl) (by kernel_rfl) (by kernel_rfl) (by kernel_rfl) (fun _ _ _ h => h) (Or.inl ⟨by rfl, fun w hSw => ?_⟩) (by assumption) ?_; rotate_left; (focus ((try dsimp only at hSw); go_simp <;> with_reducible rfl)); (try simp only [Act.put, List.setIfInBounds_toArray, List.set_cons_zero, List.set_cons_succ])
          refine wpHead_take (i := 3) (v := ?_) rfl (by kernel_rfl) (by kernel_rfl) (by kernel_rfl) (by kernel_rfl) (fun _ _ _ h => h) (Or.inl ⟨by rfl, fun w hSw => ?_⟩) (by assumption) ?_; rotate_left; (focus ((try dsimp only at hSw); go_simp <;> with_reducible rfl)); (try simp only [Act.put, List.setIfInBounds_toArray, List.set_cons_zero, List.set_cons_succ])
          refine wpHead_take (i := 4) (v := ?_) rfl (by kernel_rfl) (by kernel_rfl) (by kernel_rfl) (by kernel_rfl) (fun _ _ _ h => h) (Or.inl ⟨by rfl, fun w hSw => ?_⟩) (by assumption) ?_; rotate_left; (focus ((try dsimp only at hSw); go_simp <;> with_reducible rfl)); (try simp only [Act.put, List.setIfInBounds_toArray, List.set_cons_zero, List.set_cons_succ])
          refine wpHead_take (i := 5) (v := ?_) rfl (by kernel_rfl) (by kernel_rfl) (by kernel_rfl) (by kernel_rfl) (fun _ _ _ h => h) (Or.inl ⟨by rfl, fun w hSw => ?_⟩) (by assumption) ?_; rotate_left; (focus ((try dsimp only at hSw); go_simp <;> with_reducible rfl)); (try simp only [Act.put, List.setIfInBounds_toArray, List.set_cons_zero, List.set_cons_succ])
          refine wpHead_take (i := 7) (v := ?_) rfl (by kernel_rfl) (by kernel_rfl) (by kernel_rfl) (by kernel_rfl) (fun _ _ _ h => h) (Or.inl ⟨by rfl, fun w hSw => ?_⟩) (by assumption) ?_; rotate_left; (focus ((try dsimp only at hSw); go_simp <;> with_reducible rfl)); (try simp only [Act.put, List.setIfInBounds_toArray, List.set_cons_zero, List.set_cons_succ])
          refine wpHead_take (i := 8) (v := ?_) rfl (by kernel_rfl) (by kernel_rfl) (by kernel_rfl) (by kernel_rfl) (fun _ _ _ h => h) (Or.inl ⟨by rfl, fun w hSw => ?_⟩) (by assumption) ?_; rotate_left; (focus ((try dsimp only at hSw); go_simp <;> with_reducible rfl)); (try simp only [Act.put, List.setIfInBounds_toArray, List.set_cons_zero, List.set_cons_succ])
          refine wpHead_take (i := 9) (v := ?_) rfl (by kernel_rfl) (by kernel_rfl) (by kernel_rfl) (by kernel_rfl) (fun _ _ _ h => h) (Or.inl ⟨by rfl, fun w hSw => ?_⟩) (by assumption) ?_; rotate_left; (focus ((try dsimp only at hSw); go_simp <;> with_reducible rfl)); (try simp only [Act.put, List.setIfInBounds_toArray, List.set_cons_zero, List.set_cons_succ])
          refine wpHead_take (i := 10) (v := ?_) rfl (by kernel_rfl) (by kernel_rfl) (by kernel_rfl) (by kernel_rfl) (fun _ _ _ h => h) (Or.inl ⟨by rfl, fun w hSw => ?_⟩) (by assumption) ?_; rotate_left; (focus ((try dsimp only at hSw); go_simp <;> with_reducible rfl)); (try simp only [Act.put, List.setIfInBounds_toArray, List.set_cons_zero, List.set_cons_succ])
          refine wpHead_take (i := 11) (v := ?_) rfl (by kernel_rfl) (by kernel_rfl) (by kernel_rfl) (by kernel_rfl) (fun _ _ _ h => h) (Or.inl ⟨by rfl, fun w hSw => ?_⟩) (by assumption) ?_; rotate_left; (focus ((try dsimp only at hSw); go_simp <;> with_reducible rfl)); (try simp only [Act.put, List.setIfInBounds_toArray, List.set_cons_zero, List.set_cons_succ])
          refine wpHead_take (i := 12) (v := ?_) rfl (by kernel_rfl) (by kernel_rfl) (by kernel_rfl) (by kernel_rfl) (fun _ _ _ h => h) (Or.inl ⟨by rfl, fun w hSw => ?_⟩) (by assumption) ?_; rotate_left; (focus ((try dsimp only at hSw); go_simp <;> with_reducible rfl)); (try simp only [Act.put, List.setIfInBounds_toArray, List.set_cons_zero, List.set_cons_succ])
          refine wpHead_take (i := 13) (v := ?_) rfl (by kernel_rfl) (by kernel_rfl) (by kernel_rfl) (by kernel_rfl) (fun _ _ _ h => h) (Or.inl ⟨by rfl, fun w hSw => ?_⟩) (by assumption) ?_; rotate_left; (focus ((try dsimp only at hSw); go_simp <;> with_reducible rfl)); (try simp only [Act.put, List.setIfInBounds_toArray, List.set_cons_zero, List.set_cons_succ])
          refine wpHead_take (i := 14) (v := ?_) rfl (by kernel_rfl) (by kernel_rfl) (by kernel_rfl) (by kernel_rfl) (fun _ _ _ h => h) (Or.inl ⟨by rfl, fun w hSw => ?_⟩) (by assumption) ?_; rotate_left; (focus ((try dsimp only at hSw); go_simp <;> with_reducible rfl)); (try simp only [Act.put, List.setIfInBounds_toArray, List.set_cons_zero, List.set_cons_succ])
          refine wpHead_take (i := 15) (v := ?_) rfl (by kernel_rfl) (by kernel_rfl) (by kernel_rfl) (by kernel_rfl) (fun _ _ _ h => h) (Or.inl ⟨by rfl, fun w hSw => ?_⟩) (by assumption) ?_; rotate_left; (focus ((try dsimp only at hSw); go_simp <;> with_reducible rfl)); (try simp only [Act.put, List.setIfInBounds_toArray, List.set_cons_zero, List.set_cons_succ])
          have HBY := Lib.hid (show (ps.length + [(Pay.mk ra rb amt 0 0 0 til 0)].length) * 64 ≤ 140737488355328 by simp; omega)
          have HBZ := Lib.hid (show (([] : List Pay).length + ps.length) * 64 ≤ 140737488355328 by simp; omega)
          refine wpHead_ready (rs := [6, 16]) (by kernel_rfl) (by simp) ?_
          refine AllHead.cons (i := 6) rfl (by kernel_rfl) (fun K hK => ?_) ?_
          · skip
            refine step_append (B := U.heap.size) (xs := []) (ys := ps) sT_pay (by rfl) (by rfl) (.slice none 0 0) (.slice A ps.length c) (by rfl) (by rfl) (Own.nil _ _ _) hp5.drew HBZ.out (by decide) hbd.size ?_
            intro v1 w1 hown1 hg1 hat1
            have hb1 : Below U.heap.size U w1 := below_grown hbd hg1 (by simp [Value.ownBlock])
            have hown1' : Own w1 U.heap.size 47 v1 ps := by simpa using hown1
            refine hK.out _ _ (hSof _ hb1) (fun hHeld1 => ?_)
            clear hK K
            (try simp only [Act.put, List.setIfInBounds_toArray, List.set_cons_zero, List.set_cons_succ])
            refine wpHead_ready (rs := [16]) (by kernel_rfl) (by simp) ?_
            refine AllHead.cons (i := 16) rfl (by kernel_rfl) (fun K hK => ?_) ?_
            · go_simp
              refine hK.out _ _ (hSof _ (below_alloc hb1 _)) (fun hHeld2 => ?_)
              clear hK K
              (try simp only [Act.put, List.setIfInBounds_toArray, List.set_cons_zero, List.set_cons_succ])
              refine wpHead_ready (rs := [17]) (by kernel_rfl) (by simp) ?_
              refine AllHead.cons (i := 17) rfl (by kernel_rfl) (fun K hK => ?_) ?_
              · skip
                refine step_append (B := U.heap.size) (xs := ps) (ys := [(Pay.mk ra rb amt 0 0 0 til 0)]) sT_pay (by rfl) (by rfl) v1 (.slice (some ⟨w1.heap.size, 0, none⟩) 1 1) (by rfl) (by rfl) (hown1'.alloc _) (Row.box w1 (Pay.mk ra rb amt 0 0 0 til 0) #[.int .i64 ra, .int .i64 rb, .int .i64 amt, .int .i64 0, .int .i64 0, .int .i64 0, .int .i64 til, .int .i64 0] rfl 47) HBY.out (by decide) (below_alloc hb1 _).size ?_
                intro v2 w2 hown2 hg2 hat2
                have hb2 : Below U.heap.size U w2 := below_grown (below_alloc hb1 _) hg2 hown1'.base
                obtain ⟨A3, c3, rfl⟩ := hown2.row.slice
                have hown3 : Own w2 U.heap.size 47 (.slice A3 (ps.length + 1) c3) (ps ++ [(Pay.mk ra rb amt 0 0 0 til 0)]) := by simpa using hown2
                refine hK.out _ _ (hSof _ hb2) (fun hHeld3 => ?_)
                clear hHeld3
                (try simp only [Act.put, List.setIfInBounds_toArray, List.set_cons_zero, List.set_cons_succ])
                refine wpHead_done (by kernel_rfl) ?_; simp only [List.drop_succ_cons, List.drop_zero]
                have hd6 := hd5.next hb2
                have hj6 := hj5.next hb2
                have ho6 := hout.next hb2
                obtain ⟨q0, q1, q2, q3, q4⟩ := hd6.c5
                have gf := hd6.frozen
                have jf := hj6.frozen
                obtain ⟨j0, j1⟩ := hj6.c2
                obtain ⟨r0, r1⟩ := ho6.c2
                have hne1 : w3.heap.size ≠ g := Blk.ne_ ho6 hd6 (by decide)
                have hne1' := Ne.symm hne1
                have hne2 : w.heap.size + 1 ≠ g := by omega
                have lj6 := hj6.lt
                have lo6 := ho6.lt
                go_wp2_with fail
                refine bodyPost_ret (res_cell rfl _ rfl agg_rep rfl ((hj6.far (p := ⟨g, 1, none⟩) hne2 _).chain2)) rfl ?_
                rw [hr.out]
                exact auth_res hb2 gl hgU hVU ljV hd6 ho5 hown3
              exact AllHead.nil
            exact AllHead.nil
          refine AllHead.cons (i := 16) rfl (by kernel_rfl) (fun K hK => ?_) ?_
          · go_simp
            refine hK.out _ _ (hSof _ (below_alloc hbd _)) (fun hHeld2 => ?_)
            clear hK K
            (try simp only [Act.put, List.setIfInBounds_toArray, List.set_cons_zero, List.set_cons_succ])
            refine wpHead_ready (rs := [6]) (by kernel_rfl) (by simp) ?_
            refine AllHead.cons (i := 6) rfl (by kernel_rfl) (fun K hK => ?_) ?_
            · skip
              refine step_append (B := U.heap.size) (xs := []) (ys := ps) sT_pay (by rfl) (by rfl) (.slice none 0 0) (.slice A ps.length c) (by rfl) (by rfl) (Own.nil _ _ _) (hp5.drew.alloc _) HBZ.out (by decide) (below_alloc hbd _).size ?_
              intro v1 w1 hown1 hg1 hat1
              have hb1 : Below U.heap.size U w1 := below_grown (below_alloc hbd _) hg1 (by simp [Value.ownBlock])
              have hown1' : Own w1 U.heap.size 47 v1 ps := by simpa using hown1
              refine hK.out _ _ (hSof _ hb1) (fun hHeld1 => ?_)
              clear hK K
              (try simp only [Act.put, List.setIfInBounds_toArray, List.set_cons_zero, List.set_cons_succ])
              refine wpHead_ready (rs := [17]) (by kernel_rfl) (by simp) ?_
              refine AllHead.cons (i := 17) rfl (by kernel_rfl) (fun K hK => ?_) ?_
              · skip
                refine step_append (B := U.heap.size) (xs := ps) (ys := [(Pay.mk ra rb amt 0 0 0 til 0)]) sT_pay (by rfl) (by rfl) v1 (.slice (some ⟨U.drew.heap.size, 0, none⟩) 1 1) (by rfl) (by rfl) hown1' ((Row.box U.drew (Pay.mk ra rb amt 0 0 0 til 0) #[.int .i64 ra, .int .i64 rb, .int .i64 amt, .int .i64 0, .int .i64 0, .int .i64 0, .int .i64 til, .int .i64 0] rfl 47).below ((Below.refl _ _).grown hg1 (Nat.le_refl _) (by simp [Value.ownBlock]))) HBY.out (by decide) hb1.size ?_
                intro v2 w2 hown2 hg2 hat2
                have hb2 : Below U.heap.size U w2 := below_grown hb1 hg2 hown1'.base
                obtain ⟨A3, c3, rfl⟩ := hown2.row.slice
                have hown3 : Own w2 U.heap.size 47 (.slice A3 (ps.length + 1) c3) (ps ++ [(Pay.mk ra rb amt 0 0 0 til 0)]) := by simpa using hown2
                refine hK.out _ _ (hSof _ hb2) (fun hHeld3 => ?_)
                clear hHeld3
                (try simp only [Act.put, List.setIfInBounds_toArray, List.set_cons_zero, List.set_cons_succ])
                refine wpHead_done (by kernel_rfl) ?_; simp only [List.drop_succ_cons, List.drop_zero]
                have hd6 := hd5.next hb2
                have hj6 := hj5.next hb2
                have ho6 := hout.next hb2
                obtain ⟨q0, q1, q2, q3, q4⟩ := hd6.c5
                have gf := hd6.frozen
                have jf := hj6.frozen
                obtain ⟨j0, j1⟩ := hj6.c2
                obtain ⟨r0, r1⟩ := ho6.c2
                have hne1 : w3.heap.size ≠ g := Blk.ne_ ho6 hd6 (by decide)
                have hne1' := Ne.symm hne1
                have hne2 : w.heap.size + 1 ≠ g := by omega
                have lj6 := hj6.lt
                have lo6 := ho6.lt
                go_wp2_with fail
                refine bodyPost_ret (res_cell rfl _ rfl agg_rep rfl ((hj6.far (p := ⟨g, 1, none⟩) hne2 _).chain2)) rfl ?_
                rw [hr.out]
                exact auth_res hb2 gl hgU hVU ljV hd6 ho5 hown3
              exact AllHead.nil
            exact AllHead.nil
          exact AllHead.nil
end Go.Proofs.YthjmficglpfgpaaDoor
