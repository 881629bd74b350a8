/- The desk: auth. The desk: charge (printed by tools/deskpay.py). -/
import Derived.Test.YthjmficglpfgpaaDoorX4
namespace Go.Proofs.YthjmficglpfgpaaDoor
set_option linter.unusedVariables false
set_option linter.unusedSimpArgs false
open Go Go.RowKit Enc
set_option maxRecDepth 100000
set_option maxHeartbeats 800000

/-- The end of auth: what is stored, and what is told. -/
theorem auth_res {w V U w2 : World} {g : Nat} {p A2 A3 : Value} {s kn x y : Value} {now id : Int} {ys : List Acc} {ps qs : List Pay} (hb2 : Below U.heap.size U w2) (gl : g < w.heap.size) (hgU : w.grownBy U (some g)) (hVU : V.heap.size ≤ U.heap.size) (hwV : w.heap.size + 1 < V.heap.size)
    (hd6 : DeskAt w2 g A2 p s kn now) (ho5 : Own U V.heap.size 50 A2 ys) (h3 : Own w2 U.heap.size 47 A3 qs) :
    DeskRes w (((w2.setCell ⟨g, 1, none⟩ A3).setCell ⟨w.heap.size + 1, 0, none⟩ x).setCell ⟨w.heap.size + 1, 1, none⟩ y) g p s kn now ps (.ok (ys, qs, id)) (.returned (Rep.val ⟨0, id⟩)) := by
  have hv1 : some (w.heap.size + 1) ≠ A2.ownBlock := ho5.ne hwV
  have hv0 : some g ≠ A2.ownBlock := ho5.ne (by omega)
  have hq1 : some (w.heap.size + 1) ≠ A3.ownBlock := h3.ne (by omega)
  have hq0 : some g ≠ A3.ownBlock := h3.ne (by omega)
  have hd7 : DeskAt (w2.setCell ⟨g, 1, none⟩ A3) g A2 A3 s kn now := hd6.set_ 1 A3
  refine ⟨rfl, ⟨A2, A3, (hd7.far (p := ⟨w.heap.size + 1, 0, none⟩) (by simp; omega) _).far (p := ⟨w.heap.size + 1, 1, none⟩) (by simp; omega) _, ?_, .inr ?_⟩, ?_⟩
  · exact ((((ho5.below hb2).kept ((World.grownBy.refl w2 _).setCell (a := ⟨g, 1, none⟩) (g := g) rfl A3) (.inr hv0.symm)).kept ((World.grownBy.refl _ _).setCell (a := ⟨w.heap.size + 1, 0, none⟩) (g := w.heap.size + 1) rfl x) (.inr hv1.symm)).kept ((World.grownBy.refl _ _).setCell (a := ⟨w.heap.size + 1, 1, none⟩) (g := w.heap.size + 1) rfl y) (.inr hv1.symm)).lower (by omega)
  · exact (((h3.kept ((World.grownBy.refl w2 _).setCell (a := ⟨g, 1, none⟩) (g := g) rfl A3) (.inr hq0.symm)).kept ((World.grownBy.refl _ _).setCell (a := ⟨w.heap.size + 1, 0, none⟩) (g := w.heap.size + 1) rfl x) (.inr hq1.symm)).kept ((World.grownBy.refl _ _).setCell (a := ⟨w.heap.size + 1, 1, none⟩) (g := w.heap.size + 1) rfl y) (.inr hq1.symm)).lower (by omega)
  · exact (((hgU.trans (only_of_below hb2 g)).setCell (a := ⟨g, 1, none⟩) rfl A3).setNew (a := ⟨w.heap.size + 1, 0, none⟩) (Nat.le_succ _) x).setNew (a := ⟨w.heap.size + 1, 1, none⟩) (Nat.le_succ _) y
theorem auth_desk (g : Nat) (a p s kn : Value) (now : Int) (xs : List Acc) (ps : List Pay) (r : Req) (w : World) (hD : Desk w g a p s kn now xs ps) (hP : PaysOk xs ps) :
    Calls Tryd.prog 62 #[.pointer (some ⟨g, 0, none⟩), r.val] w fun e w' => DeskRes w w' g p s kn now ps (deskAuth now xs ps r) e := by
  obtain ⟨key, op, ra, rb, amt, legs, til⟩ := r
  have gl := hD.at_.lt
  obtain ⟨A, c, hpv⟩ := hD.pays.slice
  subst hpv
  have hD2 := ((hD.alloc (.cells #[.int .i64 key, .int .i64 op, .int .i64 ra, .int .i64 rb, .int .i64 amt, .int .i64 legs, .int .i64 til] 29)).alloc (.cells #[.int .i64 0, .int .i64 0] 40)).alloc (.cells #[.int .i64 ra, .int .i64 rb] 3)
  have hk : Row ((((w.alloc (.cells #[.int .i64 key, .int .i64 op, .int .i64 ra, .int .i64 rb, .int .i64 amt, .int .i64 legs, .int .i64 til] 29)).alloc (.cells #[.int .i64 0, .int .i64 0] 40))).alloc (.cells #[.int .i64 ra, .int .i64 rb] 3)) (.slice (some ⟨w.heap.size + 1 + 1, 0, none⟩) 2 2) [ra, rb] := by
    have := Row.lit ((w.alloc (.cells #[.int .i64 key, .int .i64 op, .int .i64 ra, .int .i64 rb, .int .i64 amt, .int .i64 legs, .int .i64 til] 29)).alloc (.cells #[.int .i64 0, .int .i64 0] 40)) [ra, rb] #[.int .i64 ra, .int .i64 rb] rfl 3 2 rfl (by decide)
    simpa using this
  have HC := Lib.hid (clients_any g a _ s kn now xs [ra, rb] _ _ hD2.at_ hD2.accs hk)
  have hj := (Blk.new1 w (.cells #[.int .i64 key, .int .i64 op, .int .i64 ra, .int .i64 rb, .int .i64 amt, .int .i64 legs, .int .i64 til] 29) 40 #[.int .i64 0, .int .i64 0]).alloc (.cells #[.int .i64 ra, .int .i64 rb] 3)
  have hbr := ((Blk.new w 29 #[.int .i64 key, .int .i64 op, .int .i64 ra, .int .i64 rb, .int .i64 amt, .int .i64 legs, .int .i64 til]).alloc (.cells #[.int .i64 0, .int .i64 0] 40)).alloc (.cells #[.int .i64 ra, .int .i64 rb] 3)
  have hb := below_alloc (below_alloc (below_alloc (Below.refl w.heap.size w) (.cells #[.int .i64 key, .int .i64 op, .int .i64 ra, .int .i64 rb, .int .i64 amt, .int .i64 legs, .int .i64 til] 29)) (.cells #[.int .i64 0, .int .i64 0] 40)) (.cells #[.int .i64 ra, .int .i64 rb] 3)
  cases hc : allCl xs [ra, rb] with
  | false =>
    have hr := Lib.hid (show deskAuth now xs ps ⟨key, op, ra, rb, amt, legs, til⟩ = .error 2 by simp only [deskAuth]; rw [if_pos (by rw [← allCl_two]; exact hc)])
    have hcc := Lib.hid hc
    clear hc
    go_enter Tryd.func62, Tryd.ntmps62
    go_wp2_with fail
    refine HC.out.mono ?_
    rintro e w' ⟨rfl, rfl⟩
    rw [hcc.out]
    have j0 := hj.at 0 _ rfl
    have j1 := hj.at 1 _ rfl
    have jf := hj.frozen
    go_wp2_with fail
    refine bodyPost_ret (res_cell rfl _ rfl agg_rep rfl ((Blk.new1 _ _ _ _).alloc _)) rfl ?_
    rw [hr.out]
    refine ⟨rfl, ?_⟩
    (repeat (first | (with_reducible refine below_drew ?_) | (with_reducible refine below_drewN ?_ _) | (with_reducible refine below_alloc ?_ _) | ((with_reducible refine Below.setCell ?_ ?_ _); rotate_left; (focus (first | (simp; done) | (simp; omega))))))
    exact Below.refl _ _
  | true =>
    have hcc := Lib.hid hc
    clear hc
    have hcd : ¬ (isCl xs ra && isCl xs rb) = false := by rw [← allCl_two, hcc.out]; simp
    by_cases h1 : ra = rb ∨ til ≤ now
    · have hr := Lib.hid (show deskAuth now xs ps ⟨key, op, ra, rb, amt, legs, til⟩ = .error 1 by simp only [deskAuth]; rw [if_neg hcd, if_pos h1])
      clear hcd
      go_enter Tryd.func62, Tryd.ntmps62
      go_wp2_with fail
      refine HC.out.mono ?_
      rintro e w' ⟨rfl, rfl⟩
      rw [hcc.out]
      obtain ⟨k0, k1, k2, k3, k4, k5, k6⟩ := hbr.c7
      obtain ⟨g0, g1, g2, g3, g4⟩ := hD2.at_.c5
      go_wp2_with fail
      refine abs_world (fun W => Desk W g a (.slice A ps.length c) s kn now xs ps ∧ Blk W (w.heap.size + 1) 40 #[.int .i64 0, .int .i64 0] ∧ Blk W w.heap.size 29 (rcells ⟨key, op, ra, rb, amt, legs, til⟩) ∧ Below w.heap.size w W) ⟨hD2, hj, hbr, hb⟩ ?_
      clear hD2 hj hbr hb k0 k1 k2 k3 k4 k5 k6 g0 g1 g2 g3 g4 hk HC
      rintro W ⟨hD2, hj, hbr, hb⟩
      obtain ⟨k0, k1, k2, k3, k4, k5, k6⟩ := hbr.c7
      obtain ⟨g0, g1, g2, g3, g4⟩ := hD2.at_.c5
      by_cases h2 : ra = rb
      · subst h2
        go_quiet (fail)
        have j0 := hj.at 0 _ rfl
        have j1 := hj.at 1 _ rfl
        have jf := hj.frozen
        go_wp2_with fail
        refine bodyPost_ret (res_cell rfl _ rfl agg_rep rfl ((hj.drewN _).chain2)) rfl ?_
        rw [hr.out]
        refine ⟨rfl, ?_⟩
        (repeat (first | (with_reducible refine below_drew ?_) | (with_reducible refine below_drewN ?_ _) | (with_reducible refine below_alloc ?_ _) | ((with_reducible refine Below.setCell ?_ ?_ _); rotate_left; (focus (first | (simp; done) | (simp; omega))))))
        exact hb
      · have h2' : (ra == rb) = false := by simpa using h2
        have h3 : til ≤ now := by rcases h1 with h | h; exact absurd h h2; exact h
        go_quiet (fail)
        have j0 := hj.at 0 _ rfl
        have j1 := hj.at 1 _ rfl
        have jf := hj.frozen
        go_wp2_with fail
        refine bodyPost_ret (res_cell rfl _ rfl agg_rep rfl ((hj.drewN _).chain2)) rfl ?_
        rw [hr.out]
        refine ⟨rfl, ?_⟩
        (repeat (first | (with_reducible refine below_drew ?_) | (with_reducible refine below_drewN ?_ _) | (with_reducible refine below_alloc ?_ _) | ((with_reducible refine Below.setCell ?_ ?_ _); rotate_left; (focus (first | (simp; done) | (simp; omega))))))
        exact hb
    · have h2 : (ra == rb) = false := by simp; omega
      have h3 : decide (til ≤ now) = false := by simp; omega
      go_enter Tryd.func62, Tryd.ntmps62
      go_wp2_with fail
      refine HC.out.mono ?_
      rintro e w' ⟨rfl, rfl⟩
      rw [hcc.out]
      obtain ⟨k0, k1, k2, k3, k4, k5, k6⟩ := hbr.c7
      obtain ⟨g0, g1, g2, g3, g4⟩ := hD2.at_.c5
      go_wp2_with fail
      refine abs_world (fun W => Desk W g a (.slice A ps.length c) s kn now xs ps ∧ Blk W (w.heap.size + 1) 40 #[.int .i64 0, .int .i64 0] ∧ Blk W w.heap.size 29 (rcells ⟨key, op, ra, rb, amt, legs, til⟩) ∧ Below w.heap.size w W) ⟨hD2, hj, hbr, hb⟩ ?_
      clear hD2 hj hbr hb k0 k1 k2 k3 k4 k5 k6 g0 g1 g2 g3 g4 hk HC
      rintro W ⟨hD2, hj, hbr, hb⟩
      obtain ⟨k0, k1, k2, k3, k4, k5, k6⟩ := hbr.c7
      obtain ⟨g0, g1, g2, g3, g4⟩ := hD2.at_.c5
      have h3' : ¬ til ≤ now := by omega
      have lenH := hP.1
      by_cases h64 : ps.length ≥ 64
      · have hr := Lib.hid (show deskAuth now xs ps ⟨key, op, ra, rb, amt, legs, til⟩ = .error 7 by simp only [deskAuth]; rw [if_neg hcd, if_neg h1, if_pos h64])
        have h64' : (64 : Int) ≤ ps.length := by omega
        clear hcd h1 h64
        have j0 := hj.at 0 _ rfl
        have j1 := hj.at 1 _ rfl
        have jf := hj.frozen
        go_quiet (fail)
        go_wp2_with fail
        refine bodyPost_ret (res_cell rfl _ rfl agg_rep rfl ((hj.drewN _).chain2)) rfl ?_
        rw [hr.out]
        refine ⟨rfl, ?_⟩
        (repeat (first | (with_reducible refine below_drew ?_) | (with_reducible refine below_drewN ?_ _) | (with_reducible refine below_alloc ?_ _) | ((with_reducible refine Below.setCell ?_ ?_ _); rotate_left; (focus (first | (simp; done) | (simp; omega))))))
        exact hb
      · have h64' : (ps.length : Int) < 64 := by omega
        have HX := Lib.hid (show deskAuth now xs ps ⟨key, op, ra, rb, amt, legs, til⟩ = match hold xs ra amt with | .error c => .error c | .ok ys => .ok (ys, ps ++ [⟨ra, rb, amt, 0, 0, 0, til, 0⟩], ps.length) by simp only [deskAuth]; rw [if_neg hcd, if_neg h1, if_neg h64]; cases hold xs ra amt <;> rfl)
        clear hcd h1
        go_quiet (fail)
        go_wp2_with fail
        refine abs_world (fun V => Desk V g a (.slice A ps.length c) s kn now xs ps ∧ Blk V (w.heap.size + 1) 40 #[.int .i64 0, .int .i64 0] ∧ Blk V w.heap.size 29 (rcells ⟨key, op, ra, rb, amt, legs, til⟩) ∧ Below w.heap.size w V) ⟨hD2.below (below_drewN (Below.refl _ _) _), hj.drewN _, hbr.drewN _, below_drewN hb _⟩ ?_
        clear hD2 hj hbr hb k0 k1 k2 k3 k4 k5 k6 g0 g1 g2 g3 g4
        rintro V ⟨hD2, hj, hbr, hb⟩
        obtain ⟨k0, k1, k2, k3, k4, k5, k6⟩ := hbr.c7
        obtain ⟨g0, g1, g2, g3, g4⟩ := hD2.at_.c5
        have hbW : Below V.heap.size V V.drew := below_drew (Below.refl _ _)
        have hSof : ∀ w', Below V.heap.size V w' → (Below V.heap.size V w' ∧ w'.cell? ⟨g, 0, none⟩ = some a ∧ w'.cell? ⟨w.heap.size, 2, none⟩ = some (.int .i64 ra) ∧ w'.cell? ⟨w.heap.size, 4, none⟩ = some (.int .i64 amt)) :=
          fun w' hb => ⟨hb, cell_below hb g0, cell_below hb k2, cell_below hb k4⟩
        cases hhd : hold xs ra amt with
        | error ec =>
          have hr := Lib.hid (HX.out.trans (by rw [hhd]))
          have hm := Lib.hid hhd
          clear hhd HX
          go_region_held3 (fun w' => Below V.heap.size V w' ∧ w'.cell? ⟨g, 0, none⟩ = some a ∧ w'.cell? ⟨w.heap.size, 2, none⟩ = some (.int .i64 ra) ∧ w'.cell? ⟨w.heap.size, 4, none⟩ = some (.int .i64 amt))
            (first | exact hSof _ hbW | exact hSof _ hbA | assumption)
            ((go_at_call 36; refine (hold_any a xs ra amt _ hD2.accs.drew hD2.good.abs).mono ?_; intro e w2 hres; rw [hm.out] at hres; obtain ⟨hz2, rfl⟩ := hres; have hbA : Below V.heap.size V w2 := below_next hbW hz2))
          clear k0 k1 k2 k3 k4 k5 k6 g0 g1 g2 g3 g4
          have hD3 := hD2.below hbA
          have hj3 := hj.next hbA
          obtain ⟨g0, g1, g2, g3, g4⟩ := hD3.at_.c5
          go_wp2_with fail
          refine (take_no g ec _ _ _ hD3.err).mono ?_
          rintro e w3 ⟨rfl, hz3⟩
          have hj4 := hj3.next hz3
          have j0 := hj4.at 0 _ rfl
          have j1 := hj4.at 1 _ rfl
          have jf := hj4.frozen
          have lj4 := hj4.lt
          go_wp2_with fail
          refine bodyPost_ret (res_cell rfl _ rfl agg_rep rfl ((hj4.chain2).alloc _)) rfl ?_
          rw [hr.out]
          refine ⟨rfl, ?_⟩
          (repeat (first | (with_reducible refine below_drew ?_) | (with_reducible refine below_drewN ?_ _) | (with_reducible refine below_alloc ?_ _) | ((with_reducible refine Below.setCell ?_ ?_ _); rotate_left; (focus (first | (simp; done) | (simp; omega))))))
          exact below_next (below_next hb hbA) hz3
        | ok ys =>
          have hr := Lib.hid (HX.out.trans (by rw [hhd]))
          have hm := Lib.hid hhd
          clear hhd HX
          go_region_held3 (fun w' => Below V.heap.size V w' ∧ w'.cell? ⟨g, 0, none⟩ = some a ∧ w'.cell? ⟨w.heap.size, 2, none⟩ = some (.int .i64 ra) ∧ w'.cell? ⟨w.heap.size, 4, none⟩ = some (.int .i64 amt))
            (first | exact hSof _ hbW | exact hSof _ hbA | assumption)
            ((go_at_call 36; refine (hold_any a xs ra amt _ hD2.accs.drew hD2.good.abs).mono ?_; intro e w2 hres; rw [hm.out] at hres; obtain ⟨hz2, v2, rfl, ho2⟩ := hres; have hbA : Below V.heap.size V w2 := below_next hbW hz2))
          clear k0 k1 k2 k3 k4 k5 k6 g0 g1 g2 g3 g4
          have hD3 := hD2.below hbA
          have hj3 := hj.next hbA
          have hbr3 := hbr.next hbA
          obtain ⟨A2, c2, rfl⟩ := ho2.row.slice
          obtain ⟨g0, g1, g2, g3, g4⟩ := hD3.at_.c5
          go_wp2_with fail
          refine (take_yes g a _ s kn A2 _ c2 now ps.length _ hD3.at_).mono ?_
          rintro e w3 ⟨rfl, hd4, hg4⟩
          go_wp2_with fail
          have hzs := hbA.size
          have lgV := hD2.at_.lt
          have ljV := hj.lt
          have hng1 : some (w.heap.size + 1) ≠ some g := by intro h; injection h with h; omega
          have hng0 : some w.heap.size ≠ some g := by intro h; injection h with h; omega
          have hvg : some g ≠ (Value.slice A2 ys.length c2).ownBlock := ho2.ne lgV
          refine abs_world (fun U => DeskAt U g (.slice A2 ys.length c2) (.slice A ps.length c) s kn now ∧ Row U (.slice A ps.length c) ps ∧ Own U V.heap.size 50 (.slice A2 ys.length c2) ys ∧ Blk U (w.heap.size + 1) 40 #[.int .i64 0, .int .i64 0] ∧ Blk U w.heap.size 29 (rcells ⟨key, op, ra, rb, amt, legs, til⟩) ∧ Blk U w3.heap.size 40 #[.int .i64 0, .int .i64 ps.length] ∧ w.grownBy U (some g) ∧ V.heap.size ≤ U.heap.size)
            ⟨hd4.alloc _, (hD3.pays.only hD3.ne hg4).alloc _, ((ho2.kept hg4 (.inr hvg.symm)).alloc _), (hj3.grown hg4 hng1).alloc _, (hbr3.grown hg4 hng0).alloc _, Blk.new _ _ _, ((only_of_below (below_next hb hbA) g).trans hg4).alloc_ _, by have := hg4.size; simp; omega⟩ ?_
          clear hd4 hj3 hbr3 g0 g1 g2 g3 g4
          rintro U ⟨hd5, hp5, ho5, hj5, hbr5, hout, hgU, hVU⟩
          obtain ⟨g0, g1, g2, g3, g4⟩ := hd5.c5
          obtain ⟨k0, k1, k2, k3, k4, k5, k6⟩ := hbr5.c7
          clear g0 g1 g2 g3 g4 k0 k1 k2 k3 k4 k5 k6
          obtain ⟨g0, g1, g2, g3, g4⟩ := hd5.c5
          obtain ⟨k0, k1, k2, k3, k4, k5, k6⟩ := hbr5.c7
          have lg := hd5.lt
          have lb := hbr5.lt
          have hbd : Below U.heap.size U U.drew := below_drew (Below.refl _ _)
          have hSof : ∀ w', Below U.heap.size U w' → (Below U.heap.size U w' ∧ w'.cell? ⟨g, 1, none⟩ = some (.slice A ps.length c) ∧ w'.cell? ⟨w.heap.size, 2, none⟩ = some (.int .i64 ra) ∧ w'.cell? ⟨w.heap.size, 3, none⟩ = some (.int .i64 rb) ∧ w'.cell? ⟨w.heap.size, 4, none⟩ = some (.int .i64 amt) ∧ w'.cell? ⟨w.heap.size, 6, none⟩ = some (.int .i64 til)) :=
            fun w' hb => ⟨hb, cell_below hb g1, cell_below hb k2, cell_below hb k3, cell_below hb k4, cell_below hb k6⟩
          clear g0 g1 g2 g3 g4 k0 k1 k2 k3 k4 k5 k6
          refine wp_region_head 18 (fun w' => Below U.heap.size U w' ∧ w'.cell? ⟨g, 1, none⟩ = some (.slice A ps.length c) ∧ w'.cell? ⟨w.heap.size, 2, none⟩ = some (.int .i64 ra) ∧ w'.cell? ⟨w.heap.size, 3, none⟩ = some (.int .i64 rb) ∧ w'.cell? ⟨w.heap.size, 4, none⟩ = some (.int .i64 amt) ∧ w'.cell? ⟨w.heap.size, 6, none⟩ = some (.int .i64 til)) (by kernel_rfl) (by kernel_rfl) (hSof _ hbd) (fun hHeld => ?_)
          refine wpHead_take (i := 0) (v := ?_) rfl (by kernel_rfl) (by kernel_rfl) (by kernel_rfl) (by kernel_rfl) (fun _ _ _ h => h) (Or.inl ⟨by rfl, fun w hSw => ?_⟩) (by assumption) ?_; rotate_left; (focus ((try dsimp only at hSw); go_simp <;> with_reducible rfl)); (try simp only [Act.put, List.setIfInBounds_toArray, List.set_cons_zero, List.set_cons_succ])
          refine wpHead_take (i := 1) (v := ?_) rfl (by kernel_rfl) (by kernel_rfl) (by kernel_rfl) (by kernel_rfl) (fun _ _ _ h => h) (Or.inl ⟨by rfl, fun w hSw => ?_⟩) (by assumption) ?_; rotate_left; (focus ((try dsimp only at hSw); go_simp <;> with_reducible rfl)); (try simp only [Act.put, List.setIfInBounds_toArray, List.set_cons_zero, List.set_cons_succ])
          refine wpHead_take (i := 2) (v := ?_) rfl (by kernel_rfl) (by kernel_rfl) (by kernel_rfl) (by kernel_rfl) (fun _ _ _ h => h) (Or.inl ⟨by rfl, fun w hSw => ?_⟩) (by assumption) ?_; rotate_left; (focus ((try dsimp only at hSw); go_simp <;> with_reducible rfl)); (try simp only [Act.put, List.setIfInBounds_toArray, List.set_cons_zero, List.set_cons_succ])
          refine wpHead_take (i := 3) (v := ?_) rfl (by kernel_rfl) (by kernel_rfl) (by kernel_rfl) (by kernel_rfl) (fun _ _ _ h => h) (Or.inl ⟨by rfl, fun w hSw => ?_⟩) (by assumption) ?_; rotate_left; (focus ((try dsimp only at hSw); go_simp <;> with_reducible rfl)); (try simp only [Act.put, List.setIfInBounds_toArray, List.set_cons_zero, List.set_cons_succ])
          refine wpHead_take (i := 4) (v := ?_) rfl (by kernel_rfl) (by kernel_rfl) (by kernel_rfl) (by kernel_rfl) (fun _ _ _ h => h) (Or.inl ⟨by rfl, fun w hSw => ?_⟩) (by assumption) ?_; rotate_left; (focus ((try dsimp only at hSw); go_simp <;> with_reducible rfl)); (try simp only [Act.put, List.setIfInBounds_toArray, List.set_cons_zero, List.set_cons_succ])
          refine wpHead_take (i := 5) (v := ?_) rfl (by kernel_rfl) (by kernel_rfl) (by kernel_rfl) (by kernel_rfl) (fun _ _ _ h => h) (Or.inl ⟨by rfl, fun w hSw => ?_⟩) (by assumption) ?_; rotate_left; (focus ((try dsimp only at hSw); go_simp <;> with_reducible rfl)); (try simp only [Act.put, List.setIfInBounds_toArray, List.set_cons_zero, List.set_cons_succ])
          refine wpHead_take (i := 7) (v := ?_) rfl (by kernel_rfl) (by kernel_rfl) (by kernel_rfl) (by kernel_rfl) (fun _ _ _ h => h) (Or.inl ⟨by rfl, fun w hSw => ?_⟩) (by assumption) ?_; rotate_left; (focus ((try dsimp only at hSw); go_simp <;> with_reducible rfl)); (try simp only [Act.put, List.setIfInBounds_toArray, List.set_cons_zero, List.set_cons_succ])
          refine wpHead_take (i := 8) (v := ?_) rfl (by kernel_rfl) (by kernel_rfl) (by kernel_rfl) (by kernel_rfl) (fun _ _ _ h => h) (Or.inl ⟨by rfl, fun w hSw => ?_⟩) (by assumption) ?_; rotate_left; (focus ((try dsimp only at hSw); go_simp <;> with_reducible rfl)); (try simp only [Act.put, List.setIfInBounds_toArray, List.set_cons_zero, List.set_cons_succ])
          refine wpHead_take (i := 9) (v := ?_) rfl (by kernel_rfl) (by kernel_rfl) (by kernel_rfl) (by kernel_rfl) (fun _ _ _ h => h) (Or.inl ⟨by rfl, fun w hSw => ?_⟩) (by assumption) ?_; rotate_left; (focus ((try dsimp only at hSw); go_simp <;> with_reducible rfl)); (try simp only [Act.put, List.setIfInBounds_toArray, List.set_cons_zero, List.set_cons_succ])
          refine wpHead_take (i := 10) (v := ?_) rfl (by kernel_rfl) (by kernel_rfl) (by kernel_rfl) (by kernel_rfl) (fun _ _ _ h => h) (Or.inl ⟨by rfl, fun w hSw => ?_⟩) (by assumption) ?_; rotate_left; (focus ((try dsimp only at hSw); go_simp <;> with_reducible rfl)); (try simp only [Act.put, List.setIfInBounds_toArray, List.set_cons_zero, List.set_cons_succ])
          refine wpHead_take (i := 11) (v := ?_) rfl (by kernel_rfl) (by kernel_rfl) (by kernel_rfl) (by kernel_rfl) (fun _ _ _ h => h) (Or.inl ⟨by rfl, fun w hSw => ?_⟩) (by assumption) ?_; rotate_left; (focus ((try dsimp only at hSw); go_simp <;> with_reducible rfl)); (try simp only [Act.put, List.setIfInBounds_toArray, List.set_cons_zero, List.set_cons_succ])
          refine wpHead_take (i := 12) (v := ?_) rfl (by kernel_rfl) (by kernel_rfl) (by kernel_rfl) (by kernel_rfl) (fun _ _ _ h => h) (Or.inl ⟨by rfl, fun w hSw => ?_⟩) (by assumption) ?_; rotate_left; (focus ((try dsimp only at hSw); go_simp <;> with_reducible rfl)); (try simp only [Act.put, List.setIfInBounds_toArray, List.set_cons_zero, List.set_cons_succ])
          refine wpHead_take (i := 13) (v := ?_) rfl (by kernel_rfl) (by kernel_rfl) (by kernel_rfl) (by kernel_rfl) (fun _ _ _ h => h) (Or.inl ⟨by rfl, fun w hSw => ?_⟩) (by assumption) ?_; rotate_left; (focus ((try dsimp only at hSw); go_simp <;> with_reducible rfl)); (try simp only [Act.put, List.setIfInBounds_toArray, List.set_cons_zero, List.set_cons_succ])
          refine wpHead_take (i := 14) (v := ?_) rfl (by kernel_rfl) (by kernel_rfl) (by kernel_rfl) (by kernel_rfl) (fun _ _ _ h => h) (Or.inl ⟨by rfl, fun w hSw => ?_⟩) (by assumption) ?_; rotate_left; (focus ((try dsimp only at hSw); go_simp <;> with_reducible rfl)); (try simp only [Act.put, List.setIfInBounds_toArray, List.set_cons_zero, List.set_cons_succ])
          refine wpHead_take (i := 15) (v := ?_) rfl (by kernel_rfl) (by kernel_rfl) (by kernel_rfl) (by kernel_rfl) (fun _ _ _ h => h) (Or.inl ⟨by rfl, fun w hSw => ?_⟩) (by assumption) ?_; rotate_left; (focus ((try dsimp only at hSw); go_simp <;> with_reducible rfl)); (try simp only [Act.put, List.setIfInBounds_toArray, List.set_cons_zero, List.set_cons_succ])
          have HBY := Lib.hid (show (ps.length + [(Pay.mk ra rb amt 0 0 0 til 0)].length) * 64 ≤ 140737488355328 by simp; omega)
          have HBZ := Lib.hid (show (([] : List Pay).length + ps.length) * 64 ≤ 140737488355328 by simp; omega)
          refine wpHead_ready (rs := [6, 16]) (by kernel_rfl) (by simp) ?_
          refine AllHead.cons (i := 6) rfl (by kernel_rfl) (fun K hK => ?_) ?_
          · skip
            refine step_append (B := U.heap.size) (xs := []) (ys := ps) sT_pay (by rfl) (by rfl) (.slice none 0 0) (.slice A ps.length c) (by rfl) (by rfl) (Own.nil _ _ _) hp5.drew HBZ.out (by decide) hbd.size ?_
            intro v1 w1 hown1 hg1 hat1
            have hb1 : Below U.heap.size U w1 := below_grown hbd hg1 (by simp [Value.ownBlock])
            have hown1' : Own w1 U.heap.size 47 v1 ps := by simpa using hown1
            refine hK.out _ _ (hSof _ hb1) (fun hHeld1 => ?_)
            clear hK K
            (try simp only [Act.put, List.setIfInBounds_toArray, List.set_cons_zero, List.set_cons_succ])
            refine wpHead_ready (rs := [16]) (by kernel_rfl) (by simp) ?_
            refine AllHead.cons (i := 16) rfl (by kernel_rfl) (fun K hK => ?_) ?_
            · go_simp
              refine hK.out _ _ (hSof _ (below_alloc hb1 _)) (fun hHeld2 => ?_)
              clear hK K
              (try simp only [Act.put, List.setIfInBounds_toArray, List.set_cons_zero, List.set_cons_succ])
              refine wpHead_ready (rs := [17]) (by kernel_rfl) (by simp) ?_
              refine AllHead.cons (i := 17) rfl (by kernel_rfl) (fun K hK => ?_) ?_
              · skip
                refine step_append (B := U.heap.size) (xs := ps) (ys := [(Pay.mk ra rb amt 0 0 0 til 0)]) sT_pay (by rfl) (by rfl) v1 (.slice (some ⟨w1.heap.size, 0, none⟩) 1 1) (by rfl) (by rfl) (hown1'.alloc _) (Row.box w1 (Pay.mk ra rb amt 0 0 0 til 0) #[.int .i64 ra, .int .i64 rb, .int .i64 amt, .int .i64 0, .int .i64 0, .int .i64 0, .int .i64 til, .int .i64 0] rfl 47) HBY.out (by decide) (below_alloc hb1 _).size ?_
                intro v2 w2 hown2 hg2 hat2
                have hb2 : Below U.heap.size U w2 := below_grown (below_alloc hb1 _) hg2 hown1'.base
                obtain ⟨A3, c3, rfl⟩ := hown2.row.slice
                have hown3 : Own w2 U.heap.size 47 (.slice A3 (ps.length + 1) c3) (ps ++ [(Pay.mk ra rb amt 0 0 0 til 0)]) := by simpa using hown2
                refine hK.out _ _ (hSof _ hb2) (fun hHeld3 => ?_)
                clear hHeld3
                (try simp only [Act.put, List.setIfInBounds_toArray, List.set_cons_zero, List.set_cons_succ])
                refine wpHead_done (by kernel_rfl) ?_; simp only [List.drop_succ_cons, List.drop_zero]
                have hd6 := hd5.next hb2
                have hj6 := hj5.next hb2
                have ho6 := hout.next hb2
                obtain ⟨q0, q1, q2, q3, q4⟩ := hd6.c5
                have gf := hd6.frozen
                have jf := hj6.frozen
                obtain ⟨j0, j1⟩ := hj6.c2
                obtain ⟨r0, r1⟩ := ho6.c2
                have hne1 : w3.heap.size ≠ g := Blk.ne_ ho6 hd6 (by decide)
                have hne1' := Ne.symm hne1
                have hne2 : w.heap.size + 1 ≠ g := by omega
                have lj6 := hj6.lt
                have lo6 := ho6.lt
                go_wp2_with fail
                refine bodyPost_ret (res_cell rfl _ rfl agg_rep rfl ((hj6.far (p := ⟨g, 1, none⟩) hne2 _).chain2)) rfl ?_
                rw [hr.out]
                exact auth_res hb2 gl hgU hVU ljV hd6 ho5 hown3
              exact AllHead.nil
            exact AllHead.nil
          refine AllHead.cons (i := 16) rfl (by kernel_rfl) (fun K hK => ?_) ?_
          · go_simp
            refine hK.out _ _ (hSof _ (below_alloc hbd _)) (fun hHeld2 => ?_)
            clear hK K
            (try simp only [Act.put, List.setIfInBounds_toArray, List.set_cons_zero, List.set_cons_succ])
            refine wpHead_ready (rs := [6]) (by kernel_rfl) (by simp) ?_
            refine AllHead.cons (i := 6) rfl (by kernel_rfl) (fun K hK => ?_) ?_
            · skip
              refine step_append (B := U.heap.size) (xs := []) (ys := ps) sT_pay (by rfl) (by rfl) (.slice none 0 0) (.slice A ps.length c) (by rfl) (by rfl) (Own.nil _ _ _) (hp5.drew.alloc _) HBZ.out (by decide) (below_alloc hbd _).size ?_
              intro v1 w1 hown1 hg1 hat1
              have hb1 : Below U.heap.size U w1 := below_grown (below_alloc hbd _) hg1 (by simp [Value.ownBlock])
              have hown1' : Own w1 U.heap.size 47 v1 ps := by simpa using hown1
              refine hK.out _ _ (hSof _ hb1) (fun hHeld1 => ?_)
              clear hK K
              (try simp only [Act.put, List.setIfInBounds_toArray, List.set_cons_zero, List.set_cons_succ])
              refine wpHead_ready (rs := [17]) (by kernel_rfl) (by simp) ?_
              refine AllHead.cons (i := 17) rfl (by kernel_rfl) (fun K hK => ?_) ?_
              · skip
                refine step_append (B := U.heap.size) (xs := ps) (ys := [(Pay.mk ra rb amt 0 0 0 til 0)]) sT_pay (by rfl) (by rfl) v1 (.slice (some ⟨U.drew.heap.size, 0, none⟩) 1 1) (by rfl) (by rfl) hown1' ((Row.box U.drew (Pay.mk ra rb amt 0 0 0 til 0) #[.int .i64 ra, .int .i64 rb, .int .i64 amt, .int .i64 0, .int .i64 0, .int .i64 0, .int .i64 til, .int .i64 0] rfl 47).below ((Below.refl _ _).grown hg1 (Nat.le_refl _) (by simp [Value.ownBlock]))) HBY.out (by decide) hb1.size ?_
                intro v2 w2 hown2 hg2 hat2
                have hb2 : Below U.heap.size U w2 := below_grown hb1 hg2 hown1'.base
                obtain ⟨A3, c3, rfl⟩ := hown2.row.slice
                have hown3 : Own w2 U.heap.size 47 (.slice A3 (ps.length + 1) c3) (ps ++ [(Pay.mk ra rb amt 0 0 0 til 0)]) := by simpa using hown2
                refine hK.out _ _ (hSof _ hb2) (fun hHeld3 => ?_)
                clear hHeld3
                (try simp only [Act.put, List.setIfInBounds_toArray, List.set_cons_zero, List.set_cons_succ])
                refine wpHead_done (by kernel_rfl) ?_; simp only [List.drop_succ_cons, List.drop_zero]
                have hd6 := hd5.next hb2
                have hj6 := hj5.next hb2
                have ho6 := hout.next hb2
                obtain ⟨q0, q1, q2, q3, q4⟩ := hd6.c5
                have gf := hd6.frozen
                have jf := hj6.frozen
                obtain ⟨j0, j1⟩ := hj6.c2
                obtain ⟨r0, r1⟩ := ho6.c2
                have hne1 : w3.heap.size ≠ g := Blk.ne_ ho6 hd6 (by decide)
                have hne1' := Ne.symm hne1
                have hne2 : w.heap.size + 1 ≠ g := by omega
                have lj6 := hj6.lt
                have lo6 := ho6.lt
                go_wp2_with fail
                refine bodyPost_ret (res_cell rfl _ rfl agg_rep rfl ((hj6.far (p := ⟨g, 1, none⟩) hne2 _).chain2)) rfl ?_
                rw [hr.out]
                exact auth_res hb2 gl hgU hVU ljV hd6 ho5 hown3
              exact AllHead.nil
            exact AllHead.nil
          exact AllHead.nil
end Go.Proofs.YthjmficglpfgpaaDoor
namespace Go.Proofs.YthjmficglpfgpaaDoor
set_option linter.unusedVariables false
set_option linter.unusedSimpArgs false
open Go Go.RowKit Enc
set_option maxRecDepth 100000
set_option maxHeartbeats 800000

theorem abs_g {G : World → Prop} {w : World} (F : World → Prop) (hF : F w) (h : ∀ W, F W → G W) : G w := h w hF
theorem Blk.c3 {w : World} {g : Nat} {t : TypeId} {a0 a1 a2 : Value} (h : Blk w g t #[a0, a1, a2]) : w.cell? ⟨g, 0, none⟩ = some a0 ∧ w.cell? ⟨g, 1, none⟩ = some a1 ∧ w.cell? ⟨g, 2, none⟩ = some a2 := ⟨h.cell 0, h.cell 1, h.cell 2⟩
theorem Own.ent0 {w : World} {B e : Nat} {v : Value} {es : List Ent} (h : Own w B e v es) (hl : 0 < es.length) : ∃ b o c, v = .slice (some ⟨b, o, none⟩) es.length c ∧
    w.cell? ⟨b, o, none⟩ = some (.int .i64 (rd es 0).acct) ∧ w.cell? ⟨b, o + 1, none⟩ = some (.int .i64 (rd es 0).amt) ∧ w.frozen? ⟨b, o + 1, none⟩ = false ∧ B ≤ b ∧ b < w.heap.size ∧
    Hid (∀ z, Own (w.setCell ⟨b, o + 1, none⟩ (.int .i64 z)) B e v (es.set 0 { rd es 0 with amt := z })) := by
  obtain ⟨b, o, c, hv, c1, c2, hl2⟩ := h.row.ent 0 hl
  rw [Nat.zero_mul, Nat.add_zero] at c1 c2
  have hrd : rd es ((0 : Nat) : Int) = es[0] := rd_nat es 0 hl
  have s1 := fun z => h.set 0 hl 1 (by decide) (.int .i64 z) { rd es 0 with amt := z } (by rw [show rd es 0 = es[0] from hrd]; rfl) hv
  simp only [Nat.zero_mul, Nat.add_zero] at s1
  exact ⟨b, o, c, hv, c1, c2, (s1 0).2.1, (s1 0).2.2, hl2, fun z => (s1 z).1⟩
theorem charge_desk (g : Nat) (a p s kn : Value) (now : Int) (xs : List Acc) (ps : List Pay) (r : Req) (w : World) (hD : Desk w g a p s kn now xs ps) (hP : PaysOk xs ps) :
    Calls Tryd.prog 66 #[.pointer (some ⟨g, 0, none⟩), r.val] w fun e w' => DeskRes w w' g p s kn now ps (deskPay (chargeF xs r.amt) ps r) e := by
  have gl := hD.at_.lt
  have HB := Lib.hid (both_any g a p s kn now r ps _ ((hD.at_.alloc (.cells (rcells r) 29)).alloc (.cells #[.int .i64 0, .int .i64 0] 40)) ((hD.pays.alloc (.cells (rcells r) 29)).alloc (.cells #[.int .i64 0, .int .i64 0] 40)) fun k h0 h1 => (hP.2 k h0 h1).1)
  obtain ⟨key, op, ra, rb, amt, legs, til⟩ := r
  go_enter Tryd.func66, Tryd.ntmps66
  go_wp2_with fail
  refine HB.out.mono ?_
  intro e w1 hres
  obtain ⟨hz, x, y, z, rfl, hway⟩ := both_way hres
  clear hres HB
  have hD1 := ((hD.alloc (.cells (rcells ⟨key, op, ra, rb, amt, legs, til⟩) 29)).alloc (.cells #[.int .i64 0, .int .i64 0] 40)).below hz
  have hj1 := (Blk.new1 w (.cells (rcells ⟨key, op, ra, rb, amt, legs, til⟩) 29) 40 #[.int .i64 0, .int .i64 0]).next hz
  have hr1 := ((Blk.new w 29 (rcells ⟨key, op, ra, rb, amt, legs, til⟩)).alloc (.cells #[.int .i64 0, .int .i64 0] 40)).next hz
  have hb1 : Below w.heap.size w w1 := below_next (below_alloc (below_alloc (Below.refl _ _) _) _) hz
  cases hway with
  | no c p' q' hf =>
    obtain ⟨m0, m1, m2, m3, m4, m5, m6, m7⟩ := p'
    obtain ⟨n0, n1, n2, n3, n4, n5, n6, n7⟩ := q'
    go_wp2_with fail
    have hbn := below_alloc (below_alloc hb1 (.cells (pcells ⟨m0, m1, m2, m3, m4, m5, m6, m7⟩) 47)) (.cells (pcells ⟨n0, n1, n2, n3, n4, n5, n6, n7⟩) 47)
    refine (number_err c _ ((hD1.alloc _).alloc _).err).mono ?_
    rintro e w2 ⟨rfl, hz2⟩
    have hj := ((hj1.alloc _).alloc _).next hz2
    have j0 := hj.at 0 _ rfl
    have j1 := hj.at 1 _ rfl
    have jf := hj.frozen
    go_wp2_with fail
    refine bodyPost_ret (res_cell rfl _ rfl agg_rep rfl (hj.chain2)) rfl ?_
    rw [hf]
    refine ⟨rfl, ?_⟩
    (repeat (first | (with_reducible refine below_drew ?_) | (with_reducible refine below_drewN ?_ _) | (with_reducible refine below_alloc ?_ _) | ((with_reducible refine Below.setCell ?_ ?_ _); rotate_left; (focus (first | (simp; done) | (simp; omega))))))
    exact below_next hbn hz2
  | yes q h0 h1 hq =>
    obtain ⟨q0, q1, q2, q3, q4, q5, q6, q7⟩ := q
    have hok := hP.2 _ h0 h1
    have HX : deskPay (chargeF xs amt) ps ⟨key, op, ra, rb, amt, legs, til⟩ = match chargeF xs amt (rd ps ra) with | .error c => .error c | .ok ys => .ok (ys, ps.set ra.toNat ⟨q0, q1, q2, q3, q4, q5, q6, q7⟩, 0) := by
      simp only [deskPay]
      rw [if_neg (by simp only at h0 h1 ⊢; omega), hq]
      first | done | rfl
    simp only at h0 h1 hok hq
    clear hq
    obtain ⟨k, rfl⟩ := Int.eq_ofNat_of_zero_le h0
    rw [Int.toNat_natCast] at HX
    have hk : k < ps.length := by omega
    obtain ⟨pp, hpp⟩ : ∃ pp, rd ps (k : Int) = pp := ⟨_, rfl⟩
    rw [show rd ps (Req.mk key op (k : Int) rb amt legs til).a = pp from hpp]
    rw [hpp] at HX hok
    clear hpp
    obtain ⟨p0, p1, p2, p3, p4, p5, p6, p7⟩ := pp
    have HX' := Lib.hid HX
    clear HX
    have hD2 := (hD1.alloc (.cells #[.int .i64 p0, .int .i64 p1, .int .i64 p2, .int .i64 p3, .int .i64 p4, .int .i64 p5, .int .i64 p6, .int .i64 p7] 47)).alloc (.cells #[.int .i64 q0, .int .i64 q1, .int .i64 q2, .int .i64 q3, .int .i64 q4, .int .i64 q5, .int .i64 q6, .int .i64 q7] 47)
    have hj := (hj1.alloc (.cells #[.int .i64 p0, .int .i64 p1, .int .i64 p2, .int .i64 p3, .int .i64 p4, .int .i64 p5, .int .i64 p6, .int .i64 p7] 47)).alloc (.cells #[.int .i64 q0, .int .i64 q1, .int .i64 q2, .int .i64 q3, .int .i64 q4, .int .i64 q5, .int .i64 q6, .int .i64 q7] 47)
    have hbr := (hr1.alloc (.cells #[.int .i64 p0, .int .i64 p1, .int .i64 p2, .int .i64 p3, .int .i64 p4, .int .i64 p5, .int .i64 p6, .int .i64 p7] 47)).alloc (.cells #[.int .i64 q0, .int .i64 q1, .int .i64 q2, .int .i64 q3, .int .i64 q4, .int .i64 q5, .int .i64 q6, .int .i64 q7] 47)
    have hbp := (Blk.new w1 47 #[.int .i64 p0, .int .i64 p1, .int .i64 p2, .int .i64 p3, .int .i64 p4, .int .i64 p5, .int .i64 p6, .int .i64 p7]).alloc (.cells #[.int .i64 q0, .int .i64 q1, .int .i64 q2, .int .i64 q3, .int .i64 q4, .int .i64 q5, .int .i64 q6, .int .i64 q7] 47)
    have hbq := Blk.new1 w1 (.cells #[.int .i64 p0, .int .i64 p1, .int .i64 p2, .int .i64 p3, .int .i64 p4, .int .i64 p5, .int .i64 p6, .int .i64 p7] 47) 47 #[.int .i64 q0, .int .i64 q1, .int .i64 q2, .int .i64 q3, .int .i64 q4, .int .i64 q5, .int .i64 q6, .int .i64 q7]
    have hb := below_alloc (below_alloc hb1 (.cells #[.int .i64 p0, .int .i64 p1, .int .i64 p2, .int .i64 p3, .int .i64 p4, .int .i64 p5, .int .i64 p6, .int .i64 p7] 47)) (.cells #[.int .i64 q0, .int .i64 q1, .int .i64 q2, .int .i64 q3, .int .i64 q4, .int .i64 q5, .int .i64 q6, .int .i64 q7] 47)
    obtain ⟨e0, e1, e2, e3, e4, e5, e6⟩ := hr1.c7
    have lr1 := hr1.lt
    have lr2 : w.heap.size < w1.heap.size + 1 := by omega
    clear hD1 hj1 hr1 hb1
    go_wp2_with fail
    clear e0 e1 e2 e3 e4 e5 e6
    generalize hWW : (w1.alloc (.cells #[.int .i64 p0, .int .i64 p1, .int .i64 p2, .int .i64 p3, .int .i64 p4, .int .i64 p5, .int .i64 p6, .int .i64 p7] 47)).alloc (.cells #[.int .i64 q0, .int .i64 q1, .int .i64 q2, .int .i64 q3, .int .i64 q4, .int .i64 q5, .int .i64 q6, .int .i64 q7] 47) = W at *
    obtain ⟨g0, g1, g2, g3, g4⟩ := hD2.at_.c5
    obtain ⟨k0, k1, k2, k3, k4, k5, k6⟩ := hbr.c7
    obtain ⟨c0, c1, c2, c3, c4, c5, c6, c7⟩ := hbp.c8
    have lgW := hD2.at_.lt
    have ljW := hj.lt
    have hbW : Below W.heap.size W W.drew := below_drew (Below.refl _ _)
    cases hmv : backE xs ⟨p0, p1, p2, p3, p4, p5, p6, p7⟩ amt with
    | error c =>
      have hr := Lib.hid (HX'.out.trans (by first | (simp only [chargeF, hmv]; done) | (simp only [chargeF, hmv]; rfl) | simp [chargeF, hmv]))
      have hm := Lib.hid hmv
      clear hmv HX'
      refine (back_desk g a p s kn now ⟨p0, p1, p2, p3, p4, p5, p6, p7⟩ amt xs _ hD2.at_ hD2.accs hD2.good.curOk).mono ?_
      intro e w2 hres
      rw [hm.out] at hres
      obtain ⟨c', hc', hz2, v2, rfl⟩ : ∃ c', (Except.error c : Except Int (List Ent)) = .error c' ∧ Below W.heap.size W w2 ∧ ∃ v, e = .returned (.tuple #[v, .iface 38 (.int .i64 c')]) := by
        rcases hres with h | ⟨es, h, _⟩
        · exact h
        · cases h
      injection hc' with hc'
      subst hc'
      have hbA : Below W.heap.size W w2 := hz2
      have hbE := hbA
      have hjE := hj.next hbE
      go_wp2_with fail
      refine (number_err c _ (hD2.err.below hbE)).mono ?_
      rintro e w8 ⟨rfl, hz8⟩
      have hj8 := hjE.next hz8
      have j0 := hj8.at 0 _ rfl
      have j1 := hj8.at 1 _ rfl
      have jf := hj8.frozen
      go_wp2_with fail
      refine bodyPost_ret (res_cell rfl _ rfl agg_rep rfl (hj8.chain2)) rfl ?_
      rw [hr.out]
      refine ⟨rfl, ?_⟩
      (repeat (first | (with_reducible refine below_drew ?_) | (with_reducible refine below_drewN ?_ _) | (with_reducible refine below_alloc ?_ _) | ((with_reducible refine Below.setCell ?_ ?_ _); rotate_left; (focus (first | (simp; done) | (simp; omega))))))
      exact below_next (below_next hb hbE) hz8
    | ok es =>
      have hto : 9 ≤ p1 ∧ p1 < xs.length := hok.2.2
      have hB := chgEs_bal hD2.good hok.2.2 hmv
      obtain ⟨⟨hl0, hl4⟩, hac, ham0, ham1⟩ := back_head hD2.good hmv
      have hlb := lacks_bd hD2.good hok.2.2 hmv
      have hla : lacks xs ⟨p0, p1, p2, p3, p4, p5, p6, p7⟩ es = -(rd es 0).amt - ((rd xs p1).bal - (rd xs p1).held) := rfl
      have hcl := hD2.good.client p1 hto.1 hto.2
      have hbal := hD2.good.bal p1 (by omega) hto.2
      have hcu := hD2.good.cur p1 (by omega) hto.2
      have HX'' := Lib.hid (HX'.out.trans (by first | (simp only [chargeF, hmv]; done) | (simp only [chargeF, hmv]; rfl) | simp [chargeF, hmv]))
      have hm := Lib.hid hmv
      clear hmv HX'
      refine (back_desk g a p s kn now ⟨p0, p1, p2, p3, p4, p5, p6, p7⟩ amt xs _ hD2.at_ hD2.accs hD2.good.curOk).mono ?_
      intro e w2 hres
      rw [hm.out] at hres
      obtain ⟨hz2, v2, rfl, ho2⟩ : Below W.heap.size W w2 ∧ ∃ v, e = .returned (.tuple #[v, .nilIface]) ∧ Own w2 W.heap.size 109 v es := by
        rcases hres with ⟨c, h, _⟩ | ⟨es', h, hE⟩
        · cases h
        · injection h with h
          subst h
          exact hE
      have hbA : Below W.heap.size W w2 := hz2
      clear hres hm
      have hD3 := hD2.below hbA
      obtain ⟨hto1, hto2⟩ := hto
      have hto0 : 0 ≤ p1 := by omega
      clear k0 k1 k2 k3 k4 k5 k6 g0 g1 g2 g3 g4 c0 c1 c2 c3 c4 c5 c6 c7
      obtain ⟨g0, g1, g2, g3, g4⟩ := hD3.at_.c5
      obtain ⟨b5, o5, c5, hav, a0, a1, a2, la5⟩ := hD3.accs.accI p1 hto0 hto2
      obtain ⟨e0, e1, e2, e3, e4, e5, e6, e7⟩ := (hbp.next hbA).c8
      rw [hav] at g0
      clear hav
      obtain ⟨en, hen⟩ : ∃ en, rd es 0 = en := ⟨_, rfl⟩
      have HEN := Lib.hid hen
      obtain ⟨se, hse⟩ : ∃ se, rd xs p1 = se := ⟨_, rfl⟩
      have HSE := Lib.hid hse
      rw [hen] at hac ham0 ham1 hla
      rw [hse] at hla hcl hbal hcu a0 a1 a2
      clear hen hse
      obtain ⟨en1, en2⟩ := en
      obtain ⟨s1, s2, s3⟩ := se
      simp only at hac ham0 ham1 hla hcl hbal hcu a0 a1 a2
      go_wp2_with fail
      go_region_held3 (fun w' => w'.cell? ⟨g, 0, none⟩ = some (.slice (some ⟨b5, o5, none⟩) xs.length c5) ∧ w'.cell? ⟨w1.heap.size, 1, none⟩ = some (.int .i64 p1) ∧ w'.cell? ⟨b5, o5 + p1.toNat * 3, none⟩ = some (.int .i64 s1) ∧ w'.cell? ⟨b5, o5 + p1.toNat * 3 + 1, none⟩ = some (.int .i64 s2) ∧ w'.cell? ⟨b5, o5 + p1.toNat * 3 + 2, none⟩ = some (.int .i64 s3))
        (go_keep) ((fail))
      go_wp2_with fail
      refine abs_world (fun V => Desk V g a p s kn now xs ps ∧ Blk V (w.heap.size + 1) 40 #[.int .i64 0, .int .i64 0] ∧ Blk V w.heap.size 29 (rcells ⟨key, op, k, rb, amt, legs, til⟩) ∧ Blk V (w1.heap.size + 1) 47 (pcells ⟨q0, q1, q2, q3, q4, q5, q6, q7⟩) ∧ Blk V w2.heap.size 50 #[.int .i64 s1, .int .i64 s2, .int .i64 s3] ∧ Own V W.heap.size 109 v2 es ∧ Below W.heap.size W V ∧ w2.heap.size < V.heap.size)
        ⟨(hD3.alloc _).below (below_drew (Below.refl _ _)), ((hj.next hbA).alloc _).drew, ((hbr.next hbA).alloc _).drew, ((hbq.next hbA).alloc _).drew, (Blk.new _ _ _).drew, (ho2.alloc _).drew, below_drew (below_alloc hbA _), by simp⟩ ?_
      clear hD3 a0 a1 a2 g0 g1 g2 g3 g4 e0 e1 e2 e3 e4 e5 e6 e7 ho2 hbp
      rintro V ⟨hD3, hj3, hbr3, hbq3, hbs, ho2, hbV, hV2⟩
      obtain ⟨b6, o6, c6, hv6, n0, n1, ln6⟩ := ho2.row.ent 0 hl0
      rw [Nat.zero_mul, Nat.add_zero] at n0 n1
      rw [show rd es ((0 : Nat) : Int) = ⟨en1, en2⟩ from HEN.out] at n0 n1
      subst hv6
      obtain ⟨a0, a1, a2⟩ := hbs.c3
      have hl0' : (0 : Int) < es.length := by omega
      have hneg : IntKind.i64.wrap (-en2) = -en2 := IntWalk.i64_in _ (by omega)
      have hsub : IntKind.i64.wrap (-en2 - (s2 - s3)) = -en2 - (s2 - s3) := IntWalk.i64_in _ (by omega)
      have hbVV : Below V.heap.size V V.drew := below_drew (Below.refl _ _)
      have hSof : ∀ w', Below V.heap.size V w' → (Below V.heap.size V w' ∧ w'.cell? ⟨b6, o6 + 1, none⟩ = some (.int .i64 en2) ∧ w'.cell? ⟨w2.heap.size, 0, none⟩ = some (.int .i64 s1) ∧ w'.cell? ⟨w2.heap.size, 1, none⟩ = some (.int .i64 s2) ∧ w'.cell? ⟨w2.heap.size, 2, none⟩ = some (.int .i64 s3)) :=
        fun w' hb => ⟨hb, cell_below hb n1, cell_below hb a0, cell_below hb a1, cell_below hb a2⟩
      go_region_held3 (fun w' => Below V.heap.size V w' ∧ w'.cell? ⟨b6, o6 + 1, none⟩ = some (.int .i64 en2) ∧ w'.cell? ⟨w2.heap.size, 0, none⟩ = some (.int .i64 s1) ∧ w'.cell? ⟨w2.heap.size, 1, none⟩ = some (.int .i64 s2) ∧ w'.cell? ⟨w2.heap.size, 2, none⟩ = some (.int .i64 s3))
        (first | exact hSof _ hbVV | exact hSof _ hbF | assumption)
        ((go_at_call 18; refine (free_any ⟨s1, s2, s3⟩ _ hbal (by simp only; omega)).mono ?_; rintro e w3 ⟨rfl, hzF⟩; have hbF : Below V.heap.size V w3 := below_next hbVV hzF))
      clear hneg hsub
      clear hSof n0 n1 a0 a1 a2 hj3 hbr3 hbq3 hD3
      refine abs_g (w := w3) (fun X => Blk X w2.heap.size 50 #[.int .i64 s1, .int .i64 s2, .int .i64 s3] ∧ Own X W.heap.size 109 (.slice (some ⟨b6, o6, none⟩) es.length c6) es ∧ Below W.heap.size W X)
        ⟨hbs.next hbF, ho2.below hbF, below_next hbV hbF⟩ ?_
      clear hbs ho2 hbV hbF hbVV
      rintro X ⟨hbs, ho2, hbX⟩
      by_cases hpos : 0 < -en2 - (s2 - s3)
      · have hce : chgEs xs ⟨p0, p1, p2, p3, p4, p5, p6, p7⟩ es = es.set 0 ⟨en1, en2 + (-en2 - (s2 - s3))⟩ ++ [⟨3 * s1 + 2, -(-en2 - (s2 - s3))⟩] := by
          unfold chgEs
          rw [hla, if_pos hpos]
          unfold lossy
          rw [HEN.out]
          show es.set 0 ⟨en1, en2 + (-en2 - (s2 - s3))⟩ ++ [⟨3 * (rd xs p1).cur + 2, _⟩] = _
          rw [HSE.out]
        have HCE := Lib.hid hce
        have hB' := Lib.hid (hce ▸ hB)
        clear hce
        have HXX := Lib.hid (HCE.out ▸ HX''.out)
        obtain ⟨bb, oo, cc, hvv, n0, n1, nf, nB, ln6, hset⟩ := ho2.ent0 hl0
        injection hvv with hvv1 _ hvv3
        injection hvv1 with hvv1
        injection hvv1 with hvv4 hvv5
        subst hvv3 hvv4 hvv5
        rw [HEN.out] at n0 n1
        simp only at n0 n1
        have hset' := Lib.hid (hset.out (en2 + (-en2 - (s2 - s3))))
        rw [HEN.out] at hset'
        have hne6 : b6 ≠ w2.heap.size := fun e => ho2.blk_ne hbs (by decide) (by simp [Value.ownBlock, e])
        have hne6' := Ne.symm hne6
        obtain ⟨a0, a1, a2⟩ := hbs.c3
        have ls := hbs.lt
        have hlen : es.length ≤ 4 := hl4
        have hbY : Below W.heap.size W (X.setCell ⟨b6, o6 + 1, none⟩ (.int .i64 (en2 + (-en2 - (s2 - s3))))) := hbX.setCell nB _
        have HBY := Lib.hid (show ((es.set 0 (Ent.mk en1 (en2 + (-en2 - (s2 - s3))))).length + [Ent.mk (3 * s1 + 2) (-(-en2 - (s2 - s3)))].length) * 16 ≤ 140737488355328 by simp; omega)
        have hes : ((es.set 0 (Ent.mk en1 (en2 + (-en2 - (s2 - s3))))).length) = es.length := by simp
        have HES := Lib.hid hes
        clear hes hset hla hlb hB
        have hown0 : Own (((X.setCell ⟨b6, o6 + 1, none⟩ (.int .i64 (en2 + (-en2 - (s2 - s3)))))).alloc (.cells #[.int .i64 (3 * s1 + 2), .int .i64 (-(-en2 - (s2 - s3)))] 109)) W.heap.size 109 (.slice (some ⟨b6, o6, none⟩) es.length c6) (es.set 0 (Ent.mk en1 (en2 + (-en2 - (s2 - s3))))) := (hset'.out).alloc _
        have hbox : Row (((X.setCell ⟨b6, o6 + 1, none⟩ (.int .i64 (en2 + (-en2 - (s2 - s3)))))).alloc (.cells #[.int .i64 (3 * s1 + 2), .int .i64 (-(-en2 - (s2 - s3)))] 109)) (.slice (some ⟨X.heap.size, 0, none⟩) 1 1) [Ent.mk (3 * s1 + 2) (-(-en2 - (s2 - s3)))] := by
          have := Row.box (X.setCell ⟨b6, o6 + 1, none⟩ (.int .i64 (en2 + (-en2 - (s2 - s3))))) (Ent.mk (3 * s1 + 2) (-(-en2 - (s2 - s3)))) #[.int .i64 (3 * s1 + 2), .int .i64 (-(-en2 - (s2 - s3)))] rfl 109
          rwa [World.size_setCell] at this
        have HSZ := Lib.hid (below_alloc hbY (.cells #[.int .i64 (3 * s1 + 2), .int .i64 (-(-en2 - (s2 - s3)))] 109)).size
        have hcu1 := hcu.1
        have hcu2 := hcu.2
        cases hsp : post xs (es.set 0 (Ent.mk en1 (en2 + (-en2 - (s2 - s3)))) ++ [Ent.mk (3 * s1 + 2) (-(-en2 - (s2 - s3)))]) with
        | error c =>
          have hr := Lib.hid (HXX.out.trans (by rw [hsp]))
          have hm2 := Lib.hid hsp
          clear hsp HXX HX''
          go_wp2_with fail
          refine (number_any 2 s1 _ (by omega) (by omega) hcu1 hcu2).mono ?_
          rintro e w4 ⟨rfl, rfl⟩
          go_wp2_with (at_builtin; refine wp_append (B := W.heap.size) sT_ent rfl rfl (.slice (some ⟨b6, o6, none⟩) es.length c6) (.slice (some ⟨X.heap.size, 0, none⟩) 1 1) rfl rfl hown0 hbox HBY.out (by decide) HSZ.out ?_; intro v7 w7 hown7 hg7 hat7; have hbZ : Below W.heap.size W w7 := below_grown (below_alloc hbY _) hg7 hown0.base; have hD7 := hD2.below hbZ; obtain ⟨g0, g1, g2, g3, g4⟩ := hD7.at_.c5; clear hown0 hbox hset' n0 n1 nf a0 a1 a2)
          go_wp2_with fail
          refine (post_any a v7 xs _ w7 hD7.accs hown7.row hB'.out hD2.good.abs).mono ?_
          intro e w3 hres
          rw [hm2.out] at hres
          obtain ⟨hz3, rfl⟩ := hres
          have hbB : Below W.heap.size W w3 := below_next hbZ hz3
          clear g0 g1 g2 g3 g4 hD7
          have hj3 := hj.next hbB
          obtain ⟨k0, k1, k2, k3, k4, k5, k6⟩ := (hbr.next hbB).c7
          obtain ⟨d0, d1, d2, d3, d4, d5, d6, d7⟩ := (hbq.next hbB).c8
          have hpos := hj3.lt
          go_wp2_with fail
          refine (pay_no g k c ⟨q0, q1, q2, q3, q4, q5, q6, q7⟩ _ _ (hD2.err.below hbB) (by omega)).mono ?_
          rintro e w4 ⟨rfl, hz4⟩
          have hj4 := hj3.next hz4
          have j0 := hj4.at 0 _ rfl
          have j1 := hj4.at 1 _ rfl
          have jf := hj4.frozen
          go_wp2_with fail
          refine bodyPost_ret (res_cell rfl _ rfl agg_rep rfl (hj4.chain2)) rfl ?_
          rw [hr.out]
          refine ⟨rfl, ?_⟩
          (repeat (first | (with_reducible refine below_drew ?_) | (with_reducible refine below_drewN ?_ _) | (with_reducible refine below_alloc ?_ _) | ((with_reducible refine Below.setCell ?_ ?_ _); rotate_left; (focus (first | (simp; done) | (simp; omega))))))
          exact below_next (below_next hb hbB) hz4
        | ok ys =>
          have hr := Lib.hid (HXX.out.trans (by rw [hsp]))
          have hm2 := Lib.hid hsp
          clear hsp HXX HX''
          go_wp2_with fail
          refine (number_any 2 s1 _ (by omega) (by omega) hcu1 hcu2).mono ?_
          rintro e w4 ⟨rfl, rfl⟩
          go_wp2_with (at_builtin; refine wp_append (B := W.heap.size) sT_ent rfl rfl (.slice (some ⟨b6, o6, none⟩) es.length c6) (.slice (some ⟨X.heap.size, 0, none⟩) 1 1) rfl rfl hown0 hbox HBY.out (by decide) HSZ.out ?_; intro v7 w7 hown7 hg7 hat7; have hbZ : Below W.heap.size W w7 := below_grown (below_alloc hbY _) hg7 hown0.base; have hD7 := hD2.below hbZ; obtain ⟨g0, g1, g2, g3, g4⟩ := hD7.at_.c5; clear hown0 hbox hset' n0 n1 nf a0 a1 a2)
          go_wp2_with fail
          refine (post_any a v7 xs _ w7 hD7.accs hown7.row hB'.out hD2.good.abs).mono ?_
          intro e w3 hres
          rw [hm2.out] at hres
          obtain ⟨hz3, v3, rfl, ho3⟩ := hres
          have hbB : Below W.heap.size W w3 := below_next hbZ hz3
          clear g0 g1 g2 g3 g4 hD7
          have hj3 := hj.next hbB
          obtain ⟨k0, k1, k2, k3, k4, k5, k6⟩ := (hbr.next hbB).c7
          obtain ⟨d0, d1, d2, d3, d4, d5, d6, d7⟩ := (hbq.next hbB).c8
          have hD3 := hD2.below hbB
          have hs3 := hbZ.size
          obtain ⟨A3, c3, rfl⟩ := ho3.row.slice
          go_wp2_with fail
          refine (pay_yes g a p s kn A3 _ c3 now k ⟨q0, q1, q2, q3, q4, q5, q6, q7⟩ ps _ hD3.at_ hD3.pays hD3.ne hk (by have := hP.1; omega)).mono ?_
          rintro e w4 ⟨rfl, ⟨p', hd4, hp4⟩, hg4⟩
          have hj4 := hj3.grown hg4 (by intro h; injection h with h; omega)
          have j0 := hj4.at 0 _ rfl
          have j1 := hj4.at 1 _ rfl
          have jf := hj4.frozen
          go_wp2_with fail
          refine bodyPost_ret (res_cell rfl _ rfl agg_rep rfl (hj4.chain2)) rfl ?_
          rw [hr.out]
          exact pay_res (below_next hb hbB) gl (by first | omega | (simp; omega)) hj3.lt ho3 hd4 hp4 hg4
      · have hce : chgEs xs ⟨p0, p1, p2, p3, p4, p5, p6, p7⟩ es = es := by
          unfold chgEs
          rw [hla, if_neg hpos]
        have HXX := Lib.hid (hce ▸ HX''.out)
        have hB' := Lib.hid (hce ▸ hB)
        have hpos' : -en2 - (s2 - s3) ≤ 0 := by omega
        clear hce hla hlb hB
        cases hsp : post xs es with
        | error c =>
          have hr := Lib.hid (HXX.out.trans (by rw [hsp]))
          have hm2 := Lib.hid hsp
          clear hsp HXX HX''
          have hD7 := hD2.below hbX
          obtain ⟨g0, g1, g2, g3, g4⟩ := hD7.at_.c5
          go_wp2_with fail
          refine (post_any a _ xs es X hD7.accs ho2.row hB'.out hD2.good.abs).mono ?_
          intro e w3 hres
          rw [hm2.out] at hres
          obtain ⟨hz3, rfl⟩ := hres
          have hbB : Below W.heap.size W w3 := below_next hbX hz3
          clear g0 g1 g2 g3 g4 hD7
          have hj3 := hj.next hbB
          obtain ⟨k0, k1, k2, k3, k4, k5, k6⟩ := (hbr.next hbB).c7
          obtain ⟨d0, d1, d2, d3, d4, d5, d6, d7⟩ := (hbq.next hbB).c8
          have hpos := hj3.lt
          go_wp2_with fail
          refine (pay_no g k c ⟨q0, q1, q2, q3, q4, q5, q6, q7⟩ _ _ (hD2.err.below hbB) (by omega)).mono ?_
          rintro e w4 ⟨rfl, hz4⟩
          have hj4 := hj3.next hz4
          have j0 := hj4.at 0 _ rfl
          have j1 := hj4.at 1 _ rfl
          have jf := hj4.frozen
          go_wp2_with fail
          refine bodyPost_ret (res_cell rfl _ rfl agg_rep rfl (hj4.chain2)) rfl ?_
          rw [hr.out]
          refine ⟨rfl, ?_⟩
          (repeat (first | (with_reducible refine below_drew ?_) | (with_reducible refine below_drewN ?_ _) | (with_reducible refine below_alloc ?_ _) | ((with_reducible refine Below.setCell ?_ ?_ _); rotate_left; (focus (first | (simp; done) | (simp; omega))))))
          exact below_next (below_next hb hbB) hz4
        | ok ys =>
          have hr := Lib.hid (HXX.out.trans (by rw [hsp]))
          have hm2 := Lib.hid hsp
          clear hsp HXX HX''
          have hD7 := hD2.below hbX
          obtain ⟨g0, g1, g2, g3, g4⟩ := hD7.at_.c5
          go_wp2_with fail
          refine (post_any a _ xs es X hD7.accs ho2.row hB'.out hD2.good.abs).mono ?_
          intro e w3 hres
          rw [hm2.out] at hres
          obtain ⟨hz3, v3, rfl, ho3⟩ := hres
          have hbB : Below W.heap.size W w3 := below_next hbX hz3
          clear g0 g1 g2 g3 g4 hD7
          have hj3 := hj.next hbB
          obtain ⟨k0, k1, k2, k3, k4, k5, k6⟩ := (hbr.next hbB).c7
          obtain ⟨d0, d1, d2, d3, d4, d5, d6, d7⟩ := (hbq.next hbB).c8
          have hD3 := hD2.below hbB
          have hs3 := hbX.size
          obtain ⟨A3, c3, rfl⟩ := ho3.row.slice
          go_wp2_with fail
          refine (pay_yes g a p s kn A3 _ c3 now k ⟨q0, q1, q2, q3, q4, q5, q6, q7⟩ ps _ hD3.at_ hD3.pays hD3.ne hk (by have := hP.1; omega)).mono ?_
          rintro e w4 ⟨rfl, ⟨p', hd4, hp4⟩, hg4⟩
          have hj4 := hj3.grown hg4 (by intro h; injection h with h; omega)
          have j0 := hj4.at 0 _ rfl
          have j1 := hj4.at 1 _ rfl
          have jf := hj4.frozen
          go_wp2_with fail
          refine bodyPost_ret (res_cell rfl _ rfl agg_rep rfl (hj4.chain2)) rfl ?_
          rw [hr.out]
          exact pay_res (below_next hb hbB) gl (by first | omega | (simp; omega)) hj3.lt ho3 hd4 hp4 hg4
end Go.Proofs.YthjmficglpfgpaaDoor
