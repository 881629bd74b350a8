/- Spending; the desk: moving an amount. -/
import Derived.Test.YthjmficglpfgpaaDoorOps4
import Derived.Test.YthjmficglpfgpaaDoorGood
namespace Go.Proofs.YthjmficglpfgpaaDoor
set_option linter.unusedVariables false
set_option linter.unusedSimpArgs false
open Go Go.RowKit Enc
set_option maxRecDepth 100000
set_option maxHeartbeats 800000

theorem spend_any (x y : Value) (xs : List Acc) (n : Int) (es : List Ent) (w : World) (h : Row w x xs) (hy : Row w y es) (hB : Bal xs es) (hA : ABs xs) :
    Calls Tryd.prog 44 #[x, .int .i64 n, y] w fun e w' => AccRes w w' (spend xs n es) e := by
  have hm := hy.max
  by_cases h0 : es.length = 0
  · have hr := Lib.hid (show spend xs n es = .error 13 by unfold spend; rw [if_pos h0])
    obtain ⟨A, c, rfl⟩ := hy.slice
    obtain rfl : es = [] := List.eq_nil_of_length_eq_zero h0
    go_enter Tryd.func44, Tryd.ntmps44
    go_wp2_with fail
    go_ret2
    rw [hr.out]
    exact ⟨Below.refl _ _, rfl⟩
  have hr0 := Lib.hid (show spend xs n es = (release xs (rd es 0).acct n).bind fun ys => post ys es by unfold spend; rw [if_neg h0])
  obtain ⟨b, o, c, rfl, c1, c2, hl⟩ := hy.ent 0 (by omega)
  have HM := Lib.hid (release_any x xs (rd es 0).acct n w h hA)
  have c1' : w.cell? ⟨b, o, none⟩ = some (.int .i64 (rd es 0).acct) := by simpa using c1
  have hlen : (0 : Int) < es.length := by omega
  have hnz : ((es.length : Int) == 0) = false := by simpa using h0
  cases hrl : release xs (rd es 0).acct n with
  | error c =>
    have hm := Lib.hid hrl
    clear hrl
    go_enter Tryd.func44, Tryd.ntmps44
    go_wp2_with fail
    refine HM.out.mono ?_
    intro e w1 hres
    rw [hm.out] at hres
    obtain ⟨hz, rfl⟩ := hres
    go_wp2_with fail
    go_ret2
    rw [hr0.out, hm.out]
    exact ⟨hz, rfl⟩
  | ok ys =>
    obtain ⟨hAy, hly, hcy⟩ := release_ok hA hrl
    have hBy := hB.congr hly hcy
    have hm := Lib.hid hrl
    clear hrl
    cases hps : post ys es with
    | error c =>
      have hm2 := Lib.hid hps
      clear hps
      go_enter Tryd.func44, Tryd.ntmps44
      go_wp2_with fail
      refine HM.out.mono ?_
      intro e w1 hres
      rw [hm.out] at hres
      obtain ⟨hz, v, rfl, ho⟩ := hres
      go_wp2_with fail
      refine (post_any v _ ys es w1 ho.row (hy.below hz) hBy hAy).mono ?_
      intro e w2 hres
      rw [hm2.out] at hres
      obtain ⟨hz2, rfl⟩ := hres
      go_wp2_with fail
      go_ret2
      rw [hr0.out, hm.out]
      refine ⟨below_next hz hz2, ?_⟩
      show match post ys es with | .error c => _ | .ok out => _
      rw [hm2.out]
      rfl
    | ok zs =>
      have hm2 := Lib.hid hps
      clear hps
      go_enter Tryd.func44, Tryd.ntmps44
      go_wp2_with fail
      refine HM.out.mono ?_
      intro e w1 hres
      rw [hm.out] at hres
      obtain ⟨hz, v, rfl, ho⟩ := hres
      go_wp2_with fail
      refine (post_any v _ ys es w1 ho.row (hy.below hz) hBy hAy).mono ?_
      intro e w2 hres
      rw [hm2.out] at hres
      obtain ⟨hz2, v2, rfl, ho2⟩ := hres
      go_wp2_with fail
      go_ret2
      rw [hr0.out, hm.out]
      refine ⟨below_next hz hz2, ?_⟩
      show match post ys es with | .error c => _ | .ok out => _
      rw [hm2.out]
      exact ⟨_, rfl, ho2.lower hz.size⟩

/-- What a request does to accounts and payments, where it may: with an error nothing is changed. -/
def DeskRes (w w' : World) (g : Nat) (p s kn : Value) (now : Int) (ps : List Pay) (r : Except Int (List Acc × List Pay × Int)) (e : Ending) : Prop :=
  match r with
  | .error c => e = .returned (Rep.val ⟨c, 0⟩) ∧ Below w.heap.size w w'
  | .ok (xs, qs, id) => e = .returned (Rep.val ⟨0, id⟩) ∧ (∃ a' p', DeskAt w' g a' p' s kn now ∧ Own w' w.heap.size 50 a' xs ∧ (p' = p ∧ qs = ps ∨ Own w' w.heap.size 47 p' qs)) ∧ w.grownBy w' (some g)
/-- A desk, whole. -/
structure Desk (w : World) (g : Nat) (a p s kn : Value) (now : Int) (xs : List Acc) (ps : List Pay) : Prop where
  at_ : DeskAt w g a p s kn now
  accs : Row w a xs
  pays : Row w p ps
  ne : ps ≠ [] → p.ownBlock ≠ some g
  good : Good xs
  err : GT w
def deskPost (xs : List Acc) (ps : List Pay) (frm to n : Int) : Except Int (List Acc × List Pay × Int) :=
  match move xs frm to n with
  | .error c => .error c
  | .ok es => match post xs es with
    | .error c => .error c
    | .ok ys => .ok (ys, ps, 0)
theorem post_desk (g : Nat) (a p s kn : Value) (now : Int) (xs : List Acc) (ps : List Pay) (frm to n : Int) (w : World) (hD : Desk w g a p s kn now xs ps) :
    Calls Tryd.prog 88 #[.pointer (some ⟨g, 0, none⟩), .int .i64 frm, .int .i64 to, .int .i64 n] w fun e w' => DeskRes w w' g p s kn now ps (deskPost xs ps frm to n) e := by
  obtain ⟨hd, ha, hp, hne, hG, hT⟩ := hD
  obtain ⟨g0, g1, g2, g3, g4⟩ := hd.c5
  have gl := hd.lt
  have HM := Lib.hid (move_any a xs frm to n _ (ha.alloc (.cells #[.int .i64 0, .int .i64 0] 40)) hG.curOk)
  cases hmv : move xs frm to n with
  | error c =>
    have hr := Lib.hid (show deskPost xs ps frm to n = .error c by simp [deskPost, hmv])
    have hm := Lib.hid hmv
    clear hmv
    go_enter Tryd.func88, Tryd.ntmps88
    go_wp2_with fail
    refine HM.out.mono ?_
    intro e w1 hres
    rw [hm.out] at hres
    obtain ⟨hz, rfl⟩ := hres
    go_wp2_with fail
    refine (number_err c _ ((hT.below (below_alloc (Below.refl _ _) _)).below hz)).mono ?_
    rintro e w2 ⟨rfl, hz2⟩
    have hj := ((Blk.new w _ _).next hz).next hz2
    have j0 := hj.at 0 _ rfl
    have j1 := hj.at 1 _ rfl
    have jf := hj.frozen
    go_wp2_with fail
    refine bodyPost_ret (res_cell rfl _ rfl agg_rep rfl (hj.chain2)) rfl ?_
    rw [hr.out]
    refine ⟨rfl, ?_⟩
    (repeat (first | (with_reducible refine below_drew ?_) | (with_reducible refine below_drewN ?_ _) | (with_reducible refine below_alloc ?_ _) | ((with_reducible refine Below.setCell ?_ ?_ _); rotate_left; (focus (first | (simp; done) | (simp; omega))))))
    exact below_next (below_next (below_alloc (Below.refl _ _) _) hz) hz2
  | ok es =>
    have hM := move_moveOk hG hmv
    have hB := hM.bal hG
    have hm := Lib.hid hmv
    cases hps : post xs es with
    | error c =>
      have hm2 := Lib.hid hps
      have hr := Lib.hid (show deskPost xs ps frm to n = .error c by simp [deskPost, hmv, hps])
      clear hps hmv
      go_enter Tryd.func88, Tryd.ntmps88
      go_wp2_with fail
      refine HM.out.mono ?_
      intro e w1 hres
      rw [hm.out] at hres
      obtain ⟨hz, v, rfl, ho⟩ := hres
      have hd1 := (hd.alloc (.cells #[.int .i64 0, .int .i64 0] 40)).next hz
      clear g0 g1 g2 g3 g4
      obtain ⟨g0, g1, g2, g3, g4⟩ := hd1.c5
      go_wp2_with fail
      refine (post_any a _ xs es w1 ((ha.alloc _).below hz) ho.row hB hG.abs).mono ?_
      intro e w2 hres
      rw [hm2.out] at hres
      obtain ⟨hz2, rfl⟩ := hres
      go_wp2_with fail
      refine (take_no g c 0 _ w2 (((hT.below (below_alloc (Below.refl _ _) _)).below hz).below hz2)).mono ?_
      rintro e w3 ⟨rfl, hz3⟩
      have hj := (((Blk.new w _ _).next hz).next hz2).next hz3
      have j0 := hj.at 0 _ rfl
      have j1 := hj.at 1 _ rfl
      have jf := hj.frozen
      go_wp2_with fail
      refine bodyPost_ret (res_cell rfl _ rfl agg_rep rfl (hj.chain2)) rfl ?_
      rw [hr.out]
      refine ⟨rfl, ?_⟩
      (repeat (first | (with_reducible refine below_drew ?_) | (with_reducible refine below_drewN ?_ _) | (with_reducible refine below_alloc ?_ _) | ((with_reducible refine Below.setCell ?_ ?_ _); rotate_left; (focus (first | (simp; done) | (simp; omega))))))
      exact below_next (below_next (below_next (below_alloc (Below.refl _ _) _) hz) hz2) hz3
    | ok ys =>
      have hm2 := Lib.hid hps
      have hr := Lib.hid (show deskPost xs ps frm to n = .ok (ys, ps, 0) by simp [deskPost, hmv, hps])
      clear hps hmv
      go_enter Tryd.func88, Tryd.ntmps88
      go_wp2_with fail
      refine HM.out.mono ?_
      intro e w1 hres
      rw [hm.out] at hres
      obtain ⟨hz, v, rfl, ho⟩ := hres
      have hd1 := (hd.alloc (.cells #[.int .i64 0, .int .i64 0] 40)).next hz
      clear g0 g1 g2 g3 g4
      obtain ⟨g0, g1, g2, g3, g4⟩ := hd1.c5
      go_wp2_with fail
      refine (post_any a _ xs es w1 ((ha.alloc _).below hz) ho.row hB hG.abs).mono ?_
      intro e w2 hres
      rw [hm2.out] at hres
      obtain ⟨hz2, v2, rfl, ho2⟩ := hres
      obtain ⟨A2, c2, rfl⟩ := ho2.row.slice
      go_wp2_with fail
      refine (take_yes g a p s kn A2 _ c2 now 0 w2 (hd1.next hz2)).mono ?_
      rintro e w3 ⟨rfl, hd3, hg3⟩
      have hzs := hz.size
      have hzs2 := hz2.size
      simp only [World.size_alloc] at hzs
      have hn0 : some w.heap.size ≠ some g := by intro h; injection h with h; omega
      have hj := (((Blk.new w _ _).next hz).next hz2).grown hg3 hn0
      have j0 := hj.at 0 _ rfl
      have j1 := hj.at 1 _ rfl
      have jf := hj.frozen
      go_wp2_with fail
      refine bodyPost_ret (res_cell rfl _ rfl agg_rep rfl (hj.chain2)) rfl ?_
      rw [hr.out]
      have hgw : w.grownBy w3 (some g) := (only_of_below (below_next (below_next (below_alloc (Below.refl _ _) _) hz) hz2) g).trans hg3
      have hgall := (hgw.setNew (a := ⟨w.heap.size, 0, none⟩) (by simp) (.int .i64 0)).setNew (a := ⟨w.heap.size, 1, none⟩) (by simp) (.int .i64 0)
      have hv2 : some g ≠ (Value.slice A2 ys.length c2).ownBlock := ho2.ne (by omega)
      have hv3 : some w.heap.size ≠ (Value.slice A2 ys.length c2).ownBlock := ho2.ne (by omega)
      refine ⟨rfl, ⟨_, _, (hd3.far (p := ⟨w.heap.size, 0, none⟩) (by simp; omega) _).far (p := ⟨w.heap.size, 1, none⟩) (by simp; omega) _, ?_, .inl ⟨rfl, rfl⟩⟩, hgall⟩
      exact (((ho2.kept hg3 (.inr hv2.symm)).kept ((World.grownBy.refl w3 _).setCell (a := ⟨w.heap.size, 0, none⟩) (g := w.heap.size) rfl (.int .i64 0)) (.inr hv3.symm)).kept ((World.grownBy.refl _ _).setCell (a := ⟨w.heap.size, 1, none⟩) (g := w.heap.size) rfl (.int .i64 0)) (.inr hv3.symm)).lower (by omega)
end Go.Proofs.YthjmficglpfgpaaDoor
