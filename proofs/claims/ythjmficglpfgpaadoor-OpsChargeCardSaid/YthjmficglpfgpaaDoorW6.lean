/- payment.Do and payment.Right. -/
import Derived.Test.YthjmficglpfgpaaDoorW5
namespace Go.Proofs.YthjmficglpfgpaaDoor
set_option linter.unusedVariables false
set_option linter.unusedSimpArgs false
open Go Go.RowKit Enc
set_option maxRecDepth 100000

theorem doer_nil (w : World) : (binOp .eql 139 .nilFunc .nilFunc).run Tryd.prog w = .ok (.bool true) w := by kernel_rfl
theorem doer_func (w : World) (f : Fn) (x y : Array Value) : (binOp .eql 139 (.func f x y) .nilFunc).run Tryd.prog w = .ok (.bool false) w := by kernel_rfl
def PayRes (w w' : World) (r : Except Int Pay) (e : Ending) : Prop :=
  Below w.heap.size w w' ∧ match r with
  | .error c => e = .returned (.tuple #[Pay.val (Pay.mk 0 0 0 0 0 0 0 0), .iface 38 (.int .i64 c)])
  | .ok q => e = .returned (.tuple #[q.val, .nilIface])
theorem by_any (op : Int) (w : World) (h : 4 ≤ op ∧ op ≤ 7) : Calls Tryd.prog 73 #[.int .i64 op] w fun e w' => w = w' ∧ e = .returned (.func (.func (if op = 4 then 95 else if op = 5 then 98 else if op = 6 then 96 else 97)) #[] #[]) := by
  have : op = 4 ∨ op = 5 ∨ op = 6 ∨ op = 7 := by omega
  clear h
  rcases this with rfl | rfl | rfl | rfl
  all_goals
    go_enter Tryd.func73, Tryd.ntmps73
    go_wp2
    go_ret
    exact ⟨rfl, rfl⟩
theorem by_none (op : Int) (w : World) (h : ¬(4 ≤ op ∧ op ≤ 7)) : Calls Tryd.prog 73 #[.int .i64 op] w fun e w' => w = w' ∧ e = .returned .nilFunc := by
  have h4 : (op == 4) = false := beq_eq_false_iff_ne.2 (by omega)
  have h5 : (op == 5) = false := beq_eq_false_iff_ne.2 (by omega)
  have h6 : (op == 6) = false := beq_eq_false_iff_ne.2 (by omega)
  have h7 : (op == 7) = false := beq_eq_false_iff_ne.2 (by omega)
  clear h
  go_enter Tryd.func73, Tryd.ntmps73
  go_wp2
  go_ret
  exact ⟨rfl, rfl⟩
theorem do_none (p : Pay) (op n : Int) (w : World) (h : ¬(4 ≤ op ∧ op ≤ 7)) : Calls Tryd.prog 42 #[p.val, .int .i64 op, .int .i64 n] w fun e w' => PayRes w w' (.error 13) e := by
  have H := Lib.hid h
  have hq := fun w => doer_nil w
  clear h
  go_enter Tryd.func42, Tryd.ntmps42
  go_wp2_with (go_at_call 73; refine (by_none _ _ H.out).mono ?_; rintro e w' ⟨rfl, rfl⟩)
  exact bodyPost_ret (v := .tuple #[Pay.val (Pay.mk 0 0 0 0 0 0 0 0), .iface 38 (.int .i64 13)]) (by simp [results, Tryd.results42, go_sem]) rfl ⟨below_alloc (below_alloc (Below.refl _ _) _) _, rfl⟩
theorem do_bad (p : Pay) (op n : Int) (w : World) (h : op = 4 ∨ op = 6 ∨ op = 7) (hn : n < 1) : Calls Tryd.prog 42 #[p.val, .int .i64 op, .int .i64 n] w fun e w' => PayRes w w' (.error 1) e := by
  rcases h with rfl | rfl | rfl
  all_goals
    have hq := fun w f x y => doer_func w f x y
    go_enter Tryd.func42, Tryd.ntmps42
    go_wp2_with (go_at_call 73; refine (by_any _ _ (by decide)).mono ?_; rintro e w' ⟨rfl, rfl⟩)
    exact bodyPost_ret (v := .tuple #[Pay.val (Pay.mk 0 0 0 0 0 0 0 0), .iface 38 (.int .i64 1)]) (by simp [results, Tryd.results42, go_sem]) rfl ⟨below_alloc (below_alloc (Below.refl _ _) _) _, rfl⟩
theorem agg_pay : AggT Tryd.prog 47 8 := ⟨⟨_, Tryd.underlying47, rfl⟩, by kernel_rfl⟩
theorem do_capture (p q : Pay) (n : Int) (w : World) (hn : 1 ≤ n) (hg : Hid (∀ w, Calls Tryd.prog 95 #[p.val, .int .i64 n] w fun e w' => DoerRes w w' (some q) e)) :
    Calls Tryd.prog 42 #[p.val, .int .i64 4, .int .i64 n] w fun e w' => PayRes w w' (.ok q) e := by
  have hq := fun w f x y => doer_func w f x y
  obtain ⟨q0, q1, q2, q3, q4, q5, q6, q7⟩ := q
  go_enter Tryd.func42, Tryd.ntmps42
  go_wp2_with (first | (go_at_call 73; refine (by_any _ _ (by decide)).mono ?_; rintro e w' ⟨rfl, rfl⟩) | (go_at_call 95; refine (hg.out _).mono ?_; rintro e w' ⟨hz, rfl⟩; have hj := (Blk.new1 w _ _ _).next hz; obtain ⟨j0, j1, j2, j3, j4, j5, j6, j7⟩ := hj.c8; have jf := hj.frozen; have zs : w.heap.size + 1 < w'.heap.size := by have := hz.size; simp at this; omega))
  refine bodyPost_ret (res_cell_tmp rfl _ rfl agg_pay rfl (hj.chain8.alloc _)) rfl ⟨?_, rfl⟩
  refine below_alloc ?_ _
  repeat (refine Below.setCell ?_ (by simp) _)
  exact below_next (below_alloc (below_alloc (Below.refl _ _) _) _) hz
theorem not_capture (p : Pay) (n : Int) (w : World) (hn : 1 ≤ n) (hg : Hid (∀ w, Calls Tryd.prog 95 #[p.val, .int .i64 n] w fun e w' => DoerRes w w' none e)) :
    Calls Tryd.prog 42 #[p.val, .int .i64 4, .int .i64 n] w fun e w' => PayRes w w' (.error 6) e := by
  have hq := fun w f x y => doer_func w f x y
  go_enter Tryd.func42, Tryd.ntmps42
  go_wp2_with (first | (go_at_call 73; refine (by_any _ _ (by decide)).mono ?_; rintro e w' ⟨rfl, rfl⟩) | (go_at_call 95; refine (hg.out _).mono ?_; rintro e w' ⟨hz, q, rfl⟩; obtain ⟨q0, q1, q2, q3, q4, q5, q6, q7⟩ := q; have hj := (Blk.new1 w _ _ _).next hz; obtain ⟨j0, j1, j2, j3, j4, j5, j6, j7⟩ := hj.c8; have jf := hj.frozen; have zs : w.heap.size + 1 < w'.heap.size := by have := hz.size; simp at this; omega))
  refine bodyPost_ret (res_cell_tmp rfl _ rfl agg_pay rfl (hj.chain8.alloc _)) rfl ⟨?_, rfl⟩
  refine below_alloc ?_ _
  repeat (refine Below.setCell ?_ (by simp) _)
  exact below_next (below_alloc (below_alloc (Below.refl _ _) _) _) hz
theorem do_shut (p q : Pay) (n : Int) (w : World) (hg : Hid (∀ w, Calls Tryd.prog 98 #[p.val, .int .i64 n] w fun e w' => DoerRes w w' (some q) e)) :
    Calls Tryd.prog 42 #[p.val, .int .i64 5, .int .i64 n] w fun e w' => PayRes w w' (.ok q) e := by
  have hq := fun w f x y => doer_func w f x y
  obtain ⟨q0, q1, q2, q3, q4, q5, q6, q7⟩ := q
  go_enter Tryd.func42, Tryd.ntmps42
  go_wp2_with (first | (go_at_call 73; refine (by_any _ _ (by decide)).mono ?_; rintro e w' ⟨rfl, rfl⟩) | (go_at_call 98; refine (hg.out _).mono ?_; rintro e w' ⟨hz, rfl⟩; have hj := (Blk.new1 w _ _ _).next hz; obtain ⟨j0, j1, j2, j3, j4, j5, j6, j7⟩ := hj.c8; have jf := hj.frozen; have zs : w.heap.size + 1 < w'.heap.size := by have := hz.size; simp at this; omega))
  refine bodyPost_ret (res_cell_tmp rfl _ rfl agg_pay rfl (hj.chain8.alloc _)) rfl ⟨?_, rfl⟩
  refine below_alloc ?_ _
  repeat (refine Below.setCell ?_ (by simp) _)
  exact below_next (below_alloc (below_alloc (Below.refl _ _) _) _) hz
theorem not_shut (p : Pay) (n : Int) (w : World) (hg : Hid (∀ w, Calls Tryd.prog 98 #[p.val, .int .i64 n] w fun e w' => DoerRes w w' none e)) :
    Calls Tryd.prog 42 #[p.val, .int .i64 5, .int .i64 n] w fun e w' => PayRes w w' (.error 6) e := by
  have hq := fun w f x y => doer_func w f x y
  go_enter Tryd.func42, Tryd.ntmps42
  go_wp2_with (first | (go_at_call 73; refine (by_any _ _ (by decide)).mono ?_; rintro e w' ⟨rfl, rfl⟩) | (go_at_call 98; refine (hg.out _).mono ?_; rintro e w' ⟨hz, q, rfl⟩; obtain ⟨q0, q1, q2, q3, q4, q5, q6, q7⟩ := q; have hj := (Blk.new1 w _ _ _).next hz; obtain ⟨j0, j1, j2, j3, j4, j5, j6, j7⟩ := hj.c8; have jf := hj.frozen; have zs : w.heap.size + 1 < w'.heap.size := by have := hz.size; simp at this; omega))
  refine bodyPost_ret (res_cell_tmp rfl _ rfl agg_pay rfl (hj.chain8.alloc _)) rfl ⟨?_, rfl⟩
  refine below_alloc ?_ _
  repeat (refine Below.setCell ?_ (by simp) _)
  exact below_next (below_alloc (below_alloc (Below.refl _ _) _) _) hz
theorem do_refund (p q : Pay) (n : Int) (w : World) (hn : 1 ≤ n) (hg : Hid (∀ w, Calls Tryd.prog 96 #[p.val, .int .i64 n] w fun e w' => DoerRes w w' (some q) e)) :
    Calls Tryd.prog 42 #[p.val, .int .i64 6, .int .i64 n] w fun e w' => PayRes w w' (.ok q) e := by
  have hq := fun w f x y => doer_func w f x y
  obtain ⟨q0, q1, q2, q3, q4, q5, q6, q7⟩ := q
  go_enter Tryd.func42, Tryd.ntmps42
  go_wp2_with (first | (go_at_call 73; refine (by_any _ _ (by decide)).mono ?_; rintro e w' ⟨rfl, rfl⟩) | (go_at_call 96; refine (hg.out _).mono ?_; rintro e w' ⟨hz, rfl⟩; have hj := (Blk.new1 w _ _ _).next hz; obtain ⟨j0, j1, j2, j3, j4, j5, j6, j7⟩ := hj.c8; have jf := hj.frozen; have zs : w.heap.size + 1 < w'.heap.size := by have := hz.size; simp at this; omega))
  refine bodyPost_ret (res_cell_tmp rfl _ rfl agg_pay rfl (hj.chain8.alloc _)) rfl ⟨?_, rfl⟩
  refine below_alloc ?_ _
  repeat (refine Below.setCell ?_ (by simp) _)
  exact below_next (below_alloc (below_alloc (Below.refl _ _) _) _) hz
theorem not_refund (p : Pay) (n : Int) (w : World) (hn : 1 ≤ n) (hg : Hid (∀ w, Calls Tryd.prog 96 #[p.val, .int .i64 n] w fun e w' => DoerRes w w' none e)) :
    Calls Tryd.prog 42 #[p.val, .int .i64 6, .int .i64 n] w fun e w' => PayRes w w' (.error 6) e := by
  have hq := fun w f x y => doer_func w f x y
  go_enter Tryd.func42, Tryd.ntmps42
  go_wp2_with (first | (go_at_call 73; refine (by_any _ _ (by decide)).mono ?_; rintro e w' ⟨rfl, rfl⟩) | (go_at_call 96; refine (hg.out _).mono ?_; rintro e w' ⟨hz, q, rfl⟩; obtain ⟨q0, q1, q2, q3, q4, q5, q6, q7⟩ := q; have hj := (Blk.new1 w _ _ _).next hz; obtain ⟨j0, j1, j2, j3, j4, j5, j6, j7⟩ := hj.c8; have jf := hj.frozen; have zs : w.heap.size + 1 < w'.heap.size := by have := hz.size; simp at this; omega))
  refine bodyPost_ret (res_cell_tmp rfl _ rfl agg_pay rfl (hj.chain8.alloc _)) rfl ⟨?_, rfl⟩
  refine below_alloc ?_ _
  repeat (refine Below.setCell ?_ (by simp) _)
  exact below_next (below_alloc (below_alloc (Below.refl _ _) _) _) hz
theorem do_charge (p q : Pay) (n : Int) (w : World) (hn : 1 ≤ n) (hg : Hid (∀ w, Calls Tryd.prog 97 #[p.val, .int .i64 n] w fun e w' => DoerRes w w' (some q) e)) :
    Calls Tryd.prog 42 #[p.val, .int .i64 7, .int .i64 n] w fun e w' => PayRes w w' (.ok q) e := by
  have hq := fun w f x y => doer_func w f x y
  obtain ⟨q0, q1, q2, q3, q4, q5, q6, q7⟩ := q
  go_enter Tryd.func42, Tryd.ntmps42
  go_wp2_with (first | (go_at_call 73; refine (by_any _ _ (by decide)).mono ?_; rintro e w' ⟨rfl, rfl⟩) | (go_at_call 97; refine (hg.out _).mono ?_; rintro e w' ⟨hz, rfl⟩; have hj := (Blk.new1 w _ _ _).next hz; obtain ⟨j0, j1, j2, j3, j4, j5, j6, j7⟩ := hj.c8; have jf := hj.frozen; have zs : w.heap.size + 1 < w'.heap.size := by have := hz.size; simp at this; omega))
  refine bodyPost_ret (res_cell_tmp rfl _ rfl agg_pay rfl (hj.chain8.alloc _)) rfl ⟨?_, rfl⟩
  refine below_alloc ?_ _
  repeat (refine Below.setCell ?_ (by simp) _)
  exact below_next (below_alloc (below_alloc (Below.refl _ _) _) _) hz
theorem not_charge (p : Pay) (n : Int) (w : World) (hn : 1 ≤ n) (hg : Hid (∀ w, Calls Tryd.prog 97 #[p.val, .int .i64 n] w fun e w' => DoerRes w w' none e)) :
    Calls Tryd.prog 42 #[p.val, .int .i64 7, .int .i64 n] w fun e w' => PayRes w w' (.error 6) e := by
  have hq := fun w f x y => doer_func w f x y
  go_enter Tryd.func42, Tryd.ntmps42
  go_wp2_with (first | (go_at_call 73; refine (by_any _ _ (by decide)).mono ?_; rintro e w' ⟨rfl, rfl⟩) | (go_at_call 97; refine (hg.out _).mono ?_; rintro e w' ⟨hz, q, rfl⟩; obtain ⟨q0, q1, q2, q3, q4, q5, q6, q7⟩ := q; have hj := (Blk.new1 w _ _ _).next hz; obtain ⟨j0, j1, j2, j3, j4, j5, j6, j7⟩ := hj.c8; have jf := hj.frozen; have zs : w.heap.size + 1 < w'.heap.size := by have := hz.size; simp at this; omega))
  refine bodyPost_ret (res_cell_tmp rfl _ rfl agg_pay rfl (hj.chain8.alloc _)) rfl ⟨?_, rfl⟩
  refine below_alloc ?_ _
  repeat (refine Below.setCell ?_ (by simp) _)
  exact below_next (below_alloc (below_alloc (Below.refl _ _) _) _) hz
theorem payDo_any (p : Pay) (op n : Int) (w : World) (hp : PayOk p) : Calls Tryd.prog 42 #[p.val, .int .i64 op, .int .i64 n] w fun e w' => PayRes w w' (payDo p op n) e := by
  unfold payDo
  by_cases h1 : 4 ≤ op ∧ op ≤ 7
  rotate_left
  · rw [if_pos h1]
    exact do_none p op n w h1
  rw [if_neg (by simpa using h1)]
  by_cases h2 : ¬ op = 5 ∧ n < 1
  · rw [if_pos h2]
    exact do_bad p op n w (by omega) h2.2
  rw [if_neg h2]
  have hn : op = 5 ∨ 1 ≤ n := by omega
  have hop : op = 4 ∨ op = 5 ∨ op = 6 ∨ op = 7 := by omega
  rcases hop with rfl | rfl | rfl | rfl
  · have hn' : 1 ≤ n := by omega
    simp only [if_true]
    by_cases h : n ≤ left p
    · rw [if_pos h]
      exact do_capture p _ n w hn' (fun w => capture_yes p n w hp hn' h)
    · rw [if_neg h]
      exact not_capture p n w hn' (fun w => capture_no p n w hp hn' h)
  · simp only [Int.reduceEq, if_false, if_true]
    rcases hp.stage with h | h
    · rw [if_pos h]
      exact do_shut p _ n w (fun w => shut_yes p n w h)
    · rw [if_neg (by omega)]
      exact not_shut p n w (fun w => shut_no p n w h)
  · have hn' : 1 ≤ n := by omega
    simp only [Int.reduceEq, if_false, if_true]
    by_cases h : n ≤ gave p
    · rw [if_pos h]
      exact do_refund p _ n w hn' (fun w => refund_yes p n w hp hn' h)
    · rw [if_neg h]
      exact not_refund p n w hn' (fun w => refund_no p n w hp hn' h)
  · have hn' : 1 ≤ n := by omega
    simp only [Int.reduceEq, if_false]
    by_cases h : n ≤ gave p
    · rw [if_pos h]
      exact do_charge p _ n w hn' (fun w => charge_yes p n w hp hn' h)
    · rw [if_neg h]
      exact not_charge p n w hn' (fun w => charge_no p n w hp hn' h)
end Go.Proofs.YthjmficglpfgpaaDoor
