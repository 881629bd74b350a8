/- New accounts, and a new state. '==' of structs (printed by tools/eqs.py). The same accounts; the same state. A state in a variable. Payments by numbers. Accounts by numbers. States by numbers. The document's examples of requests. OpsCharge: the walk. Opening a law's arguments: slices of numbers, of payments by numbers, a book. The document's own answer to a request: what stands in memory behind the two copies. -/
import Derived.Test.YthjmficglpfgpaaDoorX6
import Derived.Test.YthjmficglpfgpaaDoorX4
import Derived.Test.YthjmficglpfgpaaDoorX1
import Derived.Test.YthjmficglpfgpaaDoorX2
import Derived.Deep.Slices
import Derived.Deep.Fields
import Derived.ChangeSame
import Derived.ChangeSlices
import Derived.Lib.SmallJoins
namespace Go.Proofs.YthjmficglpfgpaaDoor
set_option linter.unusedVariables false
set_option linter.unusedSimpArgs false
open Go Go.RowKit Enc
set_option maxRecDepth 100000
set_option maxHeartbeats 800000

theorem house_snoc : ∀ c : Nat, c < 3 → ∀ k : Nat, k < 3 → house.take (3 * c + k + 1) = house.take (3 * c + k) ++ [⟨(c : Int), 0, 0⟩] := by decide
def NewRel (w : World) (v i : Value) (wr : World) : Prop := ∃ c : Nat, c ≤ 3 ∧ i = .int .i64 c ∧ Below w.heap.size w wr ∧ Own wr w.heap.size 50 v (house.take (3 * c))
def NewRel2 (w : World) (c : Nat) (v i : Value) (wr : World) : Prop := ∃ k : Nat, k ≤ 3 ∧ i = .int .i64 k ∧ Below w.heap.size w wr ∧ Own wr w.heap.size 50 v (house.take (3 * c + k))
theorem new_accs (w : World) : Calls Tryd.prog 56 #[] w fun e w' => ∃ v, e = .returned v ∧ Own w' w.heap.size 50 v house ∧ Below w.heap.size w w' := by
  go_enter Tryd.func56, Tryd.ntmps56
  go_wp2
  go_loopw [1, 3] (fun v i wr => NewRel w v i wr) (fun _ i _ => 3 - (intOf i).toNat)
  case atStart => exact ⟨0, by omega, rfl, Below.refl _ _, by simpa using Own.nil _ _ _⟩
  case round =>
    obtain ⟨c, hc, rfl, hb, hown⟩ := hrel
    by_cases hlt : c < 3
    · obtain ⟨wo, rfl⟩ : ∃ wo : World, wo = wr := ⟨_, rfl⟩
      have hltI : decide ((c : Int) < 3) = true := by simp; omega
      go_wp2
      go_loopw [1, 6] (fun v i wr => NewRel2 w c v i wr) (fun _ i _ => 3 - (intOf i).toNat)
      case atStart => exact ⟨0, by omega, rfl, hb, by simpa using hown⟩
      case round =>
        clear hown hb
        obtain ⟨k, hk, rfl, hb, hown⟩ := hrel
        by_cases hlk : k < 3
        · have hsn := Lib.hid (house_snoc c hlt k hlk)
          have HBY := Lib.hid (show ((house.take (3 * c + k)).length + [Acc.mk (c : Int) 0 0].length) * 24 ≤ 140737488355328 by simp [house]; omega)
          have HSZ := Lib.hid (below_alloc hb (.cells #[.int .i64 c, .int .i64 0, .int .i64 0] 50)).size
          go_wp2_with (at_builtin; refine wp_append (B := w.heap.size) (xs := house.take (3 * c + k)) (ys := [Acc.mk (c : Int) 0 0]) sT_acc rfl rfl _ (.slice (some ⟨wr.heap.size, 0, none⟩) 1 1) rfl rfl (hown.alloc _) (Row.box wr (Acc.mk (c : Int) 0 0) #[.int .i64 c, .int .i64 0, .int .i64 0] rfl 50) HBY.out (by decide) HSZ.out ?_; intro v2 w2 hown2 hg2 hat2)
          rw [← hsn.out] at hown2
          exact ⟨⟨k + 1, by omega, by go_num, below_grown (below_alloc hb _) hg2 hown.base, hown2⟩, by simp [intOf]; omega⟩
        · obtain rfl : k = 3 := by omega
          go_wp2
          exact ⟨⟨c + 1, by omega, by go_num, hb, by rw [show 3 * (c + 1) = 3 * c + 3 by omega]; exact hown⟩, by simp [intOf]; omega⟩
    · obtain rfl : c = 3 := by omega
      go_wp2
      go_ret
      exact ⟨_, rfl, by simpa [house] using hown, hb⟩
def newSt : St := ⟨house, [], [], [], 0⟩
theorem new_st (w : World) : Calls Tryd.prog 32 #[] w fun e w' => ∃ v, e = .returned v ∧ StV w' v newSt ∧ Below w.heap.size w w' := by
  go_enter Tryd.func32, Tryd.ntmps32
  go_wp2_with fail
  refine (new_accs _).mono ?_
  rintro e w1 ⟨v, rfl, hown, hb⟩
  obtain ⟨A, c, rfl⟩ := hown.row.slice
  have hj := (Blk.new w 36 #[.slice none 0 0, .slice none 0 0, .slice none 0 0, .slice none 0 0, .int .i64 0]).next hb
  obtain ⟨x0, x1, x2, x3, x4⟩ := hj.c5
  have jf := hj.frozen
  have lj := hj.lt
  go_wp2_with fail
  refine bodyPost_ret (res_cell rfl _ rfl agg_st rfl (hj.chain5)) rfl ⟨_, rfl, ⟨_, _, _, _, rfl, ?_, Row.nil _, Row.nil _, Row.nil _⟩, ?_⟩
  · have hs : ∀ (W : World) (i : Nat) (u : Value), Row W (.slice A house.length c) house → Row (W.setCell ⟨w.heap.size, i, none⟩ u) (.slice A house.length c) house := fun W i u h => h.only (fun _ => (hown.ne (by simp)).symm) ((World.grownBy.refl W _).setCell rfl u)
    exact hs _ _ _ (hs _ _ _ (hs _ _ _ (hs _ _ _ (hs _ _ _ hown.row))))
  · (repeat (first | (with_reducible refine below_drew ?_) | (with_reducible refine below_drewN ?_ _) | (with_reducible refine below_alloc ?_ _) | ((with_reducible refine Below.setCell ?_ ?_ _); rotate_left; (focus (first | (simp; done) | (simp; omega))))))
    exact below_next (below_alloc (Below.refl _ _) _) hb
end Go.Proofs.YthjmficglpfgpaaDoor
namespace Go.Proofs.YthjmficglpfgpaaDoor
set_option linter.unusedVariables false
set_option linter.unusedSimpArgs false
open Go Go.RowKit Enc
set_option maxRecDepth 100000
set_option maxHeartbeats 1600000

theorem eql_acc (x y : Acc) (w : World) : (binOp .eql 50 x.val y.val).run Tryd.prog w = .ok (.bool (decide (x = y))) w := by
  obtain ⟨a0, a1, a2⟩ := x
  obtain ⟨b0, b1, b2⟩ := y
  go_simp
  (repeat' split) <;> first | rfl | (simp_all; done)
theorem neq_acc (x y : Acc) (w : World) : (binOp .neq 50 x.val y.val).run Tryd.prog w = .ok (.bool (decide (x ≠ y))) w := by
  obtain ⟨a0, a1, a2⟩ := x
  obtain ⟨b0, b1, b2⟩ := y
  go_simp
  (repeat' split) <;> first | rfl | (simp_all; done)
theorem eql_rep (x y : Rep) (w : World) : (binOp .eql 40 x.val y.val).run Tryd.prog w = .ok (.bool (decide (x = y))) w := by
  obtain ⟨a0, a1⟩ := x
  obtain ⟨b0, b1⟩ := y
  go_simp
  (repeat' split) <;> first | rfl | (simp_all; done)
theorem neq_rep (x y : Rep) (w : World) : (binOp .neq 40 x.val y.val).run Tryd.prog w = .ok (.bool (decide (x ≠ y))) w := by
  obtain ⟨a0, a1⟩ := x
  obtain ⟨b0, b1⟩ := y
  go_simp
  (repeat' split) <;> first | rfl | (simp_all; done)
theorem eql_pay (x y : Pay) (w : World) : (binOp .eql 47 x.val y.val).run Tryd.prog w = .ok (.bool (decide (x = y))) w := by
  obtain ⟨a0, a1, a2, a3, a4, a5, a6, a7⟩ := x
  obtain ⟨b0, b1, b2, b3, b4, b5, b6, b7⟩ := y
  go_simp
  (repeat' split) <;> first | rfl | (simp_all; done)
theorem neq_pay (x y : Pay) (w : World) : (binOp .neq 47 x.val y.val).run Tryd.prog w = .ok (.bool (decide (x ≠ y))) w := by
  obtain ⟨a0, a1, a2, a3, a4, a5, a6, a7⟩ := x
  obtain ⟨b0, b1, b2, b3, b4, b5, b6, b7⟩ := y
  go_simp
  (repeat' split) <;> first | rfl | (simp_all; done)
theorem eql_req (x y : Req) (w : World) : (binOp .eql 29 x.val y.val).run Tryd.prog w = .ok (.bool (decide (x = y))) w := by
  obtain ⟨a0, a1, a2, a3, a4, a5, a6⟩ := x
  obtain ⟨b0, b1, b2, b3, b4, b5, b6⟩ := y
  go_simp
  (repeat' split) <;> first | rfl | (simp_all; done)
theorem neq_req (x y : Req) (w : World) : (binOp .neq 29 x.val y.val).run Tryd.prog w = .ok (.bool (decide (x ≠ y))) w := by
  obtain ⟨a0, a1, a2, a3, a4, a5, a6⟩ := x
  obtain ⟨b0, b1, b2, b3, b4, b5, b6⟩ := y
  go_simp
  (repeat' split) <;> first | rfl | (simp_all; done)
theorem eql_kn (x y : Kn) (w : World) : (binOp .eql 83 x.val y.val).run Tryd.prog w = .ok (.bool (decide (x = y))) w := by
  obtain ⟨⟨a0, a1, a2, a3, a4, a5, a6⟩, ⟨a7, a8⟩, a9⟩ := x
  obtain ⟨⟨b0, b1, b2, b3, b4, b5, b6⟩, ⟨b7, b8⟩, b9⟩ := y
  go_simp
  (repeat' split) <;> first | rfl | (simp_all; done)
theorem neq_kn (x y : Kn) (w : World) : (binOp .neq 83 x.val y.val).run Tryd.prog w = .ok (.bool (decide (x ≠ y))) w := by
  obtain ⟨⟨a0, a1, a2, a3, a4, a5, a6⟩, ⟨a7, a8⟩, a9⟩ := x
  obtain ⟨⟨b0, b1, b2, b3, b4, b5, b6⟩, ⟨b7, b8⟩, b9⟩ := y
  go_simp
  (repeat' split) <;> first | rfl | (simp_all; done)
end Go.Proofs.YthjmficglpfgpaaDoor
namespace Go.Proofs.YthjmficglpfgpaaDoor
set_option linter.unusedVariables false
set_option linter.unusedSimpArgs false
open Go Go.RowKit Enc
set_option maxRecDepth 100000
set_option maxHeartbeats 800000

/-- A test that only reads. -/
def Tells (P : Prop) [Decidable P] (w w' : World) (e : Ending) : Prop := e = .returned (.bool (decide P)) ∧ ∃ n, w' = w.drewN n
theorem Tells.below {P : Prop} [Decidable P] {w w' : World} {e : Ending} (h : Tells P w w' e) : Below w.heap.size w w' := by
  obtain ⟨_, n, rfl⟩ := h
  exact below_drewN (Below.refl _ _) n
def SameRel {α : Type} [Inhabited α] (w : World) (xs ys : List α) (i : Value) (wr : World) : Prop := ∃ k : Nat, k ≤ xs.length ∧ i = .int .i64 k ∧ (∃ n, wr = w.drewN n) ∧ ∀ j : Int, 0 ≤ j → j < k → rd xs j = rd ys j
theorem drewN_drew (w : World) (n : Nat) : ∃ m, (w.drewN n).drew = w.drewN m := ⟨n + 1, rfl⟩
theorem drewN_drewN (w : World) (n m : Nat) : ∃ k, (w.drewN n).drewN m = w.drewN k := ⟨n + m, by simp [World.drewN, Nat.add_assoc]⟩
theorem same_accs (a b : Value) (xs ys : List Acc) (w : World) (ha : Row w a xs) (hb : Row w b ys) : Calls Tryd.prog 46 #[a, b] w fun e w' => Tells (xs = ys) w w' e := by
  have hm := ha.max
  have hm2 := hb.max
  obtain ⟨A, c, hav⟩ := ha.slice
  obtain ⟨A2, c2, hbv⟩ := hb.slice
  subst hav hbv
  by_cases hl : xs.length = ys.length
  rotate_left
  · have hn := Lib.hid (show ¬ xs = ys from fun h => hl (h ▸ rfl))
    have hlb : ((xs.length : Int) != ys.length) = true := by rw [bne_iff_ne]; omega
    clear hl
    go_enter Tryd.func46, Tryd.ntmps46
    go_wp2
    go_ret
    exact ⟨by rw [decide_eq_false hn.out]; rfl, 0, rfl⟩
  · have hlb : ((xs.length : Int) != ys.length) = false := by simp [hl]
    have HL := Lib.hid hl
    clear hl
    have hq := neq_acc
    go_enter Tryd.func46, Tryd.ntmps46
    go_wp2
    go_loopw [13] (fun i wr => SameRel w xs ys i wr) (fun i _ => xs.length - (intOf i).toNat)
    case atStart => exact ⟨0, by omega, rfl, ⟨0, rfl⟩, fun j h0 h1 => by omega⟩
    case round =>
      obtain ⟨k, hk, rfl, ⟨n, rfl⟩, hall⟩ := hrel
      have HA := Lib.hid hall
      clear hall
      by_cases hlt : k < xs.length
      · have hlt2 : k < ys.length := by have := HL.out; omega
        obtain ⟨b1, o1, c1', hv, x0, x1, x2, l1⟩ := ha.acc k hlt
        injection hv with hv1 _ hv3
        subst hv1 hv3
        obtain ⟨b2, o2, c2', hv, y0, y1, y2, l2⟩ := hb.acc k hlt2
        injection hv with hv1 _ hv3
        subst hv1 hv3
        have i0 : (0 : Int) ≤ (k : Int) := by omega
        have i1 : (k : Int) < (xs.length : Int) := by omega
        have i2 : (k : Int) < (ys.length : Int) := by omega
        clear hq
        by_cases he : rd xs (k : Int) = rd ys (k : Int)
        · have hq1 := fun w => (neq_acc (rd xs (k : Int)) (rd ys (k : Int)) w).trans (by rw [decide_eq_false (fun h => h he)])
          have HE := Lib.hid he
          clear he
          go_wp2
          go_quiet (fail)
          go_wp2
          exact ⟨⟨k + 1, by omega, by go_num, ⟨_, rfl⟩, fun j j0 hj => by
            rcases Int.lt_or_le j k with h | h
            · exact HA.out j j0 h
            · rw [show j = (k : Int) by omega]; exact HE.out⟩, by simp [intOf]; omega⟩
        · have hq1 := fun w => (neq_acc (rd xs (k : Int)) (rd ys (k : Int)) w).trans (by rw [decide_eq_true he])
          have hn := Lib.hid (show ¬ xs = ys from fun h => he (h ▸ rfl))
          clear he
          go_wp2
          go_quiet (fail)
          go_wp2
          go_ret
          exact ⟨by rw [decide_eq_false hn.out]; rfl, by first | exact ⟨_, rfl⟩ | exact drewN_drewN w n nq⟩
      · have hy := Lib.hid (show xs = ys from rd_ext HL.out fun j j0 hj => HA.out j j0 (by omega))
        have i1 : (xs.length : Int) ≤ (k : Int) := by omega
        go_wp2
        go_ret
        exact ⟨by rw [decide_eq_true hy.out]; rfl, n, rfl⟩
/-- The same accounts, payments, and time. -/
def SameP (s t : St) : Prop := s.accs = t.accs ∧ s.pays = t.pays ∧ s.now = t.now
instance (s t : St) : Decidable (SameP s t) := by unfold SameP; infer_instance
def TellsB (P : Prop) [Decidable P] (w w' : World) (e : Ending) : Prop := e = .returned (.bool (decide P)) ∧ Below w.heap.size w w'
theorem same_st (v u : Value) (s t : St) (w : World) (hv : StV w v s) (hu : StV w u t) : Calls Tryd.prog 16 #[v, u] w fun e w' => TellsB (SameP s t) w w' e := by
  obtain ⟨xs, ps, gs, ks, now⟩ := s
  obtain ⟨ys, qs, hs, ls, then_⟩ := t
  obtain ⟨a, p, g, k, rfl, ha, hp, hg, hk⟩ := hv
  obtain ⟨a', p', g', k', rfl, ha', hp', hg', hk'⟩ := hu
  obtain ⟨A1, c1, rfl⟩ := ha.slice
  obtain ⟨A2, c2, rfl⟩ := hp.slice
  obtain ⟨A3, c3, rfl⟩ := hg.slice
  obtain ⟨A4, c4, rfl⟩ := hk.slice
  obtain ⟨B1, d1, rfl⟩ := ha'.slice
  obtain ⟨B2, d2, rfl⟩ := hp'.slice
  obtain ⟨B3, d3, rfl⟩ := hg'.slice
  obtain ⟨B4, d4, rfl⟩ := hk'.slice
  have hm := hp.max
  have hm2 := hp'.max
  simp only at *
  clear hg hk hg' hk'
  generalize hW : (w.alloc (.cells #[.slice A1 xs.length c1, .slice A2 ps.length c2, .slice A3 gs.length c3, .slice A4 ks.length c4, .int .i64 now] 36)).alloc (.cells #[.slice B1 ys.length d1, .slice B2 qs.length d2, .slice B3 hs.length d3, .slice B4 ls.length d4, .int .i64 then_] 36) = W
  have hbW : Below w.heap.size w W := by subst hW; exact below_alloc (below_alloc (Below.refl _ _) _) _
  have hx : Blk W w.heap.size 36 #[.slice A1 xs.length c1, .slice A2 ps.length c2, .slice A3 gs.length c3, .slice A4 ks.length c4, .int .i64 now] := by subst hW; exact (Blk.new _ _ _).alloc _
  have hy : Blk W (w.heap.size + 1) 36 #[.slice B1 ys.length d1, .slice B2 qs.length d2, .slice B3 hs.length d3, .slice B4 ls.length d4, .int .i64 then_] := by subst hW; exact Blk.new1 _ _ _ _
  have HW := Lib.hid hW
  clear hW
  replace ha := ha.below hbW
  replace hp := hp.below hbW
  replace ha' := ha'.below hbW
  replace hp' := hp'.below hbW
  obtain ⟨x0, x1, x2, x3, x4⟩ := hx.c5
  obtain ⟨y0, y1, y2, y3, y4⟩ := hy.c5
  have HS := Lib.hid (same_accs (.slice A1 xs.length c1) (.slice B1 ys.length d1) xs ys W ha ha')
  by_cases h1 : xs = ys
  rotate_left
  · have hn := Lib.hid (show ¬ SameP ⟨xs, ps, gs, ks, now⟩ ⟨ys, qs, hs, ls, then_⟩ from fun h => h1 h.1)
    have H1 := Lib.hid (decide_eq_false h1)
    clear h1
    go_enter Tryd.func16, Tryd.ntmps16
    go_wp2_with fail
    rw [HW.out]
    go_wp2_with fail
    refine HS.out.mono ?_
    rintro e w' ⟨rfl, n, rfl⟩
    rw [H1.out]
    go_wp2
    go_ret
    exact ⟨by rw [decide_eq_false hn.out]; rfl, below_drewN hbW _⟩
  by_cases h2 : ps.length = qs.length
  rotate_left
  · have hn := Lib.hid (show ¬ SameP ⟨xs, ps, gs, ks, now⟩ ⟨ys, qs, hs, ls, then_⟩ from fun h => h2 (congrArg List.length h.2.1))
    have H1 := Lib.hid (decide_eq_true h1)
    have h2b : ((ps.length : Int) != qs.length) = true := by rw [bne_iff_ne]; omega
    clear h1 h2
    go_enter Tryd.func16, Tryd.ntmps16
    go_wp2_with fail
    rw [HW.out]
    go_wp2_with fail
    refine HS.out.mono ?_
    rintro e w' ⟨rfl, n, rfl⟩
    rw [H1.out]
    go_wp2
    go_ret
    exact ⟨by rw [decide_eq_false hn.out]; rfl, below_drewN hbW _⟩
  have h2b : ((ps.length : Int) != qs.length) = false := by simp [h2]
  by_cases h3 : now = then_
  rotate_left
  · have hn := Lib.hid (show ¬ SameP ⟨xs, ps, gs, ks, now⟩ ⟨ys, qs, hs, ls, then_⟩ from fun h => h3 h.2.2)
    have H1 := Lib.hid (decide_eq_true h1)
    have h3b : (now != then_) = true := by rw [bne_iff_ne]; exact h3
    clear h1 h2 h3
    go_enter Tryd.func16, Tryd.ntmps16
    go_wp2_with fail
    rw [HW.out]
    go_wp2_with fail
    refine HS.out.mono ?_
    rintro e w' ⟨rfl, n, rfl⟩
    rw [H1.out]
    go_wp2
    go_ret
    exact ⟨by rw [decide_eq_false hn.out]; rfl, below_drewN hbW _⟩
  have h3b : (now != then_) = false := by simp [h3]
  have H1 := Lib.hid (decide_eq_true h1)
  have HL := Lib.hid h2
  have H1' := Lib.hid h1
  have H3 := Lib.hid h3
  clear h1 h2 h3
  go_enter Tryd.func16, Tryd.ntmps16
  go_wp2_with fail
  rw [HW.out]
  go_wp2_with fail
  refine HS.out.mono ?_
  rintro e w' ⟨rfl, m, rfl⟩
  rw [H1.out]
  go_wp2
  go_loopw [31] (fun i wr => SameRel W ps qs i wr) (fun i _ => ps.length - (intOf i).toNat)
  case atStart => exact ⟨0, by omega, rfl, ⟨m, rfl⟩, fun j h0 h1 => by omega⟩
  case round =>
    obtain ⟨k, hk, rfl, ⟨n, rfl⟩, hall⟩ := hrel
    have HA := Lib.hid hall
    clear hall
    by_cases hlt : k < ps.length
    · have hlt2 : k < qs.length := by have := HL.out; omega
      obtain ⟨b1, o1, c1', hv, z0, z1, z2, z3, z4, z5, z6, z7, l1⟩ := hp.pay k hlt
      injection hv with hv1 _ hv3
      subst hv1 hv3
      obtain ⟨b2, o2, c2', hv, r0, r1, r2, r3, r4, r5, r6, r7, l2⟩ := hp'.pay k hlt2
      injection hv with hv1 _ hv3
      subst hv1 hv3
      have i0 : (0 : Int) ≤ (k : Int) := by omega
      have i1 : (k : Int) < (ps.length : Int) := by omega
      have i2 : (k : Int) < (qs.length : Int) := by omega
      by_cases he : rd ps (k : Int) = rd qs (k : Int)
      · have hq1 := fun w => (neq_pay (rd ps (k : Int)) (rd qs (k : Int)) w).trans (by rw [decide_eq_false (fun h => h he)])
        have HE := Lib.hid he
        clear he
        go_wp2
        go_quiet (fail)
        go_wp2
        exact ⟨⟨k + 1, by omega, by go_num, by first | exact ⟨_, rfl⟩ | exact drewN_drewN _ n nq, fun j j0 hj => by
          rcases Int.lt_or_le j k with h | h
          · exact HA.out j j0 h
          · rw [show j = (k : Int) by omega]; exact HE.out⟩, by simp [intOf]; omega⟩
      · have hq1 := fun w => (neq_pay (rd ps (k : Int)) (rd qs (k : Int)) w).trans (by rw [decide_eq_true he])
        have hn := Lib.hid (show ¬ SameP ⟨xs, ps, gs, ks, now⟩ ⟨ys, qs, hs, ls, then_⟩ from fun h => he (by rw [show ps = qs from h.2.1]))
        clear he
        go_wp2
        go_quiet (fail)
        go_wp2
        go_ret
        exact ⟨by rw [decide_eq_false hn.out]; rfl, by (repeat (first | (with_reducible refine below_drew ?_) | (with_reducible refine below_drewN ?_ _) | (with_reducible refine below_alloc ?_ _) | ((with_reducible refine Below.setCell ?_ ?_ _); rotate_left; (focus (first | (simp; done) | (simp; omega)))))); exact hbW⟩
    · have hy := Lib.hid (show SameP ⟨xs, ps, gs, ks, now⟩ ⟨ys, qs, hs, ls, then_⟩ from ⟨H1'.out, rd_ext HL.out fun j j0 hj => HA.out j j0 (by have hj : j < (ps.length : Int) := hj; omega), H3.out⟩)
      have i1 : (ps.length : Int) ≤ (k : Int) := by omega
      go_wp2
      go_ret
      exact ⟨by rw [decide_eq_true hy.out]; rfl, by (repeat (first | (with_reducible refine below_drew ?_) | (with_reducible refine below_drewN ?_ _) | (with_reducible refine below_alloc ?_ _) | ((with_reducible refine Below.setCell ?_ ?_ _); rotate_left; (focus (first | (simp; done) | (simp; omega)))))); exact hbW⟩
end Go.Proofs.YthjmficglpfgpaaDoor
namespace Go.Proofs.YthjmficglpfgpaaDoor
set_option linter.unusedVariables false
set_option linter.unusedSimpArgs false
open Go Go.RowKit Enc
set_option maxRecDepth 100000

/-- Elements that begin with two numbers. -/
class Two (α : Type) [Enc α] : Prop where
  two : ∀ x : α, ∃ i j, (enc x)[0]? = some (.int .i64 i) ∧ (enc x)[1]? = some (.int .i64 j)
instance : Two Acc := ⟨fun _ => ⟨_, _, rfl, rfl⟩⟩
instance : Two Pay := ⟨fun _ => ⟨_, _, rfl, rfl⟩⟩
instance : Two Saga := ⟨fun _ => ⟨_, _, rfl, rfl⟩⟩
instance : Two Kn := ⟨fun _ => ⟨_, _, rfl, rfl⟩⟩
/-- The cells of a state's variable. -/
abbrev stCells (A1 : Option Addr) (n1 c1 : Nat) (A2 : Option Addr) (n2 c2 : Nat) (A3 : Option Addr) (n3 c3 : Nat) (A4 : Option Addr) (n4 c4 : Nat) (now : Int) : Array Value := #[.slice A1 n1 c1, .slice A2 n2 c2, .slice A3 n3 c3, .slice A4 n4 c4, .int .i64 now]
theorem Row.off {w : World} {v : Value} {α : Type} [Enc α] [Two α] {xs : List α} {g : Nat} {t : TypeId} {A1 A2 A3 A4 : Option Addr} {n1 c1 n2 c2 n3 c3 n4 c4 : Nat} {now : Int} (h : Row w v xs) (hb : Blk w g t (stCells A1 n1 c1 A2 n2 c2 A3 n3 c3 A4 n4 c4 now)) : xs ≠ [] → v.ownBlock ≠ some g := fun hne he => by
  obtain ⟨A, c, rfl, hm, hc⟩ := h
  have hl : 0 < xs.length := List.length_pos_iff.2 hne
  obtain ⟨b, o, rfl, hj⟩ := hc 0 hl
  obtain ⟨i, j, h0, h1⟩ := Two.two (xs[0])
  have e0 := hj 0 _ h0
  have e1 := hj 1 _ h1
  simp only [Value.ownBlock] at he
  injection he with he
  subst he
  rw [hb.cell] at e0 e1
  simp only [Nat.zero_mul, Nat.add_zero] at e0 e1
  rcases o with _ | _ | _ | _ | _ | o
  · simp at e0
  · simp at e0
  · simp at e0
  · simp at e0
  · simp at e1
  · simp at e0
theorem StV.over {w w' : World} {v : Value} {s : St} {g : Nat} {t : TypeId} {A1 A2 A3 A4 : Option Addr} {n1 c1 n2 c2 n3 c3 n4 c4 : Nat} {now : Int} (h : StV w v s) (hb : Blk w g t (stCells A1 n1 c1 A2 n2 c2 A3 n3 c3 A4 n4 c4 now)) (hg : w.grownBy w' (some g)) : StV w' v s := by
  obtain ⟨a, p, sg, k, rfl, ha, hp, hs, hk⟩ := h
  exact ⟨a, p, sg, k, rfl, ha.only (ha.off hb) hg, hp.only (hp.off hb) hg, hs.only (hs.off hb) hg, hk.only (hk.off hb) hg⟩
theorem set5_grown (w : World) (g : Nat) (a0 a1 a2 a3 a4 : Value) : w.grownBy (((((w.setCell ⟨g, 0, none⟩ a0).setCell ⟨g, 1, none⟩ a1).setCell ⟨g, 2, none⟩ a2).setCell ⟨g, 3, none⟩ a3).setCell ⟨g, 4, none⟩ a4) (some g) :=
  (((((World.grownBy.refl w (some g)).setCell (a := ⟨g, 0, none⟩) (g := g) rfl a0).setCell (a := ⟨g, 1, none⟩) rfl a1).setCell (a := ⟨g, 2, none⟩) rfl a2).setCell (a := ⟨g, 3, none⟩) rfl a3).setCell (a := ⟨g, 4, none⟩) rfl a4
/-- A state's cells. -/
theorem StV.open {w : World} {v : Value} {s : St} (h : StV w v s) : ∃ A1 c1 A2 c2 A3 c3 A4 c4, v = .agg #[.slice A1 s.accs.length c1, .slice A2 s.pays.length c2, .slice A3 s.sagas.length c3, .slice A4 s.known.length c4, .int .i64 s.now] ∧
    Row w (.slice A1 s.accs.length c1) s.accs ∧ Row w (.slice A2 s.pays.length c2) s.pays ∧ Row w (.slice A3 s.sagas.length c3) s.sagas ∧ Row w (.slice A4 s.known.length c4) s.known := by
  obtain ⟨a, p, g, k, rfl, ha, hp, hg, hk⟩ := h
  obtain ⟨A1, c1, rfl⟩ := ha.slice
  obtain ⟨A2, c2, rfl⟩ := hp.slice
  obtain ⟨A3, c3, rfl⟩ := hg.slice
  obtain ⟨A4, c4, rfl⟩ := hk.slice
  exact ⟨_, _, _, _, _, _, _, _, rfl, ha, hp, hg, hk⟩
theorem StV.mk' {w : World} {s : St} {A1 A2 A3 A4 : Option Addr} {c1 c2 c3 c4 : Nat} (h1 : Row w (.slice A1 s.accs.length c1) s.accs) (h2 : Row w (.slice A2 s.pays.length c2) s.pays) (h3 : Row w (.slice A3 s.sagas.length c3) s.sagas) (h4 : Row w (.slice A4 s.known.length c4) s.known) :
    StV w (.agg #[.slice A1 s.accs.length c1, .slice A2 s.pays.length c2, .slice A3 s.sagas.length c3, .slice A4 s.known.length c4, .int .i64 s.now]) s := ⟨_, _, _, _, rfl, h1, h2, h3, h4⟩
theorem StV.rows {w : World} {s : St} {v1 v2 v3 v4 v5 : Value} (h : StV w (.agg #[v1, v2, v3, v4, v5]) s) : Row w v1 s.accs ∧ Row w v2 s.pays ∧ Row w v3 s.sagas ∧ Row w v4 s.known := by
  obtain ⟨a, p, g, k, he, ha, hp, hg, hk⟩ := h
  injection he with he
  simp only [Array.mk.injEq, List.cons.injEq] at he
  obtain ⟨rfl, rfl, rfl, rfl, rfl, -⟩ := he
  exact ⟨ha, hp, hg, hk⟩
theorem Row.addr {w : World} {A : Option Addr} {n c : Nat} {α : Type} [Enc α] {xs : List α} (h : Row w (.slice A n c) xs) (hl : 0 < xs.length) : ∃ b o, A = some ⟨b, o, none⟩ := by
  obtain ⟨A', c', hv, hm, hc⟩ := h
  injection hv with e1 _ _
  subst e1
  obtain ⟨b, o, rfl, _⟩ := hc 0 hl
  exact ⟨b, o, rfl⟩
theorem Row.accAt {w : World} {b o n c : Nat} {xs : List Acc} (h : Row w (.slice (some ⟨b, o, none⟩) n c) xs) (k : Int) (h0 : 0 ≤ k) (hk : k < xs.length) :
    w.cell? ⟨b, o + k.toNat * 3, none⟩ = some (.int .i64 (rd xs k).cur) ∧ w.cell? ⟨b, o + k.toNat * 3 + 1, none⟩ = some (.int .i64 (rd xs k).bal) ∧ w.cell? ⟨b, o + k.toNat * 3 + 2, none⟩ = some (.int .i64 (rd xs k).held) := by
  obtain ⟨b', o', c', hv, c1, c2, c3, _⟩ := h.accI k h0 hk
  injection hv with e1 _ _
  injection e1 with e1
  injection e1 with e4 e5
  subst e4 e5
  exact ⟨c1, c2, c3⟩
theorem Row.payAt {w : World} {b o n c : Nat} {xs : List Pay} (h : Row w (.slice (some ⟨b, o, none⟩) n c) xs) (k : Int) (h0 : 0 ≤ k) (hk : k < xs.length) :
    w.cell? ⟨b, o + k.toNat * 8, none⟩ = some (.int .i64 (rd xs k).frm) ∧ w.cell? ⟨b, o + k.toNat * 8 + 1, none⟩ = some (.int .i64 (rd xs k).to) ∧ w.cell? ⟨b, o + k.toNat * 8 + 2, none⟩ = some (.int .i64 (rd xs k).auth) ∧ w.cell? ⟨b, o + k.toNat * 8 + 3, none⟩ = some (.int .i64 (rd xs k).capt) ∧ w.cell? ⟨b, o + k.toNat * 8 + 4, none⟩ = some (.int .i64 (rd xs k).refd) ∧ w.cell? ⟨b, o + k.toNat * 8 + 5, none⟩ = some (.int .i64 (rd xs k).chgd) ∧ w.cell? ⟨b, o + k.toNat * 8 + 6, none⟩ = some (.int .i64 (rd xs k).til) ∧ w.cell? ⟨b, o + k.toNat * 8 + 7, none⟩ = some (.int .i64 (rd xs k).stage) := by
  obtain ⟨b', o', c', hv, c0, c1, c2, c3, c4, c5, c6, c7, _⟩ := h.payI k h0 hk
  injection hv with e1 _ _
  injection e1 with e1
  injection e1 with e4 e5
  subst e4 e5
  exact ⟨c0, c1, c2, c3, c4, c5, c6, c7⟩
theorem StV.alloc {w : World} {v : Value} {s : St} (h : StV w v s) (o : Obj) : StV (w.alloc o) v s := h.below (below_alloc (Below.refl _ _) o)
theorem StV.drew {w : World} {v : Value} {s : St} (h : StV w v s) : StV w.drew v s := h
theorem StV.drewN {w : World} {v : Value} {s : St} (h : StV w v s) (n : Nat) : StV (w.drewN n) v s := h
theorem Row.drewR {w : World} {v : Value} {α : Type} [Enc α] {xs : List α} (h : Row w v xs) : Row w.drew v xs := h
end Go.Proofs.YthjmficglpfgpaaDoor
namespace Go.Proofs.YthjmficglpfgpaaDoor
set_option linter.unusedVariables false
set_option linter.unusedSimpArgs false
open Go Go.RowKit Enc
set_option maxRecDepth 100000
set_option maxHeartbeats 1600000

theorem paid_any (p : Paid) (w : World) (hp : PaidOk p) : Calls Tryd.prog 34 #[p.val] w fun e w' => e = .returned (payOf p).val ∧ Below w.heap.size w w' := by
  obtain ⟨h1, h2, h3, h4, h5, h6, h7⟩ := hp
  obtain ⟨frm, to, auth, capt, refd, chgd, til, closed⟩ := p
  simp only at *
  have c0 := Int.emod_nonneg capt (show (1 + auth + 1) ≠ 0 by omega)
  have c1 := Int.emod_lt_of_pos capt (show 0 < (1 + auth + 1) by omega)
  have r0 := Int.emod_nonneg refd (show (capt % (1 + auth + 1) + 1) ≠ 0 by omega)
  have r1 := Int.emod_lt_of_pos refd (show 0 < (capt % (1 + auth + 1) + 1) by omega)
  have g0 := Int.emod_nonneg chgd (show (capt % (1 + auth + 1) - refd % (capt % (1 + auth + 1) + 1) + 1) ≠ 0 by omega)
  have g1 := Int.emod_lt_of_pos chgd (show 0 < (capt % (1 + auth + 1) - refd % (capt % (1 + auth + 1) + 1) + 1) by omega)
  obtain ⟨f0, f1⟩ := h1
  obtain ⟨t0, t1⟩ := h2
  obtain ⟨a0, a1⟩ := h3
  obtain ⟨k0, k1⟩ := h4
  obtain ⟨m0, m1⟩ := h5
  obtain ⟨n0, n1⟩ := h6
  obtain ⟨u0, u1⟩ := h7
  cases closed with
  | true =>
    go_enter Tryd.func34, Tryd.ntmps34
    go_wp2
    refine bodyPost_ret (res_cell rfl _ rfl agg_pay rfl ((Blk.new1 _ _ _ _).alloc _)) rfl ⟨by simp [payOf], ?_⟩
    (repeat (first | (with_reducible refine below_drew ?_) | (with_reducible refine below_drewN ?_ _) | (with_reducible refine below_alloc ?_ _) | ((with_reducible refine Below.setCell ?_ ?_ _); rotate_left; (focus (first | (simp; done) | (simp; omega))))))
    exact Below.refl _ _
  | false =>
    by_cases hc : capt % (1 + auth + 1) = 1 + auth
    · have hb : (capt % (1 + auth + 1) == 1 + auth) = true := by simpa using hc
      have HC := Lib.hid hc
      clear hc
      go_enter Tryd.func34, Tryd.ntmps34
      go_wp2
      refine bodyPost_ret (res_cell rfl _ rfl agg_pay rfl ((Blk.new1 _ _ _ _).alloc _)) rfl ⟨by simp [payOf, HC.out], ?_⟩
      (repeat (first | (with_reducible refine below_drew ?_) | (with_reducible refine below_drewN ?_ _) | (with_reducible refine below_alloc ?_ _) | ((with_reducible refine Below.setCell ?_ ?_ _); rotate_left; (focus (first | (simp; done) | (simp; omega))))))
      exact Below.refl _ _
    · have hb : (capt % (1 + auth + 1) == 1 + auth) = false := by simpa using hc
      have HC := Lib.hid hc
      clear hc
      go_enter Tryd.func34, Tryd.ntmps34
      go_wp2
      refine bodyPost_ret (res_cell rfl _ rfl agg_pay rfl ((Blk.new1 _ _ _ _).alloc _)) rfl ⟨by simp [payOf, HC.out], ?_⟩
      (repeat (first | (with_reducible refine below_drew ?_) | (with_reducible refine below_drewN ?_ _) | (with_reducible refine below_alloc ?_ _) | ((with_reducible refine Below.setCell ?_ ?_ _); rotate_left; (focus (first | (simp; done) | (simp; omega))))))
      exact Below.refl _ _
end Go.Proofs.YthjmficglpfgpaaDoor
namespace Go.Proofs.YthjmficglpfgpaaDoor
set_option linter.unusedVariables false
set_option linter.unusedSimpArgs false
open Go Go.RowKit Enc
set_option maxRecDepth 100000
set_option maxHeartbeats 1600000

structure U8 where
  n : Int
  deriving DecidableEq, Inhabited
instance : Enc U8 where
  sz := 1
  enc x := [.int .u8 x.n]
  len _ := rfl
  one x u h := by simp only [List.mem_cons, List.not_mem_nil, or_false] at h; subst h; rfl
  pos := by decide
structure U32 where
  n : Int
  deriving DecidableEq, Inhabited
instance : Enc U32 where
  sz := 1
  enc x := [.int .u32 x.n]
  len _ := rfl
  one x u h := by simp only [List.mem_cons, List.not_mem_nil, or_false] at h; subst h; rfl
  pos := by decide
theorem Row.u8 {w : World} {v : Value} {xs : List U8} (h : Row w v xs) (k : Nat) (hk : k < xs.length) : ∃ b o c, v = .slice (some ⟨b, o, none⟩) xs.length c ∧ w.cell? ⟨b, o + k, none⟩ = some (.int .u8 (rd xs k).n) ∧ b < w.heap.size := by
  obtain ⟨b, o, c, hv, hc⟩ := h.at k hk
  have h0 : w.cell? ⟨b, o + k, none⟩ = some (.int .u8 (rd xs k).n) := by
    have := hc 0 _ rfl
    simpa [sz] using this
  exact ⟨b, o, c, hv, h0, cell_lt h0⟩
theorem Row.u32 {w : World} {v : Value} {xs : List U32} (h : Row w v xs) (k : Nat) (hk : k < xs.length) : ∃ b o c, v = .slice (some ⟨b, o, none⟩) xs.length c ∧ w.cell? ⟨b, o + k, none⟩ = some (.int .u32 (rd xs k).n) ∧ b < w.heap.size := by
  obtain ⟨b, o, c, hv, hc⟩ := h.at k hk
  have h0 : w.cell? ⟨b, o + k, none⟩ = some (.int .u32 (rd xs k).n) := by
    have := hc 0 _ rfl
    simpa [sz] using this
  exact ⟨b, o, c, hv, h0, cell_lt h0⟩
def nums8 (xs : List U8) : List Int := xs.map U8.n
def nums32 (xs : List U32) : List Int := xs.map U32.n
theorem rd_nums8 (xs : List U8) (k : Nat) (h : k < xs.length) : rd (nums8 xs) (k : Int) = (rd xs (k : Int)).n := by
  rw [rd_nat _ k (by simpa [nums8] using h), rd_nat xs k h]; simp [nums8]
theorem rd_nums32 (xs : List U32) (k : Nat) (h : k < xs.length) : rd (nums32 xs) (k : Int) = (rd xs (k : Int)).n := by
  rw [rd_nat _ k (by simpa [nums32] using h), rd_nat xs k h]; simp [nums32]
theorem bookFrom_snoc (has : List Int) : ∀ (cs : List Int) (az : List Acc) (i c : Int), bookFrom has az i (cs ++ [c]) = bookStep has (bookFrom has az i cs) (i + cs.length) c
  | [], az, i, c => by simp [bookFrom]
  | d :: cs, az, i, c => by
    have := bookFrom_snoc has cs (bookStep has az i d) (i + 1) c
    simp only [List.cons_append, bookFrom, this, List.length_cons]
    rw [show i + 1 + (cs.length : Int) = i + ((cs.length + 1 : Nat) : Int) by omega]
def bookTo (cs : List U8) (has : List U32) (k : Nat) : List Acc := bookFrom (nums32 has) house 0 ((nums8 cs).take k)
theorem bookTo_succ (cs : List U8) (has : List U32) (k : Nat) (h : k < cs.length) : bookTo cs has (k + 1) = bookStep (nums32 has) (bookTo cs has k) k (rd cs (k : Int)).n := by
  unfold bookTo
  have hl : k < (nums8 cs).length := by simpa [nums8] using h
  rw [List.take_succ_eq_append_getElem hl, bookFrom_snoc, List.length_take, Nat.min_eq_left (by omega), ← rd_nums8 cs k h, rd_nat _ k hl]
  simp
theorem bookTo_bk (cs : List U8) (has : List U32) (k : Nat) (h : k ≤ cs.length) : Bk (bookTo cs has k) k := by
  have := bookFrom_bk (nums32 has) ((nums8 cs).take k) house 0 0 house_bk (by decide)
  rw [List.length_take, Nat.min_eq_left (by simpa [nums8] using h)] at this
  simpa [bookTo] using this
def houseTo (k : Nat) : List Acc := house.take k ++ List.replicate (9 - k) ⟨0, 0, 0⟩
theorem houseTo_len : ∀ k : Nat, k ≤ 9 → (houseTo k).length = 9 := by decide
theorem houseTo_set : ∀ k : Nat, k < 9 → (houseTo k).set k ⟨(k : Int) / 3, 0, 0⟩ = houseTo (k + 1) := by decide
theorem houseTo_rd : ∀ k : Nat, k < 9 → (houseTo k)[k]? = some ⟨0, 0, 0⟩ := by decide
theorem make9 (w : World) : (Instr.makeSlice 31 (.int .i64 9) (.int .i64 9)).run Tryd.prog w = .ok (.slice (some ⟨w.heap.size, 0, none⟩) 9 9) (w.alloc (.cells #[.int .i64 0, .int .i64 0, .int .i64 0, .int .i64 0, .int .i64 0, .int .i64 0, .int .i64 0, .int .i64 0, .int .i64 0, .int .i64 0, .int .i64 0, .int .i64 0, .int .i64 0, .int .i64 0, .int .i64 0, .int .i64 0, .int .i64 0, .int .i64 0, .int .i64 0, .int .i64 0, .int .i64 0, .int .i64 0, .int .i64 0, .int .i64 0, .int .i64 0, .int .i64 0, .int .i64 0] 50)) := by kernel_rfl
theorem Own.setCur {w : World} {B e b o n c : Nat} {xs : List Acc} (h : Own w B e (.slice (some ⟨b, o, none⟩) n c) xs) (k : Nat) (hk : k < xs.length) :
    (∃ u, w.cell? ⟨b, o + k * 3, none⟩ = some u) ∧ w.frozen? ⟨b, o + k * 3, none⟩ = false ∧ B ≤ b ∧ b < w.heap.size ∧ Hid (∀ z, Own (w.setCell ⟨b, o + k * 3, none⟩ (.int .i64 z)) B e (.slice (some ⟨b, o, none⟩) n c) (xs.set k { rd xs (k : Int) with cur := z })) := by
  obtain ⟨b', o', c', hv, c1, c2, c3, hl⟩ := h.row.acc k hk
  injection hv with e1 e2 e3
  injection e1 with e1
  injection e1 with e4 e5
  subst e2 e3 e4 e5
  have s1 := fun z => h.set k hk 0 (by decide) (.int .i64 z) { rd xs (k : Int) with cur := z } (by rw [rd_nat xs k hk]; rfl) rfl
  simp only [Nat.add_zero] at s1
  exact ⟨⟨_, c1⟩, (s1 0).2.1, (s1 0).2.2, hl, fun z => (s1 z).1⟩
def HouseRel (W : World) (v i : Value) (wr : World) : Prop := ∃ k : Nat, k ≤ 9 ∧ i = .int .i64 k ∧ Below W.heap.size W wr ∧ Own wr W.heap.size 50 v (houseTo k)
def BookRel (W : World) (cs : List U8) (has : List U32) (v i : Value) (wr : World) : Prop := ∃ k : Nat, k ≤ cs.length ∧ i = .int .i64 k ∧ Below W.heap.size W wr ∧ Own wr W.heap.size 50 v (bookTo cs has k)
theorem book_any (vc vh : Value) (cs : List U8) (has : List U32) (w : World) (hc : Row w vc cs) (hh : Row w vh has) (hl : cs.length ≤ 8) (h8 : ∀ c ∈ cs, 0 ≤ c.n ∧ c.n < 256) (h32 : ∀ x ∈ has, 0 ≤ x.n ∧ x.n < 4294967296) :
    Calls Tryd.prog 33 #[.agg #[vc, vh, .slice none 0 0]] w fun e w' => ∃ v, e = .returned v ∧ Own w' w.heap.size 50 v (bookTo cs has cs.length) ∧ Below w.heap.size w w' := by
  obtain ⟨A1, c1, rfl⟩ := hc.slice
  obtain ⟨A2, c2, rfl⟩ := hh.slice
  have hm2 := hh.max
  have hmk := make9
  have hbW := below_alloc (Below.refl w.heap.size w) (.cells #[.slice A1 cs.length c1, .slice A2 has.length c2, .slice none 0 0] 25)
  have hbx := Blk.new w 25 #[.slice A1 cs.length c1, .slice A2 has.length c2, .slice none 0 0]
  replace hc := hc.below hbW
  replace hh := hh.below hbW
  have hsz : (w.alloc (.cells #[.slice A1 cs.length c1, .slice A2 has.length c2, .slice none 0 0] 25)).heap.size = w.heap.size + 1 := by simp
  go_enter Tryd.func33, Tryd.ntmps33
  go_wp2
  generalize w.alloc (.cells #[.slice A1 cs.length c1, .slice A2 has.length c2, .slice none 0 0] 25) = W at *
  rw [← hsz]
  have HSZ := Lib.hid hsz
  clear hsz
  go_loopw [11] (fun i wr => HouseRel W (.slice (some ⟨W.heap.size, 0, none⟩) 9 9) i wr) (fun i _ => 9 - (intOf i).toNat)
  case atStart => exact ⟨0, by omega, rfl, below_alloc (Below.refl _ _) _, Own.of_blk (Blk.new W _ _) (Nat.le_refl _) (by rfl) (by rfl) (by decide) (by simp [maxLen])⟩
  case round =>
    obtain ⟨k, hk, rfl, hb, hown⟩ := hrel
    by_cases hlt : k < 9
    · obtain ⟨⟨u, x0⟩, xf, hB, hl2, hset⟩ := hown.setCur k (by rw [houseTo_len k hk]; exact hlt)
      have hrd : rd (houseTo k) (k : Int) = ⟨0, 0, 0⟩ := by rw [rd_nat _ k (by rw [houseTo_len k hk]; exact hlt)]; have := houseTo_rd k hlt; rw [List.getElem?_eq_some_iff] at this; exact this.2
      have hst := Lib.hid (houseTo_set k hlt)
      have HRD := Lib.hid hrd
      clear hrd
      rw [Nat.zero_add] at x0 xf
      go_wp2
      refine ⟨⟨k + 1, by omega, by go_num, hb.setCell hB _, ?_⟩, by simp [intOf]; omega⟩
      have := hset.out ((k : Int) / 3)
      rw [HRD.out, Nat.zero_add] at this
      rw [← hst.out]
      exact this
    · obtain rfl : k = 9 := by omega
      have hown' : Own wr W.heap.size 50 (.slice (some ⟨W.heap.size, 0, none⟩) 9 9) (bookTo cs has 0) := by simpa [houseTo, bookTo, bookFrom, house] using hown
      clear hown
      obtain ⟨x0, x1, x2⟩ := (hbx.next hb).c3
      rw [show ((9 : Nat) : Int) = 9 from rfl]
      have hbk0 := bookTo_bk cs has
      have hsucc := Lib.hid (bookTo_succ cs has)
      go_wp2
      go_loopw [3, 24] (fun v i wr => BookRel W cs has v i wr) (fun _ i _ => cs.length - (intOf i).toNat)
      case atStart => exact ⟨0, by omega, rfl, hb, hown'⟩
      case round =>
        clear hb hown' x0 x1 x2
        obtain ⟨k, hk, rfl, hb, hown⟩ := hrel
        have hbk := hbk0 k hk
        clear hbk0
        by_cases hlt : k < cs.length
        · have hk8 : k < 8 := by omega
          have hsu := Lib.hid (hsucc.out k hlt)
          obtain ⟨n0, n1⟩ := h8 _ (rd_mem cs k (by omega) (by omega))
          obtain ⟨b4, o4, c4, hv, z0, lz⟩ := hc.u8 k hlt
          injection hv with hv1 _ hv3
          subst hv1 hv3
          replace z0 := cell_below hb z0
          obtain ⟨x0, x1, x2⟩ := (hbx.next hb).c3
          have lx := (hbx.next hb).lt
          generalize hcn : (rd cs (k : Int)).n = cn at *
          clear hcn
          have hal := hbk.len
          have hlen : ((bookTo cs has k).length : Int) = 9 + k := hal
          have hbh := hbk.house (3 * (cn % 3)) (by omega) (by omega)
          have HL := Lib.hid hlen
          clear hlen hal hsucc
          have i0 : 0 ≤ 3 * (cn % 3) := by omega
          have i1 : 3 * (cn % 3) < ((bookTo cs has k).length : Int) := by have := HL.out; omega
          have kk : (k : Int) < 8 := by omega
          have kn0 : decide ((k : Int) < 0) = false := by simp
          have kne : ((k : Int) == 8) = false := by simp; omega
          have hcm0 : 0 ≤ cn % 3 := by omega
          have hcm1 : cn % 3 < 3 := by omega
          obtain ⟨A, c, rfl⟩ := hown.row.slice
          by_cases hh2 : k < has.length
          · obtain ⟨b5, o5, c5, hv, y0, ly⟩ := hh.u32 k hh2
            injection hv with hv1 _ hv3
            subst hv1 hv3
            replace y0 := cell_below hb y0
            have ly5 : b5 < wr.heap.size := cell_lt y0
            obtain ⟨m0, m1⟩ := h32 _ (rd_mem has k (by omega) (by omega))
            have hha := Lib.hid (show hasAt (nums32 has) k = (rd has (k : Int)).n % 100000 by
              unfold hasAt
              rw [if_pos (by simp [nums32]; omega), rd_nums32 has k hh2])
            generalize hmn : (rd has (k : Int)).n = mn at *
            clear hmn
            have j0 : 0 ≤ mn % 100000 := by omega
            have j1 : mn % 100000 < 100000 := by omega
            have hh3 : (k : Int) < has.length := by omega
            go_wp2_with fail
            have hX := hown.alloc (.cells #[.int .i64 (cn % 3), .int .i64 (mn % 100000), .int .i64 0] 50)
            have hbX := below_alloc hb (.cells #[.int .i64 (cn % 3), .int .i64 (mn % 100000), .int .i64 0] 50)
            have haX := Blk.new wr 50 #[.int .i64 (cn % 3), .int .i64 (mn % 100000), .int .i64 0]
            have hsX : (wr.alloc (.cells #[.int .i64 (cn % 3), .int .i64 (mn % 100000), .int .i64 0] 50)).heap.size = wr.heap.size + 1 := by simp
            obtain ⟨b6, o6, c6, hvv, q1, q2, q3, f1, f2, hB6, hl6, os1, os2⟩ := hX.acc (3 * (cn % 3)) i0 i1
            injection hvv with hvv1 _ hvv3
            subst hvv1 hvv3
            have hb6 : b6 < wr.heap.size := hown.lt b6 rfl
            generalize wr.alloc (.cells #[.int .i64 (cn % 3), .int .i64 (mn % 100000), .int .i64 0] 50) = X at *
            have HSX := Lib.hid hsX
            clear hsX z0 x0 x1 x2 lx
            obtain ⟨p0, p1, p2⟩ := haX.c3
            have lp := haX.lt
            have hne6 : b6 ≠ wr.heap.size := by omega
            have hne6' := Ne.symm hne6
            obtain ⟨hbc, hb0, hb1⟩ := hbh
            have hsub : IntKind.i64.wrap ((rd (bookTo cs has k) (3 * (cn % 3))).bal - (mn % 100000)) = (rd (bookTo cs has k) (3 * (cn % 3))).bal - (mn % 100000) := IntWalk.i64_in _ (by omega)
            have hmul : IntKind.i64.wrap (3 * (cn % 3)) = 3 * (cn % 3) := IntWalk.i64_in _ (by omega)
            refine still_tail 12 (by kernel_rfl) (by kernel_rfl) (fun wd hwd hwc hwf hws => ?_); simp only [List.take_succ_cons, List.take_zero, List.drop_succ_cons, List.drop_zero]; (repeat still_step); refine wpStill_nil ?_
            clear hsub hmul
            have howd : Own wd W.heap.size 50 (.slice (some ⟨b6, o6, none⟩) (bookTo cs has k).length c) (bookTo cs has k) := by rw [hwd.out]; exact hX.drew
            have hset := Lib.hid (howd.setBal (3 * (cn % 3)) i0 i1 ((rd (bookTo cs has k) (3 * (cn % 3))).bal - (mn % 100000)))
            have hbwd : Below W.heap.size W (wd.setCell ⟨b6, o6 + (3 * (cn % 3)).toNat * 3 + 1, none⟩ (.int .i64 ((rd (bookTo cs has k) (3 * (cn % 3))).bal - (mn % 100000)))) := by rw [hwd.out]; exact (below_drew hbX).setCell hB6 _
            have hszd : wd.heap.size = wr.heap.size + 1 := by rw [hwd.out]; exact HSX.out
            have hbox : Row ((wd.setCell ⟨b6, o6 + (3 * (cn % 3)).toNat * 3 + 1, none⟩ (.int .i64 ((rd (bookTo cs has k) (3 * (cn % 3))).bal - (mn % 100000)))).alloc (.cells #[.int .i64 (cn % 3), .int .i64 (mn % 100000), .int .i64 0] 50)) (.slice (some ⟨wd.heap.size, 0, none⟩) 1 1) [Acc.mk (cn % 3) (mn % 100000) 0] := by
              have := Row.box (wd.setCell ⟨b6, o6 + (3 * (cn % 3)).toNat * 3 + 1, none⟩ (.int .i64 ((rd (bookTo cs has k) (3 * (cn % 3))).bal - (mn % 100000)))) (Acc.mk (cn % 3) (mn % 100000) 0) #[.int .i64 (cn % 3), .int .i64 (mn % 100000), .int .i64 0] rfl 50
              rwa [World.size_setCell] at this
            have HSD := Lib.hid hszd
            have HBY := Lib.hid (show ((upd (bookTo cs has k) (3 * (cn % 3)) { rd (bookTo cs has k) (3 * (cn % 3)) with bal := (rd (bookTo cs has k) (3 * (cn % 3))).bal - (mn % 100000) }).length + [Acc.mk (cn % 3) (mn % 100000) 0].length) * 24 ≤ 140737488355328 by rw [upd_len]; have := HL.out; simp; omega)
            have HSZ2 := Lib.hid (below_alloc hbwd (.cells #[.int .i64 (cn % 3), .int .i64 (mn % 100000), .int .i64 0] 50)).size
            clear hszd hws
            go_wp2_with (at_builtin; refine wp_append (B := W.heap.size) (xs := (upd (bookTo cs has k) (3 * (cn % 3)) { rd (bookTo cs has k) (3 * (cn % 3)) with bal := (rd (bookTo cs has k) (3 * (cn % 3))).bal - (mn % 100000) })) (ys := [Acc.mk (cn % 3) (mn % 100000) 0]) sT_acc rfl rfl (.slice (some ⟨b6, o6, none⟩) (bookTo cs has k).length c) (.slice (some ⟨wd.heap.size, 0, none⟩) 1 1) rfl rfl (hset.out.alloc _) hbox HBY.out (by decide) HSZ2.out ?_; intro v2 w2 hown2 hg2 hat2)
            exact ⟨⟨k + 1, by omega, by go_num, below_grown (below_alloc hbwd _) hg2 hset.out.base, by rw [hsu.out]; unfold bookStep; rw [hha.out]; exact hown2⟩, by simp [intOf]; omega⟩
          · have hha := Lib.hid (show hasAt (nums32 has) k = 0 by
              unfold hasAt
              rw [if_neg (by simp [nums32]; omega)])
            have hh3 : (has.length : Int) ≤ k := by omega
            go_wp2_with fail
            have hX := hown.alloc (.cells #[.int .i64 (cn % 3), .int .i64 (0), .int .i64 0] 50)
            have hbX := below_alloc hb (.cells #[.int .i64 (cn % 3), .int .i64 (0), .int .i64 0] 50)
            have haX := Blk.new wr 50 #[.int .i64 (cn % 3), .int .i64 (0), .int .i64 0]
            have hsX : (wr.alloc (.cells #[.int .i64 (cn % 3), .int .i64 (0), .int .i64 0] 50)).heap.size = wr.heap.size + 1 := by simp
            obtain ⟨b6, o6, c6, hvv, q1, q2, q3, f1, f2, hB6, hl6, os1, os2⟩ := hX.acc (3 * (cn % 3)) i0 i1
            injection hvv with hvv1 _ hvv3
            subst hvv1 hvv3
            have hb6 : b6 < wr.heap.size := hown.lt b6 rfl
            generalize wr.alloc (.cells #[.int .i64 (cn % 3), .int .i64 (0), .int .i64 0] 50) = X at *
            have HSX := Lib.hid hsX
            clear hsX z0 x0 x1 x2 lx
            obtain ⟨p0, p1, p2⟩ := haX.c3
            have lp := haX.lt
            have hne6 : b6 ≠ wr.heap.size := by omega
            have hne6' := Ne.symm hne6
            obtain ⟨hbc, hb0, hb1⟩ := hbh
            have hsub : IntKind.i64.wrap ((rd (bookTo cs has k) (3 * (cn % 3))).bal) = (rd (bookTo cs has k) (3 * (cn % 3))).bal := IntWalk.i64_in _ (by omega)
            have hmul : IntKind.i64.wrap (3 * (cn % 3)) = 3 * (cn % 3) := IntWalk.i64_in _ (by omega)
            refine still_tail 12 (by kernel_rfl) (by kernel_rfl) (fun wd hwd hwc hwf hws => ?_); simp only [List.take_succ_cons, List.take_zero, List.drop_succ_cons, List.drop_zero]; (repeat still_step); refine wpStill_nil ?_
            clear hsub hmul
            have howd : Own wd W.heap.size 50 (.slice (some ⟨b6, o6, none⟩) (bookTo cs has k).length c) (bookTo cs has k) := by rw [hwd.out]; exact hX.drew
            have hset := Lib.hid (howd.setBal (3 * (cn % 3)) i0 i1 ((rd (bookTo cs has k) (3 * (cn % 3))).bal))
            have hbwd : Below W.heap.size W (wd.setCell ⟨b6, o6 + (3 * (cn % 3)).toNat * 3 + 1, none⟩ (.int .i64 ((rd (bookTo cs has k) (3 * (cn % 3))).bal))) := by rw [hwd.out]; exact (below_drew hbX).setCell hB6 _
            have hszd : wd.heap.size = wr.heap.size + 1 := by rw [hwd.out]; exact HSX.out
            have hbox : Row ((wd.setCell ⟨b6, o6 + (3 * (cn % 3)).toNat * 3 + 1, none⟩ (.int .i64 ((rd (bookTo cs has k) (3 * (cn % 3))).bal))).alloc (.cells #[.int .i64 (cn % 3), .int .i64 (0), .int .i64 0] 50)) (.slice (some ⟨wd.heap.size, 0, none⟩) 1 1) [Acc.mk (cn % 3) (0) 0] := by
              have := Row.box (wd.setCell ⟨b6, o6 + (3 * (cn % 3)).toNat * 3 + 1, none⟩ (.int .i64 ((rd (bookTo cs has k) (3 * (cn % 3))).bal))) (Acc.mk (cn % 3) (0) 0) #[.int .i64 (cn % 3), .int .i64 (0), .int .i64 0] rfl 50
              rwa [World.size_setCell] at this
            have HSD := Lib.hid hszd
            have HBY := Lib.hid (show ((upd (bookTo cs has k) (3 * (cn % 3)) { rd (bookTo cs has k) (3 * (cn % 3)) with bal := (rd (bookTo cs has k) (3 * (cn % 3))).bal }).length + [Acc.mk (cn % 3) (0) 0].length) * 24 ≤ 140737488355328 by rw [upd_len]; have := HL.out; simp; omega)
            have HSZ2 := Lib.hid (below_alloc hbwd (.cells #[.int .i64 (cn % 3), .int .i64 (0), .int .i64 0] 50)).size
            clear hszd hws
            go_wp2_with (at_builtin; refine wp_append (B := W.heap.size) (xs := (upd (bookTo cs has k) (3 * (cn % 3)) { rd (bookTo cs has k) (3 * (cn % 3)) with bal := (rd (bookTo cs has k) (3 * (cn % 3))).bal })) (ys := [Acc.mk (cn % 3) (0) 0]) sT_acc rfl rfl (.slice (some ⟨b6, o6, none⟩) (bookTo cs has k).length c) (.slice (some ⟨wd.heap.size, 0, none⟩) 1 1) rfl rfl (hset.out.alloc _) hbox HBY.out (by decide) HSZ2.out ?_; intro v2 w2 hown2 hg2 hat2)
            exact ⟨⟨k + 1, by omega, by go_num, below_grown (below_alloc hbwd _) hg2 hset.out.base, by rw [hsu.out]; unfold bookStep; rw [hha.out, Int.sub_zero]; exact hown2⟩, by simp [intOf]; omega⟩
        · have hkl : k = cs.length := by omega
          subst hkl
          obtain ⟨x0, x1, x2⟩ := (hbx.next hb).c3
          have i1 : (cs.length : Int) ≤ (cs.length : Int) := by omega
          go_wp2
          go_ret
          exact ⟨_, rfl, hown.lower (by have := HSZ.out; omega), below_next hbW hb⟩
end Go.Proofs.YthjmficglpfgpaaDoor
namespace Go.Proofs.YthjmficglpfgpaaDoor
set_option linter.unusedVariables false
set_option linter.unusedSimpArgs false
open Go Go.RowKit Enc
set_option maxRecDepth 100000
set_option maxHeartbeats 1600000

theorem sT_u8 : SlT Tryd.prog 22 5 U8 1 := ⟨Tryd.underlying22, by obtain ⟨i, h1, h2, h3, h4⟩ := info_parts (show (Tryd.prog.info? 5).map (fun i => (i.zero, i.size, i.bytes)) = some (some (.int .u8 0), 1, 1) by kernel_rfl); exact ⟨i, _, h1, h2, h3, h4, rfl⟩⟩
theorem Row.cut {w : World} {A : Option Addr} {c n : Nat} {α : Type} [Enc α] {xs : List α} (h : Row w (.slice A xs.length c) xs) (hn : n ≤ xs.length) (c' : Nat) : Row w (.slice A n c') (xs.take n) := by
  obtain ⟨A', c0, hv, hm, hc⟩ := h
  injection hv with e1 _ _
  subst e1
  have hl : (xs.take n).length = n := by simp; omega
  refine ⟨A, c', by rw [hl], by omega, fun k hk => ?_⟩
  rw [hl] at hk
  obtain ⟨b, o, he, hj⟩ := hc k (by omega)
  exact ⟨b, o, he, fun j u hu => hj j u (by simpa using hu)⟩
def six8 : List U8 := [⟨0⟩, ⟨1⟩, ⟨2⟩, ⟨0⟩, ⟨1⟩, ⟨0⟩]
def cut6 (cs : List U8) : List U8 := (cs.take (min cs.length 6) ++ six8).take 6
theorem cut6_len (cs : List U8) : (cut6 cs).length = 6 := by simp [cut6, six8]
theorem cut6_six (cs : List U8) : nums8 (cut6 cs) = six (nums8 cs) := by
  unfold nums8 cut6 six
  rw [List.map_take, List.map_append, List.map_take]
  have : (cs.map U8.n).take (min cs.length 6) = (cs.map U8.n).take 6 := by
    rcases Nat.le_total cs.length 6 with h | h
    · rw [Nat.min_eq_left h, List.take_of_length_le (by simp), List.take_of_length_le (by simpa using h)]
    · rw [Nat.min_eq_right h]
  rw [this]
  rfl
theorem cut6_bd {cs : List U8} (h : ∀ c ∈ cs, 0 ≤ c.n ∧ c.n < 256) : ∀ c ∈ cut6 cs, 0 ≤ c.n ∧ c.n < 256 := fun c hc => by
  have := List.mem_of_mem_take hc
  rcases List.mem_append.1 this with h1 | h1
  · exact h c (List.mem_of_mem_take h1)
  · simp only [six8, List.mem_cons, List.not_mem_nil, or_false] at h1
    rcases h1 with rfl | rfl | rfl | rfl | rfl | rfl <;> decide
-- STATE
theorem Own.some {w : World} {B e : Nat} {v : Value} {α : Type} [Enc α] {xs : List α} (h : Own w B e v xs) (hne : 0 < xs.length) : ∃ b c, v = .slice (some ⟨b, 0, none⟩) xs.length c ∧ xs.length ≤ c ∧ B ≤ b ∧ b < w.heap.size := by
  have hl := h.lt
  rcases h.2 with ⟨rfl, h0⟩ | ⟨g, cap, cur, rfl, hb, hh, h1, h2, h3, h4⟩
  · omega
  · exact ⟨g, cap, rfl, h1, hb, hl g rfl⟩
theorem cut_eq {cs : List U8} {m : Nat} (hm : m = min cs.length 6) : (cs.take m ++ six8).take 6 = cut6 cs := by rw [hm]; rfl
/-- The state's variable on the way. -/
def StRel (Z : World) (g : Nat) (nw : Int) (b0 : List Acc) (ps : List Paid) (i : Value) (wr : World) : Prop :=
  ∃ k : Nat, (k ≤ ps.length ∧ k ≤ 6) ∧ i = .int .i64 k ∧ Below Z.heap.size Z wr ∧ ∃ A c A' c', Blk wr g 36 (stCells A ((ps.take k).foldl payStep (b0, [])).1.length c A' ((ps.take k).foldl payStep (b0, [])).2.length c' none 0 0 none 0 0 nw) ∧
    Own wr Z.heap.size 50 (.slice A ((ps.take k).foldl payStep (b0, [])).1.length c) ((ps.take k).foldl payStep (b0, [])).1 ∧ Own wr Z.heap.size 47 (.slice A' ((ps.take k).foldl payStep (b0, [])).2.length c') ((ps.take k).foldl payStep (b0, [])).2
theorem Own.apart {w : World} {B e B' e' : Nat} {v v' : Value} {α β : Type} [Enc α] [Enc β] {xs : List α} {ys : List β} (h : Own w B e v xs) (k : Own w B' e' v' ys) (hne : e ≠ e') : v.ownBlock = none ∨ v.ownBlock ≠ v'.ownBlock := by
  rcases k.2 with ⟨rfl, _⟩ | ⟨g, cap, cur, rfl, hb, hh, h1, h2, h3, h4⟩
  · cases hv : v.ownBlock with
    | none => exact .inl rfl
    | some g => exact .inr (by simp [Value.ownBlock])
  · exact .inr (h.blk_ne (show Blk w g e' cur from hh) hne)
theorem foldPay_succ (b0 : List Acc) (ps : List Paid) (k : Nat) (h : k < ps.length) : (ps.take (k + 1)).foldl payStep (b0, []) = payStep ((ps.take k).foldl payStep (b0, [])) (rd ps (k : Int)) := by
  rw [List.take_succ_eq_append_getElem h, List.foldl_append, rd_nat ps k h]
  rfl
theorem Row.paid' {w : World} {v : Value} {xs : List Paid} (h : Row w v xs) (k : Nat) (hk : k < xs.length) : ∃ b o c, v = .slice (some ⟨b, o, none⟩) xs.length c ∧
    w.cell? ⟨b, o + k * 8, none⟩ = some (.int .u8 (rd xs k).frm) ∧ w.cell? ⟨b, o + k * 8 + 1, none⟩ = some (.int .u8 (rd xs k).to) ∧ w.cell? ⟨b, o + k * 8 + 2, none⟩ = some (.int .u8 (rd xs k).auth) ∧ w.cell? ⟨b, o + k * 8 + 3, none⟩ = some (.int .u8 (rd xs k).capt) ∧
    w.cell? ⟨b, o + k * 8 + 4, none⟩ = some (.int .u8 (rd xs k).refd) ∧ w.cell? ⟨b, o + k * 8 + 5, none⟩ = some (.int .u8 (rd xs k).chgd) ∧ w.cell? ⟨b, o + k * 8 + 6, none⟩ = some (.int .u8 (rd xs k).til) ∧ w.cell? ⟨b, o + k * 8 + 7, none⟩ = some (.bool (rd xs k).closed) ∧ b < w.heap.size := by
  obtain ⟨b, o, c, hv, hc⟩ := h.at k hk
  exact ⟨b, o, c, hv, hc 0 _ rfl, hc 1 _ rfl, hc 2 _ rfl, hc 3 _ rfl, hc 4 _ rfl, hc 5 _ rfl, hc 6 _ rfl, hc 7 _ rfl, cell_lt (hc 0 _ rfl)⟩
theorem state_any (vc vh vd vp : Value) (cs : List U8) (has : List U32) (ds : List U8) (ps : List Paid) (now : Int) (w : World) (hc : Row w vc cs) (hh : Row w vh has) (hd : Row w vd ds) (hp : Row w vp ps) (h8 : ∀ c ∈ cs, 0 ≤ c.n ∧ c.n < 256) (h32 : ∀ x ∈ has, 0 ≤ x.n ∧ x.n < 4294967296) (hps : ∀ p ∈ ps, PaidOk p) (hnow : 0 ≤ now ∧ now < 256) (hcap : ∃ A n c, vc = .slice A n c ∧ n ≤ c) :
    Calls Tryd.prog 13 #[.agg #[vc, vh, vd], vp, .int .u8 now] w fun e w' => ∃ v, e = .returned v ∧ StV w' v (stOf (nums8 cs) (nums32 has) ps now) ∧ Below w.heap.size w w' := by
  have hm := hc.max
  obtain ⟨A1, c1, rfl⟩ := hc.slice
  obtain ⟨A2, c2, rfl⟩ := hh.slice
  obtain ⟨A3, c3, rfl⟩ := hd.slice
  obtain ⟨A4, c4, rfl⟩ := hp.slice
  obtain ⟨nw0, nw1⟩ := hnow
  have hcp : cs.length ≤ c1 := by
    obtain ⟨A, n, c, he, hn⟩ := hcap
    injection he with _ e2 e3
    omega
  clear hcap
  have hbW : Below w.heap.size w ((w.alloc (.cells #[.slice A1 cs.length c1, .slice A2 has.length c2, .slice A3 ds.length c3] 25)).alloc (.cells #[.slice none 0 0, .slice none 0 0, .slice none 0 0, .slice none 0 0, .int .i64 0] 36)) := below_alloc (below_alloc (Below.refl _ _) _) _
  have hbx : Blk ((w.alloc (.cells #[.slice A1 cs.length c1, .slice A2 has.length c2, .slice A3 ds.length c3] 25)).alloc (.cells #[.slice none 0 0, .slice none 0 0, .slice none 0 0, .slice none 0 0, .int .i64 0] 36)) w.heap.size 25 #[.slice A1 cs.length c1, .slice A2 has.length c2, .slice A3 ds.length c3] := (Blk.new _ _ _).alloc _
  have hby : Blk ((w.alloc (.cells #[.slice A1 cs.length c1, .slice A2 has.length c2, .slice A3 ds.length c3] 25)).alloc (.cells #[.slice none 0 0, .slice none 0 0, .slice none 0 0, .slice none 0 0, .int .i64 0] 36)) (w.heap.size + 1) 36 #[.slice none 0 0, .slice none 0 0, .slice none 0 0, .slice none 0 0, .int .i64 0] := Blk.new1 _ _ _ _
  have hszW : ((w.alloc (.cells #[.slice A1 cs.length c1, .slice A2 has.length c2, .slice A3 ds.length c3] 25)).alloc (.cells #[.slice none 0 0, .slice none 0 0, .slice none 0 0, .slice none 0 0, .int .i64 0] 36)).heap.size = w.heap.size + 1 + 1 := by simp
  have hh0 := hh
  have hp0 := hp
  replace hc := hc.below hbW
  replace hh := hh.below hbW
  replace hp := hp.below hbW
  clear hd
  obtain ⟨m, hm6⟩ : ∃ m : Nat, m = min cs.length 6 := ⟨_, rfl⟩
  have hmin : ∀ w, (Builtin.min_ #[3, 3] 3 #[.int .i64 cs.length, .int .i64 6]).run Tryd.prog w = .ok (.int .i64 (m : Int)) w := fun w => by
    rw [show ((m : Nat) : Int) = min (cs.length : Int) 6 by omega]
    go_simp
    try (split <;> (congr 2; omega))
  have hcut := hc.cut (n := m) (by omega) c1
  have hce := Lib.hid (cut_eq hm6)
  have hll : (cs.take (m)).length = m := by simp; try omega
  have HBY1 := Lib.hid (show (([] : List U8).length + (cs.take (m)).length) * 1 ≤ 140737488355328 by rw [hll]; simp <;> omega)
  have HBY2 := Lib.hid (show ((cs.take (m)).length + six8.length) * 1 ≤ 140737488355328 by rw [hll]; simp [six8] <;> omega)
  have HLL := Lib.hid hll
  have hmc : m ≤ c1 := by omega
  have hmc' : ((m : Nat) : Int) ≤ c1 := by omega
  clear hm6 hll
  have tok : True := trivial
  go_enter Tryd.func13, Tryd.ntmps13
  go_wp2_with (first
    | (at_builtin; have _t := tok; refine wp_append (B := ((w.alloc (.cells #[.slice A1 cs.length c1, .slice A2 has.length c2, .slice A3 ds.length c3] 25)).alloc (.cells #[.slice none 0 0, .slice none 0 0, .slice none 0 0, .slice none 0 0, .int .i64 0] 36)).heap.size) (xs := []) (ys := cs.take (m)) sT_u8 rfl rfl (.slice none 0 0) (.slice A1 (m) c1) rfl rfl (Own.nil _ _ _) hcut HBY1.out (by decide) (Nat.le_refl _) ?_; intro v1 w1 hown1 hg1 hat1; clear tok; rw [List.nil_append] at hown1; have hb1 := below_grown (Below.refl _ _) hg1 (by simp [Value.ownBlock]))
    | (at_builtin; refine wp_append (B := ((w.alloc (.cells #[.slice A1 cs.length c1, .slice A2 has.length c2, .slice A3 ds.length c3] 25)).alloc (.cells #[.slice none 0 0, .slice none 0 0, .slice none 0 0, .slice none 0 0, .int .i64 0] 36)).heap.size) (xs := cs.take (m)) (ys := six8) sT_u8 rfl rfl v1 (.slice (some ⟨w1.heap.size, 0, none⟩) 6 6) rfl rfl (hown1.alloc _) (Row.lit w1 six8 #[.int .u8 0, .int .u8 1, .int .u8 2, .int .u8 0, .int .u8 1, .int .u8 0] rfl 5 6 rfl (by decide)) HBY2.out (by decide) (below_alloc hb1 _).size ?_; intro v2 w2 hown2 hg2 hat2; have hb2 := below_grown (below_alloc hb1 _) hg2 hown1.base; have hl2 : (cs.take (m) ++ six8).length = m + 6 := (by rw [List.length_append, HLL.out]; rfl); have HL2 := Lib.hid hl2; clear hl2; obtain ⟨b7, c7, rfl, hc7, hB7, hl7⟩ := hown2.some (by rw [HL2.out]; omega); have hcut2 := hown2.row.cut (n := 6) (by rw [HL2.out]; omega) c7; rw [hce.out] at hcut2; obtain ⟨x0, x1, x2⟩ := (hbx.next hb2).c3; have xf := (hbx.next hb2).frozen; have lx := (hbx.next hb2).lt; have hc7' : (6 : Int) ≤ c7 := (by have := HL2.out; omega); have hc76 : 6 ≤ c7 := (by have := HL2.out; omega)))
  have hbZ : Below w.heap.size w ((w2.setCell ⟨w.heap.size, 0, none⟩ (.slice (some ⟨b7, 0, none⟩) 6 c7)).setCell ⟨w.heap.size, 2, none⟩ (.slice none 0 0)) := by
    (repeat (first | (with_reducible refine below_drew ?_) | (with_reducible refine below_drewN ?_ _) | (with_reducible refine below_alloc ?_ _) | ((with_reducible refine Below.setCell ?_ ?_ _); rotate_left; (focus (first | (simp; done) | (simp; omega))))))
    exact below_next hbW hb2
  have hne7 : b7 ≠ w.heap.size := by rw [hszW] at hB7; omega
  have hcutZ : Row ((w2.setCell ⟨w.heap.size, 0, none⟩ (.slice (some ⟨b7, 0, none⟩) 6 c7)).setCell ⟨w.heap.size, 2, none⟩ (.slice none 0 0)) (.slice (some ⟨b7, 0, none⟩) 6 c7) (cut6 cs) :=
    (hcut2.only (fun _ => by simp [Value.ownBlock, hne7]) ((World.grownBy.refl w2 _).setCell (a := ⟨w.heap.size, 0, none⟩) (g := w.heap.size) rfl _)).only (fun _ => by simp [Value.ownBlock, hne7]) ((World.grownBy.refl _ _).setCell (a := ⟨w.heap.size, 2, none⟩) (g := w.heap.size) rfl _)
  have hhZ := hh0.below hbZ
  have hpZ := hp0.below hbZ
  have hyZ : Blk ((w2.setCell ⟨w.heap.size, 0, none⟩ (.slice (some ⟨b7, 0, none⟩) 6 c7)).setCell ⟨w.heap.size, 2, none⟩ (.slice none 0 0)) (w.heap.size + 1) 36 (stCells none 0 0 none 0 0 none 0 0 none 0 0 0) :=
    ((hby.next hb2).far (p := ⟨w.heap.size, 0, none⟩) (by simp) _).far (p := ⟨w.heap.size, 2, none⟩) (by simp) _
  clear x0 x1 x2 xf lx hcut2 hown2 hg2 hat2 hown1 hg1 hat1 hb1 hb2 hbW hbx hby hszW hc hh hp hcut hB7 hl7 hmin HBY1 HBY2 HL2
  refine abs_g (G := fun Z => Calls _ _ _ Z _) (fun Z => Below w.heap.size w Z ∧ Row Z (.slice (some ⟨b7, 0, none⟩) 6 c7) (cut6 cs) ∧ Row Z (.slice A2 has.length c2) has ∧ Row Z (.slice A4 ps.length c4) ps ∧ Blk Z (w.heap.size + 1) 36 (stCells none 0 0 none 0 0 none 0 0 none 0 0 0)) ⟨hbZ, hcutZ, hhZ, hpZ, hyZ⟩ ?_
  clear hbZ hcutZ hhZ hpZ hyZ hh0 hp0
  rintro Z ⟨hbZ, hcutZ, hhZ, hpZ, hyZ⟩
  refine (book_any _ _ (cut6 cs) has Z hcutZ hhZ (by rw [cut6_len]; omega) (cut6_bd h8) h32).mono ?_
  rintro e w3 ⟨v3, rfl, hown3, hb3⟩
  have hbk := bookTo_bk (cut6 cs) has (cut6 cs).length (Nat.le_refl _)
  have hst := Lib.hid (show stOf (nums8 cs) (nums32 has) ps now = ⟨((ps.take 6).foldl payStep (bookTo (cut6 cs) has (cut6 cs).length, [])).1, ((ps.take 6).foldl payStep (bookTo (cut6 cs) has (cut6 cs).length, [])).2, [], [], now % 12⟩ by
    unfold stOf bookTo book
    rw [cut6_six, List.take_of_length_le (l := six (nums8 cs)) (by rw [six_len, cut6_len]; omega)])
  rw [cut6_len] at hbk
  have hbk6 : Bk (bookTo (cut6 cs) has (cut6 cs).length) 6 := by rw [cut6_len]; exact hbk
  clear hbk
  generalize bookTo (cut6 cs) has (cut6 cs).length = b0 at *
  obtain ⟨A5, c5, rfl⟩ := hown3.row.slice
  clear hcutZ hhZ hce HLL
  have hnum0 : Num0 b0 b0 [] 0 := ⟨hbk6.ok, Alike.refl _, by have := hbk6.len; omega, Nat.le_refl _, fun k h0 hk => by simp at hk; omega⟩
  have lyZ := hyZ.lt
  have hbZs := hbZ.size
  go_wp2
  go_loopw [35] (fun i wr => StRel Z w3.heap.size (now % 12) b0 ps i wr) (fun i _ => ps.length - (intOf i).toNat)
  case atStart => exact ⟨0, ⟨by omega, by omega⟩, rfl, below_alloc hb3 _, A5, c5, none, 0, Blk.new _ _ _, hown3.alloc _, Own.nil _ _ _⟩
  case round =>
    clear hown3
    obtain ⟨k, ⟨hk, hk6⟩, rfl, hb, A, c, A', c', hbl, hoa, hop⟩ := hrel
    have hnum := payFold_num (b := b0) (ps.take k) b0 [] 0 (by simp; omega) hnum0 fun p hp => hps p (List.mem_of_mem_take hp)
    by_cases hlt : k < ps.length
    · obtain ⟨b8, o8, c8, hv, d0, d1, d2, d3, d4, d5, d6, d7, ld⟩ := hpZ.paid' k hlt
      injection hv with hv1 _ hv3
      subst hv1 hv3
      have hpk := hps _ (rd_mem ps k (by omega) (by omega))
      have hF := foldPay_succ b0 ps k hlt
      have hpo := payOf_ok hpk
      have HPD := Lib.hid (fun W => paid_any (rd ps (k : Int)) W hpk)
      have hpx : ∃ x, payOf (rd ps (k : Int)) = x := ⟨_, rfl⟩
      obtain ⟨x, hx⟩ := hpx
      rw [hx] at hpo HPD
      generalize hR : (ps.take k).foldl payStep (b0, []) = R at *
      have HR := Lib.hid hR
      clear hR
      have hF2 : (ps.take (k + 1)).foldl payStep (b0, []) = (if x.frm = x.to then R else if 0 < left x then (match hold R.1 x.frm (left x) with | .error _ => R | .ok az => (az, R.2 ++ [x])) else (R.1, R.2 ++ [x])) := by
        rw [hF]; unfold payStep; simp only; rw [hx]; rfl
      clear hF hx
      obtain ⟨R1, R2⟩ := R
      obtain ⟨x0, x1, x2, x3, x4, x5, x6, x7⟩ := x
      simp only at hF2 hnum hbl hoa hop
      replace d0 := cell_below hb d0
      replace d1 := cell_below hb d1
      replace d2 := cell_below hb d2
      replace d3 := cell_below hb d3
      replace d4 := cell_below hb d4
      replace d5 := cell_below hb d5
      replace d6 := cell_below hb d6
      replace d7 := cell_below hb d7
      generalize rd ps (k : Int) = pk at *
      obtain ⟨k0, k1, k2, k3, k4, k5, k6, k7⟩ := pk
      simp only at d0 d1 d2 d3 d4 d5 d6 d7
      go_wp2_with fail
      refine (HPD.out _).mono ?_
      rintro e w4 ⟨rfl, hz4⟩
      have hb4 : Below Z.heap.size Z w4 := below_next (below_alloc hb (.cells #[.int .u8 k0, .int .u8 k1, .int .u8 k2, .int .u8 k3, .int .u8 k4, .int .u8 k5, .int .u8 k6, .bool k7] 87)) hz4
      have hbl4 := (hbl.alloc (.cells #[.int .u8 k0, .int .u8 k1, .int .u8 k2, .int .u8 k3, .int .u8 k4, .int .u8 k5, .int .u8 k6, .bool k7] 87)).next hz4
      have hoa4 := (hoa.alloc (.cells #[.int .u8 k0, .int .u8 k1, .int .u8 k2, .int .u8 k3, .int .u8 k4, .int .u8 k5, .int .u8 k6, .bool k7] 87)).below hz4
      have hop4 := (hop.alloc (.cells #[.int .u8 k0, .int .u8 k1, .int .u8 k2, .int .u8 k3, .int .u8 k4, .int .u8 k5, .int .u8 k6, .bool k7] 87)).below hz4
      clear hbl hoa hop d0 d1 d2 d3 d4 d5 d6 d7 hz4
      obtain ⟨o1, o2, o3, o4, o5⟩ := hpo
      by_cases h6 : k < 6
      · have h6i : (k : Int) < 6 := by omega
        have h6b : decide ((6 : Int) ≤ k) = false := by simp; omega
        have hbX := below_alloc hb4 (.cells #[.int .i64 x0, .int .i64 x1, .int .i64 x2, .int .i64 x3, .int .i64 x4, .int .i64 x5, .int .i64 x6, .int .i64 x7] 47)
        have hblX := hbl4.alloc (.cells #[.int .i64 x0, .int .i64 x1, .int .i64 x2, .int .i64 x3, .int .i64 x4, .int .i64 x5, .int .i64 x6, .int .i64 x7] 47)
        have hoaX := hoa4.alloc (.cells #[.int .i64 x0, .int .i64 x1, .int .i64 x2, .int .i64 x3, .int .i64 x4, .int .i64 x5, .int .i64 x6, .int .i64 x7] 47)
        have hopX := hop4.alloc (.cells #[.int .i64 x0, .int .i64 x1, .int .i64 x2, .int .i64 x3, .int .i64 x4, .int .i64 x5, .int .i64 x6, .int .i64 x7] 47)
        clear hbl4 hoa4 hop4
        by_cases hft : x0 = x1
        · have hfb : (x0 == x1) = true := by simpa using hft
          rw [if_pos hft] at hF2
          have HF := Lib.hid hF2
          clear hF2 hft
          go_wp2
          refine ⟨⟨k + 1, ⟨by omega, by omega⟩, by go_num, hbX, ?_⟩, by simp [intOf]; omega⟩
          rw [HF.out]
          exact ⟨A, c, A', c', hblX, hoaX, hopX⟩
        · have hfb : (x0 == x1) = false := by simpa using hft
          rw [if_neg hft] at hF2
          have HLF := Lib.hid (fun W => left_any ⟨x0, x1, x2, x3, x4, x5, x6, x7⟩ W o1)
          have hl0 := left_bd o1
          by_cases hlp : 0 < left ⟨x0, x1, x2, x3, x4, x5, x6, x7⟩
          · rw [if_pos hlp] at hF2
            obtain ⟨g0, g1, g2, g3, g4⟩ := hblX.c5
            have gf := hblX.frozen
            have lg := hblX.lt
            generalize left ⟨x0, x1, x2, x3, x4, x5, x6, x7⟩ = lf at *
            have HHD := Lib.hid (fun (W : World) (h : Row W (.slice A R1.length c) R1) => hold_any _ R1 x0 lf W h hnum.ok.good.abs)
            cases hhd : hold R1 x0 lf with
            | error ec =>
              rw [hhd] at hF2
              have HF := Lib.hid hF2
              have hm := Lib.hid hhd
              clear hF2 hft hhd
              go_wp2_with fail
              refine (HLF.out _).mono ?_
              rintro e w5 ⟨rfl, hz5⟩
              have hbl5 := hblX.next hz5
              clear g0 g1 g2 g3 g4
              obtain ⟨g0, g1, g2, g3, g4⟩ := hbl5.c5
              have hq5 := (Blk.new w4 47 #[.int .i64 x0, .int .i64 x1, .int .i64 x2, .int .i64 x3, .int .i64 x4, .int .i64 x5, .int .i64 x6, .int .i64 x7]).next hz5
              obtain ⟨q0, q1, q2, q3, q4, q5, q6, q7⟩ := hq5.c8
              go_wp2_with fail
              refine (HHD.out _ (hoaX.below hz5).row).mono ?_
              intro e w6 hres
              rw [hm.out] at hres
              obtain ⟨hz6, rfl⟩ := hres
              go_wp2
              refine ⟨⟨k + 1, ⟨by omega, by omega⟩, by go_num, below_next (below_next hbX hz5) hz6, ?_⟩, by simp [intOf]; omega⟩
              rw [HF.out]
              exact ⟨A, c, A', c', hbl5.next hz6, (hoaX.below hz5).below hz6, (hopX.below hz5).below hz6⟩
            | ok zs =>
              rw [hhd] at hF2
              have HF := Lib.hid hF2
              have hm := Lib.hid hhd
              clear hF2 hft hhd
              go_wp2_with fail
              refine (HLF.out _).mono ?_
              rintro e w5 ⟨rfl, hz5⟩
              have hbl5 := hblX.next hz5
              clear g0 g1 g2 g3 g4
              obtain ⟨g0, g1, g2, g3, g4⟩ := hbl5.c5
              have hq5 := (Blk.new w4 47 #[.int .i64 x0, .int .i64 x1, .int .i64 x2, .int .i64 x3, .int .i64 x4, .int .i64 x5, .int .i64 x6, .int .i64 x7]).next hz5
              obtain ⟨q0, q1, q2, q3, q4, q5, q6, q7⟩ := hq5.c8
              have hb5 := below_next hbX hz5
              go_wp2_with fail
              refine (HHD.out _ (hoaX.below hz5).row).mono ?_
              intro e w6 hres
              rw [hm.out] at hres
              obtain ⟨hz6, v6, rfl, ho6⟩ := hres
              obtain ⟨A6, cc6, rfl⟩ := ho6.row.slice
              have hb6 := below_next hb5 hz6
              have hbl6 := hbl5.next hz6
              have hq6 := hq5.next hz6
              clear g0 g1 g2 g3 g4 q0 q1 q2 q3 q4 q5 q6 q7
              obtain ⟨g0, g1, g2, g3, g4⟩ := hbl6.c5
              obtain ⟨q0, q1, q2, q3, q4, q5, q6, q7⟩ := hq6.c8
              have gf6 := hbl6.frozen
              have lg6 := hbl6.lt
              have lq6 := hq6.lt
              have hq6g : w4.heap.size ≠ w3.heap.size := Blk.ne_ hq6 hbl6 (by decide)
              have hq6g' := Ne.symm hq6g
              have hop6 := (hopX.below hz5).below hz6
              have ho6' := ho6.lower (show Z.heap.size ≤ w5.heap.size from hb5.size)
              have hpn := hnum.pays
              have hpl : R2.length ≤ 6 := by simp at hpn; omega
              have hbS : Below Z.heap.size Z (w6.setCell ⟨w3.heap.size, 0, none⟩ (.slice A6 zs.length cc6)) := hb6.setCell hb3.size _
              have hgS := (World.grownBy.refl w6 (some w3.heap.size)).setCell (a := ⟨w3.heap.size, 0, none⟩) (g := w3.heap.size) rfl (.slice A6 zs.length cc6)
              have hopS : Own (w6.setCell ⟨w3.heap.size, 0, none⟩ (.slice A6 zs.length cc6)) Z.heap.size 47 (.slice A' R2.length c') R2 := hop6.kept hgS (.inr (hop6.blk_ne hbl6 (by decide)))
              have hoaS : Own (w6.setCell ⟨w3.heap.size, 0, none⟩ (.slice A6 zs.length cc6)) Z.heap.size 50 (.slice A6 zs.length cc6) zs := ho6'.kept hgS (.inr (ho6'.blk_ne hbl6 (by decide)))
              have hblS : Blk (w6.setCell ⟨w3.heap.size, 0, none⟩ (.slice A6 zs.length cc6)) w3.heap.size 36 (stCells A6 zs.length cc6 A' R2.length c' none 0 0 none 0 0 (now % 12)) := hbl6.set_ 0 _
              have hszS : (w6.setCell ⟨w3.heap.size, 0, none⟩ (.slice A6 zs.length cc6)).heap.size = w6.heap.size := by simp
              have hbox := Row.box (w6.setCell ⟨w3.heap.size, 0, none⟩ (.slice A6 zs.length cc6)) (Pay.mk x0 x1 x2 x3 x4 x5 x6 x7) #[.int .i64 x0, .int .i64 x1, .int .i64 x2, .int .i64 x3, .int .i64 x4, .int .i64 x5, .int .i64 x6, .int .i64 x7] rfl 47
              rw [hszS] at hbox
              have HBY := Lib.hid (show (R2.length + [Pay.mk x0 x1 x2 x3 x4 x5 x6 x7].length) * 64 ≤ 140737488355328 by simp; omega)
              have HSZ := Lib.hid (below_alloc hbS (.cells #[.int .i64 x0, .int .i64 x1, .int .i64 x2, .int .i64 x3, .int .i64 x4, .int .i64 x5, .int .i64 x6, .int .i64 x7] 47)).size
              clear hszS
              go_wp2_with (at_builtin; refine wp_append (B := Z.heap.size) (xs := R2) (ys := [Pay.mk x0 x1 x2 x3 x4 x5 x6 x7]) sT_pay rfl rfl (.slice A' R2.length c') (.slice (some ⟨w6.heap.size, 0, none⟩) 1 1) rfl rfl (hopS.alloc _) hbox HBY.out (by decide) HSZ.out ?_; intro v7 w7 hown7 hg7 hat7; obtain ⟨A7, c7', rfl⟩ := hown7.row.slice; have hnb : some w3.heap.size ≠ (Value.slice A' R2.length c').ownBlock := Ne.symm (hopS.blk_ne hblS (by decide)); have hbl7 := (hblS.alloc (.cells #[.int .i64 x0, .int .i64 x1, .int .i64 x2, .int .i64 x3, .int .i64 x4, .int .i64 x5, .int .i64 x6, .int .i64 x7] 47)).grown hg7 hnb; obtain ⟨g0, g1, g2, g3, g4⟩ := hbl7.c5; have gf7 := hbl7.frozen)
              have hb7 : Below Z.heap.size Z w7 := below_grown (below_alloc hbS _) hg7 hopS.base
              have hna : (Value.slice A6 zs.length cc6).ownBlock = none ∨ (Value.slice A6 zs.length cc6).ownBlock ≠ (Value.slice A' R2.length c').ownBlock := hoaS.apart hopS (by decide)
              have hoa7 := (hoaS.alloc (.cells #[.int .i64 x0, .int .i64 x1, .int .i64 x2, .int .i64 x3, .int .i64 x4, .int .i64 x5, .int .i64 x6, .int .i64 x7] 47)).kept hg7 hna
              have hlen7 : (R2 ++ [Pay.mk x0 x1 x2 x3 x4 x5 x6 x7]).length = R2.length + 1 := by simp
              rw [hlen7] at hown7
              have hgT := (World.grownBy.refl w7 (some w3.heap.size)).setCell (a := ⟨w3.heap.size, 1, none⟩) (g := w3.heap.size) rfl (.slice A7 (R2.length + 1) c7')
              refine ⟨⟨k + 1, ⟨by omega, by omega⟩, by go_num, hb7.setCell hb3.size _, ?_⟩, by simp [intOf]; omega⟩
              rw [HF.out]
              refine ⟨A6, cc6, A7, c7', ?_, hoa7.kept hgT (.inr (hoa7.blk_ne hbl7 (by decide))), ?_⟩
              · show Blk _ _ _ (stCells A6 zs.length cc6 A7 (R2 ++ [Pay.mk x0 x1 x2 x3 x4 x5 x6 x7]).length c7' none 0 0 none 0 0 (now % 12))
                rw [hlen7]
                exact hbl7.set_ 1 _
              · show Own _ _ _ (.slice A7 (R2 ++ [Pay.mk x0 x1 x2 x3 x4 x5 x6 x7]).length c7') _
                rw [hlen7]
                exact hown7.kept hgT (.inr (hown7.blk_ne hbl7 (by decide)))
          · rw [if_neg hlp] at hF2
            have hlz : left ⟨x0, x1, x2, x3, x4, x5, x6, x7⟩ = 0 := by omega
            rw [hlz] at HLF
            have HF := Lib.hid hF2
            clear hF2 hft hlp hlz hl0
            go_wp2_with fail
            refine (HLF.out _).mono ?_
            rintro e w6 ⟨rfl, hz6⟩
            have hb6 := below_next hbX hz6
            have hbl6 := hblX.next hz6
            have hq6 := (Blk.new w4 47 #[.int .i64 x0, .int .i64 x1, .int .i64 x2, .int .i64 x3, .int .i64 x4, .int .i64 x5, .int .i64 x6, .int .i64 x7]).next hz6
            obtain ⟨g0, g1, g2, g3, g4⟩ := hbl6.c5
            obtain ⟨q0, q1, q2, q3, q4, q5, q6, q7⟩ := hq6.c8
            have lg6 := hbl6.lt
            have lq6 := hq6.lt
            have hopS := hopX.below hz6
            have hoaS := hoaX.below hz6
            have hpn := hnum.pays
            have hpl : R2.length ≤ 6 := by simp at hpn; omega
            have hbox := Row.box w6 (Pay.mk x0 x1 x2 x3 x4 x5 x6 x7) #[.int .i64 x0, .int .i64 x1, .int .i64 x2, .int .i64 x3, .int .i64 x4, .int .i64 x5, .int .i64 x6, .int .i64 x7] rfl 47
            have HBY := Lib.hid (show (R2.length + [Pay.mk x0 x1 x2 x3 x4 x5 x6 x7].length) * 64 ≤ 140737488355328 by simp; omega)
            have HSZ := Lib.hid (below_alloc hb6 (.cells #[.int .i64 x0, .int .i64 x1, .int .i64 x2, .int .i64 x3, .int .i64 x4, .int .i64 x5, .int .i64 x6, .int .i64 x7] 47)).size
            go_wp2_with (at_builtin; refine wp_append (B := Z.heap.size) (xs := R2) (ys := [Pay.mk x0 x1 x2 x3 x4 x5 x6 x7]) sT_pay rfl rfl (.slice A' R2.length c') (.slice (some ⟨w6.heap.size, 0, none⟩) 1 1) rfl rfl (hopS.alloc _) hbox HBY.out (by decide) HSZ.out ?_; intro v7 w7 hown7 hg7 hat7; obtain ⟨A7, c7', rfl⟩ := hown7.row.slice; have hnb : some w3.heap.size ≠ (Value.slice A' R2.length c').ownBlock := Ne.symm (hopS.blk_ne hbl6 (by decide)); have hbl7 := (hbl6.alloc (.cells #[.int .i64 x0, .int .i64 x1, .int .i64 x2, .int .i64 x3, .int .i64 x4, .int .i64 x5, .int .i64 x6, .int .i64 x7] 47)).grown hg7 hnb; obtain ⟨g0, g1, g2, g3, g4⟩ := hbl7.c5; have gf7 := hbl7.frozen)
            have hb7 : Below Z.heap.size Z w7 := below_grown (below_alloc hb6 _) hg7 hopS.base
            have hna : (Value.slice A R1.length c).ownBlock = none ∨ (Value.slice A R1.length c).ownBlock ≠ (Value.slice A' R2.length c').ownBlock := hoaS.apart hopS (by decide)
            have hoa7 := (hoaS.alloc (.cells #[.int .i64 x0, .int .i64 x1, .int .i64 x2, .int .i64 x3, .int .i64 x4, .int .i64 x5, .int .i64 x6, .int .i64 x7] 47)).kept hg7 hna
            have hlen7 : (R2 ++ [Pay.mk x0 x1 x2 x3 x4 x5 x6 x7]).length = R2.length + 1 := by simp
            rw [hlen7] at hown7
            have hgT := (World.grownBy.refl w7 (some w3.heap.size)).setCell (a := ⟨w3.heap.size, 1, none⟩) (g := w3.heap.size) rfl (.slice A7 (R2.length + 1) c7')
            refine ⟨⟨k + 1, ⟨by omega, by omega⟩, by go_num, hb7.setCell hb3.size _, ?_⟩, by simp [intOf]; omega⟩
            rw [HF.out]
            refine ⟨A, c, A7, c7', ?_, hoa7.kept hgT (.inr (hoa7.blk_ne hbl7 (by decide))), ?_⟩
            · show Blk _ _ _ (stCells A R1.length c A7 (R2 ++ [Pay.mk x0 x1 x2 x3 x4 x5 x6 x7]).length c7' none 0 0 none 0 0 (now % 12))
              rw [hlen7]
              exact hbl7.set_ 1 _
            · show Own _ _ _ (.slice A7 (R2 ++ [Pay.mk x0 x1 x2 x3 x4 x5 x6 x7]).length c7') _
              rw [hlen7]
              exact hown7.kept hgT (.inr (hown7.blk_ne hbl7 (by decide)))
      · have hk6' : k = 6 := by omega
        subst hk6'
        clear hF2
        have hbX := below_alloc hb4 (.cells #[.int .i64 x0, .int .i64 x1, .int .i64 x2, .int .i64 x3, .int .i64 x4, .int .i64 x5, .int .i64 x6, .int .i64 x7] 47)
        have hblX := hbl4.alloc (.cells #[.int .i64 x0, .int .i64 x1, .int .i64 x2, .int .i64 x3, .int .i64 x4, .int .i64 x5, .int .i64 x6, .int .i64 x7] 47)
        have hoaX := hoa4.alloc (.cells #[.int .i64 x0, .int .i64 x1, .int .i64 x2, .int .i64 x3, .int .i64 x4, .int .i64 x5, .int .i64 x6, .int .i64 x7] 47)
        have hopX := hop4.alloc (.cells #[.int .i64 x0, .int .i64 x1, .int .i64 x2, .int .i64 x3, .int .i64 x4, .int .i64 x5, .int .i64 x6, .int .i64 x7] 47)
        clear hbl4 hoa4 hop4
        obtain ⟨y0, y1, y2, y3, y4⟩ := (hyZ.next hbX).c5
        have yf := (hyZ.next hbX).frozen
        have ly := (hyZ.next hbX).lt
        obtain ⟨g0, g1, g2, g3, g4⟩ := hblX.c5
        have lg := hblX.lt
        go_wp2
        have hfin : StV (w4.alloc (.cells #[.int .i64 x0, .int .i64 x1, .int .i64 x2, .int .i64 x3, .int .i64 x4, .int .i64 x5, .int .i64 x6, .int .i64 x7] 47)) (.agg #[.slice A R1.length c, .slice A' R2.length c', .slice none 0 0, .slice none 0 0, .int .i64 (now % 12)]) (stOf (nums8 cs) (nums32 has) ps now) := by
          rw [hst.out, HR.out]
          exact ⟨_, _, _, _, rfl, hoaX.row, hopX.row, Row.nil _, Row.nil _⟩
        refine bodyPost_ret (res_cell rfl _ rfl agg_st rfl ((hyZ.next hbX).chain5)) rfl ⟨_, rfl, hfin.over (hyZ.next hbX) (set5_grown _ _ _ _ _ _ _), ?_⟩
        (repeat (first | (with_reducible refine below_drew ?_) | (with_reducible refine below_drewN ?_ _) | (with_reducible refine below_alloc ?_ _) | ((with_reducible refine Below.setCell ?_ ?_ _); rotate_left; (focus (first | (simp; done) | (simp; omega))))))
        first | exact below_next hbZ hbX | exact below_next hbZ hb4
    · have hkl : k = ps.length := by omega
      have hRR : (ps.take 6).foldl payStep (b0, []) = (ps.take k).foldl payStep (b0, []) := by
        rw [List.take_of_length_le (by omega), List.take_of_length_le (by omega)]
      have HRR := Lib.hid hRR
      have hki : (ps.length : Int) ≤ k := by omega
      clear hRR hnum
      generalize hR : (ps.take k).foldl payStep (b0, []) = R at *
      clear hR
      obtain ⟨R1, R2⟩ := R
      obtain ⟨y0, y1, y2, y3, y4⟩ := (hyZ.next hb).c5
      have yf := (hyZ.next hb).frozen
      have ly := (hyZ.next hb).lt
      obtain ⟨g0, g1, g2, g3, g4⟩ := hbl.c5
      have lg := hbl.lt
      go_wp2
      have hfin : StV wr (.agg #[.slice A R1.length c, .slice A' R2.length c', .slice none 0 0, .slice none 0 0, .int .i64 (now % 12)]) (stOf (nums8 cs) (nums32 has) ps now) := by
        rw [hst.out, HRR.out]
        exact ⟨_, _, _, _, rfl, hoa.row, hop.row, Row.nil _, Row.nil _⟩
      refine bodyPost_ret (res_cell rfl _ rfl agg_st rfl ((hyZ.next hb).chain5)) rfl ⟨_, rfl, hfin.over (hyZ.next hb) (set5_grown _ _ _ _ _ _ _), ?_⟩
      (repeat (first | (with_reducible refine below_drew ?_) | (with_reducible refine below_drewN ?_ _) | (with_reducible refine below_alloc ?_ _) | ((with_reducible refine Below.setCell ?_ ?_ _); rotate_left; (focus (first | (simp; done) | (simp; omega))))))
      exact below_next hbZ hb
end Go.Proofs.YthjmficglpfgpaaDoor
namespace Go.Proofs.YthjmficglpfgpaaDoor
set_option linter.unusedVariables false
set_option linter.unusedSimpArgs false
open Go Go.RowKit Enc
set_option maxRecDepth 100000
set_option maxHeartbeats 1600000

def aw1 : St := ⟨house ++ [⟨1, 0, 0⟩], [], [], [], 0⟩
def aw2 : St := ⟨[⟨0, 0, 0⟩, ⟨0, 0, 0⟩, ⟨0, 0, 0⟩, ⟨1, -50, 0⟩, ⟨1, 0, 0⟩, ⟨1, 0, 0⟩, ⟨2, 0, 0⟩, ⟨2, 0, 0⟩, ⟨2, 0, 0⟩, ⟨1, 50, 0⟩], [], [], [], 0⟩
theorem aw_1 : opsDo newSt ⟨0, 0, 1, 0, 0, 0, 0⟩ = (aw1, ⟨0, 9⟩) := by rfl
theorem aw_2 : opsDo aw1 ⟨0, 1, 9, 0, 50, 0, 0⟩ = (aw2, ⟨0, 0⟩) := by rfl
theorem aw_3 : opsDo aw2 ⟨0, 2, 9, 9, 60, 0, 0⟩ = (aw2, ⟨1, 0⟩) := by rfl
theorem aw1_ok : Ok (fun _ => 0) aw1.accs aw1.pays := by
  have := opsDo_ok (s := newSt) (r := ⟨0, 0, 1, 0, 0, 0, 0⟩) house_ok (Int.le_refl _) ⟨fun _ => by decide, fun h => by simp at h⟩
  rw [aw_1] at this
  exact this.1
theorem aw2_ok : Ok (fun _ => 0) aw2.accs aw2.pays := by
  have := opsDo_ok (s := aw1) (r := ⟨0, 1, 9, 0, 50, 0, 0⟩) aw1_ok (Int.le_refl _) ⟨fun h => by simp at h, fun h => by simp at h⟩
  rw [aw_2] at this
  exact this.1
theorem awake15 (w : World) (hT : GT w) : Calls Tryd.prog 12 #[] w fun e w' => e = .returned (.bool true) ∧ Below w.heap.size w w' := by
  go_enter Tryd.func12, Tryd.ntmps12
  go_wp2_with fail
  refine (new_st _).mono ?_
  rintro e w1 ⟨v, rfl, hS, hb⟩
  go_wp2_with fail
  refine (opsDo_st newSt v ⟨0, 0, 1, 0, 0, 0, 0⟩ _ hS house_ok.good house_ok.pays (hT.below hb)).mono ?_
  rw [aw_1]
  rintro e w2 ⟨hb2, v2, rfl, hS2⟩
  obtain ⟨A1, c1, A2, c2, A3, c3, A4, c4, rfl, k1, k2, k3, k4⟩ := hS2.open
  replace hb := below_next hb hb2
  clear hb2 hS
  go_wp2_with fail
  refine (opsDo_st aw1 _ ⟨0, 1, 9, 0, 50, 0, 0⟩ _ (hS2.below (below_alloc (below_alloc (Below.refl _ _) _) _)) aw1_ok.good aw1_ok.pays (hT.below (below_alloc (below_alloc hb _) _))).mono ?_
  rw [aw_2]
  rintro e w3 ⟨hb3, v3, rfl, hS3⟩
  obtain ⟨B1, d1, B2, d2, B3, d3, B4, d4, rfl, l1, l2, l3, l4⟩ := hS3.open
  have hs := ((Blk.new w2 36 #[.slice A1 aw1.accs.length c1, .slice A2 aw1.pays.length c2, .slice A3 aw1.sagas.length c3, .slice A4 aw1.known.length c4, .int .i64 aw1.now]).alloc (.cells #[.int .i64 0, .int .i64 9] 40)).next hb3
  have hr := (Blk.new1 w2 (.cells #[.slice A1 aw1.accs.length c1, .slice A2 aw1.pays.length c2, .slice A3 aw1.sagas.length c3, .slice A4 aw1.known.length c4, .int .i64 aw1.now] 36) 40 #[.int .i64 0, .int .i64 9]).next hb3
  have hbb := below_next (below_alloc (below_alloc hb (.cells #[.slice A1 aw1.accs.length c1, .slice A2 aw1.pays.length c2, .slice A3 aw1.sagas.length c3, .slice A4 aw1.known.length c4, .int .i64 aw1.now] 36)) (.cells #[.int .i64 0, .int .i64 9] 40)) hb3
  have has : ∀ {α : Type} [Enc α] (u : Value) (xs : List α), Row w2 u xs → True := fun _ _ _ => trivial
  obtain ⟨x0, x1, x2, x3, x4⟩ := hs.c5
  obtain ⟨y0, y1⟩ := hr.c2
  have sf := hs.frozen
  have ls := hs.lt
  have lr := hr.lt
  have hbW := hb.size
  clear hS2 k1 k2 k3 k4 hb hb3
  go_wp2_with fail
  have hS3' := hS3.over hs (set5_grown w3 w2.heap.size (.slice B1 aw2.accs.length d1) (.slice B2 aw2.pays.length d2) (.slice B3 aw2.sagas.length d3) (.slice B4 aw2.known.length d4) (.int .i64 aw2.now))
  have hs' := hs.chain5 (a0 := .slice B1 aw2.accs.length d1) (a1 := .slice B2 aw2.pays.length d2) (a2 := .slice B3 aw2.sagas.length d3) (a3 := .slice B4 aw2.known.length d4) (a4 := .int .i64 aw2.now)
  have hr' := hr.far5 (g' := w2.heap.size) (by omega) (a0 := .slice B1 aw2.accs.length d1) (a1 := .slice B2 aw2.pays.length d2) (a2 := .slice B3 aw2.sagas.length d3) (a3 := .slice B4 aw2.known.length d4) (a4 := .int .i64 aw2.now)
  have hbZ : Below w.heap.size w (((((w3.setCell ⟨w2.heap.size, 0, none⟩ (.slice B1 aw2.accs.length d1)).setCell ⟨w2.heap.size, 1, none⟩ (.slice B2 aw2.pays.length d2)).setCell ⟨w2.heap.size, 2, none⟩ (.slice B3 aw2.sagas.length d3)).setCell ⟨w2.heap.size, 3, none⟩ (.slice B4 aw2.known.length d4)).setCell ⟨w2.heap.size, 4, none⟩ (.int .i64 aw2.now)) := by
    (repeat (first | (with_reducible refine below_drew ?_) | (with_reducible refine below_drewN ?_ _) | (with_reducible refine below_alloc ?_ _) | ((with_reducible refine Below.setCell ?_ ?_ _); rotate_left; (focus (first | (simp; done) | (simp; omega))))))
    exact hbb
  clear hS3 hs hr hbb l1 l2 l3 l4 x0 x1 x2 x3 x4 y0 y1 sf ls lr hbW
  have hsz : (((((w3.setCell ⟨w2.heap.size, 0, none⟩ (.slice B1 aw2.accs.length d1)).setCell ⟨w2.heap.size, 1, none⟩ (.slice B2 aw2.pays.length d2)).setCell ⟨w2.heap.size, 2, none⟩ (.slice B3 aw2.sagas.length d3)).setCell ⟨w2.heap.size, 3, none⟩ (.slice B4 aw2.known.length d4)).setCell ⟨w2.heap.size, 4, none⟩ (.int .i64 aw2.now)).heap.size = w3.heap.size := by simp
  generalize (((((w3.setCell ⟨w2.heap.size, 0, none⟩ (.slice B1 aw2.accs.length d1)).setCell ⟨w2.heap.size, 1, none⟩ (.slice B2 aw2.pays.length d2)).setCell ⟨w2.heap.size, 2, none⟩ (.slice B3 aw2.sagas.length d3)).setCell ⟨w2.heap.size, 3, none⟩ (.slice B4 aw2.known.length d4)).setCell ⟨w2.heap.size, 4, none⟩ (.int .i64 aw2.now)) = W at *
  have hq := Blk.new W 40 #[.int .i64 0, .int .i64 0]
  rw [hsz] at hq
  clear hsz
  refine (opsDo_st aw2 _ ⟨0, 2, 9, 9, 60, 0, 0⟩ _ (hS3'.alloc _) aw2_ok.good aw2_ok.pays (hT.below (below_alloc hbZ _))).mono ?_
  rw [aw_3]
  rintro e w4 ⟨hb4, v4, rfl, hS4⟩
  obtain ⟨C1, f1, C2, f2, C3, f3, C4, f4, rfl, m1, m2, m3, m4⟩ := hS4.open
  have hS5 := (hS3'.alloc _).below hb4
  obtain ⟨E1, g1, E2, g2, E3, g3, E4, g4, he, n1, n2, n3, n4⟩ := hS5.open
  injection he with he
  simp only [Array.mk.injEq, List.cons.injEq, Value.slice.injEq, and_true, true_and] at he
  obtain ⟨⟨rfl, rfl⟩, ⟨rfl, rfl⟩, ⟨rfl, rfl⟩, rfl, rfl⟩ := he
  obtain ⟨x0, x1, x2, x3, x4⟩ := ((hs'.alloc _).next hb4).c5
  obtain ⟨y0, y1⟩ := ((hr'.alloc _).next hb4).c2
  obtain ⟨q0, q1⟩ := (hq.next hb4).c2
  have lx := ((hs'.alloc (.cells #[.int .i64 0, .int .i64 0] 40)).next hb4).lt
  have ly := ((hr'.alloc (.cells #[.int .i64 0, .int .i64 0] 40)).next hb4).lt
  have lq := (hq.next hb4).lt
  obtain ⟨o1, p1, cc1, hv1, _, z1, _, lz1⟩ := n1.acc 9 (by decide)
  obtain ⟨o2, p2, cc2, hv2, _, z2, _, lz2⟩ := n1.acc 3 (by decide)
  injection hv1 with hv1 _ hv3
  subst hv1 hv3
  injection hv2 with hv2 _ _
  injection hv2 with hv2
  injection hv2 with hv2 hv4
  subst hv2 hv4
  have z1' : w4.cell? ⟨o1, p1 + 27 + 1, none⟩ = some (.int .i64 50) := z1
  have z2' : w4.cell? ⟨o1, p1 + 9 + 1, none⟩ = some (.int .i64 (-50)) := z2
  have hlen : ((aw2.accs.length : Nat) : Int) = 10 := by rfl
  clear z1 z2 m1 m2 m3 m4 n1 n2 n3 n4 hS5 hS4 hS3' hs' hr' hq
  go_wp2_with fail
  go_ret
  exact ⟨rfl, by (repeat (first | (with_reducible refine below_drew ?_) | (with_reducible refine below_drewN ?_ _) | (with_reducible refine below_alloc ?_ _) | ((with_reducible refine Below.setCell ?_ ?_ _); rotate_left; (focus (first | (simp; done) | (simp; omega)))))); exact below_next (below_alloc hbZ _) hb4⟩
end Go.Proofs.YthjmficglpfgpaaDoor
namespace Go.Proofs.YthjmficglpfgpaaDoor
set_option linter.unusedVariables false
set_option linter.unusedSimpArgs false
open Go Go.RowKit Enc
set_option maxRecDepth 100000
set_option maxHeartbeats 1600000

/-- What is handed to a law: accounts and payments by numbers. -/
structure BookIn (w : World) (vc vh vd vp : Value) (cs : List U8) (has : List U32) (ds : List U8) (ps : List Paid) : Prop where
  curs : Row w vc cs
  hass : Row w vh has
  helds : Row w vd ds
  paids : Row w vp ps
  c8 : ∀ c ∈ cs, 0 ≤ c.n ∧ c.n < 256
  h32 : ∀ x ∈ has, 0 ≤ x.n ∧ x.n < 4294967296
  pok : ∀ p ∈ ps, PaidOk p
  cap : ∃ A n c, vc = .slice A n c ∧ n ≤ c
theorem BookIn.below {w w' : World} {vc vh vd vp : Value} {cs : List U8} {has : List U32} {ds : List U8} {ps : List Paid} (h : BookIn w vc vh vd vp cs has ds ps) (hb : Below w.heap.size w w') : BookIn w' vc vh vd vp cs has ds ps :=
  ⟨h.curs.below hb, h.hass.below hb, h.helds.below hb, h.paids.below hb, h.c8, h.h32, h.pok, h.cap⟩
theorem state_in {vc vh vd vp : Value} {cs : List U8} {has : List U32} {ds : List U8} {ps : List Paid} {w : World} (h : BookIn w vc vh vd vp cs has ds ps) (now : Int) (hnow : 0 ≤ now ∧ now < 256) :
    Calls Tryd.prog 13 #[.agg #[vc, vh, vd], vp, .int .u8 now] w fun e w' => ∃ v, e = .returned v ∧ (∃ s, StNum s ∧ s = stOf (nums8 cs) (nums32 has) ps now ∧ StV w' v s) ∧ Below w.heap.size w w' :=
  (state_any vc vh vd vp cs has ds ps now w h.curs h.hass h.helds h.paids h.c8 h.h32 h.pok hnow h.cap).mono fun _ _ ⟨v, he, hv, hb⟩ => ⟨v, he, ⟨_, stOf_num _ _ _ _ h.pok, rfl, hv⟩, hb⟩
theorem opsCharge_walk (vc vh vd vp : Value) (cs : List U8) (has : List U32) (ds : List U8) (ps : List Paid) (k n : Int) (w : World) (hin : BookIn w vc vh vd vp cs has ds ps) (hT : GT w) (hk : 0 ≤ k ∧ k < 256) (hn : 0 ≤ n ∧ n < 256) :
    Calls Tryd.prog 4 #[.agg #[vc, vh, vd], vp, .int .u8 k, .int .u8 n] w fun e w' => e = .returned (.bool true) ∧ Below w.heap.size w w' := by
  have hb0 := below_alloc (Below.refl w.heap.size w) (.cells #[vc, vh, vd] 25)
  have hx := Blk.new w 25 #[vc, vh, vd]
  go_enter Tryd.func4, Tryd.ntmps4
  go_wp2_with fail
  refine (awake15 _ (hT.below hb0)).mono ?_
  rintro e w1 ⟨rfl, hz1⟩
  have hb1 := below_next hb0 hz1
  obtain ⟨x0, x1, x2⟩ := (hx.next hz1).c3
  go_wp2_with fail
  refine (state_in (hin.below hb1) 0 (by decide)).mono ?_
  rintro e w2 ⟨v, rfl, ⟨s, hS, -, hv⟩, hz2⟩
  have hb2 := below_next hb1 hz2
  obtain ⟨A1, c1, A2, c2, A3, c3, A4, c4, rfl, q1, q2, q3, q4⟩ := hv.open
  obtain ⟨bz, oz, rfl⟩ := q1.addr (by have := hS.len; omega)
  clear hin x0 x1 x2 hz1 hz2 hb0 hb1 hx
  obtain ⟨k0, k1⟩ := hk
  obtain ⟨n0, n1⟩ := hn
  have hlp := hS.pays
  by_cases hl : s.pays.length = 0
  · have hl' : ((s.pays.length : Int) == 0) = true := by simpa using hl
    go_wp2
    go_ret
    exact ⟨rfl, by (repeat (first | (with_reducible refine below_drew ?_) | (with_reducible refine below_drewN ?_ _) | (with_reducible refine below_alloc ?_ _) | ((with_reducible refine Below.setCell ?_ ?_ _); rotate_left; (focus (first | (simp; done) | (simp; omega)))))); exact hb2⟩
  · have hl' : ((s.pays.length : Int) == 0) = false := by simpa using hl
    have hpos : (0 : Int) < s.pays.length := by omega
    have hi0 := Int.emod_nonneg k (show (s.pays.length : Int) ≠ 0 by omega)
    have hi1 := Int.emod_lt_of_pos k hpos
    obtain ⟨b3, o3, c3', hvp, p0, p1, p2, p3, p4, p5, p6, p7, lp⟩ := q2.payI (k % s.pays.length) hi0 hi1
    injection hvp with e1 _ e3
    subst e1 e3
    have hq2 := below_alloc hb2 (.cells #[.slice (some ⟨bz, oz, none⟩) s.accs.length c1, .slice (some ⟨b3, o3, none⟩) s.pays.length c2, .slice A3 s.sagas.length c3, .slice A4 s.known.length c4, .int .i64 s.now] 36)
    clear hl
    go_wp2_with fail
    have hpd : ∃ p, rd s.pays (k % (s.pays.length : Int)) = p := ⟨_, rfl⟩
    generalize k % (s.pays.length : Int) = i at *
    obtain ⟨p, hp⟩ := hpd
    have hpk := hS.ok.pays.2 i hi0 hi1
    have hlaw := charge_law hS hi0 hi1 ⟨n0, n1⟩
    have hap := hS.ok.apart i hi0 hi1
    rw [hp] at hpk hlaw p0 p1 p2 p3 p4 p5 p6 p7 hap
    have hst := Blk.new w2 36 (stCells (some ⟨bz, oz, none⟩) s.accs.length c1 (some ⟨b3, o3, none⟩) s.pays.length c2 A3 s.sagas.length c3 A4 s.known.length c4 s.now)
    have HP := Lib.hid hp
    have hvX := (hv.alloc (.cells (stCells (some ⟨bz, oz, none⟩) s.accs.length c1 (some ⟨b3, o3, none⟩) s.pays.length c2 A3 s.sagas.length c3 A4 s.known.length c4 s.now) 36)).alloc (.cells #[.int .i64 p.frm, .int .i64 p.to, .int .i64 p.auth, .int .i64 p.capt, .int .i64 p.refd, .int .i64 p.chgd, .int .i64 p.til, .int .i64 p.stage] 47)
    have hbX := below_alloc hq2 (.cells #[.int .i64 p.frm, .int .i64 p.to, .int .i64 p.auth, .int .i64 p.capt, .int .i64 p.refd, .int .i64 p.chgd, .int .i64 p.til, .int .i64 p.stage] 47)
    have hstX := hst.alloc (.cells #[.int .i64 p.frm, .int .i64 p.to, .int .i64 p.auth, .int .i64 p.capt, .int .i64 p.refd, .int .i64 p.chgd, .int .i64 p.til, .int .i64 p.stage] 47)
    have hpX := Blk.new1 w2 (.cells (stCells (some ⟨bz, oz, none⟩) s.accs.length c1 (some ⟨b3, o3, none⟩) s.pays.length c2 A3 s.sagas.length c3 A4 s.known.length c4 s.now) 36) 47 #[.int .i64 p.frm, .int .i64 p.to, .int .i64 p.auth, .int .i64 p.capt, .int .i64 p.refd, .int .i64 p.chgd, .int .i64 p.til, .int .i64 p.stage]
    rw [hp]
    clear hp q1 q2 q3 q4 p0 p1 p2 p3 p4 p5 p6 p7 hb2 hq2 hst hl' hpos
    refine (opsDo_st s _ ⟨0, 7, i, 0, 1 + n, 0, 0⟩ _ hvX hS.ok.good hS.ok.pays (hT.below hbX)).mono ?_
    intro e w3 hres
    rcases hlaw with ⟨c, hc0, hdo, hor⟩ | ⟨t, hdo, htok, htl, htp, htb, htc⟩
    · rw [hdo] at hres
      obtain ⟨hz3, v3, rfl, hv3⟩ := hres
      obtain ⟨B1, d1, B2, d2, B3, d3, B4, d4, rfl, -, -, -, -⟩ := hv3.open
      have hcb : (c != 0) = true := by simpa using hc0
      have hb3 := below_next hbX hz3
      have hv3' := hvX.below hz3
      have hst3 := hstX.next hz3
      have hp3 := hpX.next hz3
      clear hvX hbX hstX hpX
      obtain ⟨x0, x1, x2, x3, x4⟩ := hst3.c5
      obtain ⟨p0, p1, p2, p3, p4, p5, p6, p7⟩ := hp3.c8
      have lx := hst3.lt
      have lp3 := hp3.lt
      go_wp2_with fail
      refine abs_world (fun X => Blk X w2.heap.size 36 (stCells (some ⟨bz, oz, none⟩) s.accs.length c1 (some ⟨b3, o3, none⟩) s.pays.length c2 A3 s.sagas.length c3 A4 s.known.length c4 s.now) ∧ Blk X w3.heap.size 36 (stCells B1 s.accs.length d1 B2 s.pays.length d2 B3 s.sagas.length d3 B4 s.known.length d4 s.now) ∧ Blk X (w2.heap.size + 1) 47 #[.int .i64 p.frm, .int .i64 p.to, .int .i64 p.auth, .int .i64 p.capt, .int .i64 p.refd, .int .i64 p.chgd, .int .i64 p.til, .int .i64 p.stage] ∧ StV X (.agg (stCells (some ⟨bz, oz, none⟩) s.accs.length c1 (some ⟨b3, o3, none⟩) s.pays.length c2 A3 s.sagas.length c3 A4 s.known.length c4 s.now)) s ∧ StV X (.agg (stCells B1 s.accs.length d1 B2 s.pays.length d2 B3 s.sagas.length d3 B4 s.known.length d4 s.now)) s ∧ Below w.heap.size w X)
        ⟨(hst3.alloc _).alloc _, (Blk.new _ _ _).alloc _, (hp3.alloc _).alloc _, (hv3'.alloc _).alloc _, (hv3.alloc _).alloc _, below_alloc (below_alloc hb3 _) _⟩ ?_
      clear hst3 hp3 hv3' hv3 hb3 x0 x1 x2 x3 x4 p0 p1 p2 p3 p4 p5 p6 p7 lx lp3
      rintro X ⟨hst3, htt3, hp3, hv3', hv3, hb3⟩
      obtain ⟨r1, -, -, -⟩ := hv3'.rows
      obtain ⟨a0, -, -⟩ := r1.accAt p.frm (by omega) hpk.2.1.2
      obtain ⟨a1, -, -⟩ := r1.accAt p.to (by omega) hpk.2.2.2
      obtain ⟨x0, x1, x2, x3, x4⟩ := hst3.c5
      obtain ⟨y0, y1, y2, y3, y4⟩ := htt3.c5
      obtain ⟨p0, p1, p2, p3, p4, p5, p6, p7⟩ := hp3.c8
      have f0 : 0 ≤ p.frm := by omega
      have f1 : p.frm < (s.accs.length : Int) := hpk.2.1.2
      have t0 : 0 ≤ p.to := by omega
      have t1 : p.to < (s.accs.length : Int) := hpk.2.2.2
      have hSof : ∀ w', Below X.heap.size X w' → (Below X.heap.size X w' ∧ w'.cell? ⟨w2.heap.size, 0, none⟩ = some (.slice (some ⟨bz, oz, none⟩) s.accs.length c1) ∧ w'.cell? ⟨w2.heap.size, 1, none⟩ = some (.slice (some ⟨b3, o3, none⟩) s.pays.length c2) ∧ w'.cell? ⟨w2.heap.size, 2, none⟩ = some (.slice A3 s.sagas.length c3) ∧ w'.cell? ⟨w2.heap.size, 3, none⟩ = some (.slice A4 s.known.length c4) ∧ w'.cell? ⟨w2.heap.size, 4, none⟩ = some (.int .i64 s.now) ∧ w'.cell? ⟨w3.heap.size, 0, none⟩ = some (.slice B1 s.accs.length d1) ∧ w'.cell? ⟨w3.heap.size, 1, none⟩ = some (.slice B2 s.pays.length d2) ∧ w'.cell? ⟨w3.heap.size, 2, none⟩ = some (.slice B3 s.sagas.length d3) ∧ w'.cell? ⟨w3.heap.size, 3, none⟩ = some (.slice B4 s.known.length d4) ∧ w'.cell? ⟨w3.heap.size, 4, none⟩ = some (.int .i64 s.now) ∧ w'.cell? ⟨(w2.heap.size + 1), 0, none⟩ = some (.int .i64 p.frm) ∧ w'.cell? ⟨(w2.heap.size + 1), 1, none⟩ = some (.int .i64 p.to) ∧ w'.cell? ⟨(w2.heap.size + 1), 2, none⟩ = some (.int .i64 p.auth) ∧ w'.cell? ⟨(w2.heap.size + 1), 3, none⟩ = some (.int .i64 p.capt) ∧ w'.cell? ⟨(w2.heap.size + 1), 4, none⟩ = some (.int .i64 p.refd) ∧ w'.cell? ⟨(w2.heap.size + 1), 5, none⟩ = some (.int .i64 p.chgd) ∧ w'.cell? ⟨(w2.heap.size + 1), 6, none⟩ = some (.int .i64 p.til) ∧ w'.cell? ⟨(w2.heap.size + 1), 7, none⟩ = some (.int .i64 p.stage) ∧ w'.cell? ⟨bz, oz + p.frm.toNat * 3, none⟩ = some (.int .i64 (rd s.accs p.frm).cur) ∧ w'.cell? ⟨bz, oz + p.to.toNat * 3, none⟩ = some (.int .i64 (rd s.accs p.to).cur)) := fun w' hb => ⟨hb, cell_below hb x0, cell_below hb x1, cell_below hb x2, cell_below hb x3, cell_below hb x4, cell_below hb y0, cell_below hb y1, cell_below hb y2, cell_below hb y3, cell_below hb y4, cell_below hb p0, cell_below hb p1, cell_below hb p2, cell_below hb p3, cell_below hb p4, cell_below hb p5, cell_below hb p6, cell_below hb p7, cell_below hb a0, cell_below hb a1⟩
      have hsame : decide (SameP s s) = true := decide_eq_true ⟨rfl, rfl, rfl⟩
      have HSA := Lib.hid hsame
      clear hsame x0 x1 x2 x3 x4 y0 y1 y2 y3 y4 p0 p1 p2 p3 p4 p5 p6 p7 a0 a1
      have hbd : Below X.heap.size X X.drew := below_drew (Below.refl _ _)
      by_cases hg : gave p < 1 + n
      · have hgi : decide (gave p < 1 + n) = true := decide_eq_true hg
        have hw1 : IntKind.i64.wrap n = n := IntWalk.i64_in _ (by omega)
        have hw2 : IntKind.i64.wrap (1 + n) = 1 + n := IntWalk.i64_in _ (by omega)
        refine wp_region_head 28 (fun w' => Below X.heap.size X w' ∧ w'.cell? ⟨w2.heap.size, 0, none⟩ = some (.slice (some ⟨bz, oz, none⟩) s.accs.length c1) ∧ w'.cell? ⟨w2.heap.size, 1, none⟩ = some (.slice (some ⟨b3, o3, none⟩) s.pays.length c2) ∧ w'.cell? ⟨w2.heap.size, 2, none⟩ = some (.slice A3 s.sagas.length c3) ∧ w'.cell? ⟨w2.heap.size, 3, none⟩ = some (.slice A4 s.known.length c4) ∧ w'.cell? ⟨w2.heap.size, 4, none⟩ = some (.int .i64 s.now) ∧ w'.cell? ⟨w3.heap.size, 0, none⟩ = some (.slice B1 s.accs.length d1) ∧ w'.cell? ⟨w3.heap.size, 1, none⟩ = some (.slice B2 s.pays.length d2) ∧ w'.cell? ⟨w3.heap.size, 2, none⟩ = some (.slice B3 s.sagas.length d3) ∧ w'.cell? ⟨w3.heap.size, 3, none⟩ = some (.slice B4 s.known.length d4) ∧ w'.cell? ⟨w3.heap.size, 4, none⟩ = some (.int .i64 s.now) ∧ w'.cell? ⟨(w2.heap.size + 1), 0, none⟩ = some (.int .i64 p.frm) ∧ w'.cell? ⟨(w2.heap.size + 1), 1, none⟩ = some (.int .i64 p.to) ∧ w'.cell? ⟨(w2.heap.size + 1), 2, none⟩ = some (.int .i64 p.auth) ∧ w'.cell? ⟨(w2.heap.size + 1), 3, none⟩ = some (.int .i64 p.capt) ∧ w'.cell? ⟨(w2.heap.size + 1), 4, none⟩ = some (.int .i64 p.refd) ∧ w'.cell? ⟨(w2.heap.size + 1), 5, none⟩ = some (.int .i64 p.chgd) ∧ w'.cell? ⟨(w2.heap.size + 1), 6, none⟩ = some (.int .i64 p.til) ∧ w'.cell? ⟨(w2.heap.size + 1), 7, none⟩ = some (.int .i64 p.stage) ∧ w'.cell? ⟨bz, oz + p.frm.toNat * 3, none⟩ = some (.int .i64 (rd s.accs p.frm).cur) ∧ w'.cell? ⟨bz, oz + p.to.toNat * 3, none⟩ = some (.int .i64 (rd s.accs p.to).cur)) (by kernel_rfl) (by kernel_rfl) (hSof _ hbd) (fun hHeld => ?_)
        refine wpHead_take (i := 0) (v := ?_) rfl (by kernel_rfl) (by kernel_rfl) (by kernel_rfl) (by kernel_rfl) (fun _ _ _ h => h) (Or.inl ⟨by rfl, fun w hSw => ?_⟩) (by assumption) ?_; rotate_left; (focus ((try dsimp only at hSw); go_simp <;> with_reducible rfl)); (try simp only [Act.put, List.setIfInBounds_toArray, List.set_cons_zero, List.set_cons_succ])
        refine wpHead_take (i := 1) (v := ?_) rfl (by kernel_rfl) (by kernel_rfl) (by kernel_rfl) (by kernel_rfl) (fun _ _ _ h => h) (Or.inl ⟨by rfl, fun w hSw => ?_⟩) (by assumption) ?_; rotate_left; (focus ((try dsimp only at hSw); go_simp <;> with_reducible rfl)); (try simp only [Act.put, List.setIfInBounds_toArray, List.set_cons_zero, List.set_cons_succ])
        refine wpHead_ready (rs := [2]) (by kernel_rfl) (by simp) ?_
        refine AllHead.cons (i := 2) rfl (by kernel_rfl) (fun K hK => ?_) ?_
        · go_simp
          go_at_call 16
          refine (same_st _ _ s s _ hv3'.drew hv3.drew).mono ?_
          rintro e w4 ⟨rfl, hz4⟩
          rw [HSA.out]
          have hb4 : Below X.heap.size X w4 := below_next hbd hz4
          refine hK.out _ _ (hSof _ hb4) (fun hHeld4 => ?_)
          clear hK K
          (try simp only [Act.put, List.setIfInBounds_toArray, List.set_cons_zero, List.set_cons_succ])
          refine wpHead_take (i := 3) (v := ?_) rfl (by kernel_rfl) (by kernel_rfl) (by kernel_rfl) (by kernel_rfl) (fun _ _ _ h => h) (Or.inl ⟨by rfl, fun w hSw => ?_⟩) (by assumption) ?_; rotate_left; (focus ((try dsimp only at hSw); go_simp <;> with_reducible rfl)); (try simp only [Act.put, List.setIfInBounds_toArray, List.set_cons_zero, List.set_cons_succ])
          refine wpHead_take (i := 4) (v := ?_) rfl (by kernel_rfl) (by kernel_rfl) (by kernel_rfl) (by kernel_rfl) (fun _ _ _ h => h) (Or.inl ⟨by rfl, fun w hSw => ?_⟩) (by assumption) ?_; rotate_left; (focus ((try dsimp only at hSw); go_simp <;> with_reducible rfl)); (try simp only [Act.put, List.setIfInBounds_toArray, List.set_cons_zero, List.set_cons_succ])
          refine wpHead_take (i := 5) (v := ?_) rfl (by kernel_rfl) (by kernel_rfl) (by kernel_rfl) (by kernel_rfl) (fun _ _ _ h => h) (Or.inl ⟨by rfl, fun w hSw => ?_⟩) (by assumption) ?_; rotate_left; (focus ((try dsimp only at hSw); go_simp <;> with_reducible rfl)); (try simp only [Act.put, List.setIfInBounds_toArray, List.set_cons_zero, List.set_cons_succ])
          refine wpHead_take (i := 6) (v := ?_) rfl (by kernel_rfl) (by kernel_rfl) (by kernel_rfl) (by kernel_rfl) (fun _ _ _ h => h) (Or.inl ⟨by rfl, fun w hSw => ?_⟩) (by assumption) ?_; rotate_left; (focus ((try dsimp only at hSw); go_simp <;> with_reducible rfl)); (try simp only [Act.put, List.setIfInBounds_toArray, List.set_cons_zero, List.set_cons_succ])
          refine wpHead_take (i := 7) (v := ?_) rfl (by kernel_rfl) (by kernel_rfl) (by kernel_rfl) (by kernel_rfl) (fun _ _ _ h => h) (Or.inl ⟨by rfl, fun w hSw => ?_⟩) (by assumption) ?_; rotate_left; (focus ((try dsimp only at hSw); go_simp <;> with_reducible rfl)); (try simp only [Act.put, List.setIfInBounds_toArray, List.set_cons_zero, List.set_cons_succ])
          refine wpHead_ready (rs := [8]) (by kernel_rfl) (by simp) ?_
          refine AllHead.cons (i := 8) rfl (by kernel_rfl) (fun K hK => ?_) ?_
          · go_simp
            go_at_call 17
            refine (gave_any p _ hpk.1).mono ?_
            rintro e w5 ⟨rfl, hz5⟩
            have hb5 : Below X.heap.size X w5 := below_next hb4 hz5
            refine hK.out _ _ (hSof _ hb5) (fun hHeld5 => ?_)
            clear hK K
            (try simp only [Act.put, List.setIfInBounds_toArray, List.set_cons_zero, List.set_cons_succ])
            refine wpHead_take (i := 9) (v := ?_) rfl (by kernel_rfl) (by kernel_rfl) (by kernel_rfl) (by kernel_rfl) (fun _ _ _ h => h) (Or.inl ⟨by rfl, fun w hSw => ?_⟩) (by assumption) ?_; rotate_left; (focus ((try dsimp only at hSw); go_simp <;> with_reducible rfl)); (try simp only [Act.put, List.setIfInBounds_toArray, List.set_cons_zero, List.set_cons_succ])
            refine wpHead_take (i := 10) (v := ?_) rfl (by kernel_rfl) (by kernel_rfl) (by kernel_rfl) (by kernel_rfl) (fun _ _ _ h => h) (Or.inl ⟨by rfl, fun w hSw => ?_⟩) (by assumption) ?_; rotate_left; (focus ((try dsimp only at hSw); go_simp <;> with_reducible rfl)); (try simp only [Act.put, List.setIfInBounds_toArray, List.set_cons_zero, List.set_cons_succ])
            refine wpHead_take (i := 11) (v := undef) rfl (by kernel_rfl) (by kernel_rfl) (by kernel_rfl) (by kernel_rfl) (fun _ _ _ h => h) (Or.inr ⟨by rfl, rfl⟩) (by assumption) ?_; (try simp only [Act.put, List.setIfInBounds_toArray, List.set_cons_zero, List.set_cons_succ])
            refine wpHead_take (i := 12) (v := undef) rfl (by kernel_rfl) (by kernel_rfl) (by kernel_rfl) (by kernel_rfl) (fun _ _ _ h => h) (Or.inr ⟨by rfl, rfl⟩) (by assumption) ?_; (try simp only [Act.put, List.setIfInBounds_toArray, List.set_cons_zero, List.set_cons_succ])
            refine wpHead_take (i := 13) (v := undef) rfl (by kernel_rfl) (by kernel_rfl) (by kernel_rfl) (by kernel_rfl) (fun _ _ _ h => h) (Or.inr ⟨by rfl, rfl⟩) (by assumption) ?_; (try simp only [Act.put, List.setIfInBounds_toArray, List.set_cons_zero, List.set_cons_succ])
            refine wpHead_take (i := 14) (v := undef) rfl (by kernel_rfl) (by kernel_rfl) (by kernel_rfl) (by kernel_rfl) (fun _ _ _ h => h) (Or.inr ⟨by rfl, rfl⟩) (by assumption) ?_; (try simp only [Act.put, List.setIfInBounds_toArray, List.set_cons_zero, List.set_cons_succ])
            refine wpHead_take (i := 15) (v := undef) rfl (by kernel_rfl) (by kernel_rfl) (by kernel_rfl) (by kernel_rfl) (fun _ _ _ h => h) (Or.inr ⟨by rfl, rfl⟩) (by assumption) ?_; (try simp only [Act.put, List.setIfInBounds_toArray, List.set_cons_zero, List.set_cons_succ])
            refine wpHead_take (i := 16) (v := undef) rfl (by kernel_rfl) (by kernel_rfl) (by kernel_rfl) (by kernel_rfl) (fun _ _ _ h => h) (Or.inr ⟨by rfl, rfl⟩) (by assumption) ?_; (try simp only [Act.put, List.setIfInBounds_toArray, List.set_cons_zero, List.set_cons_succ])
            refine wpHead_take (i := 17) (v := undef) rfl (by kernel_rfl) (by kernel_rfl) (by kernel_rfl) (by kernel_rfl) (fun _ _ _ h => h) (Or.inr ⟨by rfl, rfl⟩) (by assumption) ?_; (try simp only [Act.put, List.setIfInBounds_toArray, List.set_cons_zero, List.set_cons_succ])
            refine wpHead_take (i := 18) (v := undef) rfl (by kernel_rfl) (by kernel_rfl) (by kernel_rfl) (by kernel_rfl) (fun _ _ _ h => h) (Or.inr ⟨by rfl, rfl⟩) (by assumption) ?_; (try simp only [Act.put, List.setIfInBounds_toArray, List.set_cons_zero, List.set_cons_succ])
            refine wpHead_take (i := 19) (v := undef) rfl (by kernel_rfl) (by kernel_rfl) (by kernel_rfl) (by kernel_rfl) (fun _ _ _ h => h) (Or.inr ⟨by rfl, rfl⟩) (by assumption) ?_; (try simp only [Act.put, List.setIfInBounds_toArray, List.set_cons_zero, List.set_cons_succ])
            refine wpHead_take (i := 20) (v := undef) rfl (by kernel_rfl) (by kernel_rfl) (by kernel_rfl) (by kernel_rfl) (fun _ _ _ h => h) (Or.inr ⟨by rfl, rfl⟩) (by assumption) ?_; (try simp only [Act.put, List.setIfInBounds_toArray, List.set_cons_zero, List.set_cons_succ])
            refine wpHead_take (i := 21) (v := undef) rfl (by kernel_rfl) (by kernel_rfl) (by kernel_rfl) (by kernel_rfl) (fun _ _ _ h => h) (Or.inr ⟨by rfl, rfl⟩) (by assumption) ?_; (try simp only [Act.put, List.setIfInBounds_toArray, List.set_cons_zero, List.set_cons_succ])
            refine wpHead_take (i := 22) (v := undef) rfl (by kernel_rfl) (by kernel_rfl) (by kernel_rfl) (by kernel_rfl) (fun _ _ _ h => h) (Or.inr ⟨by rfl, rfl⟩) (by assumption) ?_; (try simp only [Act.put, List.setIfInBounds_toArray, List.set_cons_zero, List.set_cons_succ])
            refine wpHead_take (i := 23) (v := undef) rfl (by kernel_rfl) (by kernel_rfl) (by kernel_rfl) (by kernel_rfl) (fun _ _ _ h => h) (Or.inr ⟨by rfl, rfl⟩) (by assumption) ?_; (try simp only [Act.put, List.setIfInBounds_toArray, List.set_cons_zero, List.set_cons_succ])
            refine wpHead_take (i := 24) (v := undef) rfl (by kernel_rfl) (by kernel_rfl) (by kernel_rfl) (by kernel_rfl) (fun _ _ _ h => h) (Or.inr ⟨by rfl, rfl⟩) (by assumption) ?_; (try simp only [Act.put, List.setIfInBounds_toArray, List.set_cons_zero, List.set_cons_succ])
            refine wpHead_take (i := 25) (v := undef) rfl (by kernel_rfl) (by kernel_rfl) (by kernel_rfl) (by kernel_rfl) (fun _ _ _ h => h) (Or.inr ⟨by rfl, rfl⟩) (by assumption) ?_; (try simp only [Act.put, List.setIfInBounds_toArray, List.set_cons_zero, List.set_cons_succ])
            refine wpHead_take (i := 26) (v := ?_) rfl (by kernel_rfl) (by kernel_rfl) (by kernel_rfl) (by kernel_rfl) (fun _ _ _ h => h) (Or.inl ⟨by rfl, fun w hSw => ?_⟩) (by assumption) ?_; rotate_left; (focus ((try dsimp only at hSw); go_simp <;> with_reducible rfl)); (try simp only [Act.put, List.setIfInBounds_toArray, List.set_cons_zero, List.set_cons_succ])
            refine wpHead_take (i := 27) (v := ?_) rfl (by kernel_rfl) (by kernel_rfl) (by kernel_rfl) (by kernel_rfl) (fun _ _ _ h => h) (Or.inl ⟨by rfl, fun w hSw => ?_⟩) (by assumption) ?_; rotate_left; (focus ((try dsimp only at hSw); go_simp <;> with_reducible rfl)); (try simp only [Act.put, List.setIfInBounds_toArray, List.set_cons_zero, List.set_cons_succ])
            refine wpHead_done (by kernel_rfl) ?_; simp only [List.drop_succ_cons, List.drop_zero]
            clear hw1 hw2
            go_wp2
            go_ret
            exact ⟨rfl, by (repeat (first | (with_reducible refine below_drew ?_) | (with_reducible refine below_drewN ?_ _) | (with_reducible refine below_alloc ?_ _) | ((with_reducible refine Below.setCell ?_ ?_ _); rotate_left; (focus (first | (simp; done) | (simp; omega)))))); exact below_next hb3 hb5⟩
          exact AllHead.nil
        exact AllHead.nil
      · have hcu : (rd s.accs p.frm).cur ≠ (rd s.accs p.to).cur := by rcases hor with h | h; exact absurd h hg; exact h
        have hcb2 : ((rd s.accs p.frm).cur != (rd s.accs p.to).cur) = true := by simpa using hcu
        have hgi : decide (gave p < 1 + n) = false := decide_eq_false hg
        have hw1 : IntKind.i64.wrap n = n := IntWalk.i64_in _ (by omega)
        have hw2 : IntKind.i64.wrap (1 + n) = 1 + n := IntWalk.i64_in _ (by omega)
        refine wp_region_head 28 (fun w' => Below X.heap.size X w' ∧ w'.cell? ⟨w2.heap.size, 0, none⟩ = some (.slice (some ⟨bz, oz, none⟩) s.accs.length c1) ∧ w'.cell? ⟨w2.heap.size, 1, none⟩ = some (.slice (some ⟨b3, o3, none⟩) s.pays.length c2) ∧ w'.cell? ⟨w2.heap.size, 2, none⟩ = some (.slice A3 s.sagas.length c3) ∧ w'.cell? ⟨w2.heap.size, 3, none⟩ = some (.slice A4 s.known.length c4) ∧ w'.cell? ⟨w2.heap.size, 4, none⟩ = some (.int .i64 s.now) ∧ w'.cell? ⟨w3.heap.size, 0, none⟩ = some (.slice B1 s.accs.length d1) ∧ w'.cell? ⟨w3.heap.size, 1, none⟩ = some (.slice B2 s.pays.length d2) ∧ w'.cell? ⟨w3.heap.size, 2, none⟩ = some (.slice B3 s.sagas.length d3) ∧ w'.cell? ⟨w3.heap.size, 3, none⟩ = some (.slice B4 s.known.length d4) ∧ w'.cell? ⟨w3.heap.size, 4, none⟩ = some (.int .i64 s.now) ∧ w'.cell? ⟨(w2.heap.size + 1), 0, none⟩ = some (.int .i64 p.frm) ∧ w'.cell? ⟨(w2.heap.size + 1), 1, none⟩ = some (.int .i64 p.to) ∧ w'.cell? ⟨(w2.heap.size + 1), 2, none⟩ = some (.int .i64 p.auth) ∧ w'.cell? ⟨(w2.heap.size + 1), 3, none⟩ = some (.int .i64 p.capt) ∧ w'.cell? ⟨(w2.heap.size + 1), 4, none⟩ = some (.int .i64 p.refd) ∧ w'.cell? ⟨(w2.heap.size + 1), 5, none⟩ = some (.int .i64 p.chgd) ∧ w'.cell? ⟨(w2.heap.size + 1), 6, none⟩ = some (.int .i64 p.til) ∧ w'.cell? ⟨(w2.heap.size + 1), 7, none⟩ = some (.int .i64 p.stage) ∧ w'.cell? ⟨bz, oz + p.frm.toNat * 3, none⟩ = some (.int .i64 (rd s.accs p.frm).cur) ∧ w'.cell? ⟨bz, oz + p.to.toNat * 3, none⟩ = some (.int .i64 (rd s.accs p.to).cur)) (by kernel_rfl) (by kernel_rfl) (hSof _ hbd) (fun hHeld => ?_)
        refine wpHead_take (i := 0) (v := ?_) rfl (by kernel_rfl) (by kernel_rfl) (by kernel_rfl) (by kernel_rfl) (fun _ _ _ h => h) (Or.inl ⟨by rfl, fun w hSw => ?_⟩) (by assumption) ?_; rotate_left; (focus ((try dsimp only at hSw); go_simp <;> with_reducible rfl)); (try simp only [Act.put, List.setIfInBounds_toArray, List.set_cons_zero, List.set_cons_succ])
        refine wpHead_take (i := 1) (v := ?_) rfl (by kernel_rfl) (by kernel_rfl) (by kernel_rfl) (by kernel_rfl) (fun _ _ _ h => h) (Or.inl ⟨by rfl, fun w hSw => ?_⟩) (by assumption) ?_; rotate_left; (focus ((try dsimp only at hSw); go_simp <;> with_reducible rfl)); (try simp only [Act.put, List.setIfInBounds_toArray, List.set_cons_zero, List.set_cons_succ])
        refine wpHead_ready (rs := [2]) (by kernel_rfl) (by simp) ?_
        refine AllHead.cons (i := 2) rfl (by kernel_rfl) (fun K hK => ?_) ?_
        · go_simp
          go_at_call 16
          refine (same_st _ _ s s _ hv3'.drew hv3.drew).mono ?_
          rintro e w4 ⟨rfl, hz4⟩
          rw [HSA.out]
          have hb4 : Below X.heap.size X w4 := below_next hbd hz4
          refine hK.out _ _ (hSof _ hb4) (fun hHeld4 => ?_)
          clear hK K
          (try simp only [Act.put, List.setIfInBounds_toArray, List.set_cons_zero, List.set_cons_succ])
          refine wpHead_take (i := 3) (v := ?_) rfl (by kernel_rfl) (by kernel_rfl) (by kernel_rfl) (by kernel_rfl) (fun _ _ _ h => h) (Or.inl ⟨by rfl, fun w hSw => ?_⟩) (by assumption) ?_; rotate_left; (focus ((try dsimp only at hSw); go_simp <;> with_reducible rfl)); (try simp only [Act.put, List.setIfInBounds_toArray, List.set_cons_zero, List.set_cons_succ])
          refine wpHead_take (i := 4) (v := ?_) rfl (by kernel_rfl) (by kernel_rfl) (by kernel_rfl) (by kernel_rfl) (fun _ _ _ h => h) (Or.inl ⟨by rfl, fun w hSw => ?_⟩) (by assumption) ?_; rotate_left; (focus ((try dsimp only at hSw); go_simp <;> with_reducible rfl)); (try simp only [Act.put, List.setIfInBounds_toArray, List.set_cons_zero, List.set_cons_succ])
          refine wpHead_take (i := 5) (v := ?_) rfl (by kernel_rfl) (by kernel_rfl) (by kernel_rfl) (by kernel_rfl) (fun _ _ _ h => h) (Or.inl ⟨by rfl, fun w hSw => ?_⟩) (by assumption) ?_; rotate_left; (focus ((try dsimp only at hSw); go_simp <;> with_reducible rfl)); (try simp only [Act.put, List.setIfInBounds_toArray, List.set_cons_zero, List.set_cons_succ])
          refine wpHead_take (i := 6) (v := ?_) rfl (by kernel_rfl) (by kernel_rfl) (by kernel_rfl) (by kernel_rfl) (fun _ _ _ h => h) (Or.inl ⟨by rfl, fun w hSw => ?_⟩) (by assumption) ?_; rotate_left; (focus ((try dsimp only at hSw); go_simp <;> with_reducible rfl)); (try simp only [Act.put, List.setIfInBounds_toArray, List.set_cons_zero, List.set_cons_succ])
          refine wpHead_take (i := 7) (v := ?_) rfl (by kernel_rfl) (by kernel_rfl) (by kernel_rfl) (by kernel_rfl) (fun _ _ _ h => h) (Or.inl ⟨by rfl, fun w hSw => ?_⟩) (by assumption) ?_; rotate_left; (focus ((try dsimp only at hSw); go_simp <;> with_reducible rfl)); (try simp only [Act.put, List.setIfInBounds_toArray, List.set_cons_zero, List.set_cons_succ])
          refine wpHead_ready (rs := [8]) (by kernel_rfl) (by simp) ?_
          refine AllHead.cons (i := 8) rfl (by kernel_rfl) (fun K hK => ?_) ?_
          · go_simp
            go_at_call 17
            refine (gave_any p _ hpk.1).mono ?_
            rintro e w5 ⟨rfl, hz5⟩
            have hb5 : Below X.heap.size X w5 := below_next hb4 hz5
            refine hK.out _ _ (hSof _ hb5) (fun hHeld5 => ?_)
            clear hK K
            (try simp only [Act.put, List.setIfInBounds_toArray, List.set_cons_zero, List.set_cons_succ])
            refine wpHead_take (i := 9) (v := ?_) rfl (by kernel_rfl) (by kernel_rfl) (by kernel_rfl) (by kernel_rfl) (fun _ _ _ h => h) (Or.inl ⟨by rfl, fun w hSw => ?_⟩) (by assumption) ?_; rotate_left; (focus ((try dsimp only at hSw); go_simp <;> with_reducible rfl)); (try simp only [Act.put, List.setIfInBounds_toArray, List.set_cons_zero, List.set_cons_succ])
            refine wpHead_take (i := 10) (v := ?_) rfl (by kernel_rfl) (by kernel_rfl) (by kernel_rfl) (by kernel_rfl) (fun _ _ _ h => h) (Or.inl ⟨by rfl, fun w hSw => ?_⟩) (by assumption) ?_; rotate_left; (focus ((try dsimp only at hSw); go_simp <;> with_reducible rfl)); (try simp only [Act.put, List.setIfInBounds_toArray, List.set_cons_zero, List.set_cons_succ])
            refine wpHead_take (i := 11) (v := ?_) rfl (by kernel_rfl) (by kernel_rfl) (by kernel_rfl) (by kernel_rfl) (fun _ _ _ h => h) (Or.inl ⟨by rfl, fun w hSw => ?_⟩) (by assumption) ?_; rotate_left; (focus ((try dsimp only at hSw); go_simp <;> with_reducible rfl)); (try simp only [Act.put, List.setIfInBounds_toArray, List.set_cons_zero, List.set_cons_succ])
            refine wpHead_take (i := 12) (v := ?_) rfl (by kernel_rfl) (by kernel_rfl) (by kernel_rfl) (by kernel_rfl) (fun _ _ _ h => h) (Or.inl ⟨by rfl, fun w hSw => ?_⟩) (by assumption) ?_; rotate_left; (focus ((try dsimp only at hSw); go_simp <;> with_reducible rfl)); (try simp only [Act.put, List.setIfInBounds_toArray, List.set_cons_zero, List.set_cons_succ])
            refine wpHead_take (i := 13) (v := ?_) rfl (by kernel_rfl) (by kernel_rfl) (by kernel_rfl) (by kernel_rfl) (fun _ _ _ h => h) (Or.inl ⟨by rfl, fun w hSw => ?_⟩) (by assumption) ?_; rotate_left; (focus ((try dsimp only at hSw); go_simp <;> with_reducible rfl)); (try simp only [Act.put, List.setIfInBounds_toArray, List.set_cons_zero, List.set_cons_succ])
            refine wpHead_take (i := 14) (v := ?_) rfl (by kernel_rfl) (by kernel_rfl) (by kernel_rfl) (by kernel_rfl) (fun _ _ _ h => h) (Or.inl ⟨by rfl, fun w hSw => ?_⟩) (by assumption) ?_; rotate_left; (focus ((try dsimp only at hSw); go_simp <;> with_reducible rfl)); (try simp only [Act.put, List.setIfInBounds_toArray, List.set_cons_zero, List.set_cons_succ])
            refine wpHead_take (i := 15) (v := ?_) rfl (by kernel_rfl) (by kernel_rfl) (by kernel_rfl) (by kernel_rfl) (fun _ _ _ h => h) (Or.inl ⟨by rfl, fun w hSw => ?_⟩) (by assumption) ?_; rotate_left; (focus ((try dsimp only at hSw); go_simp <;> with_reducible rfl)); (try simp only [Act.put, List.setIfInBounds_toArray, List.set_cons_zero, List.set_cons_succ])
            refine wpHead_take (i := 16) (v := ?_) rfl (by kernel_rfl) (by kernel_rfl) (by kernel_rfl) (by kernel_rfl) (fun _ _ _ h => h) (Or.inl ⟨by rfl, fun w hSw => ?_⟩) (by assumption) ?_; rotate_left; (focus ((try dsimp only at hSw); go_simp <;> with_reducible rfl)); (try simp only [Act.put, List.setIfInBounds_toArray, List.set_cons_zero, List.set_cons_succ])
            refine wpHead_take (i := 17) (v := ?_) rfl (by kernel_rfl) (by kernel_rfl) (by kernel_rfl) (by kernel_rfl) (fun _ _ _ h => h) (Or.inl ⟨by rfl, fun w hSw => ?_⟩) (by assumption) ?_; rotate_left; (focus ((try dsimp only at hSw); go_simp <;> with_reducible rfl)); (try simp only [Act.put, List.setIfInBounds_toArray, List.set_cons_zero, List.set_cons_succ])
            refine wpHead_take (i := 18) (v := ?_) rfl (by kernel_rfl) (by kernel_rfl) (by kernel_rfl) (by kernel_rfl) (fun _ _ _ h => h) (Or.inl ⟨by rfl, fun w hSw => ?_⟩) (by assumption) ?_; rotate_left; (focus ((try dsimp only at hSw); go_simp <;> with_reducible rfl)); (try simp only [Act.put, List.setIfInBounds_toArray, List.set_cons_zero, List.set_cons_succ])
            refine wpHead_take (i := 19) (v := ?_) rfl (by kernel_rfl) (by kernel_rfl) (by kernel_rfl) (by kernel_rfl) (fun _ _ _ h => h) (Or.inl ⟨by rfl, fun w hSw => ?_⟩) (by assumption) ?_; rotate_left; (focus ((try dsimp only at hSw); go_simp <;> with_reducible rfl)); (try simp only [Act.put, List.setIfInBounds_toArray, List.set_cons_zero, List.set_cons_succ])
            refine wpHead_take (i := 20) (v := ?_) rfl (by kernel_rfl) (by kernel_rfl) (by kernel_rfl) (by kernel_rfl) (fun _ _ _ h => h) (Or.inl ⟨by rfl, fun w hSw => ?_⟩) (by assumption) ?_; rotate_left; (focus ((try dsimp only at hSw); go_simp <;> with_reducible rfl)); (try simp only [Act.put, List.setIfInBounds_toArray, List.set_cons_zero, List.set_cons_succ])
            refine wpHead_take (i := 21) (v := ?_) rfl (by kernel_rfl) (by kernel_rfl) (by kernel_rfl) (by kernel_rfl) (fun _ _ _ h => h) (Or.inl ⟨by rfl, fun w hSw => ?_⟩) (by assumption) ?_; rotate_left; (focus ((try dsimp only at hSw); go_simp <;> with_reducible rfl)); (try simp only [Act.put, List.setIfInBounds_toArray, List.set_cons_zero, List.set_cons_succ])
            refine wpHead_take (i := 22) (v := ?_) rfl (by kernel_rfl) (by kernel_rfl) (by kernel_rfl) (by kernel_rfl) (fun _ _ _ h => h) (Or.inl ⟨by rfl, fun w hSw => ?_⟩) (by assumption) ?_; rotate_left; (focus ((try dsimp only at hSw); go_simp <;> with_reducible rfl)); (try simp only [Act.put, List.setIfInBounds_toArray, List.set_cons_zero, List.set_cons_succ])
            refine wpHead_take (i := 23) (v := ?_) rfl (by kernel_rfl) (by kernel_rfl) (by kernel_rfl) (by kernel_rfl) (fun _ _ _ h => h) (Or.inl ⟨by rfl, fun w hSw => ?_⟩) (by assumption) ?_; rotate_left; (focus ((try dsimp only at hSw); go_simp <;> with_reducible rfl)); (try simp only [Act.put, List.setIfInBounds_toArray, List.set_cons_zero, List.set_cons_succ])
            refine wpHead_take (i := 24) (v := ?_) rfl (by kernel_rfl) (by kernel_rfl) (by kernel_rfl) (by kernel_rfl) (fun _ _ _ h => h) (Or.inl ⟨by rfl, fun w hSw => ?_⟩) (by assumption) ?_; rotate_left; (focus ((try dsimp only at hSw); go_simp <;> with_reducible rfl)); (try simp only [Act.put, List.setIfInBounds_toArray, List.set_cons_zero, List.set_cons_succ])
            refine wpHead_take (i := 25) (v := ?_) rfl (by kernel_rfl) (by kernel_rfl) (by kernel_rfl) (by kernel_rfl) (fun _ _ _ h => h) (Or.inl ⟨by rfl, fun w hSw => ?_⟩) (by assumption) ?_; rotate_left; (focus ((try dsimp only at hSw); go_simp <;> with_reducible rfl)); (try simp only [Act.put, List.setIfInBounds_toArray, List.set_cons_zero, List.set_cons_succ])
            refine wpHead_take (i := 26) (v := ?_) rfl (by kernel_rfl) (by kernel_rfl) (by kernel_rfl) (by kernel_rfl) (fun _ _ _ h => h) (Or.inl ⟨by rfl, fun w hSw => ?_⟩) (by assumption) ?_; rotate_left; (focus ((try dsimp only at hSw); go_simp <;> with_reducible rfl)); (try simp only [Act.put, List.setIfInBounds_toArray, List.set_cons_zero, List.set_cons_succ])
            refine wpHead_take (i := 27) (v := ?_) rfl (by kernel_rfl) (by kernel_rfl) (by kernel_rfl) (by kernel_rfl) (fun _ _ _ h => h) (Or.inl ⟨by rfl, fun w hSw => ?_⟩) (by assumption) ?_; rotate_left; (focus ((try dsimp only at hSw); go_simp <;> with_reducible rfl)); (try simp only [Act.put, List.setIfInBounds_toArray, List.set_cons_zero, List.set_cons_succ])
            refine wpHead_done (by kernel_rfl) ?_; simp only [List.drop_succ_cons, List.drop_zero]
            clear hw1 hw2
            go_wp2
            go_ret
            exact ⟨rfl, by (repeat (first | (with_reducible refine below_drew ?_) | (with_reducible refine below_drewN ?_ _) | (with_reducible refine below_alloc ?_ _) | ((with_reducible refine Below.setCell ?_ ?_ _); rotate_left; (focus (first | (simp; done) | (simp; omega)))))); exact below_next hb3 hb5⟩
          exact AllHead.nil
        exact AllHead.nil
    · rw [hdo] at hres
      obtain ⟨hz3, v3, rfl, hv3⟩ := hres
      replace hv3 : StV w3 v3 t := hv3
      obtain ⟨B1, d1, B2, d2, B3, d3, B4, d4, rfl, u1, u2, -, -⟩ := hv3.open
      have htl1 : s.accs.length ≤ t.accs.length := by omega
      have htl2 : s.pays.length ≤ t.pays.length := by omega
      clear htl htp
      obtain ⟨by_, oy, rfl⟩ := u1.addr (by have := hS.len; omega)
      obtain ⟨b5, o5, rfl⟩ := u2.addr (by omega)
      have hb3 := below_next hbX hz3
      have hv3' := hvX.below hz3
      have hst3 := hstX.next hz3
      have hp3 := hpX.next hz3
      clear hvX hbX hstX hpX u1 u2
      go_wp2_with fail
      refine abs_world (fun X => Blk X w2.heap.size 36 (stCells (some ⟨bz, oz, none⟩) s.accs.length c1 (some ⟨b3, o3, none⟩) s.pays.length c2 A3 s.sagas.length c3 A4 s.known.length c4 s.now) ∧ Blk X w3.heap.size 36 (stCells (some ⟨by_, oy, none⟩) t.accs.length d1 (some ⟨b5, o5, none⟩) t.pays.length d2 B3 t.sagas.length d3 B4 t.known.length d4 t.now) ∧ Blk X (w2.heap.size + 1) 47 #[.int .i64 p.frm, .int .i64 p.to, .int .i64 p.auth, .int .i64 p.capt, .int .i64 p.refd, .int .i64 p.chgd, .int .i64 p.til, .int .i64 p.stage] ∧ StV X (.agg (stCells (some ⟨bz, oz, none⟩) s.accs.length c1 (some ⟨b3, o3, none⟩) s.pays.length c2 A3 s.sagas.length c3 A4 s.known.length c4 s.now)) s ∧ StV X (.agg (stCells (some ⟨by_, oy, none⟩) t.accs.length d1 (some ⟨b5, o5, none⟩) t.pays.length d2 B3 t.sagas.length d3 B4 t.known.length d4 t.now)) t ∧ Below w.heap.size w X)
        ⟨(hst3.alloc _).alloc _, (Blk.new _ _ _).alloc _, (hp3.alloc _).alloc _, (hv3'.alloc _).alloc _, (hv3.alloc _).alloc _, below_alloc (below_alloc hb3 _) _⟩ ?_
      clear hst3 hp3 hv3' hv3 hb3
      rintro X ⟨hst3, htt3, hp3, hv3', hv3, hb3⟩
      have f0 : 0 ≤ p.frm := by omega
      have f1 : p.frm < (s.accs.length : Int) := hpk.2.1.2
      have f1t : p.frm < (t.accs.length : Int) := by omega
      have t0 : 0 ≤ p.to := by omega
      have t1t : p.to < (t.accs.length : Int) := by omega
      have it : i < (t.pays.length : Int) := by omega
      obtain ⟨-, a1, -⟩ := hv3'.rows.1.accAt p.frm f0 f1
      obtain ⟨-, e1, -⟩ := hv3.rows.1.accAt p.frm f0 f1t
      obtain ⟨g0, g1, g2⟩ := hv3.rows.1.accAt p.to t0 t1t
      obtain ⟨-, -, -, -, -, h5, -, -⟩ := hv3.rows.2.1.payAt i hi0 it
      obtain ⟨x0, x1, x2, x3, x4⟩ := hst3.c5
      obtain ⟨y0, y1, y2, y3, y4⟩ := htt3.c5
      obtain ⟨p0, p1, p2, p3, p4, p5, p6, p7⟩ := hp3.c8
      have hSof : ∀ w', Below X.heap.size X w' → (Below X.heap.size X w' ∧ w'.cell? ⟨w2.heap.size, 0, none⟩ = some (.slice (some ⟨bz, oz, none⟩) s.accs.length c1) ∧ w'.cell? ⟨w3.heap.size, 0, none⟩ = some (.slice (some ⟨by_, oy, none⟩) t.accs.length d1) ∧ w'.cell? ⟨w3.heap.size, 1, none⟩ = some (.slice (some ⟨b5, o5, none⟩) t.pays.length d2) ∧ w'.cell? ⟨w2.heap.size + 1, 0, none⟩ = some (.int .i64 p.frm) ∧ w'.cell? ⟨w2.heap.size + 1, 1, none⟩ = some (.int .i64 p.to) ∧ w'.cell? ⟨w2.heap.size + 1, 5, none⟩ = some (.int .i64 p.chgd) ∧ w'.cell? ⟨bz, oz + p.frm.toNat * 3 + 1, none⟩ = some (.int .i64 (rd s.accs p.frm).bal) ∧ w'.cell? ⟨by_, oy + p.frm.toNat * 3 + 1, none⟩ = some (.int .i64 (rd t.accs p.frm).bal) ∧ w'.cell? ⟨by_, oy + p.to.toNat * 3, none⟩ = some (.int .i64 (rd t.accs p.to).cur) ∧ w'.cell? ⟨by_, oy + p.to.toNat * 3 + 1, none⟩ = some (.int .i64 (rd t.accs p.to).bal) ∧ w'.cell? ⟨by_, oy + p.to.toNat * 3 + 2, none⟩ = some (.int .i64 (rd t.accs p.to).held) ∧ w'.cell? ⟨b5, o5 + i.toNat * 8 + 5, none⟩ = some (.int .i64 (rd t.pays i).chgd)) := fun w' hb => ⟨hb, cell_below hb x0, cell_below hb y0, cell_below hb y1, cell_below hb p0, cell_below hb p1, cell_below hb p5, cell_below hb a1, cell_below hb e1, cell_below hb g0, cell_below hb g1, cell_below hb g2, cell_below hb h5⟩
      clear x0 x1 x2 x3 x4 y0 y1 y2 y3 y4 p0 p1 p2 p3 p4 p5 p6 p7 a1 e1 g0 g1 g2 h5
      have hbd : Below X.heap.size X X.drew := below_drew (Below.refl _ _)
      have hcl := htok.good.client p.to (by omega) t1t
      have hbt := htok.good.bal p.to t0 t1t
      have hbs := hS.ok.good.bal p.frm f0 f1
      have hpc := hpk.1.chgd
      have hpg := hpk.1.gave
      have hpcc := hpk.1.capt
      have hpa := hpk.1.auth
      have hpr := hpk.1.refd
      have m1 : ((rd t.accs p.frm).bal == (rd s.accs p.frm).bal + 1 + n) = true := by simpa using htb
      have m2 : ((rd t.pays i).chgd == p.chgd + 1 + n) = true := by simpa using htc
      have m3 : decide ((0 : Int) ≤ (rd t.accs p.to).bal - (rd t.accs p.to).held) = true := by simp; omega
      have m4 : decide ((rd t.accs p.to).held ≤ (rd t.accs p.to).bal) = true := by simp; omega
      have HFR := Lib.hid (fun W => free_any (rd t.accs p.to) W hbt (by omega))
      have hw1 : IntKind.i64.wrap n = n := IntWalk.i64_in _ (by omega)
      have hw2 : IntKind.i64.wrap ((rd s.accs p.frm).bal + 1) = (rd s.accs p.frm).bal + 1 := IntWalk.i64_in _ (by omega)
      have hw3 : IntKind.i64.wrap ((rd s.accs p.frm).bal + 1 + n) = (rd s.accs p.frm).bal + 1 + n := IntWalk.i64_in _ (by omega)
      have hw4 : IntKind.i64.wrap (p.chgd + 1) = p.chgd + 1 := IntWalk.i64_in _ (by omega)
      have hw5 : IntKind.i64.wrap (p.chgd + 1 + n) = p.chgd + 1 + n := IntWalk.i64_in _ (by omega)
      clear htb htc hpc hpg hpcc hpa hpr hbs hbt hcl
      refine wp_region_head 44 (fun w' => Below X.heap.size X w' ∧ w'.cell? ⟨w2.heap.size, 0, none⟩ = some (.slice (some ⟨bz, oz, none⟩) s.accs.length c1) ∧ w'.cell? ⟨w3.heap.size, 0, none⟩ = some (.slice (some ⟨by_, oy, none⟩) t.accs.length d1) ∧ w'.cell? ⟨w3.heap.size, 1, none⟩ = some (.slice (some ⟨b5, o5, none⟩) t.pays.length d2) ∧ w'.cell? ⟨w2.heap.size + 1, 0, none⟩ = some (.int .i64 p.frm) ∧ w'.cell? ⟨w2.heap.size + 1, 1, none⟩ = some (.int .i64 p.to) ∧ w'.cell? ⟨w2.heap.size + 1, 5, none⟩ = some (.int .i64 p.chgd) ∧ w'.cell? ⟨bz, oz + p.frm.toNat * 3 + 1, none⟩ = some (.int .i64 (rd s.accs p.frm).bal) ∧ w'.cell? ⟨by_, oy + p.frm.toNat * 3 + 1, none⟩ = some (.int .i64 (rd t.accs p.frm).bal) ∧ w'.cell? ⟨by_, oy + p.to.toNat * 3, none⟩ = some (.int .i64 (rd t.accs p.to).cur) ∧ w'.cell? ⟨by_, oy + p.to.toNat * 3 + 1, none⟩ = some (.int .i64 (rd t.accs p.to).bal) ∧ w'.cell? ⟨by_, oy + p.to.toNat * 3 + 2, none⟩ = some (.int .i64 (rd t.accs p.to).held) ∧ w'.cell? ⟨b5, o5 + i.toNat * 8 + 5, none⟩ = some (.int .i64 (rd t.pays i).chgd)) (by kernel_rfl) (by kernel_rfl) (hSof _ hbd) (fun hHeld => ?_)
      refine wpHead_take (i := 0) (v := ?_) rfl (by kernel_rfl) (by kernel_rfl) (by kernel_rfl) (by kernel_rfl) (fun _ _ _ h => h) (Or.inl ⟨by rfl, fun w hSw => ?_⟩) (by assumption) ?_; rotate_left; (focus ((try dsimp only at hSw); go_simp <;> with_reducible rfl)); (try simp only [Act.put, List.setIfInBounds_toArray, List.set_cons_zero, List.set_cons_succ])
      refine wpHead_take (i := 1) (v := ?_) rfl (by kernel_rfl) (by kernel_rfl) (by kernel_rfl) (by kernel_rfl) (fun _ _ _ h => h) (Or.inl ⟨by rfl, fun w hSw => ?_⟩) (by assumption) ?_; rotate_left; (focus ((try dsimp only at hSw); go_simp <;> with_reducible rfl)); (try simp only [Act.put, List.setIfInBounds_toArray, List.set_cons_zero, List.set_cons_succ])
      refine wpHead_take (i := 2) (v := ?_) rfl (by kernel_rfl) (by kernel_rfl) (by kernel_rfl) (by kernel_rfl) (fun _ _ _ h => h) (Or.inl ⟨by rfl, fun w hSw => ?_⟩) (by assumption) ?_; rotate_left; (focus ((try dsimp only at hSw); go_simp <;> with_reducible rfl)); (try simp only [Act.put, List.setIfInBounds_toArray, List.set_cons_zero, List.set_cons_succ])
      refine wpHead_take (i := 3) (v := ?_) rfl (by kernel_rfl) (by kernel_rfl) (by kernel_rfl) (by kernel_rfl) (fun _ _ _ h => h) (Or.inl ⟨by rfl, fun w hSw => ?_⟩) (by assumption) ?_; rotate_left; (focus ((try dsimp only at hSw); go_simp <;> with_reducible rfl)); (try simp only [Act.put, List.setIfInBounds_toArray, List.set_cons_zero, List.set_cons_succ])
      refine wpHead_take (i := 4) (v := ?_) rfl (by kernel_rfl) (by kernel_rfl) (by kernel_rfl) (by kernel_rfl) (fun _ _ _ h => h) (Or.inl ⟨by rfl, fun w hSw => ?_⟩) (by assumption) ?_; rotate_left; (focus ((try dsimp only at hSw); go_simp <;> with_reducible rfl)); (try simp only [Act.put, List.setIfInBounds_toArray, List.set_cons_zero, List.set_cons_succ])
      refine wpHead_take (i := 5) (v := ?_) rfl (by kernel_rfl) (by kernel_rfl) (by kernel_rfl) (by kernel_rfl) (fun _ _ _ h => h) (Or.inl ⟨by rfl, fun w hSw => ?_⟩) (by assumption) ?_; rotate_left; (focus ((try dsimp only at hSw); go_simp <;> with_reducible rfl)); (try simp only [Act.put, List.setIfInBounds_toArray, List.set_cons_zero, List.set_cons_succ])
      refine wpHead_take (i := 6) (v := ?_) rfl (by kernel_rfl) (by kernel_rfl) (by kernel_rfl) (by kernel_rfl) (fun _ _ _ h => h) (Or.inl ⟨by rfl, fun w hSw => ?_⟩) (by assumption) ?_; rotate_left; (focus ((try dsimp only at hSw); go_simp <;> with_reducible rfl)); (try simp only [Act.put, List.setIfInBounds_toArray, List.set_cons_zero, List.set_cons_succ])
      refine wpHead_take (i := 7) (v := ?_) rfl (by kernel_rfl) (by kernel_rfl) (by kernel_rfl) (by kernel_rfl) (fun _ _ _ h => h) (Or.inl ⟨by rfl, fun w hSw => ?_⟩) (by assumption) ?_; rotate_left; (focus ((try dsimp only at hSw); go_simp <;> with_reducible rfl)); (try simp only [Act.put, List.setIfInBounds_toArray, List.set_cons_zero, List.set_cons_succ])
      refine wpHead_take (i := 8) (v := ?_) rfl (by kernel_rfl) (by kernel_rfl) (by kernel_rfl) (by kernel_rfl) (fun _ _ _ h => h) (Or.inl ⟨by rfl, fun w hSw => ?_⟩) (by assumption) ?_; rotate_left; (focus ((try dsimp only at hSw); go_simp <;> with_reducible rfl)); (try simp only [Act.put, List.setIfInBounds_toArray, List.set_cons_zero, List.set_cons_succ])
      refine wpHead_take (i := 9) (v := ?_) rfl (by kernel_rfl) (by kernel_rfl) (by kernel_rfl) (by kernel_rfl) (fun _ _ _ h => h) (Or.inl ⟨by rfl, fun w hSw => ?_⟩) (by assumption) ?_; rotate_left; (focus ((try dsimp only at hSw); go_simp <;> with_reducible rfl)); (try simp only [Act.put, List.setIfInBounds_toArray, List.set_cons_zero, List.set_cons_succ])
      refine wpHead_take (i := 10) (v := ?_) rfl (by kernel_rfl) (by kernel_rfl) (by kernel_rfl) (by kernel_rfl) (fun _ _ _ h => h) (Or.inl ⟨by rfl, fun w hSw => ?_⟩) (by assumption) ?_; rotate_left; (focus ((try dsimp only at hSw); go_simp <;> with_reducible rfl)); (try simp only [Act.put, List.setIfInBounds_toArray, List.set_cons_zero, List.set_cons_succ])
      refine wpHead_take (i := 11) (v := ?_) rfl (by kernel_rfl) (by kernel_rfl) (by kernel_rfl) (by kernel_rfl) (fun _ _ _ h => h) (Or.inl ⟨by rfl, fun w hSw => ?_⟩) (by assumption) ?_; rotate_left; (focus ((try dsimp only at hSw); go_simp <;> with_reducible rfl)); (try simp only [Act.put, List.setIfInBounds_toArray, List.set_cons_zero, List.set_cons_succ])
      refine wpHead_take (i := 12) (v := ?_) rfl (by kernel_rfl) (by kernel_rfl) (by kernel_rfl) (by kernel_rfl) (fun _ _ _ h => h) (Or.inl ⟨by rfl, fun w hSw => ?_⟩) (by assumption) ?_; rotate_left; (focus ((try dsimp only at hSw); go_simp <;> with_reducible rfl)); (try simp only [Act.put, List.setIfInBounds_toArray, List.set_cons_zero, List.set_cons_succ])
      refine wpHead_take (i := 13) (v := ?_) rfl (by kernel_rfl) (by kernel_rfl) (by kernel_rfl) (by kernel_rfl) (fun _ _ _ h => h) (Or.inl ⟨by rfl, fun w hSw => ?_⟩) (by assumption) ?_; rotate_left; (focus ((try dsimp only at hSw); go_simp <;> with_reducible rfl)); (try simp only [Act.put, List.setIfInBounds_toArray, List.set_cons_zero, List.set_cons_succ])
      refine wpHead_take (i := 14) (v := ?_) rfl (by kernel_rfl) (by kernel_rfl) (by kernel_rfl) (by kernel_rfl) (fun _ _ _ h => h) (Or.inl ⟨by rfl, fun w hSw => ?_⟩) (by assumption) ?_; rotate_left; (focus ((try dsimp only at hSw); go_simp <;> with_reducible rfl)); (try simp only [Act.put, List.setIfInBounds_toArray, List.set_cons_zero, List.set_cons_succ])
      refine wpHead_take (i := 15) (v := ?_) rfl (by kernel_rfl) (by kernel_rfl) (by kernel_rfl) (by kernel_rfl) (fun _ _ _ h => h) (Or.inl ⟨by rfl, fun w hSw => ?_⟩) (by assumption) ?_; rotate_left; (focus ((try dsimp only at hSw); go_simp <;> with_reducible rfl)); (try simp only [Act.put, List.setIfInBounds_toArray, List.set_cons_zero, List.set_cons_succ])
      refine wpHead_take (i := 16) (v := ?_) rfl (by kernel_rfl) (by kernel_rfl) (by kernel_rfl) (by kernel_rfl) (fun _ _ _ h => h) (Or.inl ⟨by rfl, fun w hSw => ?_⟩) (by assumption) ?_; rotate_left; (focus ((try dsimp only at hSw); go_simp <;> with_reducible rfl)); (try simp only [Act.put, List.setIfInBounds_toArray, List.set_cons_zero, List.set_cons_succ])
      refine wpHead_take (i := 17) (v := ?_) rfl (by kernel_rfl) (by kernel_rfl) (by kernel_rfl) (by kernel_rfl) (fun _ _ _ h => h) (Or.inl ⟨by rfl, fun w hSw => ?_⟩) (by assumption) ?_; rotate_left; (focus ((try dsimp only at hSw); go_simp <;> with_reducible rfl)); (try simp only [Act.put, List.setIfInBounds_toArray, List.set_cons_zero, List.set_cons_succ])
      refine wpHead_take (i := 18) (v := ?_) rfl (by kernel_rfl) (by kernel_rfl) (by kernel_rfl) (by kernel_rfl) (fun _ _ _ h => h) (Or.inl ⟨by rfl, fun w hSw => ?_⟩) (by assumption) ?_; rotate_left; (focus ((try dsimp only at hSw); go_simp <;> with_reducible rfl)); (try simp only [Act.put, List.setIfInBounds_toArray, List.set_cons_zero, List.set_cons_succ])
      refine wpHead_take (i := 19) (v := ?_) rfl (by kernel_rfl) (by kernel_rfl) (by kernel_rfl) (by kernel_rfl) (fun _ _ _ h => h) (Or.inl ⟨by rfl, fun w hSw => ?_⟩) (by assumption) ?_; rotate_left; (focus ((try dsimp only at hSw); go_simp <;> with_reducible rfl)); (try simp only [Act.put, List.setIfInBounds_toArray, List.set_cons_zero, List.set_cons_succ])
      refine wpHead_take (i := 20) (v := ?_) rfl (by kernel_rfl) (by kernel_rfl) (by kernel_rfl) (by kernel_rfl) (fun _ _ _ h => h) (Or.inl ⟨by rfl, fun w hSw => ?_⟩) (by assumption) ?_; rotate_left; (focus ((try dsimp only at hSw); go_simp <;> with_reducible rfl)); (try simp only [Act.put, List.setIfInBounds_toArray, List.set_cons_zero, List.set_cons_succ])
      refine wpHead_take (i := 21) (v := ?_) rfl (by kernel_rfl) (by kernel_rfl) (by kernel_rfl) (by kernel_rfl) (fun _ _ _ h => h) (Or.inl ⟨by rfl, fun w hSw => ?_⟩) (by assumption) ?_; rotate_left; (focus ((try dsimp only at hSw); go_simp <;> with_reducible rfl)); (try simp only [Act.put, List.setIfInBounds_toArray, List.set_cons_zero, List.set_cons_succ])
      refine wpHead_take (i := 22) (v := ?_) rfl (by kernel_rfl) (by kernel_rfl) (by kernel_rfl) (by kernel_rfl) (fun _ _ _ h => h) (Or.inl ⟨by rfl, fun w hSw => ?_⟩) (by assumption) ?_; rotate_left; (focus ((try dsimp only at hSw); go_simp <;> with_reducible rfl)); (try simp only [Act.put, List.setIfInBounds_toArray, List.set_cons_zero, List.set_cons_succ])
      refine wpHead_take (i := 23) (v := ?_) rfl (by kernel_rfl) (by kernel_rfl) (by kernel_rfl) (by kernel_rfl) (fun _ _ _ h => h) (Or.inl ⟨by rfl, fun w hSw => ?_⟩) (by assumption) ?_; rotate_left; (focus ((try dsimp only at hSw); go_simp <;> with_reducible rfl)); (try simp only [Act.put, List.setIfInBounds_toArray, List.set_cons_zero, List.set_cons_succ])
      refine wpHead_take (i := 24) (v := ?_) rfl (by kernel_rfl) (by kernel_rfl) (by kernel_rfl) (by kernel_rfl) (fun _ _ _ h => h) (Or.inl ⟨by rfl, fun w hSw => ?_⟩) (by assumption) ?_; rotate_left; (focus ((try dsimp only at hSw); go_simp <;> with_reducible rfl)); (try simp only [Act.put, List.setIfInBounds_toArray, List.set_cons_zero, List.set_cons_succ])
      refine wpHead_take (i := 25) (v := ?_) rfl (by kernel_rfl) (by kernel_rfl) (by kernel_rfl) (by kernel_rfl) (fun _ _ _ h => h) (Or.inl ⟨by rfl, fun w hSw => ?_⟩) (by assumption) ?_; rotate_left; (focus ((try dsimp only at hSw); go_simp <;> with_reducible rfl)); (try simp only [Act.put, List.setIfInBounds_toArray, List.set_cons_zero, List.set_cons_succ])
      refine wpHead_ready (rs := [26]) (by kernel_rfl) (by simp) ?_
      refine AllHead.cons (i := 26) rfl (by kernel_rfl) (fun K hK => ?_) ?_
      · go_simp
        go_at_call 18
        refine (HFR.out _).mono ?_
        rintro e w4 ⟨rfl, hz4⟩
        have hb4 : Below X.heap.size X w4 := below_next hbd hz4
        refine hK.out _ _ (hSof _ hb4) (fun hHeld4 => ?_)
        clear hK K
        (try simp only [Act.put, List.setIfInBounds_toArray, List.set_cons_zero, List.set_cons_succ])
        refine wpHead_take (i := 27) (v := ?_) rfl (by kernel_rfl) (by kernel_rfl) (by kernel_rfl) (by kernel_rfl) (fun _ _ _ h => h) (Or.inl ⟨by rfl, fun w hSw => ?_⟩) (by assumption) ?_; rotate_left; (focus ((try dsimp only at hSw); go_simp <;> with_reducible rfl)); (try simp only [Act.put, List.setIfInBounds_toArray, List.set_cons_zero, List.set_cons_succ])
        refine wpHead_take (i := 28) (v := ?_) rfl (by kernel_rfl) (by kernel_rfl) (by kernel_rfl) (by kernel_rfl) (fun _ _ _ h => h) (Or.inl ⟨by rfl, fun w hSw => ?_⟩) (by assumption) ?_; rotate_left; (focus ((try dsimp only at hSw); go_simp <;> with_reducible rfl)); (try simp only [Act.put, List.setIfInBounds_toArray, List.set_cons_zero, List.set_cons_succ])
        refine wpHead_take (i := 29) (v := ?_) rfl (by kernel_rfl) (by kernel_rfl) (by kernel_rfl) (by kernel_rfl) (fun _ _ _ h => h) (Or.inl ⟨by rfl, fun w hSw => ?_⟩) (by assumption) ?_; rotate_left; (focus ((try dsimp only at hSw); go_simp <;> with_reducible rfl)); (try simp only [Act.put, List.setIfInBounds_toArray, List.set_cons_zero, List.set_cons_succ])
        refine wpHead_take (i := 30) (v := ?_) rfl (by kernel_rfl) (by kernel_rfl) (by kernel_rfl) (by kernel_rfl) (fun _ _ _ h => h) (Or.inl ⟨by rfl, fun w hSw => ?_⟩) (by assumption) ?_; rotate_left; (focus ((try dsimp only at hSw); go_simp <;> with_reducible rfl)); (try simp only [Act.put, List.setIfInBounds_toArray, List.set_cons_zero, List.set_cons_succ])
        refine wpHead_take (i := 31) (v := ?_) rfl (by kernel_rfl) (by kernel_rfl) (by kernel_rfl) (by kernel_rfl) (fun _ _ _ h => h) (Or.inl ⟨by rfl, fun w hSw => ?_⟩) (by assumption) ?_; rotate_left; (focus ((try dsimp only at hSw); go_simp <;> with_reducible rfl)); (try simp only [Act.put, List.setIfInBounds_toArray, List.set_cons_zero, List.set_cons_succ])
        refine wpHead_take (i := 32) (v := ?_) rfl (by kernel_rfl) (by kernel_rfl) (by kernel_rfl) (by kernel_rfl) (fun _ _ _ h => h) (Or.inl ⟨by rfl, fun w hSw => ?_⟩) (by assumption) ?_; rotate_left; (focus ((try dsimp only at hSw); go_simp <;> with_reducible rfl)); (try simp only [Act.put, List.setIfInBounds_toArray, List.set_cons_zero, List.set_cons_succ])
        refine wpHead_take (i := 33) (v := ?_) rfl (by kernel_rfl) (by kernel_rfl) (by kernel_rfl) (by kernel_rfl) (fun _ _ _ h => h) (Or.inl ⟨by rfl, fun w hSw => ?_⟩) (by assumption) ?_; rotate_left; (focus ((try dsimp only at hSw); go_simp <;> with_reducible rfl)); (try simp only [Act.put, List.setIfInBounds_toArray, List.set_cons_zero, List.set_cons_succ])
        refine wpHead_take (i := 34) (v := ?_) rfl (by kernel_rfl) (by kernel_rfl) (by kernel_rfl) (by kernel_rfl) (fun _ _ _ h => h) (Or.inl ⟨by rfl, fun w hSw => ?_⟩) (by assumption) ?_; rotate_left; (focus ((try dsimp only at hSw); go_simp <;> with_reducible rfl)); (try simp only [Act.put, List.setIfInBounds_toArray, List.set_cons_zero, List.set_cons_succ])
        refine wpHead_take (i := 35) (v := ?_) rfl (by kernel_rfl) (by kernel_rfl) (by kernel_rfl) (by kernel_rfl) (fun _ _ _ h => h) (Or.inl ⟨by rfl, fun w hSw => ?_⟩) (by assumption) ?_; rotate_left; (focus ((try dsimp only at hSw); go_simp <;> with_reducible rfl)); (try simp only [Act.put, List.setIfInBounds_toArray, List.set_cons_zero, List.set_cons_succ])
        refine wpHead_take (i := 36) (v := ?_) rfl (by kernel_rfl) (by kernel_rfl) (by kernel_rfl) (by kernel_rfl) (fun _ _ _ h => h) (Or.inl ⟨by rfl, fun w hSw => ?_⟩) (by assumption) ?_; rotate_left; (focus ((try dsimp only at hSw); go_simp <;> with_reducible rfl)); (try simp only [Act.put, List.setIfInBounds_toArray, List.set_cons_zero, List.set_cons_succ])
        refine wpHead_take (i := 37) (v := ?_) rfl (by kernel_rfl) (by kernel_rfl) (by kernel_rfl) (by kernel_rfl) (fun _ _ _ h => h) (Or.inl ⟨by rfl, fun w hSw => ?_⟩) (by assumption) ?_; rotate_left; (focus ((try dsimp only at hSw); go_simp <;> with_reducible rfl)); (try simp only [Act.put, List.setIfInBounds_toArray, List.set_cons_zero, List.set_cons_succ])
        refine wpHead_take (i := 38) (v := ?_) rfl (by kernel_rfl) (by kernel_rfl) (by kernel_rfl) (by kernel_rfl) (fun _ _ _ h => h) (Or.inl ⟨by rfl, fun w hSw => ?_⟩) (by assumption) ?_; rotate_left; (focus ((try dsimp only at hSw); go_simp <;> with_reducible rfl)); (try simp only [Act.put, List.setIfInBounds_toArray, List.set_cons_zero, List.set_cons_succ])
        refine wpHead_take (i := 39) (v := ?_) rfl (by kernel_rfl) (by kernel_rfl) (by kernel_rfl) (by kernel_rfl) (fun _ _ _ h => h) (Or.inl ⟨by rfl, fun w hSw => ?_⟩) (by assumption) ?_; rotate_left; (focus ((try dsimp only at hSw); go_simp <;> with_reducible rfl)); (try simp only [Act.put, List.setIfInBounds_toArray, List.set_cons_zero, List.set_cons_succ])
        refine wpHead_take (i := 40) (v := ?_) rfl (by kernel_rfl) (by kernel_rfl) (by kernel_rfl) (by kernel_rfl) (fun _ _ _ h => h) (Or.inl ⟨by rfl, fun w hSw => ?_⟩) (by assumption) ?_; rotate_left; (focus ((try dsimp only at hSw); go_simp <;> with_reducible rfl)); (try simp only [Act.put, List.setIfInBounds_toArray, List.set_cons_zero, List.set_cons_succ])
        refine wpHead_take (i := 41) (v := ?_) rfl (by kernel_rfl) (by kernel_rfl) (by kernel_rfl) (by kernel_rfl) (fun _ _ _ h => h) (Or.inl ⟨by rfl, fun w hSw => ?_⟩) (by assumption) ?_; rotate_left; (focus ((try dsimp only at hSw); go_simp <;> with_reducible rfl)); (try simp only [Act.put, List.setIfInBounds_toArray, List.set_cons_zero, List.set_cons_succ])
        refine wpHead_take (i := 42) (v := ?_) rfl (by kernel_rfl) (by kernel_rfl) (by kernel_rfl) (by kernel_rfl) (fun _ _ _ h => h) (Or.inl ⟨by rfl, fun w hSw => ?_⟩) (by assumption) ?_; rotate_left; (focus ((try dsimp only at hSw); go_simp <;> with_reducible rfl)); (try simp only [Act.put, List.setIfInBounds_toArray, List.set_cons_zero, List.set_cons_succ])
        refine wpHead_take (i := 43) (v := ?_) rfl (by kernel_rfl) (by kernel_rfl) (by kernel_rfl) (by kernel_rfl) (fun _ _ _ h => h) (Or.inl ⟨by rfl, fun w hSw => ?_⟩) (by assumption) ?_; rotate_left; (focus ((try dsimp only at hSw); go_simp <;> with_reducible rfl)); (try simp only [Act.put, List.setIfInBounds_toArray, List.set_cons_zero, List.set_cons_succ])
        refine wpHead_done (by kernel_rfl) ?_; simp only [List.drop_succ_cons, List.drop_zero]
        clear hw1 hw2 hw3 hw4 hw5
        go_wp2
        go_ret
        exact ⟨rfl, by (repeat (first | (with_reducible refine below_drew ?_) | (with_reducible refine below_drewN ?_ _) | (with_reducible refine below_alloc ?_ _) | ((with_reducible refine Below.setCell ?_ ?_ _); rotate_left; (focus (first | (simp; done) | (simp; omega)))))); exact below_next hb3 hb4⟩
      exact AllHead.nil
end Go.Proofs.YthjmficglpfgpaaDoor
namespace Go.Proofs.YthjmficglpfgpaaDoor
set_option linter.unusedVariables false
set_option linter.unusedSimpArgs false
open Go Go.RowKit Go.ChangeShapes Go.WideShapes Go.Deep Enc
set_option maxRecDepth 100000
set_option maxHeartbeats 1600000

theorem wf_u8 {n : Int} (h : (Lit.int .u8 n).wf = true) : 0 ≤ n ∧ n < 256 := by
  have h' : (decide ((0 : Int) ≤ n) && decide (n ≤ 255)) = true := h
  simp at h'
  omega
theorem wf_u16 {n : Int} (h : (Lit.int .u16 n).wf = true) : 0 ≤ n ∧ n < 65536 := by
  have h' : (decide ((0 : Int) ≤ n) && decide (n ≤ 65535)) = true := h
  simp at h'
  omega
theorem wf_u32 {n : Int} (h : (Lit.int .u32 n).wf = true) : 0 ≤ n ∧ n < 4294967296 := by
  have h' : (decide ((0 : Int) ≤ n) && decide (n ≤ 4294967295)) = true := h
  simp at h'
  omega
theorem wf_i64 {n : Int} (h : (Lit.int .i64 n).wf = true) : -9223372036854775808 ≤ n ∧ n ≤ 9223372036854775807 := by
  have h' : (decide ((-9223372036854775808 : Int) ≤ n) && decide (n ≤ 9223372036854775807)) = true := h
  simp at h'
  omega
theorem wf_i8 {n : Int} (h : (Lit.int .i8 n).wf = true) : -128 ≤ n ∧ n ≤ 127 := by
  have h' : (decide ((-128 : Int) ≤ n) && decide (n ≤ 127)) = true := h
  simp at h'
  omega

theorem no_spot {w : World} {a : Addr} {v : Value} (h : w.cell? a = some v) : a = ⟨a.block, a.off, none⟩ := by
  obtain ⟨b, o, s⟩ := a
  cases s with
  | none => rfl
  | some s =>
    unfold World.cell? at h
    split at h <;> simp at h
/-- Elements known one by one make a row. -/
theorem Row.of_add {α : Type} [Enc α] [Inhabited α] {w : World} {a : Addr} {len cap : Nat} (hm : len ≤ maxLen) {Q : α → Prop}
    (h : ∀ i, i < len → ∃ x : α, Q x ∧ ∀ j u, (enc x)[j]? = some u → w.cell? (a.add (i * sz α + j)) = some u) :
    ∃ xs : List α, Row w (.slice (some a) len cap) xs ∧ ∀ x ∈ xs, Q x := by
  obtain ⟨f, hf⟩ := choose_lt h
  refine ⟨(List.range len).map f, ⟨some a, cap, by simp, by simpa using hm, fun k hk => ?_⟩, fun x hx => ?_⟩
  · have hk' : k < len := by simpa using hk
    have h0 : ∃ u, (enc (f 0))[0]? = some u := by
      refine ⟨(enc (f 0))[0]'(by rw [Enc.len]; exact Enc.pos), ?_⟩
      exact List.getElem?_eq_getElem _
    obtain ⟨u0, hu0⟩ := h0
    have hs := no_spot ((hf 0 (by omega)).2 0 u0 hu0)
    have hs' : a = ⟨a.block, a.off, none⟩ := by simpa [Addr.add] using hs
    refine ⟨a.block, a.off, by rw [← hs'], fun j u hu => ?_⟩
    have e : ((List.range len).map f)[k]'hk = f k := by simp
    rw [e] at hu
    have hc := (hf k hk').2 j u hu
    have ea : a.add (k * sz α + j) = ⟨a.block, a.off + k * sz α + j, none⟩ := by
      unfold Addr.add
      split
      · rename_i hz
        rw [hs']
        (try simp)
        (try omega)
      · (try simp)
        (try omega)
    rw [ea] at hc
    exact hc
  · obtain ⟨i, hi, rfl⟩ := List.mem_map.1 hx
    exact (hf i (List.mem_range.1 hi)).1
theorem Row.nil_ {α : Type} [Enc α] {w : World} {Q : α → Prop} : ∃ xs : List α, Row w (.slice none 0 0) xs ∧ ∀ x ∈ xs, Q x :=
  ⟨[], ⟨none, 0, rfl, by simp, fun k hk => absurd hk (by simp)⟩, fun x hx => absurd hx (by simp)⟩

section
variable {H : Type} {enc : TypeId × Value → H} {P : Program} {w : World} {base : Nat} {spare : Nat → Bool} {held : Bool}
theorem open_nums {t e : TypeId} {k : IntKind} {fuel : Nat} {v : Value} {x : DataW H × List MemPlace} (ht : P.underlying t = some (.slice e)) (he : P.underlying e = some (.int k)) (hc : P.cellsOf e = 1)
    (h : DataW.trod enc P w base spare held fuel t [v] = some x) :
    v = .slice none 0 0 ∨ ∃ a len cap, v = .slice (some a) len cap ∧ len ≤ cap ∧ len ≤ maxLen ∧ ∀ i, i < len → ∃ n, (Lit.int k n).wf = true ∧ w.cell? (a.add i) = some (.int k n) := by
  rcases open_ints ht he hc h with ⟨hcs, _⟩ | ⟨a, len, cap, zs, hcs, _, hl, hm, hz, _, hcell, hwz⟩
  · exact .inl (by simpa using hcs)
  · refine .inr ⟨a, len, cap, by simpa using hcs, hl, by omega, fun i hi => ?_⟩
    have hiz : i < zs.length := by
      rw [hz]
      split <;> omega
    refine ⟨zs.getD i 0, hwz _ ?_, hcell i hiz⟩
    rw [List.getD_eq_getElem?_getD, List.getElem?_eq_getElem hiz]
    exact List.getElem_mem hiz
/-- A slice of structs, each field one cell. -/
theorem open_structs {t e : TypeId} {fs : Array Field} {fuel : Nat} {v : Value} {x : DataW H × List MemPlace} (ht : P.underlying t = some (.slice e)) (he : P.underlying e = some (.struct fs))
    (hone : oneCellFields P fs = true) (hC : P.cellsOf e = fs.size) (h : DataW.trod enc P w base spare held fuel t [v] = some x) :
    v = .slice none 0 0 ∨ ∃ a len cap, v = .slice (some a) len cap ∧ len ≤ cap ∧ len ≤ maxLen ∧
      ∀ i, i < len → ∃ n, ∀ (j : Nat) (f : Field), fs[j]? = some f → ∃ (u : Value) (y : DataW H × List MemPlace), w.cell? (a.add (i * fs.size + j)) = some u ∧ DataW.trod enc P w base spare held n f.type [u] = some y := by
  rcases open_slice ht h with ⟨h0, _⟩ | ⟨a, len, cap, m, n, D, Pl, hcs, hb, hl, hm, hmm, hx, hi⟩
  · exact .inl (by simpa using h0)
  · refine .inr ⟨a, len, cap, by simpa using hcs, hl, by omega, fun i hil => ?_⟩
    have him : i < m := by
      rw [hmm]
      split <;> omega
    obtain ⟨cs', hc, ht'⟩ := hi i him
    rw [hC] at hc
    obtain ⟨ys, n', hn', hy, hlen, hyl, hf⟩ := DataW.trod_struct he ht'
    obtain ⟨_, hcl, hat⟩ := World.cells?_some hc
    refine ⟨n', fun j f hj => ?_⟩
    obtain ⟨ho, hk⟩ := hone_of hone j f hj
    have hjl : j < fs.size := (Array.getElem?_eq_some_iff.1 hj).1
    have hcell := hat j hjl
    have hv : cs'[j]? = some (cs'[j]'(by omega)) := List.getElem?_eq_getElem (by omega)
    have h1 := hf j f hj
    rw [ho, hk] at h1
    have hone' : (cs'.drop j).take 1 = [cs'[j]'(by omega)] := by
      rw [List.drop_eq_getElem_cons (by omega)]
      rfl
    rw [hone'] at h1
    have hys : ys[j]? = some (ys[j]'(by omega)) := List.getElem?_eq_getElem (by omega)
    refine ⟨_, _, ?_, h1.trans hys⟩
    rw [← Go.Deep.add_add, hcell, hv]
end

theorem open_u8s {H : Type} {enc : TypeId × Value → H} {w : World} {base : Nat} {spare : Nat → Bool} {held : Bool} {fuel : Nat} {v : Value} {x : DataW H × List MemPlace} (h : DataW.trod enc Tryd.prog w base spare held fuel 22 [v] = some x) :
    ∃ xs : List U8, Row w v xs ∧ (∀ c ∈ xs, 0 ≤ c.n ∧ c.n < 256) ∧ ∃ A n c, v = .slice A n c ∧ n ≤ c := by
  rcases open_nums Tryd.underlying22 Tryd.underlying5 (by kernel_rfl) h with rfl | ⟨a, len, cap, rfl, hl, hm, hi⟩
  · obtain ⟨xs, h1, h2⟩ := Row.nil_ (α := U8) (w := w) (Q := fun c => 0 ≤ c.n ∧ c.n < 256)
    exact ⟨xs, h1, h2, _, _, _, rfl, Nat.le_refl _⟩
  · obtain ⟨xs, h1, h2⟩ := Row.of_add (α := U8) (w := w) (a := a) (cap := cap) hm (Q := fun c => 0 ≤ c.n ∧ c.n < 256) (fun i hil => by
      obtain ⟨n, hw, hc⟩ := hi i hil
      refine ⟨⟨n⟩, wf_u8 hw, fun j u hu => ?_⟩
      match j, hu with
      | 0, hu =>
        obtain rfl := Option.some.inj hu
        have e : i * sz U8 + 0 = i := Nat.mul_one i
        rw [e]
        exact hc)
    exact ⟨xs, h1, h2, _, _, _, rfl, hl⟩
theorem open_u32s {H : Type} {enc : TypeId × Value → H} {w : World} {base : Nat} {spare : Nat → Bool} {held : Bool} {fuel : Nat} {v : Value} {x : DataW H × List MemPlace} (h : DataW.trod enc Tryd.prog w base spare held fuel 23 [v] = some x) :
    ∃ xs : List U32, Row w v xs ∧ (∀ c ∈ xs, 0 ≤ c.n ∧ c.n < 4294967296) := by
  rcases open_nums Tryd.underlying23 Tryd.underlying112 (by kernel_rfl) h with rfl | ⟨a, len, cap, rfl, hl, hm, hi⟩
  · exact Row.nil_
  · exact Row.of_add hm (fun i hil => by
      obtain ⟨n, hw, hc⟩ := hi i hil
      refine ⟨⟨n⟩, wf_u32 hw, fun j u hu => ?_⟩
      match j, hu with
      | 0, hu =>
        obtain rfl := Option.some.inj hu
        have e : i * sz U32 + 0 = i := Nat.mul_one i
        rw [e]
        exact hc)
theorem open_paids {H : Type} {enc : TypeId × Value → H} {w : World} {base : Nat} {spare : Nat → Bool} {held : Bool} {fuel : Nat} {v : Value} {x : DataW H × List MemPlace} (h : DataW.trod enc Tryd.prog w base spare held fuel 26 [v] = some x) :
    ∃ xs : List Paid, Row w v xs ∧ (∀ p ∈ xs, PaidOk p) := by
  rcases open_structs Tryd.underlying26 Tryd.underlying87 (by kernel_rfl) (by kernel_rfl) h with rfl | ⟨a, len, cap, rfl, hl, hm, hi⟩
  · exact Row.nil_
  · exact Row.of_add hm (fun i hil => by
      obtain ⟨n, hj⟩ := hi i hil
      obtain ⟨u0, y0, c0, t0⟩ := hj 0 _ rfl
      obtain ⟨u1, y1, c1, t1⟩ := hj 1 _ rfl
      obtain ⟨u2, y2, c2, t2⟩ := hj 2 _ rfl
      obtain ⟨u3, y3, c3, t3⟩ := hj 3 _ rfl
      obtain ⟨u4, y4, c4, t4⟩ := hj 4 _ rfl
      obtain ⟨u5, y5, c5, t5⟩ := hj 5 _ rfl
      obtain ⟨u6, y6, c6, t6⟩ := hj 6 _ rfl
      obtain ⟨u7, y7, c7, t7⟩ := hj 7 _ rfl
      obtain ⟨n0, e0, -, w0⟩ := DataW.trod_int Tryd.underlying5 t0
      obtain ⟨n1, e1, -, w1⟩ := DataW.trod_int Tryd.underlying5 t1
      obtain ⟨n2, e2, -, w2⟩ := DataW.trod_int Tryd.underlying5 t2
      obtain ⟨n3, e3, -, w3⟩ := DataW.trod_int Tryd.underlying5 t3
      obtain ⟨n4, e4, -, w4⟩ := DataW.trod_int Tryd.underlying5 t4
      obtain ⟨n5, e5, -, w5⟩ := DataW.trod_int Tryd.underlying5 t5
      obtain ⟨n6, e6, -, w6⟩ := DataW.trod_int Tryd.underlying5 t6
      obtain ⟨n7, e7, -⟩ := DataW.trod_bool Tryd.underlying4 t7
      obtain rfl := List.singleton_inj.1 e0
      obtain rfl := List.singleton_inj.1 e1
      obtain rfl := List.singleton_inj.1 e2
      obtain rfl := List.singleton_inj.1 e3
      obtain rfl := List.singleton_inj.1 e4
      obtain rfl := List.singleton_inj.1 e5
      obtain rfl := List.singleton_inj.1 e6
      obtain rfl := List.singleton_inj.1 e7
      refine ⟨⟨n0, n1, n2, n3, n4, n5, n6, n7⟩, ⟨wf_u8 w0, wf_u8 w1, wf_u8 w2, wf_u8 w3, wf_u8 w4, wf_u8 w5, wf_u8 w6⟩, fun j u hu => ?_⟩
      match j, hu with
      | 0, hu => obtain rfl := Option.some.inj hu; exact c0
      | 1, hu => obtain rfl := Option.some.inj hu; exact c1
      | 2, hu => obtain rfl := Option.some.inj hu; exact c2
      | 3, hu => obtain rfl := Option.some.inj hu; exact c3
      | 4, hu => obtain rfl := Option.some.inj hu; exact c4
      | 5, hu => obtain rfl := Option.some.inj hu; exact c5
      | 6, hu => obtain rfl := Option.some.inj hu; exact c6
      | 7, hu => obtain rfl := Option.some.inj hu; exact c7)
/-- A book and payments as the row's arguments. -/
theorem open_book {H : Type} {enc : TypeId × Value → H} {w : World} {base : Nat} {spare : Nat → Bool} {held : Bool} {r : Reach} {b0 : Nat} {v : Value} {d : DataW H} {p : List MemPlace}
    (hv : Value.okWide Tryd.prog w r b0 25 v) (h : DataW.Trod enc Tryd.prog w base spare held 25 v d p) :
    ∃ vc vh vd, v = .agg #[vc, vh, vd] ∧ ∃ (cs : List U8) (has : List U32) (ds : List U8), Row w vc cs ∧ Row w vh has ∧ Row w vd ds ∧ (∀ c ∈ cs, 0 ≤ c.n ∧ c.n < 256) ∧ (∀ x ∈ has, 0 ≤ x.n ∧ x.n < 4294967296) ∧ (∀ c ∈ ds, 0 ≤ c.n ∧ c.n < 256) ∧ ∃ A n c, vc = .slice A n c ∧ n ≤ c := by
  obtain ⟨v0, v1, v2, y0, y1, y2, n, rfl, -, -, t0, t1, t2⟩ := Joins.open_agg3 Tryd.underlying25 (by kernel_rfl) (by kernel_rfl) hv h
  obtain ⟨cs, r0, b0, k0⟩ := open_u8s t0
  obtain ⟨has, r1, b1⟩ := open_u32s t1
  obtain ⟨ds, r2, b2, -⟩ := open_u8s t2
  exact ⟨v0, v1, v2, rfl, cs, has, ds, r0, r1, r2, b0, b1, b2, k0⟩
end Go.Proofs.YthjmficglpfgpaaDoor
namespace Go.Proofs.YthjmficglpfgpaaDoor
set_option linter.unusedVariables false
set_option linter.unusedSimpArgs false
open Go Go.RowKit Enc
set_option maxRecDepth 100000
set_option maxHeartbeats 1600000

/-- The variables of do behind the two copies. -/
structure H15 (w X : World) (a p sg kn : Value) (now : Int) (r : Req) (A P : Value) : Prop where
  st : Blk X w.heap.size 36 #[a, p, sg, kn, .int .i64 now]
  rq : Blk X (w.heap.size + 1) 29 (rcells r)
  rs : Blk X (w.heap.size + 1 + 1) 36 #[.slice none 0 0, .slice none 0 0, .slice none 0 0, .slice none 0 0, .int .i64 0]
  rp : Blk X (w.heap.size + 1 + 1 + 1) 40 #[.int .i64 0, .int .i64 0]
  tt : Blk X (w.heap.size + 1 + 1 + 1 + 1) 36 #[A, P, sg, kn, .int .i64 now]
  bel : Below w.heap.size w X
/-- A row of the call's own. -/
abbrev Own5 {α : Type} [Enc α] (w X : World) (e : TypeId) (v : Value) (xs : List α) : Prop := Own X (w.heap.size + 1 + 1 + 1 + 1 + 1) e v xs
theorem Own.setLow {α : Type} [Enc α] {X : World} {B e : Nat} {v : Value} {xs : List α} (h : Own X B e v xs) {j : Nat} (hj : j < B) (i : Nat) (u : Value) : Own (X.setCell ⟨j, i, none⟩ u) B e v xs :=
  h.kept ((World.grownBy.refl X (Option.some j)).setCell (a := ⟨j, i, none⟩) (g := j) rfl u) (.inr (h.ne hj).symm)
section
variable {w X X' : World} {a p sg kn : Value} {now : Int} {r : Req} {A P : Value}
theorem H15.below (h : H15 w X a p sg kn now r A P) (hb : Below X.heap.size X X') : H15 w X' a p sg kn now r A P :=
  ⟨h.st.next hb, h.rq.next hb, h.rs.next hb, h.rp.next hb, h.tt.next hb, below_next h.bel hb⟩
theorem H15.grown (h : H15 w X a p sg kn now r A P) {row : Option Nat} (hg : X.grownBy X' row) (hr : ∀ k, row = some k → w.heap.size + 1 + 1 + 1 + 1 + 1 ≤ k) : H15 w X' a p sg kn now r A P := by
  have hne : ∀ k, k < w.heap.size + 1 + 1 + 1 + 1 + 1 → some k ≠ row := fun k hk he => by have := hr k he.symm; omega
  exact ⟨h.st.grown hg (hne _ (by omega)), h.rq.grown hg (hne _ (by omega)), h.rs.grown hg (hne _ (by omega)), h.rp.grown hg (hne _ (by omega)), h.tt.grown hg (hne _ (by omega)), h.bel.grown hg h.bel.size (fun k hk => by have := hr k hk; omega)⟩
theorem H15.drew (h : H15 w X a p sg kn now r A P) : H15 w X.drew a p sg kn now r A P := h.below (below_drew (Below.refl _ _))
theorem H15.drewN (h : H15 w X a p sg kn now r A P) (n : Nat) : H15 w (X.drewN n) a p sg kn now r A P := h.below (below_drewN (Below.refl _ _) n)
theorem H15.alloc (h : H15 w X a p sg kn now r A P) (o : Obj) : H15 w (X.alloc o) a p sg kn now r A P := h.below (below_alloc (Below.refl _ _) o)
theorem H15.sz (h : H15 w X a p sg kn now r A P) : w.heap.size + 1 + 1 + 1 + 1 + 1 ≤ X.heap.size := h.tt.lt
theorem H15.setA (h : H15 w X a p sg kn now r A P) (A' : Value) : H15 w (X.setCell ⟨w.heap.size + 1 + 1 + 1 + 1, 0, none⟩ A') a p sg kn now r A' P :=
  ⟨h.st.far (by simp; omega) _, h.rq.far (by simp) _, h.rs.far (by simp) _, h.rp.far (by simp) _, h.tt.set_ 0 A', h.bel.setCell (by simp; omega) _⟩
theorem H15.setP (h : H15 w X a p sg kn now r A P) (P' : Value) : H15 w (X.setCell ⟨w.heap.size + 1 + 1 + 1 + 1, 1, none⟩ P') a p sg kn now r A P' :=
  ⟨h.st.far (by simp; omega) _, h.rq.far (by simp) _, h.rs.far (by simp) _, h.rp.far (by simp) _, h.tt.set_ 1 P', h.bel.setCell (by simp; omega) _⟩
end
theorem h15_head {w Z w1 w2 : World} {a p sg kn A P : Value} {s : St} {r : Req} (hbZ : Below w.heap.size w Z) (hst : Blk Z w.heap.size 36 #[a, p, sg, kn, .int .i64 s.now]) (hrq : Blk Z (w.heap.size + 1) 29 (rcells r))
    (hrs : Blk Z (w.heap.size + 1 + 1) 36 #[.slice none 0 0, .slice none 0 0, .slice none 0 0, .slice none 0 0, .int .i64 0]) (hrp : Blk Z (w.heap.size + 1 + 1 + 1) 40 #[.int .i64 0, .int .i64 0])
    (htt : Blk Z (w.heap.size + 1 + 1 + 1 + 1) 36 #[a, p, sg, kn, .int .i64 s.now]) (ho1 : Own5 w w1 50 A s.accs) (hg1 : Z.grownBy w1 none)
    (ho2 : Own5 w w2 47 P s.pays) (hg2 : (w1.setCell ⟨w.heap.size + 1 + 1 + 1 + 1, 0, none⟩ A).grownBy w2 none) :
    H15 w (w2.setCell ⟨w.heap.size + 1 + 1 + 1 + 1, 1, none⟩ P) a p sg kn s.now r A P ∧ Own5 w (w2.setCell ⟨w.heap.size + 1 + 1 + 1 + 1, 1, none⟩ P) 50 A s.accs ∧ Own5 w (w2.setCell ⟨w.heap.size + 1 + 1 + 1 + 1, 1, none⟩ P) 47 P s.pays := by
  have h0 : H15 w Z a p sg kn s.now r a p := ⟨hst, hrq, hrs, hrp, htt, hbZ⟩
  refine ⟨(((h0.grown hg1 (by simp)).setA A).grown hg2 (by simp)).setP P, ?_, ho2.setLow (by omega) _ _⟩
  exact ((ho1.setLow (by omega) _ _).kept hg2 (by cases hA : A.ownBlock with | none => exact .inl rfl | some g => exact .inr (by simp))).setLow (by omega) _ _
/-- Another state, and what is told. -/
theorem DoSt.drew {w X : World} {x : St × Rep} {e : Ending} (h : DoSt w X x e) : DoSt w X.drew x e := ⟨below_drew h.1, let ⟨v, he, hv⟩ := h.2; ⟨v, he, hv.drew⟩⟩
theorem DoSt.drewN {w X : World} {x : St × Rep} {e : Ending} (h : DoSt w X x e) (n : Nat) : DoSt w (X.drewN n) x e := ⟨below_drewN h.1 n, let ⟨v, he, hv⟩ := h.2; ⟨v, he, hv.drewN n⟩⟩
theorem h15_yes {w X : World} {s s' : St} {a p sg kn A P : Value} {r : Req} {id : Int} (hv : StV w (.agg #[a, p, sg, kn, .int .i64 s.now]) s) (h : H15 w X a p sg kn s.now r A P) (hA : Own5 w X 50 A s'.accs) (hP : Own5 w X 47 P s'.pays)
    (e1 : s'.sagas = s.sagas) (e2 : s'.known = s.known) (e3 : s'.now = s.now) (a0 a1 a2 a3 a4 b0 b1 : Value) :
    DoSt w (((((((X.setCell ⟨w.heap.size + 1 + 1, 0, none⟩ a0).setCell ⟨w.heap.size + 1 + 1, 1, none⟩ a1).setCell ⟨w.heap.size + 1 + 1, 2, none⟩ a2).setCell ⟨w.heap.size + 1 + 1, 3, none⟩ a3).setCell ⟨w.heap.size + 1 + 1, 4, none⟩ a4).setCell ⟨w.heap.size + 1 + 1 + 1, 0, none⟩ b0).setCell ⟨w.heap.size + 1 + 1 + 1, 1, none⟩ b1) (s', ⟨0, id⟩) (.returned (.tuple #[.agg #[A, P, sg, kn, .int .i64 s.now], Rep.val ⟨0, id⟩])) := by
  have hb : Below w.heap.size w (((((((X.setCell ⟨w.heap.size + 1 + 1, 0, none⟩ a0).setCell ⟨w.heap.size + 1 + 1, 1, none⟩ a1).setCell ⟨w.heap.size + 1 + 1, 2, none⟩ a2).setCell ⟨w.heap.size + 1 + 1, 3, none⟩ a3).setCell ⟨w.heap.size + 1 + 1, 4, none⟩ a4).setCell ⟨w.heap.size + 1 + 1 + 1, 0, none⟩ b0).setCell ⟨w.heap.size + 1 + 1 + 1, 1, none⟩ b1) := by
    (repeat (first | (with_reducible refine below_drew ?_) | (with_reducible refine below_drewN ?_ _) | (with_reducible refine below_alloc ?_ _) | ((with_reducible refine Below.setCell ?_ ?_ _); rotate_left; (focus (first | (simp; done) | (simp; omega))))))
    exact h.bel
  obtain ⟨h1, h2, h3, h4⟩ := hv.rows
  exact ⟨hb, _, rfl, A, P, sg, kn, by rw [e3],
    (((((((hA.setLow (by omega) _ _).setLow (by omega) _ _).setLow (by omega) _ _).setLow (by omega) _ _).setLow (by omega) _ _).setLow (by omega) _ _).setLow (by omega) _ _).row,
    (((((((hP.setLow (by omega) _ _).setLow (by omega) _ _).setLow (by omega) _ _).setLow (by omega) _ _).setLow (by omega) _ _).setLow (by omega) _ _).setLow (by omega) _ _).row,
    by rw [e1]; exact h3.below hb, by rw [e2]; exact h4.below hb⟩
/-- The state as it was, and an error. -/
theorem h15_no {w X : World} {v : Value} {s : St} {c : Int} (hv : StV w v s) (hb : Below w.heap.size w X) (a0 a1 a2 a3 a4 b0 b1 : Value) :
    DoSt w (((((((X.setCell ⟨w.heap.size + 1 + 1, 0, none⟩ a0).setCell ⟨w.heap.size + 1 + 1, 1, none⟩ a1).setCell ⟨w.heap.size + 1 + 1, 2, none⟩ a2).setCell ⟨w.heap.size + 1 + 1, 3, none⟩ a3).setCell ⟨w.heap.size + 1 + 1, 4, none⟩ a4).setCell ⟨w.heap.size + 1 + 1 + 1, 0, none⟩ b0).setCell ⟨w.heap.size + 1 + 1 + 1, 1, none⟩ b1) (s, ⟨c, 0⟩) (.returned (.tuple #[v, Rep.val ⟨c, 0⟩])) := by
  have h : Below w.heap.size w (((((((X.setCell ⟨w.heap.size + 1 + 1, 0, none⟩ a0).setCell ⟨w.heap.size + 1 + 1, 1, none⟩ a1).setCell ⟨w.heap.size + 1 + 1, 2, none⟩ a2).setCell ⟨w.heap.size + 1 + 1, 3, none⟩ a3).setCell ⟨w.heap.size + 1 + 1, 4, none⟩ a4).setCell ⟨w.heap.size + 1 + 1 + 1, 0, none⟩ b0).setCell ⟨w.heap.size + 1 + 1 + 1, 1, none⟩ b1) := by
    (repeat (first | (with_reducible refine below_drew ?_) | (with_reducible refine below_drewN ?_ _) | (with_reducible refine below_alloc ?_ _) | ((with_reducible refine Below.setCell ?_ ?_ _); rotate_left; (focus (first | (simp; done) | (simp; omega))))))
    exact hb
  exact ⟨h, v, rfl, hv.below h⟩
theorem opsDo_open (s : St) (r : Req) (h : r.op = 0) : opsDo s r = if s.accs.length ≥ 64 then (s, ⟨7, 0⟩) else ({ s with accs := s.accs ++ [⟨r.a, 0, 0⟩] }, ⟨0, s.accs.length⟩) := by
  unfold opsDo opsR
  rw [if_pos h]
  unfold deskOpen
  split <;> rename_i he <;> split at he <;> simp_all
/-- An error as a number. -/
theorem told_any (c : Int) (w : World) (hg : GT w) : Calls Tryd.prog 40 #[.iface 38 (.int .i64 c)] w fun e w' => e = .returned (Rep.val ⟨c, 0⟩) ∧ Below w.heap.size w w' := by
  have hg' := hg.below (below_alloc (Below.refl _ _) (.cells #[.int .i64 0, .int .i64 0] 40))
  have hj := Blk.new w 40 #[.int .i64 0, .int .i64 0]
  go_enter Tryd.func40, Tryd.ntmps40
  go_wp2_with fail
  refine (numErr c _ hg').mono ?_
  rintro e w1 ⟨rfl, hz⟩
  have hj1 := hj.next hz
  obtain ⟨j0, j1⟩ := hj1.c2
  have jf := hj1.frozen
  have hb := below_next (below_alloc (Below.refl _ _) (.cells #[.int .i64 0, .int .i64 0] 40)) hz
  go_wp2_with fail
  refine bodyPost_ret (res_cell rfl _ rfl agg_rep rfl hj1.chain2) rfl ⟨rfl, ?_⟩
  (repeat (first | (with_reducible refine below_drew ?_) | (with_reducible refine below_drewN ?_ _) | (with_reducible refine below_alloc ?_ _) | ((with_reducible refine Below.setCell ?_ ?_ _); rotate_left; (focus (first | (simp; done) | (simp; omega))))))
  exact hb
/-- Is an account a client's? -/
theorem client_any (k : Int) (g : Nat) (a p sg kn : Value) (now : Int) (xs : List Acc) (w : World) (hb : Blk w g 36 #[a, p, sg, kn, .int .i64 now]) (ha : Row w a xs) :
    Calls Tryd.prog 38 #[.int .i64 k, .pointer (some ⟨g, 0, none⟩)] w fun e w' => e = .returned (.bool (isCl xs k)) ∧ w' = w := by
  obtain ⟨A, c, rfl⟩ := ha.slice
  obtain ⟨s0, s1, s2, s3, s4⟩ := hb.c5
  by_cases h1 : 8 < k
  · by_cases h2 : k < xs.length
    · rw [isCl_yes (by omega) h2]
      go_enter Tryd.func38, Tryd.ntmps38
      go_wp2
      go_ret
      exact ⟨rfl, rfl⟩
    · rw [isCl_no (by omega)]
      have h2' : (xs.length : Int) ≤ k := by omega
      go_enter Tryd.func38, Tryd.ntmps38
      go_wp2
      go_ret
      exact ⟨rfl, rfl⟩
  · rw [isCl_no (by omega)]
    have h1' : k ≤ 8 := by omega
    go_enter Tryd.func38, Tryd.ntmps38
    go_wp2
    go_ret
    exact ⟨rfl, rfl⟩
end Go.Proofs.YthjmficglpfgpaaDoor
