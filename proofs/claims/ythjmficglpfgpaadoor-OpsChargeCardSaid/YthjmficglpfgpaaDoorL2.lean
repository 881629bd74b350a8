/- The same accounts; the same state. -/
import Derived.Test.YthjmficglpfgpaaDoorL1
import Derived.Test.YthjmficglpfgpaaDoorEq
namespace Go.Proofs.YthjmficglpfgpaaDoor
set_option linter.unusedVariables false
set_option linter.unusedSimpArgs false
open Go Go.RowKit Enc
set_option maxRecDepth 100000
set_option maxHeartbeats 800000

/-- A test that only reads. -/
def Tells (P : Prop) [Decidable P] (w w' : World) (e : Ending) : Prop := e = .returned (.bool (decide P)) ∧ ∃ n, w' = w.drewN n
theorem Tells.below {P : Prop} [Decidable P] {w w' : World} {e : Ending} (h : Tells P w w' e) : Below w.heap.size w w' := by
  obtain ⟨_, n, rfl⟩ := h
  exact below_drewN (Below.refl _ _) n
def SameRel {α : Type} [Inhabited α] (w : World) (xs ys : List α) (i : Value) (wr : World) : Prop := ∃ k : Nat, k ≤ xs.length ∧ i = .int .i64 k ∧ (∃ n, wr = w.drewN n) ∧ ∀ j : Int, 0 ≤ j → j < k → rd xs j = rd ys j
theorem drewN_drew (w : World) (n : Nat) : ∃ m, (w.drewN n).drew = w.drewN m := ⟨n + 1, rfl⟩
theorem drewN_drewN (w : World) (n m : Nat) : ∃ k, (w.drewN n).drewN m = w.drewN k := ⟨n + m, by simp [World.drewN, Nat.add_assoc]⟩
theorem same_accs (a b : Value) (xs ys : List Acc) (w : World) (ha : Row w a xs) (hb : Row w b ys) : Calls Tryd.prog 46 #[a, b] w fun e w' => Tells (xs = ys) w w' e := by
  have hm := ha.max
  have hm2 := hb.max
  obtain ⟨A, c, hav⟩ := ha.slice
  obtain ⟨A2, c2, hbv⟩ := hb.slice
  subst hav hbv
  by_cases hl : xs.length = ys.length
  rotate_left
  · have hn := Lib.hid (show ¬ xs = ys from fun h => hl (h ▸ rfl))
    have hlb : ((xs.length : Int) != ys.length) = true := by rw [bne_iff_ne]; omega
    clear hl
    go_enter Tryd.func46, Tryd.ntmps46
    go_wp2
    go_ret
    exact ⟨by rw [decide_eq_false hn.out]; rfl, 0, rfl⟩
  · have hlb : ((xs.length : Int) != ys.length) = false := by simp [hl]
    have HL := Lib.hid hl
    clear hl
    have hq := neq_acc
    go_enter Tryd.func46, Tryd.ntmps46
    go_wp2
    go_loopw [13] (fun i wr => SameRel w xs ys i wr) (fun i _ => xs.length - (intOf i).toNat)
    case atStart => exact ⟨0, by omega, rfl, ⟨0, rfl⟩, fun j h0 h1 => by omega⟩
    case round =>
      obtain ⟨k, hk, rfl, ⟨n, rfl⟩, hall⟩ := hrel
      have HA := Lib.hid hall
      clear hall
      by_cases hlt : k < xs.length
      · have hlt2 : k < ys.length := by have := HL.out; omega
        obtain ⟨b1, o1, c1', hv, x0, x1, x2, l1⟩ := ha.acc k hlt
        injection hv with hv1 _ hv3
        subst hv1 hv3
        obtain ⟨b2, o2, c2', hv, y0, y1, y2, l2⟩ := hb.acc k hlt2
        injection hv with hv1 _ hv3
        subst hv1 hv3
        have i0 : (0 : Int) ≤ (k : Int) := by omega
        have i1 : (k : Int) < (xs.length : Int) := by omega
        have i2 : (k : Int) < (ys.length : Int) := by omega
        clear hq
        by_cases he : rd xs (k : Int) = rd ys (k : Int)
        · have hq1 := fun w => (neq_acc (rd xs (k : Int)) (rd ys (k : Int)) w).trans (by rw [decide_eq_false (fun h => h he)])
          have HE := Lib.hid he
          clear he
          go_wp2
          go_quiet (fail)
          go_wp2
          exact ⟨⟨k + 1, by omega, by go_num, ⟨_, rfl⟩, fun j j0 hj => by
            rcases Int.lt_or_le j k with h | h
            · exact HA.out j j0 h
            · rw [show j = (k : Int) by omega]; exact HE.out⟩, by simp [intOf]; omega⟩
        · have hq1 := fun w => (neq_acc (rd xs (k : Int)) (rd ys (k : Int)) w).trans (by rw [decide_eq_true he])
          have hn := Lib.hid (show ¬ xs = ys from fun h => he (h ▸ rfl))
          clear he
          go_wp2
          go_quiet (fail)
          go_wp2
          go_ret
          exact ⟨by rw [decide_eq_false hn.out]; rfl, by first | exact ⟨_, rfl⟩ | exact drewN_drewN w n nq⟩
      · have hy := Lib.hid (show xs = ys from rd_ext HL.out fun j j0 hj => HA.out j j0 (by omega))
        have i1 : (xs.length : Int) ≤ (k : Int) := by omega
        go_wp2
        go_ret
        exact ⟨by rw [decide_eq_true hy.out]; rfl, n, rfl⟩
/-- The same accounts, payments, and time. -/
def SameP (s t : St) : Prop := s.accs = t.accs ∧ s.pays = t.pays ∧ s.now = t.now
instance (s t : St) : Decidable (SameP s t) := by unfold SameP; infer_instance
def TellsB (P : Prop) [Decidable P] (w w' : World) (e : Ending) : Prop := e = .returned (.bool (decide P)) ∧ Below w.heap.size w w'
theorem same_st (v u : Value) (s t : St) (w : World) (hv : StV w v s) (hu : StV w u t) : Calls Tryd.prog 16 #[v, u] w fun e w' => TellsB (SameP s t) w w' e := by
  obtain ⟨xs, ps, gs, ks, now⟩ := s
  obtain ⟨ys, qs, hs, ls, then_⟩ := t
  obtain ⟨a, p, g, k, rfl, ha, hp, hg, hk⟩ := hv
  obtain ⟨a', p', g', k', rfl, ha', hp', hg', hk'⟩ := hu
  obtain ⟨A1, c1, rfl⟩ := ha.slice
  obtain ⟨A2, c2, rfl⟩ := hp.slice
  obtain ⟨A3, c3, rfl⟩ := hg.slice
  obtain ⟨A4, c4, rfl⟩ := hk.slice
  obtain ⟨B1, d1, rfl⟩ := ha'.slice
  obtain ⟨B2, d2, rfl⟩ := hp'.slice
  obtain ⟨B3, d3, rfl⟩ := hg'.slice
  obtain ⟨B4, d4, rfl⟩ := hk'.slice
  have hm := hp.max
  have hm2 := hp'.max
  simp only at *
  clear hg hk hg' hk'
  generalize hW : (w.alloc (.cells #[.slice A1 xs.length c1, .slice A2 ps.length c2, .slice A3 gs.length c3, .slice A4 ks.length c4, .int .i64 now] 36)).alloc (.cells #[.slice B1 ys.length d1, .slice B2 qs.length d2, .slice B3 hs.length d3, .slice B4 ls.length d4, .int .i64 then_] 36) = W
  have hbW : Below w.heap.size w W := by subst hW; exact below_alloc (below_alloc (Below.refl _ _) _) _
  have hx : Blk W w.heap.size 36 #[.slice A1 xs.length c1, .slice A2 ps.length c2, .slice A3 gs.length c3, .slice A4 ks.length c4, .int .i64 now] := by subst hW; exact (Blk.new _ _ _).alloc _
  have hy : Blk W (w.heap.size + 1) 36 #[.slice B1 ys.length d1, .slice B2 qs.length d2, .slice B3 hs.length d3, .slice B4 ls.length d4, .int .i64 then_] := by subst hW; exact Blk.new1 _ _ _ _
  have HW := Lib.hid hW
  clear hW
  replace ha := ha.below hbW
  replace hp := hp.below hbW
  replace ha' := ha'.below hbW
  replace hp' := hp'.below hbW
  obtain ⟨x0, x1, x2, x3, x4⟩ := hx.c5
  obtain ⟨y0, y1, y2, y3, y4⟩ := hy.c5
  have HS := Lib.hid (same_accs (.slice A1 xs.length c1) (.slice B1 ys.length d1) xs ys W ha ha')
  by_cases h1 : xs = ys
  rotate_left
  · have hn := Lib.hid (show ¬ SameP ⟨xs, ps, gs, ks, now⟩ ⟨ys, qs, hs, ls, then_⟩ from fun h => h1 h.1)
    have H1 := Lib.hid (decide_eq_false h1)
    clear h1
    go_enter Tryd.func16, Tryd.ntmps16
    go_wp2_with fail
    rw [HW.out]
    go_wp2_with fail
    refine HS.out.mono ?_
    rintro e w' ⟨rfl, n, rfl⟩
    rw [H1.out]
    go_wp2
    go_ret
    exact ⟨by rw [decide_eq_false hn.out]; rfl, below_drewN hbW _⟩
  by_cases h2 : ps.length = qs.length
  rotate_left
  · have hn := Lib.hid (show ¬ SameP ⟨xs, ps, gs, ks, now⟩ ⟨ys, qs, hs, ls, then_⟩ from fun h => h2 (congrArg List.length h.2.1))
    have H1 := Lib.hid (decide_eq_true h1)
    have h2b : ((ps.length : Int) != qs.length) = true := by rw [bne_iff_ne]; omega
    clear h1 h2
    go_enter Tryd.func16, Tryd.ntmps16
    go_wp2_with fail
    rw [HW.out]
    go_wp2_with fail
    refine HS.out.mono ?_
    rintro e w' ⟨rfl, n, rfl⟩
    rw [H1.out]
    go_wp2
    go_ret
    exact ⟨by rw [decide_eq_false hn.out]; rfl, below_drewN hbW _⟩
  have h2b : ((ps.length : Int) != qs.length) = false := by simp [h2]
  by_cases h3 : now = then_
  rotate_left
  · have hn := Lib.hid (show ¬ SameP ⟨xs, ps, gs, ks, now⟩ ⟨ys, qs, hs, ls, then_⟩ from fun h => h3 h.2.2)
    have H1 := Lib.hid (decide_eq_true h1)
    have h3b : (now != then_) = true := by rw [bne_iff_ne]; exact h3
    clear h1 h2 h3
    go_enter Tryd.func16, Tryd.ntmps16
    go_wp2_with fail
    rw [HW.out]
    go_wp2_with fail
    refine HS.out.mono ?_
    rintro e w' ⟨rfl, n, rfl⟩
    rw [H1.out]
    go_wp2
    go_ret
    exact ⟨by rw [decide_eq_false hn.out]; rfl, below_drewN hbW _⟩
  have h3b : (now != then_) = false := by simp [h3]
  have H1 := Lib.hid (decide_eq_true h1)
  have HL := Lib.hid h2
  have H1' := Lib.hid h1
  have H3 := Lib.hid h3
  clear h1 h2 h3
  go_enter Tryd.func16, Tryd.ntmps16
  go_wp2_with fail
  rw [HW.out]
  go_wp2_with fail
  refine HS.out.mono ?_
  rintro e w' ⟨rfl, m, rfl⟩
  rw [H1.out]
  go_wp2
  go_loopw [31] (fun i wr => SameRel W ps qs i wr) (fun i _ => ps.length - (intOf i).toNat)
  case atStart => exact ⟨0, by omega, rfl, ⟨m, rfl⟩, fun j h0 h1 => by omega⟩
  case round =>
    obtain ⟨k, hk, rfl, ⟨n, rfl⟩, hall⟩ := hrel
    have HA := Lib.hid hall
    clear hall
    by_cases hlt : k < ps.length
    · have hlt2 : k < qs.length := by have := HL.out; omega
      obtain ⟨b1, o1, c1', hv, z0, z1, z2, z3, z4, z5, z6, z7, l1⟩ := hp.pay k hlt
      injection hv with hv1 _ hv3
      subst hv1 hv3
      obtain ⟨b2, o2, c2', hv, r0, r1, r2, r3, r4, r5, r6, r7, l2⟩ := hp'.pay k hlt2
      injection hv with hv1 _ hv3
      subst hv1 hv3
      have i0 : (0 : Int) ≤ (k : Int) := by omega
      have i1 : (k : Int) < (ps.length : Int) := by omega
      have i2 : (k : Int) < (qs.length : Int) := by omega
      by_cases he : rd ps (k : Int) = rd qs (k : Int)
      · have hq1 := fun w => (neq_pay (rd ps (k : Int)) (rd qs (k : Int)) w).trans (by rw [decide_eq_false (fun h => h he)])
        have HE := Lib.hid he
        clear he
        go_wp2
        go_quiet (fail)
        go_wp2
        exact ⟨⟨k + 1, by omega, by go_num, by first | exact ⟨_, rfl⟩ | exact drewN_drewN _ n nq, fun j j0 hj => by
          rcases Int.lt_or_le j k with h | h
          · exact HA.out j j0 h
          · rw [show j = (k : Int) by omega]; exact HE.out⟩, by simp [intOf]; omega⟩
      · have hq1 := fun w => (neq_pay (rd ps (k : Int)) (rd qs (k : Int)) w).trans (by rw [decide_eq_true he])
        have hn := Lib.hid (show ¬ SameP ⟨xs, ps, gs, ks, now⟩ ⟨ys, qs, hs, ls, then_⟩ from fun h => he (by rw [show ps = qs from h.2.1]))
        clear he
        go_wp2
        go_quiet (fail)
        go_wp2
        go_ret
        exact ⟨by rw [decide_eq_false hn.out]; rfl, by (repeat (first | (with_reducible refine below_drew ?_) | (with_reducible refine below_drewN ?_ _) | (with_reducible refine below_alloc ?_ _) | ((with_reducible refine Below.setCell ?_ ?_ _); rotate_left; (focus (first | (simp; done) | (simp; omega)))))); exact hbW⟩
    · have hy := Lib.hid (show SameP ⟨xs, ps, gs, ks, now⟩ ⟨ys, qs, hs, ls, then_⟩ from ⟨H1'.out, rd_ext HL.out fun j j0 hj => HA.out j j0 (by have hj : j < (ps.length : Int) := hj; omega), H3.out⟩)
      have i1 : (ps.length : Int) ≤ (k : Int) := by omega
      go_wp2
      go_ret
      exact ⟨by rw [decide_eq_true hy.out]; rfl, by (repeat (first | (with_reducible refine below_drew ?_) | (with_reducible refine below_drewN ?_ _) | (with_reducible refine below_alloc ?_ _) | ((with_reducible refine Below.setCell ?_ ?_ _); rotate_left; (focus (first | (simp; done) | (simp; omega)))))); exact hbW⟩
end Go.Proofs.YthjmficglpfgpaaDoor
