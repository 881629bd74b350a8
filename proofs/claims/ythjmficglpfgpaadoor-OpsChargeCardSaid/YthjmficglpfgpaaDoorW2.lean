/- Entries that are balanced, posted, turned and made. -/
import Derived.Test.YthjmficglpfgpaaDoorW1
import Derived.Test.YthjmficglpfgpaaDoorArr
namespace Go.Proofs.YthjmficglpfgpaaDoor
set_option linter.unusedVariables false
set_option linter.unusedSimpArgs false
open Go Go.RowKit Enc
set_option maxRecDepth 100000

theorem psum_upto {xs : List Acc} {es : List Ent} (hB : Bal xs es) (k : Nat) (hk : k < es.length) (c : Int) (h0 : 0 ≤ c) (h3 : c < 3) :
    mayP (psum xs c (es.take k)) ∧ mayP (rd es k).amt ∧ psum xs c (es.take (k + 1)) = psum xs c (es.take k) + (if (rd xs (rd es k).acct).cur = c then (rd es k).amt else 0) ∧ mayP (psum xs c (es.take (k + 1))) :=
  ⟨hB.sums c k h0 h3 (by omega), hB.amt k hk, psum_take xs c es k hk, hB.sums c (k + 1) h0 h3 (by omega)⟩

def SumsAt (w : World) (g : Nat) (xs : List Acc) (es : List Ent) : Prop :=
  Blk w g 62 #[.int .i64 (psum xs 0 es), .int .i64 (psum xs 1 es), .int .i64 (psum xs 2 es)]
def BalRel (w : World) (xs : List Acc) (es : List Ent) (i : Value) (wr : World) : Prop :=
  ∃ k : Nat, k ≤ es.length ∧ i = .int .i64 k ∧ Below w.heap.size w wr ∧ SumsAt wr w.heap.size xs (es.take k)

theorem balanced_any (x y : Value) (xs : List Acc) (es : List Ent) (w : World) (h : Row w x xs) (hy : Row w y es) (hB : Bal xs es) :
    Calls Tryd.prog 71 #[x, y] w fun e w' => e = .returned (.bool true) ∧ Below w.heap.size w w' := by
  have hm := h.max
  have hm2 := hy.max
  obtain ⟨A, c, rfl⟩ := h.slice
  obtain ⟨A2, c2, rfl⟩ := hy.slice
  go_enter Tryd.func71, Tryd.ntmps71
  go_wp2
  go_loopw [15] (fun i wr => BalRel w xs es i wr) (fun i _ => es.length - (intOf i).toNat)
  case atStart => exact ⟨0, by omega, rfl, below_alloc (Below.refl _ _) _, Blk.new _ _ _⟩
  case round =>
    obtain ⟨k, hk, rfl, hb, hs⟩ := hrel
    by_cases hlt : k < es.length
    · have hac := hB.acct k hlt
      have hcu := hB.cur k hlt
      obtain ⟨b, o, c', hv, c1, c2, hl1⟩ := (hy.below hb).ent k hlt
      injection hv with hv1 _ hv3
      subst hv1 hv3
      obtain ⟨b2, o2, c3, hv, d1, d2, d3, hl2⟩ := (h.below hb).accI (rd es k).acct hac.1 hac.2
      injection hv with hv1 _ hv3
      subst hv1 hv3
      have g0 : wr.cell? ⟨w.heap.size, 0, none⟩ = _ := Blk.cell hs 0
      have g1 : wr.cell? ⟨w.heap.size, 1, none⟩ = _ := Blk.cell hs 1
      have g2 : wr.cell? ⟨w.heap.size, 2, none⟩ = _ := Blk.cell hs 2
      have f0 := Blk.frozen hs 0
      have f1 := Blk.frozen hs 1
      have f2 := Blk.frozen hs 2
      have hlw := Blk.lt hs
      simp at g0 g1 g2
      have hcc : (rd xs (rd es k).acct).cur = 0 ∨ (rd xs (rd es k).acct).cur = 1 ∨ (rd xs (rd es k).acct).cur = 2 := by omega
      obtain ⟨ha0, ha1⟩ := hac
      rcases hcc with hcc | hcc | hcc
      · rw [hcc] at d1
        have p0 := psum_upto hB k hlt 0 (by decide) (by decide)
        have p1 := psum_upto hB k hlt 1 (by decide) (by decide)
        have p2 := psum_upto hB k hlt 2 (by decide) (by decide)
        rw [hcc] at p0 p1 p2
        simp at p0 p1 p2
        have P0 := Lib.hid p0
        have P1 := Lib.hid p1
        have P2 := Lib.hid p2
        have a1 := p0.2.1
        unfold mayP at a1
        have m0 := Lib.hid (mayB_yes p0.2.1)
        clear p0 p1 p2 hcc hcu
        go_wp2_with (first | (go_at_call 67; refine (of_any _ xs _ _ (h.below (below_alloc hb _)) ha0 ha1).mono ?_; rintro e w' ⟨rfl, rfl⟩) | (go_at_call 94; refine (may_any _ _).mono ?_; rintro e w' ⟨rfl, rfl⟩; rw [m0.out]))
        go_quiet ((go_at_call 72; exact Calls.quiet_of_same (add_quiet _ _ _ P0.out.1 P0.out.2.1 (P0.out.2.2.1 ▸ P0.out.2.2.2))))
        go_wp2
        refine ⟨⟨k + 1, by omega, by go_num, (below_drewN (below_alloc hb _) nq).setCell (Nat.le_refl _) _, ?_⟩, by simp [intOf]; omega⟩
        unfold SumsAt at hs ⊢
        rw [P0.out.2.2.1, P1.out.2.2.1, P2.out.2.2.1]
        exact Blk.set_ (Blk.drewN (hs.alloc _) nq) 0 _
      · rw [hcc] at d1
        have p0 := psum_upto hB k hlt 0 (by decide) (by decide)
        have p1 := psum_upto hB k hlt 1 (by decide) (by decide)
        have p2 := psum_upto hB k hlt 2 (by decide) (by decide)
        rw [hcc] at p0 p1 p2
        simp at p0 p1 p2
        have P0 := Lib.hid p0
        have P1 := Lib.hid p1
        have P2 := Lib.hid p2
        have a1 := p0.2.1
        unfold mayP at a1
        have m0 := Lib.hid (mayB_yes p0.2.1)
        clear p0 p1 p2 hcc hcu
        go_wp2_with (first | (go_at_call 67; refine (of_any _ xs _ _ (h.below (below_alloc hb _)) ha0 ha1).mono ?_; rintro e w' ⟨rfl, rfl⟩) | (go_at_call 94; refine (may_any _ _).mono ?_; rintro e w' ⟨rfl, rfl⟩; rw [m0.out]))
        go_quiet ((go_at_call 72; exact Calls.quiet_of_same (add_quiet _ _ _ P1.out.1 P1.out.2.1 (P1.out.2.2.1 ▸ P1.out.2.2.2))))
        go_wp2
        refine ⟨⟨k + 1, by omega, by go_num, (below_drewN (below_alloc hb _) nq).setCell (Nat.le_refl _) _, ?_⟩, by simp [intOf]; omega⟩
        unfold SumsAt at hs ⊢
        rw [P0.out.2.2.1, P1.out.2.2.1, P2.out.2.2.1]
        exact Blk.set_ (Blk.drewN (hs.alloc _) nq) 1 _
      · rw [hcc] at d1
        have p0 := psum_upto hB k hlt 0 (by decide) (by decide)
        have p1 := psum_upto hB k hlt 1 (by decide) (by decide)
        have p2 := psum_upto hB k hlt 2 (by decide) (by decide)
        rw [hcc] at p0 p1 p2
        simp at p0 p1 p2
        have P0 := Lib.hid p0
        have P1 := Lib.hid p1
        have P2 := Lib.hid p2
        have a1 := p0.2.1
        unfold mayP at a1
        have m0 := Lib.hid (mayB_yes p0.2.1)
        clear p0 p1 p2 hcc hcu
        go_wp2_with (first | (go_at_call 67; refine (of_any _ xs _ _ (h.below (below_alloc hb _)) ha0 ha1).mono ?_; rintro e w' ⟨rfl, rfl⟩) | (go_at_call 94; refine (may_any _ _).mono ?_; rintro e w' ⟨rfl, rfl⟩; rw [m0.out]))
        go_quiet ((go_at_call 72; exact Calls.quiet_of_same (add_quiet _ _ _ P2.out.1 P2.out.2.1 (P2.out.2.2.1 ▸ P2.out.2.2.2))))
        go_wp2
        refine ⟨⟨k + 1, by omega, by go_num, (below_drewN (below_alloc hb _) nq).setCell (Nat.le_refl _) _, ?_⟩, by simp [intOf]; omega⟩
        unfold SumsAt at hs ⊢
        rw [P0.out.2.2.1, P1.out.2.2.1, P2.out.2.2.1]
        exact Blk.set_ (Blk.drewN (hs.alloc _) nq) 2 _
    · obtain rfl : k = es.length := by omega
      unfold SumsAt at hs
      rw [List.take_length, hB.zero 0 (by decide) (by decide), hB.zero 1 (by decide) (by decide), hB.zero 2 (by decide) (by decide)] at hs
      have g0 : wr.cell? ⟨w.heap.size, 0, none⟩ = _ := Blk.cell hs 0
      have g1 : wr.cell? ⟨w.heap.size, 1, none⟩ = _ := Blk.cell hs 1
      have g2 : wr.cell? ⟨w.heap.size, 2, none⟩ = _ := Blk.cell hs 2
      simp at g0 g1 g2
      have hq := eql_arr
      go_wp2
      go_ret
      exact ⟨rfl, hb⟩

/-! ### Posting -/
def post1 (xs : List Acc) (e : Ent) : Except Int (List Acc) :=
  if mayP ((rd xs e.acct).bal + e.amt) then .ok (upd xs e.acct { rd xs e.acct with bal := (rd xs e.acct).bal + e.amt }) else .error 4
def solvB (xs : List Acc) : Bool := (List.range xs.length).all fun k => decide (k < 9) || decide ((rd xs (k : Int)).held ≤ (rd xs (k : Int)).bal)
def post (xs : List Acc) (es : List Ent) : Except Int (List Acc) :=
  match es.foldlM post1 xs with
  | .error c => .error c
  | .ok out => if solvB out then .ok out else .error 3
theorem upd_len (xs : List Acc) (k : Int) (x : Acc) : (upd xs k x).length = xs.length := by simp [upd]
theorem rd_upd (xs : List Acc) (k j : Int) (x : Acc) (h0 : 0 ≤ j) (hj : j < xs.length) (hk : 0 ≤ k) : rd (upd xs k x) j = if j = k then x else rd xs j := by
  unfold rd upd
  by_cases h : j = k
  · subst h
    rw [if_pos rfl, List.getD_eq_getElem?_getD, List.getElem?_set_self (by omega)]
    rfl
  · rw [if_neg h, List.getD_eq_getElem?_getD, List.getElem?_set_ne (by omega), List.getD_eq_getElem?_getD]
theorem fold_take (xs : List Acc) (es : List Ent) (k : Nat) (h : k < es.length) : (es.take (k + 1)).foldlM post1 xs = ((es.take k).foldlM post1 xs).bind fun ys => post1 ys (rd es k) := by
  rw [take_rd es k h, List.foldlM_append]
  cases (es.take k).foldlM post1 xs with
  | error c => rfl
  | ok ys => show (List.foldlM post1 ys [rd es k]) = post1 ys (rd es k); simp
theorem fold_err (xs : List Acc) (es : List Ent) (k : Nat) (c : Int) (h : k ≤ es.length) (he : (es.take k).foldlM post1 xs = .error c) : es.foldlM post1 xs = .error c := by
  rw [← List.take_append_drop k es, List.foldlM_append, he]
  rfl
theorem ABs.upd {xs : List Acc} (h : ABs xs) {k : Int} (h0 : 0 ≤ k) {x : Acc} (hx : AB x) : ABs (upd xs k x) := by
  refine ⟨by rw [upd_len]; exact h.1, fun j hj hl => ?_⟩
  rw [upd_len] at hl
  rw [rd_upd xs k j x hj hl h0]
  split
  · exact hx
  · exact h.2 j hj hl

def PostRel (w : World) (v : Value) (xs : List Acc) (es : List Ent) (i : Value) (wr : World) : Prop :=
  ∃ k : Nat, k ≤ es.length ∧ i = .int .i64 k ∧ Below w.heap.size w wr ∧ ∃ cur, (es.take k).foldlM post1 xs = .ok cur ∧ Own wr w.heap.size 50 v cur ∧ cur.length = xs.length ∧ ABs cur
def SolvRel (w : World) (v : Value) (out : List Acc) (i : Value) (wr : World) : Prop :=
  ∃ k : Nat, k ≤ out.length ∧ i = .int .i64 k ∧ Below w.heap.size w wr ∧ Own wr w.heap.size 50 v out ∧ ∀ j : Nat, j < k → 9 ≤ j → (rd out (j : Int)).held ≤ (rd out (j : Int)).bal

theorem post_any (x y : Value) (xs : List Acc) (es : List Ent) (w : World) (h : Row w x xs) (hy : Row w y es) (hB : Bal xs es) (hA : ABs xs) :
    Calls Tryd.prog 41 #[x, y] w fun e w' => AccRes w w' (post xs es) e := by
  have hm := h.max
  have hm2 := hy.max
  obtain ⟨A, c, rfl⟩ := h.slice
  obtain ⟨A2, c2, rfl⟩ := hy.slice
  have hlen := hA.1
  go_enter Tryd.func41, Tryd.ntmps41
  go_wp2_with (first | (go_at_call 71; refine (balanced_any _ _ xs es _ h hy hB).mono ?_; rintro e w' ⟨rfl, hz⟩) | (go_at_call 58; refine (clone_any _ xs _ (h.below hz) (by omega)).mono ?_; rintro e w' ⟨v1, rfl, ho1, hz1⟩))
  have hz2 := below_next hz hz1
  have ho2 := ho1.lower hz.size
  clear ho1 hz1 hz
  go_loopw [22] (fun i wr => PostRel w v1 xs es i wr) (fun i _ => es.length - (intOf i).toNat)
  case atStart => exact ⟨0, by omega, rfl, hz2, xs, rfl, ho2, rfl, hA⟩
  case round =>
    obtain ⟨k, hk, rfl, hb, cur, hcur, hown, hlc, hAc⟩ := hrel
    clear ho2 hz2
    by_cases hlt : k < es.length
    · have hac := hB.acct k hlt
      have hft := fold_take xs es k hlt
      rw [hcur] at hft
      obtain ⟨b, o, c', hv, c1, c2, hl1⟩ := (hy.below hb).ent k hlt
      injection hv with hv1 _ hv3
      subst hv1 hv3
      obtain ⟨ha0, ha1⟩ := hac
      obtain ⟨b2, o2, c3, hvv, d1, d2, d3, f1, f2, hBb, hl2, os1, os2⟩ := hown.acc (rd es k).acct ha0 (by omega)
      subst hvv
      obtain ⟨hab, hah⟩ := hAc.2 (rd es k).acct ha0 (by omega)
      have hma := hB.amt k hlt
      have ha1' : (rd es k).acct < cur.length := by omega
      have HL := Lib.hid hlc
      clear hlc
      by_cases hp : mayP ((rd cur (rd es k).acct).bal + (rd es k).amt)
      · have hft2 : (es.take (k + 1)).foldlM post1 xs = .ok (upd cur (rd es k).acct { rd cur (rd es k).acct with bal := (rd cur (rd es k).acct).bal + (rd es k).amt }) := by
          rw [hft]; show post1 cur _ = _; unfold post1; rw [if_pos hp]
        have HP := Lib.hid hp
        have HM := Lib.hid hma
        have HF := Lib.hid hft2
        clear hft hft2 hcur hma hp
        unfold mayP at HP HM
        go_wp2
        go_quiet ((go_at_call 72; exact Calls.quiet_of_same (add_quiet _ _ _ hab HM.out HP.out)))
        go_wp2
        refine ⟨⟨k + 1, by omega, by go_num, (below_drewN (below_alloc hb _) nq).setCell hBb _, _, HF.out, Own.setBal (Own.drewN (hown.alloc _) nq) _ ha0 (by omega) _, by rw [upd_len]; exact HL.out, hAc.upd ha0 ⟨HP.out, hah⟩⟩, by simp [intOf]; omega⟩
      · have hft2 : es.foldlM post1 xs = .error 4 := fold_err xs es (k + 1) 4 (by omega) (by rw [hft]; show post1 cur _ = _; unfold post1; rw [if_neg hp])
        have hr := Lib.hid (show post xs es = .error 4 by unfold post; rw [hft2])
        have HP := Lib.hid hp
        have HM := Lib.hid hma
        clear hft hft2 hcur hma hp
        go_wp2
        go_quiet ((go_at_call 72; exact Calls.quiet_of_same (add_noq _ _ _ hab HM.out HP.out)))
        go_wp2
        go_ret2
        rw [hr.out]
        exact ⟨below_drewN (below_alloc hb _) nq, rfl⟩
    · obtain rfl : k = es.length := by omega
      rw [List.take_length] at hcur
      have Hcur := Lib.hid hcur
      clear hcur hm2 hlt hk
      obtain ⟨A3, c3, rfl⟩ := hown.row.slice
      clear hlc
      have hm3 := hown.row.max
      go_wp2
      go_loopw [50] (fun i wr => SolvRel w (.slice A3 cur.length c3) cur i wr) (fun i _ => cur.length - (intOf i).toNat)
      case atStart => exact ⟨0, by omega, rfl, hb, hown, fun j hj => by omega⟩
      case round =>
        clear hown hb
        obtain ⟨k, hk, rfl, hb, hown, hs⟩ := hrel
        by_cases hlt : k < cur.length
        · obtain ⟨b, o, c', hv, c1, c2, c3, hl1⟩ := hown.row.acc k hlt
          injection hv with hv1 _ hv3
          subst hv1 hv3
          obtain ⟨hab, hah⟩ := hAc.2 k (by omega) (by omega)
          by_cases h9 : 9 ≤ k
          · have hd := Lib.hid (isCl_yes (xs := cur) (k := (k : Int)) (by omega) (by omega))
            by_cases hf : (rd cur (k : Int)).bal - (rd cur (k : Int)).held < 0
            · have hsol : solvB cur = false := by
                unfold solvB
                rw [List.all_eq_false]
                exact ⟨k, List.mem_range.2 hlt, by simp; omega⟩
              have hr := Lib.hid (show post xs es = .error 3 by unfold post; rw [Hcur.out]; simp [hsol])
              clear hsol Hcur
              go_wp2_with (first | (go_at_call 57; refine (isClient_any _ cur _ _ (hown.row.alloc _)).mono ?_; rintro e w' ⟨rfl, rfl⟩; rw [hd.out]) | (go_at_call 18; refine (free_any (rd cur (k : Int)) _ hab hah).mono ?_; rintro e w' ⟨rfl, hz⟩))
              go_ret2
              rw [hr.out]
              exact ⟨below_next (below_alloc hb _) hz, rfl⟩
            · go_wp2_with (first | (go_at_call 57; refine (isClient_any _ cur _ _ (hown.row.alloc _)).mono ?_; rintro e w' ⟨rfl, rfl⟩; rw [hd.out]) | (go_at_call 18; refine (free_any (rd cur (k : Int)) _ hab hah).mono ?_; rintro e w' ⟨rfl, hz⟩))
              exact ⟨⟨k + 1, by omega, by go_num, below_next (below_alloc hb _) hz, (hown.alloc _).below hz, fun j hj h9 => by rcases Nat.lt_succ_iff_lt_or_eq.1 hj with hj | rfl; exact hs j hj h9; omega⟩, by simp [intOf]; omega⟩
          · have hd := Lib.hid (isCl_no (xs := cur) (k := (k : Int)) (by omega))
            go_wp2_with (first | (go_at_call 57; refine (isClient_any _ cur _ _ (hown.row.alloc _)).mono ?_; rintro e w' ⟨rfl, rfl⟩; rw [hd.out]) | (go_at_call 18; refine (free_any (rd cur (k : Int)) _ hab hah).mono ?_; rintro e w' ⟨rfl, hz⟩))
            exact ⟨⟨k + 1, by omega, by go_num, below_alloc hb _, hown.alloc _, fun j hj h9' => by rcases Nat.lt_succ_iff_lt_or_eq.1 hj with hj | rfl; exact hs j hj h9'; omega⟩, by simp [intOf]; omega⟩
        · have hsol : solvB cur = true := by
            unfold solvB
            rw [List.all_eq_true]
            intro j hj
            have hj' := List.mem_range.1 hj
            by_cases h9 : j < 9
            · simp [h9]
            · simp [h9]; exact hs j (by omega) (by omega)
          have hr := Lib.hid (show post xs es = .ok cur by unfold post; rw [Hcur.out]; simp [hsol])
          clear hsol Hcur
          go_wp2
          go_ret2
          rw [hr.out]
          exact ⟨hb, _, rfl, hown⟩
end Go.Proofs.YthjmficglpfgpaaDoor
