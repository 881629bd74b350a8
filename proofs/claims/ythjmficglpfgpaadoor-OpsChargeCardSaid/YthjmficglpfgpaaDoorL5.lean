/- Accounts by numbers. -/
import Derived.Test.YthjmficglpfgpaaDoorL4
namespace Go.Proofs.YthjmficglpfgpaaDoor
set_option linter.unusedVariables false
set_option linter.unusedSimpArgs false
open Go Go.RowKit Enc
set_option maxRecDepth 100000
set_option maxHeartbeats 1600000

structure U8 where
  n : Int
  deriving DecidableEq, Inhabited
instance : Enc U8 where
  sz := 1
  enc x := [.int .u8 x.n]
  len _ := rfl
  one x u h := by simp only [List.mem_cons, List.not_mem_nil, or_false] at h; subst h; rfl
  pos := by decide
structure U32 where
  n : Int
  deriving DecidableEq, Inhabited
instance : Enc U32 where
  sz := 1
  enc x := [.int .u32 x.n]
  len _ := rfl
  one x u h := by simp only [List.mem_cons, List.not_mem_nil, or_false] at h; subst h; rfl
  pos := by decide
theorem Row.u8 {w : World} {v : Value} {xs : List U8} (h : Row w v xs) (k : Nat) (hk : k < xs.length) : ∃ b o c, v = .slice (some ⟨b, o, none⟩) xs.length c ∧ w.cell? ⟨b, o + k, none⟩ = some (.int .u8 (rd xs k).n) ∧ b < w.heap.size := by
  obtain ⟨b, o, c, hv, hc⟩ := h.at k hk
  have h0 : w.cell? ⟨b, o + k, none⟩ = some (.int .u8 (rd xs k).n) := by
    have := hc 0 _ rfl
    simpa [sz] using this
  exact ⟨b, o, c, hv, h0, cell_lt h0⟩
theorem Row.u32 {w : World} {v : Value} {xs : List U32} (h : Row w v xs) (k : Nat) (hk : k < xs.length) : ∃ b o c, v = .slice (some ⟨b, o, none⟩) xs.length c ∧ w.cell? ⟨b, o + k, none⟩ = some (.int .u32 (rd xs k).n) ∧ b < w.heap.size := by
  obtain ⟨b, o, c, hv, hc⟩ := h.at k hk
  have h0 : w.cell? ⟨b, o + k, none⟩ = some (.int .u32 (rd xs k).n) := by
    have := hc 0 _ rfl
    simpa [sz] using this
  exact ⟨b, o, c, hv, h0, cell_lt h0⟩
def nums8 (xs : List U8) : List Int := xs.map U8.n
def nums32 (xs : List U32) : List Int := xs.map U32.n
theorem rd_nums8 (xs : List U8) (k : Nat) (h : k < xs.length) : rd (nums8 xs) (k : Int) = (rd xs (k : Int)).n := by
  rw [rd_nat _ k (by simpa [nums8] using h), rd_nat xs k h]; simp [nums8]
theorem rd_nums32 (xs : List U32) (k : Nat) (h : k < xs.length) : rd (nums32 xs) (k : Int) = (rd xs (k : Int)).n := by
  rw [rd_nat _ k (by simpa [nums32] using h), rd_nat xs k h]; simp [nums32]
theorem bookFrom_snoc (has : List Int) : ∀ (cs : List Int) (az : List Acc) (i c : Int), bookFrom has az i (cs ++ [c]) = bookStep has (bookFrom has az i cs) (i + cs.length) c
  | [], az, i, c => by simp [bookFrom]
  | d :: cs, az, i, c => by
    have := bookFrom_snoc has cs (bookStep has az i d) (i + 1) c
    simp only [List.cons_append, bookFrom, this, List.length_cons]
    rw [show i + 1 + (cs.length : Int) = i + ((cs.length + 1 : Nat) : Int) by omega]
def bookTo (cs : List U8) (has : List U32) (k : Nat) : List Acc := bookFrom (nums32 has) house 0 ((nums8 cs).take k)
theorem bookTo_succ (cs : List U8) (has : List U32) (k : Nat) (h : k < cs.length) : bookTo cs has (k + 1) = bookStep (nums32 has) (bookTo cs has k) k (rd cs (k : Int)).n := by
  unfold bookTo
  have hl : k < (nums8 cs).length := by simpa [nums8] using h
  rw [List.take_succ_eq_append_getElem hl, bookFrom_snoc, List.length_take, Nat.min_eq_left (by omega), ← rd_nums8 cs k h, rd_nat _ k hl]
  simp
theorem bookTo_bk (cs : List U8) (has : List U32) (k : Nat) (h : k ≤ cs.length) : Bk (bookTo cs has k) k := by
  have := bookFrom_bk (nums32 has) ((nums8 cs).take k) house 0 0 house_bk (by decide)
  rw [List.length_take, Nat.min_eq_left (by simpa [nums8] using h)] at this
  simpa [bookTo] using this
def houseTo (k : Nat) : List Acc := house.take k ++ List.replicate (9 - k) ⟨0, 0, 0⟩
theorem houseTo_len : ∀ k : Nat, k ≤ 9 → (houseTo k).length = 9 := by decide
theorem houseTo_set : ∀ k : Nat, k < 9 → (houseTo k).set k ⟨(k : Int) / 3, 0, 0⟩ = houseTo (k + 1) := by decide
theorem houseTo_rd : ∀ k : Nat, k < 9 → (houseTo k)[k]? = some ⟨0, 0, 0⟩ := by decide
theorem make9 (w : World) : (Instr.makeSlice 31 (.int .i64 9) (.int .i64 9)).run Tryd.prog w = .ok (.slice (some ⟨w.heap.size, 0, none⟩) 9 9) (w.alloc (.cells #[.int .i64 0, .int .i64 0, .int .i64 0, .int .i64 0, .int .i64 0, .int .i64 0, .int .i64 0, .int .i64 0, .int .i64 0, .int .i64 0, .int .i64 0, .int .i64 0, .int .i64 0, .int .i64 0, .int .i64 0, .int .i64 0, .int .i64 0, .int .i64 0, .int .i64 0, .int .i64 0, .int .i64 0, .int .i64 0, .int .i64 0, .int .i64 0, .int .i64 0, .int .i64 0, .int .i64 0] 50)) := by kernel_rfl
theorem Own.setCur {w : World} {B e b o n c : Nat} {xs : List Acc} (h : Own w B e (.slice (some ⟨b, o, none⟩) n c) xs) (k : Nat) (hk : k < xs.length) :
    (∃ u, w.cell? ⟨b, o + k * 3, none⟩ = some u) ∧ w.frozen? ⟨b, o + k * 3, none⟩ = false ∧ B ≤ b ∧ b < w.heap.size ∧ Hid (∀ z, Own (w.setCell ⟨b, o + k * 3, none⟩ (.int .i64 z)) B e (.slice (some ⟨b, o, none⟩) n c) (xs.set k { rd xs (k : Int) with cur := z })) := by
  obtain ⟨b', o', c', hv, c1, c2, c3, hl⟩ := h.row.acc k hk
  injection hv with e1 e2 e3
  injection e1 with e1
  injection e1 with e4 e5
  subst e2 e3 e4 e5
  have s1 := fun z => h.set k hk 0 (by decide) (.int .i64 z) { rd xs (k : Int) with cur := z } (by rw [rd_nat xs k hk]; rfl) rfl
  simp only [Nat.add_zero] at s1
  exact ⟨⟨_, c1⟩, (s1 0).2.1, (s1 0).2.2, hl, fun z => (s1 z).1⟩
def HouseRel (W : World) (v i : Value) (wr : World) : Prop := ∃ k : Nat, k ≤ 9 ∧ i = .int .i64 k ∧ Below W.heap.size W wr ∧ Own wr W.heap.size 50 v (houseTo k)
def BookRel (W : World) (cs : List U8) (has : List U32) (v i : Value) (wr : World) : Prop := ∃ k : Nat, k ≤ cs.length ∧ i = .int .i64 k ∧ Below W.heap.size W wr ∧ Own wr W.heap.size 50 v (bookTo cs has k)
theorem book_any (vc vh : Value) (cs : List U8) (has : List U32) (w : World) (hc : Row w vc cs) (hh : Row w vh has) (hl : cs.length ≤ 8) (h8 : ∀ c ∈ cs, 0 ≤ c.n ∧ c.n < 256) (h32 : ∀ x ∈ has, 0 ≤ x.n ∧ x.n < 4294967296) :
    Calls Tryd.prog 33 #[.agg #[vc, vh, .slice none 0 0]] w fun e w' => ∃ v, e = .returned v ∧ Own w' w.heap.size 50 v (bookTo cs has cs.length) ∧ Below w.heap.size w w' := by
  obtain ⟨A1, c1, rfl⟩ := hc.slice
  obtain ⟨A2, c2, rfl⟩ := hh.slice
  have hm2 := hh.max
  have hmk := make9
  have hbW := below_alloc (Below.refl w.heap.size w) (.cells #[.slice A1 cs.length c1, .slice A2 has.length c2, .slice none 0 0] 25)
  have hbx := Blk.new w 25 #[.slice A1 cs.length c1, .slice A2 has.length c2, .slice none 0 0]
  replace hc := hc.below hbW
  replace hh := hh.below hbW
  have hsz : (w.alloc (.cells #[.slice A1 cs.length c1, .slice A2 has.length c2, .slice none 0 0] 25)).heap.size = w.heap.size + 1 := by simp
  go_enter Tryd.func33, Tryd.ntmps33
  go_wp2
  generalize w.alloc (.cells #[.slice A1 cs.length c1, .slice A2 has.length c2, .slice none 0 0] 25) = W at *
  rw [← hsz]
  have HSZ := Lib.hid hsz
  clear hsz
  go_loopw [11] (fun i wr => HouseRel W (.slice (some ⟨W.heap.size, 0, none⟩) 9 9) i wr) (fun i _ => 9 - (intOf i).toNat)
  case atStart => exact ⟨0, by omega, rfl, below_alloc (Below.refl _ _) _, Own.of_blk (Blk.new W _ _) (Nat.le_refl _) (by rfl) (by rfl) (by decide) (by simp [maxLen])⟩
  case round =>
    obtain ⟨k, hk, rfl, hb, hown⟩ := hrel
    by_cases hlt : k < 9
    · obtain ⟨⟨u, x0⟩, xf, hB, hl2, hset⟩ := hown.setCur k (by rw [houseTo_len k hk]; exact hlt)
      have hrd : rd (houseTo k) (k : Int) = ⟨0, 0, 0⟩ := by rw [rd_nat _ k (by rw [houseTo_len k hk]; exact hlt)]; have := houseTo_rd k hlt; rw [List.getElem?_eq_some_iff] at this; exact this.2
      have hst := Lib.hid (houseTo_set k hlt)
      have HRD := Lib.hid hrd
      clear hrd
      rw [Nat.zero_add] at x0 xf
      go_wp2
      refine ⟨⟨k + 1, by omega, by go_num, hb.setCell hB _, ?_⟩, by simp [intOf]; omega⟩
      have := hset.out ((k : Int) / 3)
      rw [HRD.out, Nat.zero_add] at this
      rw [← hst.out]
      exact this
    · obtain rfl : k = 9 := by omega
      have hown' : Own wr W.heap.size 50 (.slice (some ⟨W.heap.size, 0, none⟩) 9 9) (bookTo cs has 0) := by simpa [houseTo, bookTo, bookFrom, house] using hown
      clear hown
      obtain ⟨x0, x1, x2⟩ := (hbx.next hb).c3
      rw [show ((9 : Nat) : Int) = 9 from rfl]
      have hbk0 := bookTo_bk cs has
      have hsucc := Lib.hid (bookTo_succ cs has)
      go_wp2
      go_loopw [3, 24] (fun v i wr => BookRel W cs has v i wr) (fun _ i _ => cs.length - (intOf i).toNat)
      case atStart => exact ⟨0, by omega, rfl, hb, hown'⟩
      case round =>
        clear hb hown' x0 x1 x2
        obtain ⟨k, hk, rfl, hb, hown⟩ := hrel
        have hbk := hbk0 k hk
        clear hbk0
        by_cases hlt : k < cs.length
        · have hk8 : k < 8 := by omega
          have hsu := Lib.hid (hsucc.out k hlt)
          obtain ⟨n0, n1⟩ := h8 _ (rd_mem cs k (by omega) (by omega))
          obtain ⟨b4, o4, c4, hv, z0, lz⟩ := hc.u8 k hlt
          injection hv with hv1 _ hv3
          subst hv1 hv3
          replace z0 := cell_below hb z0
          obtain ⟨x0, x1, x2⟩ := (hbx.next hb).c3
          have lx := (hbx.next hb).lt
          generalize hcn : (rd cs (k : Int)).n = cn at *
          clear hcn
          have hal := hbk.len
          have hlen : ((bookTo cs has k).length : Int) = 9 + k := hal
          have hbh := hbk.house (3 * (cn % 3)) (by omega) (by omega)
          have HL := Lib.hid hlen
          clear hlen hal hsucc
          have i0 : 0 ≤ 3 * (cn % 3) := by omega
          have i1 : 3 * (cn % 3) < ((bookTo cs has k).length : Int) := by have := HL.out; omega
          have kk : (k : Int) < 8 := by omega
          have kn0 : decide ((k : Int) < 0) = false := by simp
          have kne : ((k : Int) == 8) = false := by simp; omega
          have hcm0 : 0 ≤ cn % 3 := by omega
          have hcm1 : cn % 3 < 3 := by omega
          obtain ⟨A, c, rfl⟩ := hown.row.slice
          by_cases hh2 : k < has.length
          · obtain ⟨b5, o5, c5, hv, y0, ly⟩ := hh.u32 k hh2
            injection hv with hv1 _ hv3
            subst hv1 hv3
            replace y0 := cell_below hb y0
            have ly5 : b5 < wr.heap.size := cell_lt y0
            obtain ⟨m0, m1⟩ := h32 _ (rd_mem has k (by omega) (by omega))
            have hha := Lib.hid (show hasAt (nums32 has) k = (rd has (k : Int)).n % 100000 by
              unfold hasAt
              rw [if_pos (by simp [nums32]; omega), rd_nums32 has k hh2])
            generalize hmn : (rd has (k : Int)).n = mn at *
            clear hmn
            have j0 : 0 ≤ mn % 100000 := by omega
            have j1 : mn % 100000 < 100000 := by omega
            have hh3 : (k : Int) < has.length := by omega
            go_wp2_with fail
            have hX := hown.alloc (.cells #[.int .i64 (cn % 3), .int .i64 (mn % 100000), .int .i64 0] 50)
            have hbX := below_alloc hb (.cells #[.int .i64 (cn % 3), .int .i64 (mn % 100000), .int .i64 0] 50)
            have haX := Blk.new wr 50 #[.int .i64 (cn % 3), .int .i64 (mn % 100000), .int .i64 0]
            have hsX : (wr.alloc (.cells #[.int .i64 (cn % 3), .int .i64 (mn % 100000), .int .i64 0] 50)).heap.size = wr.heap.size + 1 := by simp
            obtain ⟨b6, o6, c6, hvv, q1, q2, q3, f1, f2, hB6, hl6, os1, os2⟩ := hX.acc (3 * (cn % 3)) i0 i1
            injection hvv with hvv1 _ hvv3
            subst hvv1 hvv3
            have hb6 : b6 < wr.heap.size := hown.lt b6 rfl
            generalize wr.alloc (.cells #[.int .i64 (cn % 3), .int .i64 (mn % 100000), .int .i64 0] 50) = X at *
            have HSX := Lib.hid hsX
            clear hsX z0 x0 x1 x2 lx
            obtain ⟨p0, p1, p2⟩ := haX.c3
            have lp := haX.lt
            have hne6 : b6 ≠ wr.heap.size := by omega
            have hne6' := Ne.symm hne6
            obtain ⟨hbc, hb0, hb1⟩ := hbh
            have hsub : IntKind.i64.wrap ((rd (bookTo cs has k) (3 * (cn % 3))).bal - (mn % 100000)) = (rd (bookTo cs has k) (3 * (cn % 3))).bal - (mn % 100000) := IntWalk.i64_in _ (by omega)
            have hmul : IntKind.i64.wrap (3 * (cn % 3)) = 3 * (cn % 3) := IntWalk.i64_in _ (by omega)
            refine still_tail 12 (by kernel_rfl) (by kernel_rfl) (fun wd hwd hwc hwf hws => ?_); simp only [List.take_succ_cons, List.take_zero, List.drop_succ_cons, List.drop_zero]; (repeat still_step); refine wpStill_nil ?_
            clear hsub hmul
            have howd : Own wd W.heap.size 50 (.slice (some ⟨b6, o6, none⟩) (bookTo cs has k).length c) (bookTo cs has k) := by rw [hwd.out]; exact hX.drew
            have hset := Lib.hid (howd.setBal (3 * (cn % 3)) i0 i1 ((rd (bookTo cs has k) (3 * (cn % 3))).bal - (mn % 100000)))
            have hbwd : Below W.heap.size W (wd.setCell ⟨b6, o6 + (3 * (cn % 3)).toNat * 3 + 1, none⟩ (.int .i64 ((rd (bookTo cs has k) (3 * (cn % 3))).bal - (mn % 100000)))) := by rw [hwd.out]; exact (below_drew hbX).setCell hB6 _
            have hszd : wd.heap.size = wr.heap.size + 1 := by rw [hwd.out]; exact HSX.out
            have hbox : Row ((wd.setCell ⟨b6, o6 + (3 * (cn % 3)).toNat * 3 + 1, none⟩ (.int .i64 ((rd (bookTo cs has k) (3 * (cn % 3))).bal - (mn % 100000)))).alloc (.cells #[.int .i64 (cn % 3), .int .i64 (mn % 100000), .int .i64 0] 50)) (.slice (some ⟨wd.heap.size, 0, none⟩) 1 1) [Acc.mk (cn % 3) (mn % 100000) 0] := by
              have := Row.box (wd.setCell ⟨b6, o6 + (3 * (cn % 3)).toNat * 3 + 1, none⟩ (.int .i64 ((rd (bookTo cs has k) (3 * (cn % 3))).bal - (mn % 100000)))) (Acc.mk (cn % 3) (mn % 100000) 0) #[.int .i64 (cn % 3), .int .i64 (mn % 100000), .int .i64 0] rfl 50
              rwa [World.size_setCell] at this
            have HSD := Lib.hid hszd
            have HBY := Lib.hid (show ((upd (bookTo cs has k) (3 * (cn % 3)) { rd (bookTo cs has k) (3 * (cn % 3)) with bal := (rd (bookTo cs has k) (3 * (cn % 3))).bal - (mn % 100000) }).length + [Acc.mk (cn % 3) (mn % 100000) 0].length) * 24 ≤ 140737488355328 by rw [upd_len]; have := HL.out; simp; omega)
            have HSZ2 := Lib.hid (below_alloc hbwd (.cells #[.int .i64 (cn % 3), .int .i64 (mn % 100000), .int .i64 0] 50)).size
            clear hszd hws
            go_wp2_with (at_builtin; refine wp_append (B := W.heap.size) (xs := (upd (bookTo cs has k) (3 * (cn % 3)) { rd (bookTo cs has k) (3 * (cn % 3)) with bal := (rd (bookTo cs has k) (3 * (cn % 3))).bal - (mn % 100000) })) (ys := [Acc.mk (cn % 3) (mn % 100000) 0]) sT_acc rfl rfl (.slice (some ⟨b6, o6, none⟩) (bookTo cs has k).length c) (.slice (some ⟨wd.heap.size, 0, none⟩) 1 1) rfl rfl (hset.out.alloc _) hbox HBY.out (by decide) HSZ2.out ?_; intro v2 w2 hown2 hg2 hat2)
            exact ⟨⟨k + 1, by omega, by go_num, below_grown (below_alloc hbwd _) hg2 hset.out.base, by rw [hsu.out]; unfold bookStep; rw [hha.out]; exact hown2⟩, by simp [intOf]; omega⟩
          · have hha := Lib.hid (show hasAt (nums32 has) k = 0 by
              unfold hasAt
              rw [if_neg (by simp [nums32]; omega)])
            have hh3 : (has.length : Int) ≤ k := by omega
            go_wp2_with fail
            have hX := hown.alloc (.cells #[.int .i64 (cn % 3), .int .i64 (0), .int .i64 0] 50)
            have hbX := below_alloc hb (.cells #[.int .i64 (cn % 3), .int .i64 (0), .int .i64 0] 50)
            have haX := Blk.new wr 50 #[.int .i64 (cn % 3), .int .i64 (0), .int .i64 0]
            have hsX : (wr.alloc (.cells #[.int .i64 (cn % 3), .int .i64 (0), .int .i64 0] 50)).heap.size = wr.heap.size + 1 := by simp
            obtain ⟨b6, o6, c6, hvv, q1, q2, q3, f1, f2, hB6, hl6, os1, os2⟩ := hX.acc (3 * (cn % 3)) i0 i1
            injection hvv with hvv1 _ hvv3
            subst hvv1 hvv3
            have hb6 : b6 < wr.heap.size := hown.lt b6 rfl
            generalize wr.alloc (.cells #[.int .i64 (cn % 3), .int .i64 (0), .int .i64 0] 50) = X at *
            have HSX := Lib.hid hsX
            clear hsX z0 x0 x1 x2 lx
            obtain ⟨p0, p1, p2⟩ := haX.c3
            have lp := haX.lt
            have hne6 : b6 ≠ wr.heap.size := by omega
            have hne6' := Ne.symm hne6
            obtain ⟨hbc, hb0, hb1⟩ := hbh
            have hsub : IntKind.i64.wrap ((rd (bookTo cs has k) (3 * (cn % 3))).bal) = (rd (bookTo cs has k) (3 * (cn % 3))).bal := IntWalk.i64_in _ (by omega)
            have hmul : IntKind.i64.wrap (3 * (cn % 3)) = 3 * (cn % 3) := IntWalk.i64_in _ (by omega)
            refine still_tail 12 (by kernel_rfl) (by kernel_rfl) (fun wd hwd hwc hwf hws => ?_); simp only [List.take_succ_cons, List.take_zero, List.drop_succ_cons, List.drop_zero]; (repeat still_step); refine wpStill_nil ?_
            clear hsub hmul
            have howd : Own wd W.heap.size 50 (.slice (some ⟨b6, o6, none⟩) (bookTo cs has k).length c) (bookTo cs has k) := by rw [hwd.out]; exact hX.drew
            have hset := Lib.hid (howd.setBal (3 * (cn % 3)) i0 i1 ((rd (bookTo cs has k) (3 * (cn % 3))).bal))
            have hbwd : Below W.heap.size W (wd.setCell ⟨b6, o6 + (3 * (cn % 3)).toNat * 3 + 1, none⟩ (.int .i64 ((rd (bookTo cs has k) (3 * (cn % 3))).bal))) := by rw [hwd.out]; exact (below_drew hbX).setCell hB6 _
            have hszd : wd.heap.size = wr.heap.size + 1 := by rw [hwd.out]; exact HSX.out
            have hbox : Row ((wd.setCell ⟨b6, o6 + (3 * (cn % 3)).toNat * 3 + 1, none⟩ (.int .i64 ((rd (bookTo cs has k) (3 * (cn % 3))).bal))).alloc (.cells #[.int .i64 (cn % 3), .int .i64 (0), .int .i64 0] 50)) (.slice (some ⟨wd.heap.size, 0, none⟩) 1 1) [Acc.mk (cn % 3) (0) 0] := by
              have := Row.box (wd.setCell ⟨b6, o6 + (3 * (cn % 3)).toNat * 3 + 1, none⟩ (.int .i64 ((rd (bookTo cs has k) (3 * (cn % 3))).bal))) (Acc.mk (cn % 3) (0) 0) #[.int .i64 (cn % 3), .int .i64 (0), .int .i64 0] rfl 50
              rwa [World.size_setCell] at this
            have HSD := Lib.hid hszd
            have HBY := Lib.hid (show ((upd (bookTo cs has k) (3 * (cn % 3)) { rd (bookTo cs has k) (3 * (cn % 3)) with bal := (rd (bookTo cs has k) (3 * (cn % 3))).bal }).length + [Acc.mk (cn % 3) (0) 0].length) * 24 ≤ 140737488355328 by rw [upd_len]; have := HL.out; simp; omega)
            have HSZ2 := Lib.hid (below_alloc hbwd (.cells #[.int .i64 (cn % 3), .int .i64 (0), .int .i64 0] 50)).size
            clear hszd hws
            go_wp2_with (at_builtin; refine wp_append (B := W.heap.size) (xs := (upd (bookTo cs has k) (3 * (cn % 3)) { rd (bookTo cs has k) (3 * (cn % 3)) with bal := (rd (bookTo cs has k) (3 * (cn % 3))).bal })) (ys := [Acc.mk (cn % 3) (0) 0]) sT_acc rfl rfl (.slice (some ⟨b6, o6, none⟩) (bookTo cs has k).length c) (.slice (some ⟨wd.heap.size, 0, none⟩) 1 1) rfl rfl (hset.out.alloc _) hbox HBY.out (by decide) HSZ2.out ?_; intro v2 w2 hown2 hg2 hat2)
            exact ⟨⟨k + 1, by omega, by go_num, below_grown (below_alloc hbwd _) hg2 hset.out.base, by rw [hsu.out]; unfold bookStep; rw [hha.out, Int.sub_zero]; exact hown2⟩, by simp [intOf]; omega⟩
        · have hkl : k = cs.length := by omega
          subst hkl
          obtain ⟨x0, x1, x2⟩ := (hbx.next hb).c3
          have i1 : (cs.length : Int) ≤ (cs.length : Int) := by omega
          go_wp2
          go_ret
          exact ⟨_, rfl, hown.lower (by have := HSZ.out; omega), below_next hbW hb⟩
end Go.Proofs.YthjmficglpfgpaaDoor
