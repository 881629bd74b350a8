/- States by numbers. -/
import Derived.Test.YthjmficglpfgpaaDoorL5
namespace Go.Proofs.YthjmficglpfgpaaDoor
set_option linter.unusedVariables false
set_option linter.unusedSimpArgs false
open Go Go.RowKit Enc
set_option maxRecDepth 100000
set_option maxHeartbeats 1600000

theorem sT_u8 : SlT Tryd.prog 22 5 U8 1 := ⟨Tryd.underlying22, by obtain ⟨i, h1, h2, h3, h4⟩ := info_parts (show (Tryd.prog.info? 5).map (fun i => (i.zero, i.size, i.bytes)) = some (some (.int .u8 0), 1, 1) by kernel_rfl); exact ⟨i, _, h1, h2, h3, h4, rfl⟩⟩
theorem Row.cut {w : World} {A : Option Addr} {c n : Nat} {α : Type} [Enc α] {xs : List α} (h : Row w (.slice A xs.length c) xs) (hn : n ≤ xs.length) (c' : Nat) : Row w (.slice A n c') (xs.take n) := by
  obtain ⟨A', c0, hv, hm, hc⟩ := h
  injection hv with e1 _ _
  subst e1
  have hl : (xs.take n).length = n := by simp; omega
  refine ⟨A, c', by rw [hl], by omega, fun k hk => ?_⟩
  rw [hl] at hk
  obtain ⟨b, o, he, hj⟩ := hc k (by omega)
  exact ⟨b, o, he, fun j u hu => hj j u (by simpa using hu)⟩
def six8 : List U8 := [⟨0⟩, ⟨1⟩, ⟨2⟩, ⟨0⟩, ⟨1⟩, ⟨0⟩]
def cut6 (cs : List U8) : List U8 := (cs.take (min cs.length 6) ++ six8).take 6
theorem cut6_len (cs : List U8) : (cut6 cs).length = 6 := by simp [cut6, six8]
theorem cut6_six (cs : List U8) : nums8 (cut6 cs) = six (nums8 cs) := by
  unfold nums8 cut6 six
  rw [List.map_take, List.map_append, List.map_take]
  have : (cs.map U8.n).take (min cs.length 6) = (cs.map U8.n).take 6 := by
    rcases Nat.le_total cs.length 6 with h | h
    · rw [Nat.min_eq_left h, List.take_of_length_le (by simp), List.take_of_length_le (by simpa using h)]
    · rw [Nat.min_eq_right h]
  rw [this]
  rfl
theorem cut6_bd {cs : List U8} (h : ∀ c ∈ cs, 0 ≤ c.n ∧ c.n < 256) : ∀ c ∈ cut6 cs, 0 ≤ c.n ∧ c.n < 256 := fun c hc => by
  have := List.mem_of_mem_take hc
  rcases List.mem_append.1 this with h1 | h1
  · exact h c (List.mem_of_mem_take h1)
  · simp only [six8, List.mem_cons, List.not_mem_nil, or_false] at h1
    rcases h1 with rfl | rfl | rfl | rfl | rfl | rfl <;> decide
-- STATE
theorem Own.some {w : World} {B e : Nat} {v : Value} {α : Type} [Enc α] {xs : List α} (h : Own w B e v xs) (hne : 0 < xs.length) : ∃ b c, v = .slice (some ⟨b, 0, none⟩) xs.length c ∧ xs.length ≤ c ∧ B ≤ b ∧ b < w.heap.size := by
  have hl := h.lt
  rcases h.2 with ⟨rfl, h0⟩ | ⟨g, cap, cur, rfl, hb, hh, h1, h2, h3, h4⟩
  · omega
  · exact ⟨g, cap, rfl, h1, hb, hl g rfl⟩
theorem cut_eq {cs : List U8} {m : Nat} (hm : m = min cs.length 6) : (cs.take m ++ six8).take 6 = cut6 cs := by rw [hm]; rfl
/-- The state's variable on the way. -/
def StRel (Z : World) (g : Nat) (nw : Int) (b0 : List Acc) (ps : List Paid) (i : Value) (wr : World) : Prop :=
  ∃ k : Nat, (k ≤ ps.length ∧ k ≤ 6) ∧ i = .int .i64 k ∧ Below Z.heap.size Z wr ∧ ∃ A c A' c', Blk wr g 36 (stCells A ((ps.take k).foldl payStep (b0, [])).1.length c A' ((ps.take k).foldl payStep (b0, [])).2.length c' none 0 0 none 0 0 nw) ∧
    Own wr Z.heap.size 50 (.slice A ((ps.take k).foldl payStep (b0, [])).1.length c) ((ps.take k).foldl payStep (b0, [])).1 ∧ Own wr Z.heap.size 47 (.slice A' ((ps.take k).foldl payStep (b0, [])).2.length c') ((ps.take k).foldl payStep (b0, [])).2
theorem Own.apart {w : World} {B e B' e' : Nat} {v v' : Value} {α β : Type} [Enc α] [Enc β] {xs : List α} {ys : List β} (h : Own w B e v xs) (k : Own w B' e' v' ys) (hne : e ≠ e') : v.ownBlock = none ∨ v.ownBlock ≠ v'.ownBlock := by
  rcases k.2 with ⟨rfl, _⟩ | ⟨g, cap, cur, rfl, hb, hh, h1, h2, h3, h4⟩
  · cases hv : v.ownBlock with
    | none => exact .inl rfl
    | some g => exact .inr (by simp [Value.ownBlock])
  · exact .inr (h.blk_ne (show Blk w g e' cur from hh) hne)
theorem foldPay_succ (b0 : List Acc) (ps : List Paid) (k : Nat) (h : k < ps.length) : (ps.take (k + 1)).foldl payStep (b0, []) = payStep ((ps.take k).foldl payStep (b0, [])) (rd ps (k : Int)) := by
  rw [List.take_succ_eq_append_getElem h, List.foldl_append, rd_nat ps k h]
  rfl
theorem Row.paid' {w : World} {v : Value} {xs : List Paid} (h : Row w v xs) (k : Nat) (hk : k < xs.length) : ∃ b o c, v = .slice (some ⟨b, o, none⟩) xs.length c ∧
    w.cell? ⟨b, o + k * 8, none⟩ = some (.int .u8 (rd xs k).frm) ∧ w.cell? ⟨b, o + k * 8 + 1, none⟩ = some (.int .u8 (rd xs k).to) ∧ w.cell? ⟨b, o + k * 8 + 2, none⟩ = some (.int .u8 (rd xs k).auth) ∧ w.cell? ⟨b, o + k * 8 + 3, none⟩ = some (.int .u8 (rd xs k).capt) ∧
    w.cell? ⟨b, o + k * 8 + 4, none⟩ = some (.int .u8 (rd xs k).refd) ∧ w.cell? ⟨b, o + k * 8 + 5, none⟩ = some (.int .u8 (rd xs k).chgd) ∧ w.cell? ⟨b, o + k * 8 + 6, none⟩ = some (.int .u8 (rd xs k).til) ∧ w.cell? ⟨b, o + k * 8 + 7, none⟩ = some (.bool (rd xs k).closed) ∧ b < w.heap.size := by
  obtain ⟨b, o, c, hv, hc⟩ := h.at k hk
  exact ⟨b, o, c, hv, hc 0 _ rfl, hc 1 _ rfl, hc 2 _ rfl, hc 3 _ rfl, hc 4 _ rfl, hc 5 _ rfl, hc 6 _ rfl, hc 7 _ rfl, cell_lt (hc 0 _ rfl)⟩
theorem state_any (vc vh vd vp : Value) (cs : List U8) (has : List U32) (ds : List U8) (ps : List Paid) (now : Int) (w : World) (hc : Row w vc cs) (hh : Row w vh has) (hd : Row w vd ds) (hp : Row w vp ps) (h8 : ∀ c ∈ cs, 0 ≤ c.n ∧ c.n < 256) (h32 : ∀ x ∈ has, 0 ≤ x.n ∧ x.n < 4294967296) (hps : ∀ p ∈ ps, PaidOk p) (hnow : 0 ≤ now ∧ now < 256) (hcap : ∃ A n c, vc = .slice A n c ∧ n ≤ c) :
    Calls Tryd.prog 13 #[.agg #[vc, vh, vd], vp, .int .u8 now] w fun e w' => ∃ v, e = .returned v ∧ StV w' v (stOf (nums8 cs) (nums32 has) ps now) ∧ Below w.heap.size w w' := by
  have hm := hc.max
  obtain ⟨A1, c1, rfl⟩ := hc.slice
  obtain ⟨A2, c2, rfl⟩ := hh.slice
  obtain ⟨A3, c3, rfl⟩ := hd.slice
  obtain ⟨A4, c4, rfl⟩ := hp.slice
  obtain ⟨nw0, nw1⟩ := hnow
  have hcp : cs.length ≤ c1 := by
    obtain ⟨A, n, c, he, hn⟩ := hcap
    injection he with _ e2 e3
    omega
  clear hcap
  have hbW : Below w.heap.size w ((w.alloc (.cells #[.slice A1 cs.length c1, .slice A2 has.length c2, .slice A3 ds.length c3] 25)).alloc (.cells #[.slice none 0 0, .slice none 0 0, .slice none 0 0, .slice none 0 0, .int .i64 0] 36)) := below_alloc (below_alloc (Below.refl _ _) _) _
  have hbx : Blk ((w.alloc (.cells #[.slice A1 cs.length c1, .slice A2 has.length c2, .slice A3 ds.length c3] 25)).alloc (.cells #[.slice none 0 0, .slice none 0 0, .slice none 0 0, .slice none 0 0, .int .i64 0] 36)) w.heap.size 25 #[.slice A1 cs.length c1, .slice A2 has.length c2, .slice A3 ds.length c3] := (Blk.new _ _ _).alloc _
  have hby : Blk ((w.alloc (.cells #[.slice A1 cs.length c1, .slice A2 has.length c2, .slice A3 ds.length c3] 25)).alloc (.cells #[.slice none 0 0, .slice none 0 0, .slice none 0 0, .slice none 0 0, .int .i64 0] 36)) (w.heap.size + 1) 36 #[.slice none 0 0, .slice none 0 0, .slice none 0 0, .slice none 0 0, .int .i64 0] := Blk.new1 _ _ _ _
  have hszW : ((w.alloc (.cells #[.slice A1 cs.length c1, .slice A2 has.length c2, .slice A3 ds.length c3] 25)).alloc (.cells #[.slice none 0 0, .slice none 0 0, .slice none 0 0, .slice none 0 0, .int .i64 0] 36)).heap.size = w.heap.size + 1 + 1 := by simp
  have hh0 := hh
  have hp0 := hp
  replace hc := hc.below hbW
  replace hh := hh.below hbW
  replace hp := hp.below hbW
  clear hd
  obtain ⟨m, hm6⟩ : ∃ m : Nat, m = min cs.length 6 := ⟨_, rfl⟩
  have hmin : ∀ w, (Builtin.min_ #[3, 3] 3 #[.int .i64 cs.length, .int .i64 6]).run Tryd.prog w = .ok (.int .i64 (m : Int)) w := fun w => by
    rw [show ((m : Nat) : Int) = min (cs.length : Int) 6 by omega]
    go_simp
    try (split <;> (congr 2; omega))
  have hcut := hc.cut (n := m) (by omega) c1
  have hce := Lib.hid (cut_eq hm6)
  have hll : (cs.take (m)).length = m := by simp; try omega
  have HBY1 := Lib.hid (show (([] : List U8).length + (cs.take (m)).length) * 1 ≤ 140737488355328 by rw [hll]; simp <;> omega)
  have HBY2 := Lib.hid (show ((cs.take (m)).length + six8.length) * 1 ≤ 140737488355328 by rw [hll]; simp [six8] <;> omega)
  have HLL := Lib.hid hll
  have hmc : m ≤ c1 := by omega
  have hmc' : ((m : Nat) : Int) ≤ c1 := by omega
  clear hm6 hll
  have tok : True := trivial
  go_enter Tryd.func13, Tryd.ntmps13
  go_wp2_with (first
    | (at_builtin; have _t := tok; refine wp_append (B := ((w.alloc (.cells #[.slice A1 cs.length c1, .slice A2 has.length c2, .slice A3 ds.length c3] 25)).alloc (.cells #[.slice none 0 0, .slice none 0 0, .slice none 0 0, .slice none 0 0, .int .i64 0] 36)).heap.size) (xs := []) (ys := cs.take (m)) sT_u8 rfl rfl (.slice none 0 0) (.slice A1 (m) c1) rfl rfl (Own.nil _ _ _) hcut HBY1.out (by decide) (Nat.le_refl _) ?_; intro v1 w1 hown1 hg1 hat1; clear tok; rw [List.nil_append] at hown1; have hb1 := below_grown (Below.refl _ _) hg1 (by simp [Value.ownBlock]))
    | (at_builtin; refine wp_append (B := ((w.alloc (.cells #[.slice A1 cs.length c1, .slice A2 has.length c2, .slice A3 ds.length c3] 25)).alloc (.cells #[.slice none 0 0, .slice none 0 0, .slice none 0 0, .slice none 0 0, .int .i64 0] 36)).heap.size) (xs := cs.take (m)) (ys := six8) sT_u8 rfl rfl v1 (.slice (some ⟨w1.heap.size, 0, none⟩) 6 6) rfl rfl (hown1.alloc _) (Row.lit w1 six8 #[.int .u8 0, .int .u8 1, .int .u8 2, .int .u8 0, .int .u8 1, .int .u8 0] rfl 5 6 rfl (by decide)) HBY2.out (by decide) (below_alloc hb1 _).size ?_; intro v2 w2 hown2 hg2 hat2; have hb2 := below_grown (below_alloc hb1 _) hg2 hown1.base; have hl2 : (cs.take (m) ++ six8).length = m + 6 := (by rw [List.length_append, HLL.out]; rfl); have HL2 := Lib.hid hl2; clear hl2; obtain ⟨b7, c7, rfl, hc7, hB7, hl7⟩ := hown2.some (by rw [HL2.out]; omega); have hcut2 := hown2.row.cut (n := 6) (by rw [HL2.out]; omega) c7; rw [hce.out] at hcut2; obtain ⟨x0, x1, x2⟩ := (hbx.next hb2).c3; have xf := (hbx.next hb2).frozen; have lx := (hbx.next hb2).lt; have hc7' : (6 : Int) ≤ c7 := (by have := HL2.out; omega); have hc76 : 6 ≤ c7 := (by have := HL2.out; omega)))
  have hbZ : Below w.heap.size w ((w2.setCell ⟨w.heap.size, 0, none⟩ (.slice (some ⟨b7, 0, none⟩) 6 c7)).setCell ⟨w.heap.size, 2, none⟩ (.slice none 0 0)) := by
    (repeat (first | (with_reducible refine below_drew ?_) | (with_reducible refine below_drewN ?_ _) | (with_reducible refine below_alloc ?_ _) | ((with_reducible refine Below.setCell ?_ ?_ _); rotate_left; (focus (first | (simp; done) | (simp; omega))))))
    exact below_next hbW hb2
  have hne7 : b7 ≠ w.heap.size := by rw [hszW] at hB7; omega
  have hcutZ : Row ((w2.setCell ⟨w.heap.size, 0, none⟩ (.slice (some ⟨b7, 0, none⟩) 6 c7)).setCell ⟨w.heap.size, 2, none⟩ (.slice none 0 0)) (.slice (some ⟨b7, 0, none⟩) 6 c7) (cut6 cs) :=
    (hcut2.only (fun _ => by simp [Value.ownBlock, hne7]) ((World.grownBy.refl w2 _).setCell (a := ⟨w.heap.size, 0, none⟩) (g := w.heap.size) rfl _)).only (fun _ => by simp [Value.ownBlock, hne7]) ((World.grownBy.refl _ _).setCell (a := ⟨w.heap.size, 2, none⟩) (g := w.heap.size) rfl _)
  have hhZ := hh0.below hbZ
  have hpZ := hp0.below hbZ
  have hyZ : Blk ((w2.setCell ⟨w.heap.size, 0, none⟩ (.slice (some ⟨b7, 0, none⟩) 6 c7)).setCell ⟨w.heap.size, 2, none⟩ (.slice none 0 0)) (w.heap.size + 1) 36 (stCells none 0 0 none 0 0 none 0 0 none 0 0 0) :=
    ((hby.next hb2).far (p := ⟨w.heap.size, 0, none⟩) (by simp) _).far (p := ⟨w.heap.size, 2, none⟩) (by simp) _
  clear x0 x1 x2 xf lx hcut2 hown2 hg2 hat2 hown1 hg1 hat1 hb1 hb2 hbW hbx hby hszW hc hh hp hcut hB7 hl7 hmin HBY1 HBY2 HL2
  refine abs_g (G := fun Z => Calls _ _ _ Z _) (fun Z => Below w.heap.size w Z ∧ Row Z (.slice (some ⟨b7, 0, none⟩) 6 c7) (cut6 cs) ∧ Row Z (.slice A2 has.length c2) has ∧ Row Z (.slice A4 ps.length c4) ps ∧ Blk Z (w.heap.size + 1) 36 (stCells none 0 0 none 0 0 none 0 0 none 0 0 0)) ⟨hbZ, hcutZ, hhZ, hpZ, hyZ⟩ ?_
  clear hbZ hcutZ hhZ hpZ hyZ hh0 hp0
  rintro Z ⟨hbZ, hcutZ, hhZ, hpZ, hyZ⟩
  refine (book_any _ _ (cut6 cs) has Z hcutZ hhZ (by rw [cut6_len]; omega) (cut6_bd h8) h32).mono ?_
  rintro e w3 ⟨v3, rfl, hown3, hb3⟩
  have hbk := bookTo_bk (cut6 cs) has (cut6 cs).length (Nat.le_refl _)
  have hst := Lib.hid (show stOf (nums8 cs) (nums32 has) ps now = ⟨((ps.take 6).foldl payStep (bookTo (cut6 cs) has (cut6 cs).length, [])).1, ((ps.take 6).foldl payStep (bookTo (cut6 cs) has (cut6 cs).length, [])).2, [], [], now % 12⟩ by
    unfold stOf bookTo book
    rw [cut6_six, List.take_of_length_le (l := six (nums8 cs)) (by rw [six_len, cut6_len]; omega)])
  rw [cut6_len] at hbk
  have hbk6 : Bk (bookTo (cut6 cs) has (cut6 cs).length) 6 := by rw [cut6_len]; exact hbk
  clear hbk
  generalize bookTo (cut6 cs) has (cut6 cs).length = b0 at *
  obtain ⟨A5, c5, rfl⟩ := hown3.row.slice
  clear hcutZ hhZ hce HLL
  have hnum0 : Num0 b0 b0 [] 0 := ⟨hbk6.ok, Alike.refl _, by have := hbk6.len; omega, Nat.le_refl _, fun k h0 hk => by simp at hk; omega⟩
  have lyZ := hyZ.lt
  have hbZs := hbZ.size
  go_wp2
  go_loopw [35] (fun i wr => StRel Z w3.heap.size (now % 12) b0 ps i wr) (fun i _ => ps.length - (intOf i).toNat)
  case atStart => exact ⟨0, ⟨by omega, by omega⟩, rfl, below_alloc hb3 _, A5, c5, none, 0, Blk.new _ _ _, hown3.alloc _, Own.nil _ _ _⟩
  case round =>
    clear hown3
    obtain ⟨k, ⟨hk, hk6⟩, rfl, hb, A, c, A', c', hbl, hoa, hop⟩ := hrel
    have hnum := payFold_num (b := b0) (ps.take k) b0 [] 0 (by simp; omega) hnum0 fun p hp => hps p (List.mem_of_mem_take hp)
    by_cases hlt : k < ps.length
    · obtain ⟨b8, o8, c8, hv, d0, d1, d2, d3, d4, d5, d6, d7, ld⟩ := hpZ.paid' k hlt
      injection hv with hv1 _ hv3
      subst hv1 hv3
      have hpk := hps _ (rd_mem ps k (by omega) (by omega))
      have hF := foldPay_succ b0 ps k hlt
      have hpo := payOf_ok hpk
      have HPD := Lib.hid (fun W => paid_any (rd ps (k : Int)) W hpk)
      have hpx : ∃ x, payOf (rd ps (k : Int)) = x := ⟨_, rfl⟩
      obtain ⟨x, hx⟩ := hpx
      rw [hx] at hpo HPD
      generalize hR : (ps.take k).foldl payStep (b0, []) = R at *
      have HR := Lib.hid hR
      clear hR
      have hF2 : (ps.take (k + 1)).foldl payStep (b0, []) = (if x.frm = x.to then R else if 0 < left x then (match hold R.1 x.frm (left x) with | .error _ => R | .ok az => (az, R.2 ++ [x])) else (R.1, R.2 ++ [x])) := by
        rw [hF]; unfold payStep; simp only; rw [hx]; rfl
      clear hF hx
      obtain ⟨R1, R2⟩ := R
      obtain ⟨x0, x1, x2, x3, x4, x5, x6, x7⟩ := x
      simp only at hF2 hnum hbl hoa hop
      replace d0 := cell_below hb d0
      replace d1 := cell_below hb d1
      replace d2 := cell_below hb d2
      replace d3 := cell_below hb d3
      replace d4 := cell_below hb d4
      replace d5 := cell_below hb d5
      replace d6 := cell_below hb d6
      replace d7 := cell_below hb d7
      generalize rd ps (k : Int) = pk at *
      obtain ⟨k0, k1, k2, k3, k4, k5, k6, k7⟩ := pk
      simp only at d0 d1 d2 d3 d4 d5 d6 d7
      go_wp2_with fail
      refine (HPD.out _).mono ?_
      rintro e w4 ⟨rfl, hz4⟩
      have hb4 : Below Z.heap.size Z w4 := below_next (below_alloc hb (.cells #[.int .u8 k0, .int .u8 k1, .int .u8 k2, .int .u8 k3, .int .u8 k4, .int .u8 k5, .int .u8 k6, .bool k7] 87)) hz4
      have hbl4 := (hbl.alloc (.cells #[.int .u8 k0, .int .u8 k1, .int .u8 k2, .int .u8 k3, .int .u8 k4, .int .u8 k5, .int .u8 k6, .bool k7] 87)).next hz4
      have hoa4 := (hoa.alloc (.cells #[.int .u8 k0, .int .u8 k1, .int .u8 k2, .int .u8 k3, .int .u8 k4, .int .u8 k5, .int .u8 k6, .bool k7] 87)).below hz4
      have hop4 := (hop.alloc (.cells #[.int .u8 k0, .int .u8 k1, .int .u8 k2, .int .u8 k3, .int .u8 k4, .int .u8 k5, .int .u8 k6, .bool k7] 87)).below hz4
      clear hbl hoa hop d0 d1 d2 d3 d4 d5 d6 d7 hz4
      obtain ⟨o1, o2, o3, o4, o5⟩ := hpo
      by_cases h6 : k < 6
      · have h6i : (k : Int) < 6 := by omega
        have h6b : decide ((6 : Int) ≤ k) = false := by simp; omega
        have hbX := below_alloc hb4 (.cells #[.int .i64 x0, .int .i64 x1, .int .i64 x2, .int .i64 x3, .int .i64 x4, .int .i64 x5, .int .i64 x6, .int .i64 x7] 47)
        have hblX := hbl4.alloc (.cells #[.int .i64 x0, .int .i64 x1, .int .i64 x2, .int .i64 x3, .int .i64 x4, .int .i64 x5, .int .i64 x6, .int .i64 x7] 47)
        have hoaX := hoa4.alloc (.cells #[.int .i64 x0, .int .i64 x1, .int .i64 x2, .int .i64 x3, .int .i64 x4, .int .i64 x5, .int .i64 x6, .int .i64 x7] 47)
        have hopX := hop4.alloc (.cells #[.int .i64 x0, .int .i64 x1, .int .i64 x2, .int .i64 x3, .int .i64 x4, .int .i64 x5, .int .i64 x6, .int .i64 x7] 47)
        clear hbl4 hoa4 hop4
        by_cases hft : x0 = x1
        · have hfb : (x0 == x1) = true := by simpa using hft
          rw [if_pos hft] at hF2
          have HF := Lib.hid hF2
          clear hF2 hft
          go_wp2
          refine ⟨⟨k + 1, ⟨by omega, by omega⟩, by go_num, hbX, ?_⟩, by simp [intOf]; omega⟩
          rw [HF.out]
          exact ⟨A, c, A', c', hblX, hoaX, hopX⟩
        · have hfb : (x0 == x1) = false := by simpa using hft
          rw [if_neg hft] at hF2
          have HLF := Lib.hid (fun W => left_any ⟨x0, x1, x2, x3, x4, x5, x6, x7⟩ W o1)
          have hl0 := left_bd o1
          by_cases hlp : 0 < left ⟨x0, x1, x2, x3, x4, x5, x6, x7⟩
          · rw [if_pos hlp] at hF2
            obtain ⟨g0, g1, g2, g3, g4⟩ := hblX.c5
            have gf := hblX.frozen
            have lg := hblX.lt
            generalize left ⟨x0, x1, x2, x3, x4, x5, x6, x7⟩ = lf at *
            have HHD := Lib.hid (fun (W : World) (h : Row W (.slice A R1.length c) R1) => hold_any _ R1 x0 lf W h hnum.ok.good.abs)
            cases hhd : hold R1 x0 lf with
            | error ec =>
              rw [hhd] at hF2
              have HF := Lib.hid hF2
              have hm := Lib.hid hhd
              clear hF2 hft hhd
              go_wp2_with fail
              refine (HLF.out _).mono ?_
              rintro e w5 ⟨rfl, hz5⟩
              have hbl5 := hblX.next hz5
              clear g0 g1 g2 g3 g4
              obtain ⟨g0, g1, g2, g3, g4⟩ := hbl5.c5
              have hq5 := (Blk.new w4 47 #[.int .i64 x0, .int .i64 x1, .int .i64 x2, .int .i64 x3, .int .i64 x4, .int .i64 x5, .int .i64 x6, .int .i64 x7]).next hz5
              obtain ⟨q0, q1, q2, q3, q4, q5, q6, q7⟩ := hq5.c8
              go_wp2_with fail
              refine (HHD.out _ (hoaX.below hz5).row).mono ?_
              intro e w6 hres
              rw [hm.out] at hres
              obtain ⟨hz6, rfl⟩ := hres
              go_wp2
              refine ⟨⟨k + 1, ⟨by omega, by omega⟩, by go_num, below_next (below_next hbX hz5) hz6, ?_⟩, by simp [intOf]; omega⟩
              rw [HF.out]
              exact ⟨A, c, A', c', hbl5.next hz6, (hoaX.below hz5).below hz6, (hopX.below hz5).below hz6⟩
            | ok zs =>
              rw [hhd] at hF2
              have HF := Lib.hid hF2
              have hm := Lib.hid hhd
              clear hF2 hft hhd
              go_wp2_with fail
              refine (HLF.out _).mono ?_
              rintro e w5 ⟨rfl, hz5⟩
              have hbl5 := hblX.next hz5
              clear g0 g1 g2 g3 g4
              obtain ⟨g0, g1, g2, g3, g4⟩ := hbl5.c5
              have hq5 := (Blk.new w4 47 #[.int .i64 x0, .int .i64 x1, .int .i64 x2, .int .i64 x3, .int .i64 x4, .int .i64 x5, .int .i64 x6, .int .i64 x7]).next hz5
              obtain ⟨q0, q1, q2, q3, q4, q5, q6, q7⟩ := hq5.c8
              have hb5 := below_next hbX hz5
              go_wp2_with fail
              refine (HHD.out _ (hoaX.below hz5).row).mono ?_
              intro e w6 hres
              rw [hm.out] at hres
              obtain ⟨hz6, v6, rfl, ho6⟩ := hres
              obtain ⟨A6, cc6, rfl⟩ := ho6.row.slice
              have hb6 := below_next hb5 hz6
              have hbl6 := hbl5.next hz6
              have hq6 := hq5.next hz6
              clear g0 g1 g2 g3 g4 q0 q1 q2 q3 q4 q5 q6 q7
              obtain ⟨g0, g1, g2, g3, g4⟩ := hbl6.c5
              obtain ⟨q0, q1, q2, q3, q4, q5, q6, q7⟩ := hq6.c8
              have gf6 := hbl6.frozen
              have lg6 := hbl6.lt
              have lq6 := hq6.lt
              have hq6g : w4.heap.size ≠ w3.heap.size := Blk.ne_ hq6 hbl6 (by decide)
              have hq6g' := Ne.symm hq6g
              have hop6 := (hopX.below hz5).below hz6
              have ho6' := ho6.lower (show Z.heap.size ≤ w5.heap.size from hb5.size)
              have hpn := hnum.pays
              have hpl : R2.length ≤ 6 := by simp at hpn; omega
              have hbS : Below Z.heap.size Z (w6.setCell ⟨w3.heap.size, 0, none⟩ (.slice A6 zs.length cc6)) := hb6.setCell hb3.size _
              have hgS := (World.grownBy.refl w6 (some w3.heap.size)).setCell (a := ⟨w3.heap.size, 0, none⟩) (g := w3.heap.size) rfl (.slice A6 zs.length cc6)
              have hopS : Own (w6.setCell ⟨w3.heap.size, 0, none⟩ (.slice A6 zs.length cc6)) Z.heap.size 47 (.slice A' R2.length c') R2 := hop6.kept hgS (.inr (hop6.blk_ne hbl6 (by decide)))
              have hoaS : Own (w6.setCell ⟨w3.heap.size, 0, none⟩ (.slice A6 zs.length cc6)) Z.heap.size 50 (.slice A6 zs.length cc6) zs := ho6'.kept hgS (.inr (ho6'.blk_ne hbl6 (by decide)))
              have hblS : Blk (w6.setCell ⟨w3.heap.size, 0, none⟩ (.slice A6 zs.length cc6)) w3.heap.size 36 (stCells A6 zs.length cc6 A' R2.length c' none 0 0 none 0 0 (now % 12)) := hbl6.set_ 0 _
              have hszS : (w6.setCell ⟨w3.heap.size, 0, none⟩ (.slice A6 zs.length cc6)).heap.size = w6.heap.size := by simp
              have hbox := Row.box (w6.setCell ⟨w3.heap.size, 0, none⟩ (.slice A6 zs.length cc6)) (Pay.mk x0 x1 x2 x3 x4 x5 x6 x7) #[.int .i64 x0, .int .i64 x1, .int .i64 x2, .int .i64 x3, .int .i64 x4, .int .i64 x5, .int .i64 x6, .int .i64 x7] rfl 47
              rw [hszS] at hbox
              have HBY := Lib.hid (show (R2.length + [Pay.mk x0 x1 x2 x3 x4 x5 x6 x7].length) * 64 ≤ 140737488355328 by simp; omega)
              have HSZ := Lib.hid (below_alloc hbS (.cells #[.int .i64 x0, .int .i64 x1, .int .i64 x2, .int .i64 x3, .int .i64 x4, .int .i64 x5, .int .i64 x6, .int .i64 x7] 47)).size
              clear hszS
              go_wp2_with (at_builtin; refine wp_append (B := Z.heap.size) (xs := R2) (ys := [Pay.mk x0 x1 x2 x3 x4 x5 x6 x7]) sT_pay rfl rfl (.slice A' R2.length c') (.slice (some ⟨w6.heap.size, 0, none⟩) 1 1) rfl rfl (hopS.alloc _) hbox HBY.out (by decide) HSZ.out ?_; intro v7 w7 hown7 hg7 hat7; obtain ⟨A7, c7', rfl⟩ := hown7.row.slice; have hnb : some w3.heap.size ≠ (Value.slice A' R2.length c').ownBlock := Ne.symm (hopS.blk_ne hblS (by decide)); have hbl7 := (hblS.alloc (.cells #[.int .i64 x0, .int .i64 x1, .int .i64 x2, .int .i64 x3, .int .i64 x4, .int .i64 x5, .int .i64 x6, .int .i64 x7] 47)).grown hg7 hnb; obtain ⟨g0, g1, g2, g3, g4⟩ := hbl7.c5; have gf7 := hbl7.frozen)
              have hb7 : Below Z.heap.size Z w7 := below_grown (below_alloc hbS _) hg7 hopS.base
              have hna : (Value.slice A6 zs.length cc6).ownBlock = none ∨ (Value.slice A6 zs.length cc6).ownBlock ≠ (Value.slice A' R2.length c').ownBlock := hoaS.apart hopS (by decide)
              have hoa7 := (hoaS.alloc (.cells #[.int .i64 x0, .int .i64 x1, .int .i64 x2, .int .i64 x3, .int .i64 x4, .int .i64 x5, .int .i64 x6, .int .i64 x7] 47)).kept hg7 hna
              have hlen7 : (R2 ++ [Pay.mk x0 x1 x2 x3 x4 x5 x6 x7]).length = R2.length + 1 := by simp
              rw [hlen7] at hown7
              have hgT := (World.grownBy.refl w7 (some w3.heap.size)).setCell (a := ⟨w3.heap.size, 1, none⟩) (g := w3.heap.size) rfl (.slice A7 (R2.length + 1) c7')
              refine ⟨⟨k + 1, ⟨by omega, by omega⟩, by go_num, hb7.setCell hb3.size _, ?_⟩, by simp [intOf]; omega⟩
              rw [HF.out]
              refine ⟨A6, cc6, A7, c7', ?_, hoa7.kept hgT (.inr (hoa7.blk_ne hbl7 (by decide))), ?_⟩
              · show Blk _ _ _ (stCells A6 zs.length cc6 A7 (R2 ++ [Pay.mk x0 x1 x2 x3 x4 x5 x6 x7]).length c7' none 0 0 none 0 0 (now % 12))
                rw [hlen7]
                exact hbl7.set_ 1 _
              · show Own _ _ _ (.slice A7 (R2 ++ [Pay.mk x0 x1 x2 x3 x4 x5 x6 x7]).length c7') _
                rw [hlen7]
                exact hown7.kept hgT (.inr (hown7.blk_ne hbl7 (by decide)))
          · rw [if_neg hlp] at hF2
            have hlz : left ⟨x0, x1, x2, x3, x4, x5, x6, x7⟩ = 0 := by omega
            rw [hlz] at HLF
            have HF := Lib.hid hF2
            clear hF2 hft hlp hlz hl0
            go_wp2_with fail
            refine (HLF.out _).mono ?_
            rintro e w6 ⟨rfl, hz6⟩
            have hb6 := below_next hbX hz6
            have hbl6 := hblX.next hz6
            have hq6 := (Blk.new w4 47 #[.int .i64 x0, .int .i64 x1, .int .i64 x2, .int .i64 x3, .int .i64 x4, .int .i64 x5, .int .i64 x6, .int .i64 x7]).next hz6
            obtain ⟨g0, g1, g2, g3, g4⟩ := hbl6.c5
            obtain ⟨q0, q1, q2, q3, q4, q5, q6, q7⟩ := hq6.c8
            have lg6 := hbl6.lt
            have lq6 := hq6.lt
            have hopS := hopX.below hz6
            have hoaS := hoaX.below hz6
            have hpn := hnum.pays
            have hpl : R2.length ≤ 6 := by simp at hpn; omega
            have hbox := Row.box w6 (Pay.mk x0 x1 x2 x3 x4 x5 x6 x7) #[.int .i64 x0, .int .i64 x1, .int .i64 x2, .int .i64 x3, .int .i64 x4, .int .i64 x5, .int .i64 x6, .int .i64 x7] rfl 47
            have HBY := Lib.hid (show (R2.length + [Pay.mk x0 x1 x2 x3 x4 x5 x6 x7].length) * 64 ≤ 140737488355328 by simp; omega)
            have HSZ := Lib.hid (below_alloc hb6 (.cells #[.int .i64 x0, .int .i64 x1, .int .i64 x2, .int .i64 x3, .int .i64 x4, .int .i64 x5, .int .i64 x6, .int .i64 x7] 47)).size
            go_wp2_with (at_builtin; refine wp_append (B := Z.heap.size) (xs := R2) (ys := [Pay.mk x0 x1 x2 x3 x4 x5 x6 x7]) sT_pay rfl rfl (.slice A' R2.length c') (.slice (some ⟨w6.heap.size, 0, none⟩) 1 1) rfl rfl (hopS.alloc _) hbox HBY.out (by decide) HSZ.out ?_; intro v7 w7 hown7 hg7 hat7; obtain ⟨A7, c7', rfl⟩ := hown7.row.slice; have hnb : some w3.heap.size ≠ (Value.slice A' R2.length c').ownBlock := Ne.symm (hopS.blk_ne hbl6 (by decide)); have hbl7 := (hbl6.alloc (.cells #[.int .i64 x0, .int .i64 x1, .int .i64 x2, .int .i64 x3, .int .i64 x4, .int .i64 x5, .int .i64 x6, .int .i64 x7] 47)).grown hg7 hnb; obtain ⟨g0, g1, g2, g3, g4⟩ := hbl7.c5; have gf7 := hbl7.frozen)
            have hb7 : Below Z.heap.size Z w7 := below_grown (below_alloc hb6 _) hg7 hopS.base
            have hna : (Value.slice A R1.length c).ownBlock = none ∨ (Value.slice A R1.length c).ownBlock ≠ (Value.slice A' R2.length c').ownBlock := hoaS.apart hopS (by decide)
            have hoa7 := (hoaS.alloc (.cells #[.int .i64 x0, .int .i64 x1, .int .i64 x2, .int .i64 x3, .int .i64 x4, .int .i64 x5, .int .i64 x6, .int .i64 x7] 47)).kept hg7 hna
            have hlen7 : (R2 ++ [Pay.mk x0 x1 x2 x3 x4 x5 x6 x7]).length = R2.length + 1 := by simp
            rw [hlen7] at hown7
            have hgT := (World.grownBy.refl w7 (some w3.heap.size)).setCell (a := ⟨w3.heap.size, 1, none⟩) (g := w3.heap.size) rfl (.slice A7 (R2.length + 1) c7')
            refine ⟨⟨k + 1, ⟨by omega, by omega⟩, by go_num, hb7.setCell hb3.size _, ?_⟩, by simp [intOf]; omega⟩
            rw [HF.out]
            refine ⟨A, c, A7, c7', ?_, hoa7.kept hgT (.inr (hoa7.blk_ne hbl7 (by decide))), ?_⟩
            · show Blk _ _ _ (stCells A R1.length c A7 (R2 ++ [Pay.mk x0 x1 x2 x3 x4 x5 x6 x7]).length c7' none 0 0 none 0 0 (now % 12))
              rw [hlen7]
              exact hbl7.set_ 1 _
            · show Own _ _ _ (.slice A7 (R2 ++ [Pay.mk x0 x1 x2 x3 x4 x5 x6 x7]).length c7') _
              rw [hlen7]
              exact hown7.kept hgT (.inr (hown7.blk_ne hbl7 (by decide)))
      · have hk6' : k = 6 := by omega
        subst hk6'
        clear hF2
        have hbX := below_alloc hb4 (.cells #[.int .i64 x0, .int .i64 x1, .int .i64 x2, .int .i64 x3, .int .i64 x4, .int .i64 x5, .int .i64 x6, .int .i64 x7] 47)
        have hblX := hbl4.alloc (.cells #[.int .i64 x0, .int .i64 x1, .int .i64 x2, .int .i64 x3, .int .i64 x4, .int .i64 x5, .int .i64 x6, .int .i64 x7] 47)
        have hoaX := hoa4.alloc (.cells #[.int .i64 x0, .int .i64 x1, .int .i64 x2, .int .i64 x3, .int .i64 x4, .int .i64 x5, .int .i64 x6, .int .i64 x7] 47)
        have hopX := hop4.alloc (.cells #[.int .i64 x0, .int .i64 x1, .int .i64 x2, .int .i64 x3, .int .i64 x4, .int .i64 x5, .int .i64 x6, .int .i64 x7] 47)
        clear hbl4 hoa4 hop4
        obtain ⟨y0, y1, y2, y3, y4⟩ := (hyZ.next hbX).c5
        have yf := (hyZ.next hbX).frozen
        have ly := (hyZ.next hbX).lt
        obtain ⟨g0, g1, g2, g3, g4⟩ := hblX.c5
        have lg := hblX.lt
        go_wp2
        have hfin : StV (w4.alloc (.cells #[.int .i64 x0, .int .i64 x1, .int .i64 x2, .int .i64 x3, .int .i64 x4, .int .i64 x5, .int .i64 x6, .int .i64 x7] 47)) (.agg #[.slice A R1.length c, .slice A' R2.length c', .slice none 0 0, .slice none 0 0, .int .i64 (now % 12)]) (stOf (nums8 cs) (nums32 has) ps now) := by
          rw [hst.out, HR.out]
          exact ⟨_, _, _, _, rfl, hoaX.row, hopX.row, Row.nil _, Row.nil _⟩
        refine bodyPost_ret (res_cell rfl _ rfl agg_st rfl ((hyZ.next hbX).chain5)) rfl ⟨_, rfl, hfin.over (hyZ.next hbX) (set5_grown _ _ _ _ _ _ _), ?_⟩
        (repeat (first | (with_reducible refine below_drew ?_) | (with_reducible refine below_drewN ?_ _) | (with_reducible refine below_alloc ?_ _) | ((with_reducible refine Below.setCell ?_ ?_ _); rotate_left; (focus (first | (simp; done) | (simp; omega))))))
        first | exact below_next hbZ hbX | exact below_next hbZ hb4
    · have hkl : k = ps.length := by omega
      have hRR : (ps.take 6).foldl payStep (b0, []) = (ps.take k).foldl payStep (b0, []) := by
        rw [List.take_of_length_le (by omega), List.take_of_length_le (by omega)]
      have HRR := Lib.hid hRR
      have hki : (ps.length : Int) ≤ k := by omega
      clear hRR hnum
      generalize hR : (ps.take k).foldl payStep (b0, []) = R at *
      clear hR
      obtain ⟨R1, R2⟩ := R
      obtain ⟨y0, y1, y2, y3, y4⟩ := (hyZ.next hb).c5
      have yf := (hyZ.next hb).frozen
      have ly := (hyZ.next hb).lt
      obtain ⟨g0, g1, g2, g3, g4⟩ := hbl.c5
      have lg := hbl.lt
      go_wp2
      have hfin : StV wr (.agg #[.slice A R1.length c, .slice A' R2.length c', .slice none 0 0, .slice none 0 0, .int .i64 (now % 12)]) (stOf (nums8 cs) (nums32 has) ps now) := by
        rw [hst.out, HRR.out]
        exact ⟨_, _, _, _, rfl, hoa.row, hop.row, Row.nil _, Row.nil _⟩
      refine bodyPost_ret (res_cell rfl _ rfl agg_st rfl ((hyZ.next hb).chain5)) rfl ⟨_, rfl, hfin.over (hyZ.next hb) (set5_grown _ _ _ _ _ _ _), ?_⟩
      (repeat (first | (with_reducible refine below_drew ?_) | (with_reducible refine below_drewN ?_ _) | (with_reducible refine below_alloc ?_ _) | ((with_reducible refine Below.setCell ?_ ?_ _); rotate_left; (focus (first | (simp; done) | (simp; omega))))))
      exact below_next hbZ hb
end Go.Proofs.YthjmficglpfgpaaDoor
