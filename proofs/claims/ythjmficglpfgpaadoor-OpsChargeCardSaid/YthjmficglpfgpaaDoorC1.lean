/- OpsCharge: the walk. -/
import Derived.Test.YthjmficglpfgpaaDoorL6
import Derived.Test.YthjmficglpfgpaaDoorL3
import Derived.Test.YthjmficglpfgpaaDoorPlain5
import Derived.Test.YthjmficglpfgpaaDoorHeadS
namespace Go.Proofs.YthjmficglpfgpaaDoor
set_option linter.unusedVariables false
set_option linter.unusedSimpArgs false
open Go Go.RowKit Enc
set_option maxRecDepth 100000
set_option maxHeartbeats 1600000

/-- What is handed to a law: accounts and payments by numbers. -/
structure BookIn (w : World) (vc vh vd vp : Value) (cs : List U8) (has : List U32) (ds : List U8) (ps : List Paid) : Prop where
  curs : Row w vc cs
  hass : Row w vh has
  helds : Row w vd ds
  paids : Row w vp ps
  c8 : ∀ c ∈ cs, 0 ≤ c.n ∧ c.n < 256
  h32 : ∀ x ∈ has, 0 ≤ x.n ∧ x.n < 4294967296
  pok : ∀ p ∈ ps, PaidOk p
  cap : ∃ A n c, vc = .slice A n c ∧ n ≤ c
theorem BookIn.below {w w' : World} {vc vh vd vp : Value} {cs : List U8} {has : List U32} {ds : List U8} {ps : List Paid} (h : BookIn w vc vh vd vp cs has ds ps) (hb : Below w.heap.size w w') : BookIn w' vc vh vd vp cs has ds ps :=
  ⟨h.curs.below hb, h.hass.below hb, h.helds.below hb, h.paids.below hb, h.c8, h.h32, h.pok, h.cap⟩
theorem state_in {vc vh vd vp : Value} {cs : List U8} {has : List U32} {ds : List U8} {ps : List Paid} {w : World} (h : BookIn w vc vh vd vp cs has ds ps) (now : Int) (hnow : 0 ≤ now ∧ now < 256) :
    Calls Tryd.prog 13 #[.agg #[vc, vh, vd], vp, .int .u8 now] w fun e w' => ∃ v, e = .returned v ∧ (∃ s, StNum s ∧ s = stOf (nums8 cs) (nums32 has) ps now ∧ StV w' v s) ∧ Below w.heap.size w w' :=
  (state_any vc vh vd vp cs has ds ps now w h.curs h.hass h.helds h.paids h.c8 h.h32 h.pok hnow h.cap).mono fun _ _ ⟨v, he, hv, hb⟩ => ⟨v, he, ⟨_, stOf_num _ _ _ _ h.pok, rfl, hv⟩, hb⟩
theorem opsCharge_walk (vc vh vd vp : Value) (cs : List U8) (has : List U32) (ds : List U8) (ps : List Paid) (k n : Int) (w : World) (hin : BookIn w vc vh vd vp cs has ds ps) (hT : GT w) (hk : 0 ≤ k ∧ k < 256) (hn : 0 ≤ n ∧ n < 256) :
    Calls Tryd.prog 4 #[.agg #[vc, vh, vd], vp, .int .u8 k, .int .u8 n] w fun e w' => e = .returned (.bool true) ∧ Below w.heap.size w w' := by
  have hb0 := below_alloc (Below.refl w.heap.size w) (.cells #[vc, vh, vd] 25)
  have hx := Blk.new w 25 #[vc, vh, vd]
  go_enter Tryd.func4, Tryd.ntmps4
  go_wp2_with fail
  refine (awake15 _ (hT.below hb0)).mono ?_
  rintro e w1 ⟨rfl, hz1⟩
  have hb1 := below_next hb0 hz1
  obtain ⟨x0, x1, x2⟩ := (hx.next hz1).c3
  go_wp2_with fail
  refine (state_in (hin.below hb1) 0 (by decide)).mono ?_
  rintro e w2 ⟨v, rfl, ⟨s, hS, -, hv⟩, hz2⟩
  have hb2 := below_next hb1 hz2
  obtain ⟨A1, c1, A2, c2, A3, c3, A4, c4, rfl, q1, q2, q3, q4⟩ := hv.open
  obtain ⟨bz, oz, rfl⟩ := q1.addr (by have := hS.len; omega)
  clear hin x0 x1 x2 hz1 hz2 hb0 hb1 hx
  obtain ⟨k0, k1⟩ := hk
  obtain ⟨n0, n1⟩ := hn
  have hlp := hS.pays
  by_cases hl : s.pays.length = 0
  · have hl' : ((s.pays.length : Int) == 0) = true := by simpa using hl
    go_wp2
    go_ret
    exact ⟨rfl, by (repeat (first | (with_reducible refine below_drew ?_) | (with_reducible refine below_drewN ?_ _) | (with_reducible refine below_alloc ?_ _) | ((with_reducible refine Below.setCell ?_ ?_ _); rotate_left; (focus (first | (simp; done) | (simp; omega)))))); exact hb2⟩
  · have hl' : ((s.pays.length : Int) == 0) = false := by simpa using hl
    have hpos : (0 : Int) < s.pays.length := by omega
    have hi0 := Int.emod_nonneg k (show (s.pays.length : Int) ≠ 0 by omega)
    have hi1 := Int.emod_lt_of_pos k hpos
    obtain ⟨b3, o3, c3', hvp, p0, p1, p2, p3, p4, p5, p6, p7, lp⟩ := q2.payI (k % s.pays.length) hi0 hi1
    injection hvp with e1 _ e3
    subst e1 e3
    have hq2 := below_alloc hb2 (.cells #[.slice (some ⟨bz, oz, none⟩) s.accs.length c1, .slice (some ⟨b3, o3, none⟩) s.pays.length c2, .slice A3 s.sagas.length c3, .slice A4 s.known.length c4, .int .i64 s.now] 36)
    clear hl
    go_wp2_with fail
    have hpd : ∃ p, rd s.pays (k % (s.pays.length : Int)) = p := ⟨_, rfl⟩
    generalize k % (s.pays.length : Int) = i at *
    obtain ⟨p, hp⟩ := hpd
    have hpk := hS.ok.pays.2 i hi0 hi1
    have hlaw := charge_law hS hi0 hi1 ⟨n0, n1⟩
    have hap := hS.ok.apart i hi0 hi1
    rw [hp] at hpk hlaw p0 p1 p2 p3 p4 p5 p6 p7 hap
    have hst := Blk.new w2 36 (stCells (some ⟨bz, oz, none⟩) s.accs.length c1 (some ⟨b3, o3, none⟩) s.pays.length c2 A3 s.sagas.length c3 A4 s.known.length c4 s.now)
    have HP := Lib.hid hp
    have hvX := (hv.alloc (.cells (stCells (some ⟨bz, oz, none⟩) s.accs.length c1 (some ⟨b3, o3, none⟩) s.pays.length c2 A3 s.sagas.length c3 A4 s.known.length c4 s.now) 36)).alloc (.cells #[.int .i64 p.frm, .int .i64 p.to, .int .i64 p.auth, .int .i64 p.capt, .int .i64 p.refd, .int .i64 p.chgd, .int .i64 p.til, .int .i64 p.stage] 47)
    have hbX := below_alloc hq2 (.cells #[.int .i64 p.frm, .int .i64 p.to, .int .i64 p.auth, .int .i64 p.capt, .int .i64 p.refd, .int .i64 p.chgd, .int .i64 p.til, .int .i64 p.stage] 47)
    have hstX := hst.alloc (.cells #[.int .i64 p.frm, .int .i64 p.to, .int .i64 p.auth, .int .i64 p.capt, .int .i64 p.refd, .int .i64 p.chgd, .int .i64 p.til, .int .i64 p.stage] 47)
    have hpX := Blk.new1 w2 (.cells (stCells (some ⟨bz, oz, none⟩) s.accs.length c1 (some ⟨b3, o3, none⟩) s.pays.length c2 A3 s.sagas.length c3 A4 s.known.length c4 s.now) 36) 47 #[.int .i64 p.frm, .int .i64 p.to, .int .i64 p.auth, .int .i64 p.capt, .int .i64 p.refd, .int .i64 p.chgd, .int .i64 p.til, .int .i64 p.stage]
    rw [hp]
    clear hp q1 q2 q3 q4 p0 p1 p2 p3 p4 p5 p6 p7 hb2 hq2 hst hl' hpos
    refine (opsDo_st s _ ⟨0, 7, i, 0, 1 + n, 0, 0⟩ _ hvX hS.ok.good hS.ok.pays (hT.below hbX)).mono ?_
    intro e w3 hres
    rcases hlaw with ⟨c, hc0, hdo, hor⟩ | ⟨t, hdo, htok, htl, htp, htb, htc⟩
    · rw [hdo] at hres
      obtain ⟨hz3, v3, rfl, hv3⟩ := hres
      obtain ⟨B1, d1, B2, d2, B3, d3, B4, d4, rfl, -, -, -, -⟩ := hv3.open
      have hcb : (c != 0) = true := by simpa using hc0
      have hb3 := below_next hbX hz3
      have hv3' := hvX.below hz3
      have hst3 := hstX.next hz3
      have hp3 := hpX.next hz3
      clear hvX hbX hstX hpX
      obtain ⟨x0, x1, x2, x3, x4⟩ := hst3.c5
      obtain ⟨p0, p1, p2, p3, p4, p5, p6, p7⟩ := hp3.c8
      have lx := hst3.lt
      have lp3 := hp3.lt
      go_wp2_with fail
      refine abs_world (fun X => Blk X w2.heap.size 36 (stCells (some ⟨bz, oz, none⟩) s.accs.length c1 (some ⟨b3, o3, none⟩) s.pays.length c2 A3 s.sagas.length c3 A4 s.known.length c4 s.now) ∧ Blk X w3.heap.size 36 (stCells B1 s.accs.length d1 B2 s.pays.length d2 B3 s.sagas.length d3 B4 s.known.length d4 s.now) ∧ Blk X (w2.heap.size + 1) 47 #[.int .i64 p.frm, .int .i64 p.to, .int .i64 p.auth, .int .i64 p.capt, .int .i64 p.refd, .int .i64 p.chgd, .int .i64 p.til, .int .i64 p.stage] ∧ StV X (.agg (stCells (some ⟨bz, oz, none⟩) s.accs.length c1 (some ⟨b3, o3, none⟩) s.pays.length c2 A3 s.sagas.length c3 A4 s.known.length c4 s.now)) s ∧ StV X (.agg (stCells B1 s.accs.length d1 B2 s.pays.length d2 B3 s.sagas.length d3 B4 s.known.length d4 s.now)) s ∧ Below w.heap.size w X)
        ⟨(hst3.alloc _).alloc _, (Blk.new _ _ _).alloc _, (hp3.alloc _).alloc _, (hv3'.alloc _).alloc _, (hv3.alloc _).alloc _, below_alloc (below_alloc hb3 _) _⟩ ?_
      clear hst3 hp3 hv3' hv3 hb3 x0 x1 x2 x3 x4 p0 p1 p2 p3 p4 p5 p6 p7 lx lp3
      rintro X ⟨hst3, htt3, hp3, hv3', hv3, hb3⟩
      obtain ⟨r1, -, -, -⟩ := hv3'.rows
      obtain ⟨a0, -, -⟩ := r1.accAt p.frm (by omega) hpk.2.1.2
      obtain ⟨a1, -, -⟩ := r1.accAt p.to (by omega) hpk.2.2.2
      obtain ⟨x0, x1, x2, x3, x4⟩ := hst3.c5
      obtain ⟨y0, y1, y2, y3, y4⟩ := htt3.c5
      obtain ⟨p0, p1, p2, p3, p4, p5, p6, p7⟩ := hp3.c8
      have f0 : 0 ≤ p.frm := by omega
      have f1 : p.frm < (s.accs.length : Int) := hpk.2.1.2
      have t0 : 0 ≤ p.to := by omega
      have t1 : p.to < (s.accs.length : Int) := hpk.2.2.2
      have hSof : ∀ w', Below X.heap.size X w' → (Below X.heap.size X w' ∧ w'.cell? ⟨w2.heap.size, 0, none⟩ = some (.slice (some ⟨bz, oz, none⟩) s.accs.length c1) ∧ w'.cell? ⟨w2.heap.size, 1, none⟩ = some (.slice (some ⟨b3, o3, none⟩) s.pays.length c2) ∧ w'.cell? ⟨w2.heap.size, 2, none⟩ = some (.slice A3 s.sagas.length c3) ∧ w'.cell? ⟨w2.heap.size, 3, none⟩ = some (.slice A4 s.known.length c4) ∧ w'.cell? ⟨w2.heap.size, 4, none⟩ = some (.int .i64 s.now) ∧ w'.cell? ⟨w3.heap.size, 0, none⟩ = some (.slice B1 s.accs.length d1) ∧ w'.cell? ⟨w3.heap.size, 1, none⟩ = some (.slice B2 s.pays.length d2) ∧ w'.cell? ⟨w3.heap.size, 2, none⟩ = some (.slice B3 s.sagas.length d3) ∧ w'.cell? ⟨w3.heap.size, 3, none⟩ = some (.slice B4 s.known.length d4) ∧ w'.cell? ⟨w3.heap.size, 4, none⟩ = some (.int .i64 s.now) ∧ w'.cell? ⟨(w2.heap.size + 1), 0, none⟩ = some (.int .i64 p.frm) ∧ w'.cell? ⟨(w2.heap.size + 1), 1, none⟩ = some (.int .i64 p.to) ∧ w'.cell? ⟨(w2.heap.size + 1), 2, none⟩ = some (.int .i64 p.auth) ∧ w'.cell? ⟨(w2.heap.size + 1), 3, none⟩ = some (.int .i64 p.capt) ∧ w'.cell? ⟨(w2.heap.size + 1), 4, none⟩ = some (.int .i64 p.refd) ∧ w'.cell? ⟨(w2.heap.size + 1), 5, none⟩ = some (.int .i64 p.chgd) ∧ w'.cell? ⟨(w2.heap.size + 1), 6, none⟩ = some (.int .i64 p.til) ∧ w'.cell? ⟨(w2.heap.size + 1), 7, none⟩ = some (.int .i64 p.stage) ∧ w'.cell? ⟨bz, oz + p.frm.toNat * 3, none⟩ = some (.int .i64 (rd s.accs p.frm).cur) ∧ w'.cell? ⟨bz, oz + p.to.toNat * 3, none⟩ = some (.int .i64 (rd s.accs p.to).cur)) := fun w' hb => ⟨hb, cell_below hb x0, cell_below hb x1, cell_below hb x2, cell_below hb x3, cell_below hb x4, cell_below hb y0, cell_below hb y1, cell_below hb y2, cell_below hb y3, cell_below hb y4, cell_below hb p0, cell_below hb p1, cell_below hb p2, cell_below hb p3, cell_below hb p4, cell_below hb p5, cell_below hb p6, cell_below hb p7, cell_below hb a0, cell_below hb a1⟩
      have hsame : decide (SameP s s) = true := decide_eq_true ⟨rfl, rfl, rfl⟩
      have HSA := Lib.hid hsame
      clear hsame x0 x1 x2 x3 x4 y0 y1 y2 y3 y4 p0 p1 p2 p3 p4 p5 p6 p7 a0 a1
      have hbd : Below X.heap.size X X.drew := below_drew (Below.refl _ _)
      by_cases hg : gave p < 1 + n
      · have hgi : decide (gave p < 1 + n) = true := decide_eq_true hg
        have hw1 : IntKind.i64.wrap n = n := IntWalk.i64_in _ (by omega)
        have hw2 : IntKind.i64.wrap (1 + n) = 1 + n := IntWalk.i64_in _ (by omega)
        refine wp_region_head 28 (fun w' => Below X.heap.size X w' ∧ w'.cell? ⟨w2.heap.size, 0, none⟩ = some (.slice (some ⟨bz, oz, none⟩) s.accs.length c1) ∧ w'.cell? ⟨w2.heap.size, 1, none⟩ = some (.slice (some ⟨b3, o3, none⟩) s.pays.length c2) ∧ w'.cell? ⟨w2.heap.size, 2, none⟩ = some (.slice A3 s.sagas.length c3) ∧ w'.cell? ⟨w2.heap.size, 3, none⟩ = some (.slice A4 s.known.length c4) ∧ w'.cell? ⟨w2.heap.size, 4, none⟩ = some (.int .i64 s.now) ∧ w'.cell? ⟨w3.heap.size, 0, none⟩ = some (.slice B1 s.accs.length d1) ∧ w'.cell? ⟨w3.heap.size, 1, none⟩ = some (.slice B2 s.pays.length d2) ∧ w'.cell? ⟨w3.heap.size, 2, none⟩ = some (.slice B3 s.sagas.length d3) ∧ w'.cell? ⟨w3.heap.size, 3, none⟩ = some (.slice B4 s.known.length d4) ∧ w'.cell? ⟨w3.heap.size, 4, none⟩ = some (.int .i64 s.now) ∧ w'.cell? ⟨(w2.heap.size + 1), 0, none⟩ = some (.int .i64 p.frm) ∧ w'.cell? ⟨(w2.heap.size + 1), 1, none⟩ = some (.int .i64 p.to) ∧ w'.cell? ⟨(w2.heap.size + 1), 2, none⟩ = some (.int .i64 p.auth) ∧ w'.cell? ⟨(w2.heap.size + 1), 3, none⟩ = some (.int .i64 p.capt) ∧ w'.cell? ⟨(w2.heap.size + 1), 4, none⟩ = some (.int .i64 p.refd) ∧ w'.cell? ⟨(w2.heap.size + 1), 5, none⟩ = some (.int .i64 p.chgd) ∧ w'.cell? ⟨(w2.heap.size + 1), 6, none⟩ = some (.int .i64 p.til) ∧ w'.cell? ⟨(w2.heap.size + 1), 7, none⟩ = some (.int .i64 p.stage) ∧ w'.cell? ⟨bz, oz + p.frm.toNat * 3, none⟩ = some (.int .i64 (rd s.accs p.frm).cur) ∧ w'.cell? ⟨bz, oz + p.to.toNat * 3, none⟩ = some (.int .i64 (rd s.accs p.to).cur)) (by kernel_rfl) (by kernel_rfl) (hSof _ hbd) (fun hHeld => ?_)
        refine wpHead_take (i := 0) (v := ?_) rfl (by kernel_rfl) (by kernel_rfl) (by kernel_rfl) (by kernel_rfl) (fun _ _ _ h => h) (Or.inl ⟨by rfl, fun w hSw => ?_⟩) (by assumption) ?_; rotate_left; (focus ((try dsimp only at hSw); go_simp <;> with_reducible rfl)); (try simp only [Act.put, List.setIfInBounds_toArray, List.set_cons_zero, List.set_cons_succ])
        refine wpHead_take (i := 1) (v := ?_) rfl (by kernel_rfl) (by kernel_rfl) (by kernel_rfl) (by kernel_rfl) (fun _ _ _ h => h) (Or.inl ⟨by rfl, fun w hSw => ?_⟩) (by assumption) ?_; rotate_left; (focus ((try dsimp only at hSw); go_simp <;> with_reducible rfl)); (try simp only [Act.put, List.setIfInBounds_toArray, List.set_cons_zero, List.set_cons_succ])
        refine wpHead_ready (rs := [2]) (by kernel_rfl) (by simp) ?_
        refine AllHead.cons (i := 2) rfl (by kernel_rfl) (fun K hK => ?_) ?_
        · go_simp
          go_at_call 16
          refine (same_st _ _ s s _ hv3'.drew hv3.drew).mono ?_
          rintro e w4 ⟨rfl, hz4⟩
          rw [HSA.out]
          have hb4 : Below X.heap.size X w4 := below_next hbd hz4
          refine hK.out _ _ (hSof _ hb4) (fun hHeld4 => ?_)
          clear hK K
          (try simp only [Act.put, List.setIfInBounds_toArray, List.set_cons_zero, List.set_cons_succ])
          refine wpHead_take (i := 3) (v := ?_) rfl (by kernel_rfl) (by kernel_rfl) (by kernel_rfl) (by kernel_rfl) (fun _ _ _ h => h) (Or.inl ⟨by rfl, fun w hSw => ?_⟩) (by assumption) ?_; rotate_left; (focus ((try dsimp only at hSw); go_simp <;> with_reducible rfl)); (try simp only [Act.put, List.setIfInBounds_toArray, List.set_cons_zero, List.set_cons_succ])
          refine wpHead_take (i := 4) (v := ?_) rfl (by kernel_rfl) (by kernel_rfl) (by kernel_rfl) (by kernel_rfl) (fun _ _ _ h => h) (Or.inl ⟨by rfl, fun w hSw => ?_⟩) (by assumption) ?_; rotate_left; (focus ((try dsimp only at hSw); go_simp <;> with_reducible rfl)); (try simp only [Act.put, List.setIfInBounds_toArray, List.set_cons_zero, List.set_cons_succ])
          refine wpHead_take (i := 5) (v := ?_) rfl (by kernel_rfl) (by kernel_rfl) (by kernel_rfl) (by kernel_rfl) (fun _ _ _ h => h) (Or.inl ⟨by rfl, fun w hSw => ?_⟩) (by assumption) ?_; rotate_left; (focus ((try dsimp only at hSw); go_simp <;> with_reducible rfl)); (try simp only [Act.put, List.setIfInBounds_toArray, List.set_cons_zero, List.set_cons_succ])
          refine wpHead_take (i := 6) (v := ?_) rfl (by kernel_rfl) (by kernel_rfl) (by kernel_rfl) (by kernel_rfl) (fun _ _ _ h => h) (Or.inl ⟨by rfl, fun w hSw => ?_⟩) (by assumption) ?_; rotate_left; (focus ((try dsimp only at hSw); go_simp <;> with_reducible rfl)); (try simp only [Act.put, List.setIfInBounds_toArray, List.set_cons_zero, List.set_cons_succ])
          refine wpHead_take (i := 7) (v := ?_) rfl (by kernel_rfl) (by kernel_rfl) (by kernel_rfl) (by kernel_rfl) (fun _ _ _ h => h) (Or.inl ⟨by rfl, fun w hSw => ?_⟩) (by assumption) ?_; rotate_left; (focus ((try dsimp only at hSw); go_simp <;> with_reducible rfl)); (try simp only [Act.put, List.setIfInBounds_toArray, List.set_cons_zero, List.set_cons_succ])
          refine wpHead_ready (rs := [8]) (by kernel_rfl) (by simp) ?_
          refine AllHead.cons (i := 8) rfl (by kernel_rfl) (fun K hK => ?_) ?_
          · go_simp
            go_at_call 17
            refine (gave_any p _ hpk.1).mono ?_
            rintro e w5 ⟨rfl, hz5⟩
            have hb5 : Below X.heap.size X w5 := below_next hb4 hz5
            refine hK.out _ _ (hSof _ hb5) (fun hHeld5 => ?_)
            clear hK K
            (try simp only [Act.put, List.setIfInBounds_toArray, List.set_cons_zero, List.set_cons_succ])
            refine wpHead_take (i := 9) (v := ?_) rfl (by kernel_rfl) (by kernel_rfl) (by kernel_rfl) (by kernel_rfl) (fun _ _ _ h => h) (Or.inl ⟨by rfl, fun w hSw => ?_⟩) (by assumption) ?_; rotate_left; (focus ((try dsimp only at hSw); go_simp <;> with_reducible rfl)); (try simp only [Act.put, List.setIfInBounds_toArray, List.set_cons_zero, List.set_cons_succ])
            refine wpHead_take (i := 10) (v := ?_) rfl (by kernel_rfl) (by kernel_rfl) (by kernel_rfl) (by kernel_rfl) (fun _ _ _ h => h) (Or.inl ⟨by rfl, fun w hSw => ?_⟩) (by assumption) ?_; rotate_left; (focus ((try dsimp only at hSw); go_simp <;> with_reducible rfl)); (try simp only [Act.put, List.setIfInBounds_toArray, List.set_cons_zero, List.set_cons_succ])
            refine wpHead_take (i := 11) (v := undef) rfl (by kernel_rfl) (by kernel_rfl) (by kernel_rfl) (by kernel_rfl) (fun _ _ _ h => h) (Or.inr ⟨by rfl, rfl⟩) (by assumption) ?_; (try simp only [Act.put, List.setIfInBounds_toArray, List.set_cons_zero, List.set_cons_succ])
            refine wpHead_take (i := 12) (v := undef) rfl (by kernel_rfl) (by kernel_rfl) (by kernel_rfl) (by kernel_rfl) (fun _ _ _ h => h) (Or.inr ⟨by rfl, rfl⟩) (by assumption) ?_; (try simp only [Act.put, List.setIfInBounds_toArray, List.set_cons_zero, List.set_cons_succ])
            refine wpHead_take (i := 13) (v := undef) rfl (by kernel_rfl) (by kernel_rfl) (by kernel_rfl) (by kernel_rfl) (fun _ _ _ h => h) (Or.inr ⟨by rfl, rfl⟩) (by assumption) ?_; (try simp only [Act.put, List.setIfInBounds_toArray, List.set_cons_zero, List.set_cons_succ])
            refine wpHead_take (i := 14) (v := undef) rfl (by kernel_rfl) (by kernel_rfl) (by kernel_rfl) (by kernel_rfl) (fun _ _ _ h => h) (Or.inr ⟨by rfl, rfl⟩) (by assumption) ?_; (try simp only [Act.put, List.setIfInBounds_toArray, List.set_cons_zero, List.set_cons_succ])
            refine wpHead_take (i := 15) (v := undef) rfl (by kernel_rfl) (by kernel_rfl) (by kernel_rfl) (by kernel_rfl) (fun _ _ _ h => h) (Or.inr ⟨by rfl, rfl⟩) (by assumption) ?_; (try simp only [Act.put, List.setIfInBounds_toArray, List.set_cons_zero, List.set_cons_succ])
            refine wpHead_take (i := 16) (v := undef) rfl (by kernel_rfl) (by kernel_rfl) (by kernel_rfl) (by kernel_rfl) (fun _ _ _ h => h) (Or.inr ⟨by rfl, rfl⟩) (by assumption) ?_; (try simp only [Act.put, List.setIfInBounds_toArray, List.set_cons_zero, List.set_cons_succ])
            refine wpHead_take (i := 17) (v := undef) rfl (by kernel_rfl) (by kernel_rfl) (by kernel_rfl) (by kernel_rfl) (fun _ _ _ h => h) (Or.inr ⟨by rfl, rfl⟩) (by assumption) ?_; (try simp only [Act.put, List.setIfInBounds_toArray, List.set_cons_zero, List.set_cons_succ])
            refine wpHead_take (i := 18) (v := undef) rfl (by kernel_rfl) (by kernel_rfl) (by kernel_rfl) (by kernel_rfl) (fun _ _ _ h => h) (Or.inr ⟨by rfl, rfl⟩) (by assumption) ?_; (try simp only [Act.put, List.setIfInBounds_toArray, List.set_cons_zero, List.set_cons_succ])
            refine wpHead_take (i := 19) (v := undef) rfl (by kernel_rfl) (by kernel_rfl) (by kernel_rfl) (by kernel_rfl) (fun _ _ _ h => h) (Or.inr ⟨by rfl, rfl⟩) (by assumption) ?_; (try simp only [Act.put, List.setIfInBounds_toArray, List.set_cons_zero, List.set_cons_succ])
            refine wpHead_take (i := 20) (v := undef) rfl (by kernel_rfl) (by kernel_rfl) (by kernel_rfl) (by kernel_rfl) (fun _ _ _ h => h) (Or.inr ⟨by rfl, rfl⟩) (by assumption) ?_; (try simp only [Act.put, List.setIfInBounds_toArray, List.set_cons_zero, List.set_cons_succ])
            refine wpHead_take (i := 21) (v := undef) rfl (by kernel_rfl) (by kernel_rfl) (by kernel_rfl) (by kernel_rfl) (fun _ _ _ h => h) (Or.inr ⟨by rfl, rfl⟩) (by assumption) ?_; (try simp only [Act.put, List.setIfInBounds_toArray, List.set_cons_zero, List.set_cons_succ])
            refine wpHead_take (i := 22) (v := undef) rfl (by kernel_rfl) (by kernel_rfl) (by kernel_rfl) (by kernel_rfl) (fun _ _ _ h => h) (Or.inr ⟨by rfl, rfl⟩) (by assumption) ?_; (try simp only [Act.put, List.setIfInBounds_toArray, List.set_cons_zero, List.set_cons_succ])
            refine wpHead_take (i := 23) (v := undef) rfl (by kernel_rfl) (by kernel_rfl) (by kernel_rfl) (by kernel_rfl) (fun _ _ _ h => h) (Or.inr ⟨by rfl, rfl⟩) (by assumption) ?_; (try simp only [Act.put, List.setIfInBounds_toArray, List.set_cons_zero, List.set_cons_succ])
            refine wpHead_take (i := 24) (v := undef) rfl (by kernel_rfl) (by kernel_rfl) (by kernel_rfl) (by kernel_rfl) (fun _ _ _ h => h) (Or.inr ⟨by rfl, rfl⟩) (by assumption) ?_; (try simp only [Act.put, List.setIfInBounds_toArray, List.set_cons_zero, List.set_cons_succ])
            refine wpHead_take (i := 25) (v := undef) rfl (by kernel_rfl) (by kernel_rfl) (by kernel_rfl) (by kernel_rfl) (fun _ _ _ h => h) (Or.inr ⟨by rfl, rfl⟩) (by assumption) ?_; (try simp only [Act.put, List.setIfInBounds_toArray, List.set_cons_zero, List.set_cons_succ])
            refine wpHead_take (i := 26) (v := ?_) rfl (by kernel_rfl) (by kernel_rfl) (by kernel_rfl) (by kernel_rfl) (fun _ _ _ h => h) (Or.inl ⟨by rfl, fun w hSw => ?_⟩) (by assumption) ?_; rotate_left; (focus ((try dsimp only at hSw); go_simp <;> with_reducible rfl)); (try simp only [Act.put, List.setIfInBounds_toArray, List.set_cons_zero, List.set_cons_succ])
            refine wpHead_take (i := 27) (v := ?_) rfl (by kernel_rfl) (by kernel_rfl) (by kernel_rfl) (by kernel_rfl) (fun _ _ _ h => h) (Or.inl ⟨by rfl, fun w hSw => ?_⟩) (by assumption) ?_; rotate_left; (focus ((try dsimp only at hSw); go_simp <;> with_reducible rfl)); (try simp only [Act.put, List.setIfInBounds_toArray, List.set_cons_zero, List.set_cons_succ])
            refine wpHead_done (by kernel_rfl) ?_; simp only [List.drop_succ_cons, List.drop_zero]
            clear hw1 hw2
            go_wp2
            go_ret
            exact ⟨rfl, by (repeat (first | (with_reducible refine below_drew ?_) | (with_reducible refine below_drewN ?_ _) | (with_reducible refine below_alloc ?_ _) | ((with_reducible refine Below.setCell ?_ ?_ _); rotate_left; (focus (first | (simp; done) | (simp; omega)))))); exact below_next hb3 hb5⟩
          exact AllHead.nil
        exact AllHead.nil
      · have hcu : (rd s.accs p.frm).cur ≠ (rd s.accs p.to).cur := by rcases hor with h | h; exact absurd h hg; exact h
        have hcb2 : ((rd s.accs p.frm).cur != (rd s.accs p.to).cur) = true := by simpa using hcu
        have hgi : decide (gave p < 1 + n) = false := decide_eq_false hg
        have hw1 : IntKind.i64.wrap n = n := IntWalk.i64_in _ (by omega)
        have hw2 : IntKind.i64.wrap (1 + n) = 1 + n := IntWalk.i64_in _ (by omega)
        refine wp_region_head 28 (fun w' => Below X.heap.size X w' ∧ w'.cell? ⟨w2.heap.size, 0, none⟩ = some (.slice (some ⟨bz, oz, none⟩) s.accs.length c1) ∧ w'.cell? ⟨w2.heap.size, 1, none⟩ = some (.slice (some ⟨b3, o3, none⟩) s.pays.length c2) ∧ w'.cell? ⟨w2.heap.size, 2, none⟩ = some (.slice A3 s.sagas.length c3) ∧ w'.cell? ⟨w2.heap.size, 3, none⟩ = some (.slice A4 s.known.length c4) ∧ w'.cell? ⟨w2.heap.size, 4, none⟩ = some (.int .i64 s.now) ∧ w'.cell? ⟨w3.heap.size, 0, none⟩ = some (.slice B1 s.accs.length d1) ∧ w'.cell? ⟨w3.heap.size, 1, none⟩ = some (.slice B2 s.pays.length d2) ∧ w'.cell? ⟨w3.heap.size, 2, none⟩ = some (.slice B3 s.sagas.length d3) ∧ w'.cell? ⟨w3.heap.size, 3, none⟩ = some (.slice B4 s.known.length d4) ∧ w'.cell? ⟨w3.heap.size, 4, none⟩ = some (.int .i64 s.now) ∧ w'.cell? ⟨(w2.heap.size + 1), 0, none⟩ = some (.int .i64 p.frm) ∧ w'.cell? ⟨(w2.heap.size + 1), 1, none⟩ = some (.int .i64 p.to) ∧ w'.cell? ⟨(w2.heap.size + 1), 2, none⟩ = some (.int .i64 p.auth) ∧ w'.cell? ⟨(w2.heap.size + 1), 3, none⟩ = some (.int .i64 p.capt) ∧ w'.cell? ⟨(w2.heap.size + 1), 4, none⟩ = some (.int .i64 p.refd) ∧ w'.cell? ⟨(w2.heap.size + 1), 5, none⟩ = some (.int .i64 p.chgd) ∧ w'.cell? ⟨(w2.heap.size + 1), 6, none⟩ = some (.int .i64 p.til) ∧ w'.cell? ⟨(w2.heap.size + 1), 7, none⟩ = some (.int .i64 p.stage) ∧ w'.cell? ⟨bz, oz + p.frm.toNat * 3, none⟩ = some (.int .i64 (rd s.accs p.frm).cur) ∧ w'.cell? ⟨bz, oz + p.to.toNat * 3, none⟩ = some (.int .i64 (rd s.accs p.to).cur)) (by kernel_rfl) (by kernel_rfl) (hSof _ hbd) (fun hHeld => ?_)
        refine wpHead_take (i := 0) (v := ?_) rfl (by kernel_rfl) (by kernel_rfl) (by kernel_rfl) (by kernel_rfl) (fun _ _ _ h => h) (Or.inl ⟨by rfl, fun w hSw => ?_⟩) (by assumption) ?_; rotate_left; (focus ((try dsimp only at hSw); go_simp <;> with_reducible rfl)); (try simp only [Act.put, List.setIfInBounds_toArray, List.set_cons_zero, List.set_cons_succ])
        refine wpHead_take (i := 1) (v := ?_) rfl (by kernel_rfl) (by kernel_rfl) (by kernel_rfl) (by kernel_rfl) (fun _ _ _ h => h) (Or.inl ⟨by rfl, fun w hSw => ?_⟩) (by assumption) ?_; rotate_left; (focus ((try dsimp only at hSw); go_simp <;> with_reducible rfl)); (try simp only [Act.put, List.setIfInBounds_toArray, List.set_cons_zero, List.set_cons_succ])
        refine wpHead_ready (rs := [2]) (by kernel_rfl) (by simp) ?_
        refine AllHead.cons (i := 2) rfl (by kernel_rfl) (fun K hK => ?_) ?_
        · go_simp
          go_at_call 16
          refine (same_st _ _ s s _ hv3'.drew hv3.drew).mono ?_
          rintro e w4 ⟨rfl, hz4⟩
          rw [HSA.out]
          have hb4 : Below X.heap.size X w4 := below_next hbd hz4
          refine hK.out _ _ (hSof _ hb4) (fun hHeld4 => ?_)
          clear hK K
          (try simp only [Act.put, List.setIfInBounds_toArray, List.set_cons_zero, List.set_cons_succ])
          refine wpHead_take (i := 3) (v := ?_) rfl (by kernel_rfl) (by kernel_rfl) (by kernel_rfl) (by kernel_rfl) (fun _ _ _ h => h) (Or.inl ⟨by rfl, fun w hSw => ?_⟩) (by assumption) ?_; rotate_left; (focus ((try dsimp only at hSw); go_simp <;> with_reducible rfl)); (try simp only [Act.put, List.setIfInBounds_toArray, List.set_cons_zero, List.set_cons_succ])
          refine wpHead_take (i := 4) (v := ?_) rfl (by kernel_rfl) (by kernel_rfl) (by kernel_rfl) (by kernel_rfl) (fun _ _ _ h => h) (Or.inl ⟨by rfl, fun w hSw => ?_⟩) (by assumption) ?_; rotate_left; (focus ((try dsimp only at hSw); go_simp <;> with_reducible rfl)); (try simp only [Act.put, List.setIfInBounds_toArray, List.set_cons_zero, List.set_cons_succ])
          refine wpHead_take (i := 5) (v := ?_) rfl (by kernel_rfl) (by kernel_rfl) (by kernel_rfl) (by kernel_rfl) (fun _ _ _ h => h) (Or.inl ⟨by rfl, fun w hSw => ?_⟩) (by assumption) ?_; rotate_left; (focus ((try dsimp only at hSw); go_simp <;> with_reducible rfl)); (try simp only [Act.put, List.setIfInBounds_toArray, List.set_cons_zero, List.set_cons_succ])
          refine wpHead_take (i := 6) (v := ?_) rfl (by kernel_rfl) (by kernel_rfl) (by kernel_rfl) (by kernel_rfl) (fun _ _ _ h => h) (Or.inl ⟨by rfl, fun w hSw => ?_⟩) (by assumption) ?_; rotate_left; (focus ((try dsimp only at hSw); go_simp <;> with_reducible rfl)); (try simp only [Act.put, List.setIfInBounds_toArray, List.set_cons_zero, List.set_cons_succ])
          refine wpHead_take (i := 7) (v := ?_) rfl (by kernel_rfl) (by kernel_rfl) (by kernel_rfl) (by kernel_rfl) (fun _ _ _ h => h) (Or.inl ⟨by rfl, fun w hSw => ?_⟩) (by assumption) ?_; rotate_left; (focus ((try dsimp only at hSw); go_simp <;> with_reducible rfl)); (try simp only [Act.put, List.setIfInBounds_toArray, List.set_cons_zero, List.set_cons_succ])
          refine wpHead_ready (rs := [8]) (by kernel_rfl) (by simp) ?_
          refine AllHead.cons (i := 8) rfl (by kernel_rfl) (fun K hK => ?_) ?_
          · go_simp
            go_at_call 17
            refine (gave_any p _ hpk.1).mono ?_
            rintro e w5 ⟨rfl, hz5⟩
            have hb5 : Below X.heap.size X w5 := below_next hb4 hz5
            refine hK.out _ _ (hSof _ hb5) (fun hHeld5 => ?_)
            clear hK K
            (try simp only [Act.put, List.setIfInBounds_toArray, List.set_cons_zero, List.set_cons_succ])
            refine wpHead_take (i := 9) (v := ?_) rfl (by kernel_rfl) (by kernel_rfl) (by kernel_rfl) (by kernel_rfl) (fun _ _ _ h => h) (Or.inl ⟨by rfl, fun w hSw => ?_⟩) (by assumption) ?_; rotate_left; (focus ((try dsimp only at hSw); go_simp <;> with_reducible rfl)); (try simp only [Act.put, List.setIfInBounds_toArray, List.set_cons_zero, List.set_cons_succ])
            refine wpHead_take (i := 10) (v := ?_) rfl (by kernel_rfl) (by kernel_rfl) (by kernel_rfl) (by kernel_rfl) (fun _ _ _ h => h) (Or.inl ⟨by rfl, fun w hSw => ?_⟩) (by assumption) ?_; rotate_left; (focus ((try dsimp only at hSw); go_simp <;> with_reducible rfl)); (try simp only [Act.put, List.setIfInBounds_toArray, List.set_cons_zero, List.set_cons_succ])
            refine wpHead_take (i := 11) (v := ?_) rfl (by kernel_rfl) (by kernel_rfl) (by kernel_rfl) (by kernel_rfl) (fun _ _ _ h => h) (Or.inl ⟨by rfl, fun w hSw => ?_⟩) (by assumption) ?_; rotate_left; (focus ((try dsimp only at hSw); go_simp <;> with_reducible rfl)); (try simp only [Act.put, List.setIfInBounds_toArray, List.set_cons_zero, List.set_cons_succ])
            refine wpHead_take (i := 12) (v := ?_) rfl (by kernel_rfl) (by kernel_rfl) (by kernel_rfl) (by kernel_rfl) (fun _ _ _ h => h) (Or.inl ⟨by rfl, fun w hSw => ?_⟩) (by assumption) ?_; rotate_left; (focus ((try dsimp only at hSw); go_simp <;> with_reducible rfl)); (try simp only [Act.put, List.setIfInBounds_toArray, List.set_cons_zero, List.set_cons_succ])
            refine wpHead_take (i := 13) (v := ?_) rfl (by kernel_rfl) (by kernel_rfl) (by kernel_rfl) (by kernel_rfl) (fun _ _ _ h => h) (Or.inl ⟨by rfl, fun w hSw => ?_⟩) (by assumption) ?_; rotate_left; (focus ((try dsimp only at hSw); go_simp <;> with_reducible rfl)); (try simp only [Act.put, List.setIfInBounds_toArray, List.set_cons_zero, List.set_cons_succ])
            refine wpHead_take (i := 14) (v := ?_) rfl (by kernel_rfl) (by kernel_rfl) (by kernel_rfl) (by kernel_rfl) (fun _ _ _ h => h) (Or.inl ⟨by rfl, fun w hSw => ?_⟩) (by assumption) ?_; rotate_left; (focus ((try dsimp only at hSw); go_simp <;> with_reducible rfl)); (try simp only [Act.put, List.setIfInBounds_toArray, List.set_cons_zero, List.set_cons_succ])
            refine wpHead_take (i := 15) (v := ?_) rfl (by kernel_rfl) (by kernel_rfl) (by kernel_rfl) (by kernel_rfl) (fun _ _ _ h => h) (Or.inl ⟨by rfl, fun w hSw => ?_⟩) (by assumption) ?_; rotate_left; (focus ((try dsimp only at hSw); go_simp <;> with_reducible rfl)); (try simp only [Act.put, List.setIfInBounds_toArray, List.set_cons_zero, List.set_cons_succ])
            refine wpHead_take (i := 16) (v := ?_) rfl (by kernel_rfl) (by kernel_rfl) (by kernel_rfl) (by kernel_rfl) (fun _ _ _ h => h) (Or.inl ⟨by rfl, fun w hSw => ?_⟩) (by assumption) ?_; rotate_left; (focus ((try dsimp only at hSw); go_simp <;> with_reducible rfl)); (try simp only [Act.put, List.setIfInBounds_toArray, List.set_cons_zero, List.set_cons_succ])
            refine wpHead_take (i := 17) (v := ?_) rfl (by kernel_rfl) (by kernel_rfl) (by kernel_rfl) (by kernel_rfl) (fun _ _ _ h => h) (Or.inl ⟨by rfl, fun w hSw => ?_⟩) (by assumption) ?_; rotate_left; (focus ((try dsimp only at hSw); go_simp <;> with_reducible rfl)); (try simp only [Act.put, List.setIfInBounds_toArray, List.set_cons_zero, List.set_cons_succ])
            refine wpHead_take (i := 18) (v := ?_) rfl (by kernel_rfl) (by kernel_rfl) (by kernel_rfl) (by kernel_rfl) (fun _ _ _ h => h) (Or.inl ⟨by rfl, fun w hSw => ?_⟩) (by assumption) ?_; rotate_left; (focus ((try dsimp only at hSw); go_simp <;> with_reducible rfl)); (try simp only [Act.put, List.setIfInBounds_toArray, List.set_cons_zero, List.set_cons_succ])
            refine wpHead_take (i := 19) (v := ?_) rfl (by kernel_rfl) (by kernel_rfl) (by kernel_rfl) (by kernel_rfl) (fun _ _ _ h => h) (Or.inl ⟨by rfl, fun w hSw => ?_⟩) (by assumption) ?_; rotate_left; (focus ((try dsimp only at hSw); go_simp <;> with_reducible rfl)); (try simp only [Act.put, List.setIfInBounds_toArray, List.set_cons_zero, List.set_cons_succ])
            refine wpHead_take (i := 20) (v := ?_) rfl (by kernel_rfl) (by kernel_rfl) (by kernel_rfl) (by kernel_rfl) (fun _ _ _ h => h) (Or.inl ⟨by rfl, fun w hSw => ?_⟩) (by assumption) ?_; rotate_left; (focus ((try dsimp only at hSw); go_simp <;> with_reducible rfl)); (try simp only [Act.put, List.setIfInBounds_toArray, List.set_cons_zero, List.set_cons_succ])
            refine wpHead_take (i := 21) (v := ?_) rfl (by kernel_rfl) (by kernel_rfl) (by kernel_rfl) (by kernel_rfl) (fun _ _ _ h => h) (Or.inl ⟨by rfl, fun w hSw => ?_⟩) (by assumption) ?_; rotate_left; (focus ((try dsimp only at hSw); go_simp <;> with_reducible rfl)); (try simp only [Act.put, List.setIfInBounds_toArray, List.set_cons_zero, List.set_cons_succ])
            refine wpHead_take (i := 22) (v := ?_) rfl (by kernel_rfl) (by kernel_rfl) (by kernel_rfl) (by kernel_rfl) (fun _ _ _ h => h) (Or.inl ⟨by rfl, fun w hSw => ?_⟩) (by assumption) ?_; rotate_left; (focus ((try dsimp only at hSw); go_simp <;> with_reducible rfl)); (try simp only [Act.put, List.setIfInBounds_toArray, List.set_cons_zero, List.set_cons_succ])
            refine wpHead_take (i := 23) (v := ?_) rfl (by kernel_rfl) (by kernel_rfl) (by kernel_rfl) (by kernel_rfl) (fun _ _ _ h => h) (Or.inl ⟨by rfl, fun w hSw => ?_⟩) (by assumption) ?_; rotate_left; (focus ((try dsimp only at hSw); go_simp <;> with_reducible rfl)); (try simp only [Act.put, List.setIfInBounds_toArray, List.set_cons_zero, List.set_cons_succ])
            refine wpHead_take (i := 24) (v := ?_) rfl (by kernel_rfl) (by kernel_rfl) (by kernel_rfl) (by kernel_rfl) (fun _ _ _ h => h) (Or.inl ⟨by rfl, fun w hSw => ?_⟩) (by assumption) ?_; rotate_left; (focus ((try dsimp only at hSw); go_simp <;> with_reducible rfl)); (try simp only [Act.put, List.setIfInBounds_toArray, List.set_cons_zero, List.set_cons_succ])
            refine wpHead_take (i := 25) (v := ?_) rfl (by kernel_rfl) (by kernel_rfl) (by kernel_rfl) (by kernel_rfl) (fun _ _ _ h => h) (Or.inl ⟨by rfl, fun w hSw => ?_⟩) (by assumption) ?_; rotate_left; (focus ((try dsimp only at hSw); go_simp <;> with_reducible rfl)); (try simp only [Act.put, List.setIfInBounds_toArray, List.set_cons_zero, List.set_cons_succ])
            refine wpHead_take (i := 26) (v := ?_) rfl (by kernel_rfl) (by kernel_rfl) (by kernel_rfl) (by kernel_rfl) (fun _ _ _ h => h) (Or.inl ⟨by rfl, fun w hSw => ?_⟩) (by assumption) ?_; rotate_left; (focus ((try dsimp only at hSw); go_simp <;> with_reducible rfl)); (try simp only [Act.put, List.setIfInBounds_toArray, List.set_cons_zero, List.set_cons_succ])
            refine wpHead_take (i := 27) (v := ?_) rfl (by kernel_rfl) (by kernel_rfl) (by kernel_rfl) (by kernel_rfl) (fun _ _ _ h => h) (Or.inl ⟨by rfl, fun w hSw => ?_⟩) (by assumption) ?_; rotate_left; (focus ((try dsimp only at hSw); go_simp <;> with_reducible rfl)); (try simp only [Act.put, List.setIfInBounds_toArray, List.set_cons_zero, List.set_cons_succ])
            refine wpHead_done (by kernel_rfl) ?_; simp only [List.drop_succ_cons, List.drop_zero]
            clear hw1 hw2
            go_wp2
            go_ret
            exact ⟨rfl, by (repeat (first | (with_reducible refine below_drew ?_) | (with_reducible refine below_drewN ?_ _) | (with_reducible refine below_alloc ?_ _) | ((with_reducible refine Below.setCell ?_ ?_ _); rotate_left; (focus (first | (simp; done) | (simp; omega)))))); exact below_next hb3 hb5⟩
          exact AllHead.nil
        exact AllHead.nil
    · rw [hdo] at hres
      obtain ⟨hz3, v3, rfl, hv3⟩ := hres
      replace hv3 : StV w3 v3 t := hv3
      obtain ⟨B1, d1, B2, d2, B3, d3, B4, d4, rfl, u1, u2, -, -⟩ := hv3.open
      have htl1 : s.accs.length ≤ t.accs.length := by omega
      have htl2 : s.pays.length ≤ t.pays.length := by omega
      clear htl htp
      obtain ⟨by_, oy, rfl⟩ := u1.addr (by have := hS.len; omega)
      obtain ⟨b5, o5, rfl⟩ := u2.addr (by omega)
      have hb3 := below_next hbX hz3
      have hv3' := hvX.below hz3
      have hst3 := hstX.next hz3
      have hp3 := hpX.next hz3
      clear hvX hbX hstX hpX u1 u2
      go_wp2_with fail
      refine abs_world (fun X => Blk X w2.heap.size 36 (stCells (some ⟨bz, oz, none⟩) s.accs.length c1 (some ⟨b3, o3, none⟩) s.pays.length c2 A3 s.sagas.length c3 A4 s.known.length c4 s.now) ∧ Blk X w3.heap.size 36 (stCells (some ⟨by_, oy, none⟩) t.accs.length d1 (some ⟨b5, o5, none⟩) t.pays.length d2 B3 t.sagas.length d3 B4 t.known.length d4 t.now) ∧ Blk X (w2.heap.size + 1) 47 #[.int .i64 p.frm, .int .i64 p.to, .int .i64 p.auth, .int .i64 p.capt, .int .i64 p.refd, .int .i64 p.chgd, .int .i64 p.til, .int .i64 p.stage] ∧ StV X (.agg (stCells (some ⟨bz, oz, none⟩) s.accs.length c1 (some ⟨b3, o3, none⟩) s.pays.length c2 A3 s.sagas.length c3 A4 s.known.length c4 s.now)) s ∧ StV X (.agg (stCells (some ⟨by_, oy, none⟩) t.accs.length d1 (some ⟨b5, o5, none⟩) t.pays.length d2 B3 t.sagas.length d3 B4 t.known.length d4 t.now)) t ∧ Below w.heap.size w X)
        ⟨(hst3.alloc _).alloc _, (Blk.new _ _ _).alloc _, (hp3.alloc _).alloc _, (hv3'.alloc _).alloc _, (hv3.alloc _).alloc _, below_alloc (below_alloc hb3 _) _⟩ ?_
      clear hst3 hp3 hv3' hv3 hb3
      rintro X ⟨hst3, htt3, hp3, hv3', hv3, hb3⟩
      have f0 : 0 ≤ p.frm := by omega
      have f1 : p.frm < (s.accs.length : Int) := hpk.2.1.2
      have f1t : p.frm < (t.accs.length : Int) := by omega
      have t0 : 0 ≤ p.to := by omega
      have t1t : p.to < (t.accs.length : Int) := by omega
      have it : i < (t.pays.length : Int) := by omega
      obtain ⟨-, a1, -⟩ := hv3'.rows.1.accAt p.frm f0 f1
      obtain ⟨-, e1, -⟩ := hv3.rows.1.accAt p.frm f0 f1t
      obtain ⟨g0, g1, g2⟩ := hv3.rows.1.accAt p.to t0 t1t
      obtain ⟨-, -, -, -, -, h5, -, -⟩ := hv3.rows.2.1.payAt i hi0 it
      obtain ⟨x0, x1, x2, x3, x4⟩ := hst3.c5
      obtain ⟨y0, y1, y2, y3, y4⟩ := htt3.c5
      obtain ⟨p0, p1, p2, p3, p4, p5, p6, p7⟩ := hp3.c8
      have hSof : ∀ w', Below X.heap.size X w' → (Below X.heap.size X w' ∧ w'.cell? ⟨w2.heap.size, 0, none⟩ = some (.slice (some ⟨bz, oz, none⟩) s.accs.length c1) ∧ w'.cell? ⟨w3.heap.size, 0, none⟩ = some (.slice (some ⟨by_, oy, none⟩) t.accs.length d1) ∧ w'.cell? ⟨w3.heap.size, 1, none⟩ = some (.slice (some ⟨b5, o5, none⟩) t.pays.length d2) ∧ w'.cell? ⟨w2.heap.size + 1, 0, none⟩ = some (.int .i64 p.frm) ∧ w'.cell? ⟨w2.heap.size + 1, 1, none⟩ = some (.int .i64 p.to) ∧ w'.cell? ⟨w2.heap.size + 1, 5, none⟩ = some (.int .i64 p.chgd) ∧ w'.cell? ⟨bz, oz + p.frm.toNat * 3 + 1, none⟩ = some (.int .i64 (rd s.accs p.frm).bal) ∧ w'.cell? ⟨by_, oy + p.frm.toNat * 3 + 1, none⟩ = some (.int .i64 (rd t.accs p.frm).bal) ∧ w'.cell? ⟨by_, oy + p.to.toNat * 3, none⟩ = some (.int .i64 (rd t.accs p.to).cur) ∧ w'.cell? ⟨by_, oy + p.to.toNat * 3 + 1, none⟩ = some (.int .i64 (rd t.accs p.to).bal) ∧ w'.cell? ⟨by_, oy + p.to.toNat * 3 + 2, none⟩ = some (.int .i64 (rd t.accs p.to).held) ∧ w'.cell? ⟨b5, o5 + i.toNat * 8 + 5, none⟩ = some (.int .i64 (rd t.pays i).chgd)) := fun w' hb => ⟨hb, cell_below hb x0, cell_below hb y0, cell_below hb y1, cell_below hb p0, cell_below hb p1, cell_below hb p5, cell_below hb a1, cell_below hb e1, cell_below hb g0, cell_below hb g1, cell_below hb g2, cell_below hb h5⟩
      clear x0 x1 x2 x3 x4 y0 y1 y2 y3 y4 p0 p1 p2 p3 p4 p5 p6 p7 a1 e1 g0 g1 g2 h5
      have hbd : Below X.heap.size X X.drew := below_drew (Below.refl _ _)
      have hcl := htok.good.client p.to (by omega) t1t
      have hbt := htok.good.bal p.to t0 t1t
      have hbs := hS.ok.good.bal p.frm f0 f1
      have hpc := hpk.1.chgd
      have hpg := hpk.1.gave
      have hpcc := hpk.1.capt
      have hpa := hpk.1.auth
      have hpr := hpk.1.refd
      have m1 : ((rd t.accs p.frm).bal == (rd s.accs p.frm).bal + 1 + n) = true := by simpa using htb
      have m2 : ((rd t.pays i).chgd == p.chgd + 1 + n) = true := by simpa using htc
      have m3 : decide ((0 : Int) ≤ (rd t.accs p.to).bal - (rd t.accs p.to).held) = true := by simp; omega
      have m4 : decide ((rd t.accs p.to).held ≤ (rd t.accs p.to).bal) = true := by simp; omega
      have HFR := Lib.hid (fun W => free_any (rd t.accs p.to) W hbt (by omega))
      have hw1 : IntKind.i64.wrap n = n := IntWalk.i64_in _ (by omega)
      have hw2 : IntKind.i64.wrap ((rd s.accs p.frm).bal + 1) = (rd s.accs p.frm).bal + 1 := IntWalk.i64_in _ (by omega)
      have hw3 : IntKind.i64.wrap ((rd s.accs p.frm).bal + 1 + n) = (rd s.accs p.frm).bal + 1 + n := IntWalk.i64_in _ (by omega)
      have hw4 : IntKind.i64.wrap (p.chgd + 1) = p.chgd + 1 := IntWalk.i64_in _ (by omega)
      have hw5 : IntKind.i64.wrap (p.chgd + 1 + n) = p.chgd + 1 + n := IntWalk.i64_in _ (by omega)
      clear htb htc hpc hpg hpcc hpa hpr hbs hbt hcl
      refine wp_region_head 44 (fun w' => Below X.heap.size X w' ∧ w'.cell? ⟨w2.heap.size, 0, none⟩ = some (.slice (some ⟨bz, oz, none⟩) s.accs.length c1) ∧ w'.cell? ⟨w3.heap.size, 0, none⟩ = some (.slice (some ⟨by_, oy, none⟩) t.accs.length d1) ∧ w'.cell? ⟨w3.heap.size, 1, none⟩ = some (.slice (some ⟨b5, o5, none⟩) t.pays.length d2) ∧ w'.cell? ⟨w2.heap.size + 1, 0, none⟩ = some (.int .i64 p.frm) ∧ w'.cell? ⟨w2.heap.size + 1, 1, none⟩ = some (.int .i64 p.to) ∧ w'.cell? ⟨w2.heap.size + 1, 5, none⟩ = some (.int .i64 p.chgd) ∧ w'.cell? ⟨bz, oz + p.frm.toNat * 3 + 1, none⟩ = some (.int .i64 (rd s.accs p.frm).bal) ∧ w'.cell? ⟨by_, oy + p.frm.toNat * 3 + 1, none⟩ = some (.int .i64 (rd t.accs p.frm).bal) ∧ w'.cell? ⟨by_, oy + p.to.toNat * 3, none⟩ = some (.int .i64 (rd t.accs p.to).cur) ∧ w'.cell? ⟨by_, oy + p.to.toNat * 3 + 1, none⟩ = some (.int .i64 (rd t.accs p.to).bal) ∧ w'.cell? ⟨by_, oy + p.to.toNat * 3 + 2, none⟩ = some (.int .i64 (rd t.accs p.to).held) ∧ w'.cell? ⟨b5, o5 + i.toNat * 8 + 5, none⟩ = some (.int .i64 (rd t.pays i).chgd)) (by kernel_rfl) (by kernel_rfl) (hSof _ hbd) (fun hHeld => ?_)
      refine wpHead_take (i := 0) (v := ?_) rfl (by kernel_rfl) (by kernel_rfl) (by kernel_rfl) (by kernel_rfl) (fun _ _ _ h => h) (Or.inl ⟨by rfl, fun w hSw => ?_⟩) (by assumption) ?_; rotate_left; (focus ((try dsimp only at hSw); go_simp <;> with_reducible rfl)); (try simp only [Act.put, List.setIfInBounds_toArray, List.set_cons_zero, List.set_cons_succ])
      refine wpHead_take (i := 1) (v := ?_) rfl (by kernel_rfl) (by kernel_rfl) (by kernel_rfl) (by kernel_rfl) (fun _ _ _ h => h) (Or.inl ⟨by rfl, fun w hSw => ?_⟩) (by assumption) ?_; rotate_left; (focus ((try dsimp only at hSw); go_simp <;> with_reducible rfl)); (try simp only [Act.put, List.setIfInBounds_toArray, List.set_cons_zero, List.set_cons_succ])
      refine wpHead_take (i := 2) (v := ?_) rfl (by kernel_rfl) (by kernel_rfl) (by kernel_rfl) (by kernel_rfl) (fun _ _ _ h => h) (Or.inl ⟨by rfl, fun w hSw => ?_⟩) (by assumption) ?_; rotate_left; (focus ((try dsimp only at hSw); go_simp <;> with_reducible rfl)); (try simp only [Act.put, List.setIfInBounds_toArray, List.set_cons_zero, List.set_cons_succ])
      refine wpHead_take (i := 3) (v := ?_) rfl (by kernel_rfl) (by kernel_rfl) (by kernel_rfl) (by kernel_rfl) (fun _ _ _ h => h) (Or.inl ⟨by rfl, fun w hSw => ?_⟩) (by assumption) ?_; rotate_left; (focus ((try dsimp only at hSw); go_simp <;> with_reducible rfl)); (try simp only [Act.put, List.setIfInBounds_toArray, List.set_cons_zero, List.set_cons_succ])
      refine wpHead_take (i := 4) (v := ?_) rfl (by kernel_rfl) (by kernel_rfl) (by kernel_rfl) (by kernel_rfl) (fun _ _ _ h => h) (Or.inl ⟨by rfl, fun w hSw => ?_⟩) (by assumption) ?_; rotate_left; (focus ((try dsimp only at hSw); go_simp <;> with_reducible rfl)); (try simp only [Act.put, List.setIfInBounds_toArray, List.set_cons_zero, List.set_cons_succ])
      refine wpHead_take (i := 5) (v := ?_) rfl (by kernel_rfl) (by kernel_rfl) (by kernel_rfl) (by kernel_rfl) (fun _ _ _ h => h) (Or.inl ⟨by rfl, fun w hSw => ?_⟩) (by assumption) ?_; rotate_left; (focus ((try dsimp only at hSw); go_simp <;> with_reducible rfl)); (try simp only [Act.put, List.setIfInBounds_toArray, List.set_cons_zero, List.set_cons_succ])
      refine wpHead_take (i := 6) (v := ?_) rfl (by kernel_rfl) (by kernel_rfl) (by kernel_rfl) (by kernel_rfl) (fun _ _ _ h => h) (Or.inl ⟨by rfl, fun w hSw => ?_⟩) (by assumption) ?_; rotate_left; (focus ((try dsimp only at hSw); go_simp <;> with_reducible rfl)); (try simp only [Act.put, List.setIfInBounds_toArray, List.set_cons_zero, List.set_cons_succ])
      refine wpHead_take (i := 7) (v := ?_) rfl (by kernel_rfl) (by kernel_rfl) (by kernel_rfl) (by kernel_rfl) (fun _ _ _ h => h) (Or.inl ⟨by rfl, fun w hSw => ?_⟩) (by assumption) ?_; rotate_left; (focus ((try dsimp only at hSw); go_simp <;> with_reducible rfl)); (try simp only [Act.put, List.setIfInBounds_toArray, List.set_cons_zero, List.set_cons_succ])
      refine wpHead_take (i := 8) (v := ?_) rfl (by kernel_rfl) (by kernel_rfl) (by kernel_rfl) (by kernel_rfl) (fun _ _ _ h => h) (Or.inl ⟨by rfl, fun w hSw => ?_⟩) (by assumption) ?_; rotate_left; (focus ((try dsimp only at hSw); go_simp <;> with_reducible rfl)); (try simp only [Act.put, List.setIfInBounds_toArray, List.set_cons_zero, List.set_cons_succ])
      refine wpHead_take (i := 9) (v := ?_) rfl (by kernel_rfl) (by kernel_rfl) (by kernel_rfl) (by kernel_rfl) (fun _ _ _ h => h) (Or.inl ⟨by rfl, fun w hSw => ?_⟩) (by assumption) ?_; rotate_left; (focus ((try dsimp only at hSw); go_simp <;> with_reducible rfl)); (try simp only [Act.put, List.setIfInBounds_toArray, List.set_cons_zero, List.set_cons_succ])
      refine wpHead_take (i := 10) (v := ?_) rfl (by kernel_rfl) (by kernel_rfl) (by kernel_rfl) (by kernel_rfl) (fun _ _ _ h => h) (Or.inl ⟨by rfl, fun w hSw => ?_⟩) (by assumption) ?_; rotate_left; (focus ((try dsimp only at hSw); go_simp <;> with_reducible rfl)); (try simp only [Act.put, List.setIfInBounds_toArray, List.set_cons_zero, List.set_cons_succ])
      refine wpHead_take (i := 11) (v := ?_) rfl (by kernel_rfl) (by kernel_rfl) (by kernel_rfl) (by kernel_rfl) (fun _ _ _ h => h) (Or.inl ⟨by rfl, fun w hSw => ?_⟩) (by assumption) ?_; rotate_left; (focus ((try dsimp only at hSw); go_simp <;> with_reducible rfl)); (try simp only [Act.put, List.setIfInBounds_toArray, List.set_cons_zero, List.set_cons_succ])
      refine wpHead_take (i := 12) (v := ?_) rfl (by kernel_rfl) (by kernel_rfl) (by kernel_rfl) (by kernel_rfl) (fun _ _ _ h => h) (Or.inl ⟨by rfl, fun w hSw => ?_⟩) (by assumption) ?_; rotate_left; (focus ((try dsimp only at hSw); go_simp <;> with_reducible rfl)); (try simp only [Act.put, List.setIfInBounds_toArray, List.set_cons_zero, List.set_cons_succ])
      refine wpHead_take (i := 13) (v := ?_) rfl (by kernel_rfl) (by kernel_rfl) (by kernel_rfl) (by kernel_rfl) (fun _ _ _ h => h) (Or.inl ⟨by rfl, fun w hSw => ?_⟩) (by assumption) ?_; rotate_left; (focus ((try dsimp only at hSw); go_simp <;> with_reducible rfl)); (try simp only [Act.put, List.setIfInBounds_toArray, List.set_cons_zero, List.set_cons_succ])
      refine wpHead_take (i := 14) (v := ?_) rfl (by kernel_rfl) (by kernel_rfl) (by kernel_rfl) (by kernel_rfl) (fun _ _ _ h => h) (Or.inl ⟨by rfl, fun w hSw => ?_⟩) (by assumption) ?_; rotate_left; (focus ((try dsimp only at hSw); go_simp <;> with_reducible rfl)); (try simp only [Act.put, List.setIfInBounds_toArray, List.set_cons_zero, List.set_cons_succ])
      refine wpHead_take (i := 15) (v := ?_) rfl (by kernel_rfl) (by kernel_rfl) (by kernel_rfl) (by kernel_rfl) (fun _ _ _ h => h) (Or.inl ⟨by rfl, fun w hSw => ?_⟩) (by assumption) ?_; rotate_left; (focus ((try dsimp only at hSw); go_simp <;> with_reducible rfl)); (try simp only [Act.put, List.setIfInBounds_toArray, List.set_cons_zero, List.set_cons_succ])
      refine wpHead_take (i := 16) (v := ?_) rfl (by kernel_rfl) (by kernel_rfl) (by kernel_rfl) (by kernel_rfl) (fun _ _ _ h => h) (Or.inl ⟨by rfl, fun w hSw => ?_⟩) (by assumption) ?_; rotate_left; (focus ((try dsimp only at hSw); go_simp <;> with_reducible rfl)); (try simp only [Act.put, List.setIfInBounds_toArray, List.set_cons_zero, List.set_cons_succ])
      refine wpHead_take (i := 17) (v := ?_) rfl (by kernel_rfl) (by kernel_rfl) (by kernel_rfl) (by kernel_rfl) (fun _ _ _ h => h) (Or.inl ⟨by rfl, fun w hSw => ?_⟩) (by assumption) ?_; rotate_left; (focus ((try dsimp only at hSw); go_simp <;> with_reducible rfl)); (try simp only [Act.put, List.setIfInBounds_toArray, List.set_cons_zero, List.set_cons_succ])
      refine wpHead_take (i := 18) (v := ?_) rfl (by kernel_rfl) (by kernel_rfl) (by kernel_rfl) (by kernel_rfl) (fun _ _ _ h => h) (Or.inl ⟨by rfl, fun w hSw => ?_⟩) (by assumption) ?_; rotate_left; (focus ((try dsimp only at hSw); go_simp <;> with_reducible rfl)); (try simp only [Act.put, List.setIfInBounds_toArray, List.set_cons_zero, List.set_cons_succ])
      refine wpHead_take (i := 19) (v := ?_) rfl (by kernel_rfl) (by kernel_rfl) (by kernel_rfl) (by kernel_rfl) (fun _ _ _ h => h) (Or.inl ⟨by rfl, fun w hSw => ?_⟩) (by assumption) ?_; rotate_left; (focus ((try dsimp only at hSw); go_simp <;> with_reducible rfl)); (try simp only [Act.put, List.setIfInBounds_toArray, List.set_cons_zero, List.set_cons_succ])
      refine wpHead_take (i := 20) (v := ?_) rfl (by kernel_rfl) (by kernel_rfl) (by kernel_rfl) (by kernel_rfl) (fun _ _ _ h => h) (Or.inl ⟨by rfl, fun w hSw => ?_⟩) (by assumption) ?_; rotate_left; (focus ((try dsimp only at hSw); go_simp <;> with_reducible rfl)); (try simp only [Act.put, List.setIfInBounds_toArray, List.set_cons_zero, List.set_cons_succ])
      refine wpHead_take (i := 21) (v := ?_) rfl (by kernel_rfl) (by kernel_rfl) (by kernel_rfl) (by kernel_rfl) (fun _ _ _ h => h) (Or.inl ⟨by rfl, fun w hSw => ?_⟩) (by assumption) ?_; rotate_left; (focus ((try dsimp only at hSw); go_simp <;> with_reducible rfl)); (try simp only [Act.put, List.setIfInBounds_toArray, List.set_cons_zero, List.set_cons_succ])
      refine wpHead_take (i := 22) (v := ?_) rfl (by kernel_rfl) (by kernel_rfl) (by kernel_rfl) (by kernel_rfl) (fun _ _ _ h => h) (Or.inl ⟨by rfl, fun w hSw => ?_⟩) (by assumption) ?_; rotate_left; (focus ((try dsimp only at hSw); go_simp <;> with_reducible rfl)); (try simp only [Act.put, List.setIfInBounds_toArray, List.set_cons_zero, List.set_cons_succ])
      refine wpHead_take (i := 23) (v := ?_) rfl (by kernel_rfl) (by kernel_rfl) (by kernel_rfl) (by kernel_rfl) (fun _ _ _ h => h) (Or.inl ⟨by rfl, fun w hSw => ?_⟩) (by assumption) ?_; rotate_left; (focus ((try dsimp only at hSw); go_simp <;> with_reducible rfl)); (try simp only [Act.put, List.setIfInBounds_toArray, List.set_cons_zero, List.set_cons_succ])
      refine wpHead_take (i := 24) (v := ?_) rfl (by kernel_rfl) (by kernel_rfl) (by kernel_rfl) (by kernel_rfl) (fun _ _ _ h => h) (Or.inl ⟨by rfl, fun w hSw => ?_⟩) (by assumption) ?_; rotate_left; (focus ((try dsimp only at hSw); go_simp <;> with_reducible rfl)); (try simp only [Act.put, List.setIfInBounds_toArray, List.set_cons_zero, List.set_cons_succ])
      refine wpHead_take (i := 25) (v := ?_) rfl (by kernel_rfl) (by kernel_rfl) (by kernel_rfl) (by kernel_rfl) (fun _ _ _ h => h) (Or.inl ⟨by rfl, fun w hSw => ?_⟩) (by assumption) ?_; rotate_left; (focus ((try dsimp only at hSw); go_simp <;> with_reducible rfl)); (try simp only [Act.put, List.setIfInBounds_toArray, List.set_cons_zero, List.set_cons_succ])
      refine wpHead_ready (rs := [26]) (by kernel_rfl) (by simp) ?_
      refine AllHead.cons (i := 26) rfl (by kernel_rfl) (fun K hK => ?_) ?_
      · go_simp
        go_at_call 18
        refine (HFR.out _).mono ?_
        rintro e w4 ⟨rfl, hz4⟩
        have hb4 : Below X.heap.size X w4 := below_next hbd hz4
        refine hK.out _ _ (hSof _ hb4) (fun hHeld4 => ?_)
        clear hK K
        (try simp only [Act.put, List.setIfInBounds_toArray, List.set_cons_zero, List.set_cons_succ])
        refine wpHead_take (i := 27) (v := ?_) rfl (by kernel_rfl) (by kernel_rfl) (by kernel_rfl) (by kernel_rfl) (fun _ _ _ h => h) (Or.inl ⟨by rfl, fun w hSw => ?_⟩) (by assumption) ?_; rotate_left; (focus ((try dsimp only at hSw); go_simp <;> with_reducible rfl)); (try simp only [Act.put, List.setIfInBounds_toArray, List.set_cons_zero, List.set_cons_succ])
        refine wpHead_take (i := 28) (v := ?_) rfl (by kernel_rfl) (by kernel_rfl) (by kernel_rfl) (by kernel_rfl) (fun _ _ _ h => h) (Or.inl ⟨by rfl, fun w hSw => ?_⟩) (by assumption) ?_; rotate_left; (focus ((try dsimp only at hSw); go_simp <;> with_reducible rfl)); (try simp only [Act.put, List.setIfInBounds_toArray, List.set_cons_zero, List.set_cons_succ])
        refine wpHead_take (i := 29) (v := ?_) rfl (by kernel_rfl) (by kernel_rfl) (by kernel_rfl) (by kernel_rfl) (fun _ _ _ h => h) (Or.inl ⟨by rfl, fun w hSw => ?_⟩) (by assumption) ?_; rotate_left; (focus ((try dsimp only at hSw); go_simp <;> with_reducible rfl)); (try simp only [Act.put, List.setIfInBounds_toArray, List.set_cons_zero, List.set_cons_succ])
        refine wpHead_take (i := 30) (v := ?_) rfl (by kernel_rfl) (by kernel_rfl) (by kernel_rfl) (by kernel_rfl) (fun _ _ _ h => h) (Or.inl ⟨by rfl, fun w hSw => ?_⟩) (by assumption) ?_; rotate_left; (focus ((try dsimp only at hSw); go_simp <;> with_reducible rfl)); (try simp only [Act.put, List.setIfInBounds_toArray, List.set_cons_zero, List.set_cons_succ])
        refine wpHead_take (i := 31) (v := ?_) rfl (by kernel_rfl) (by kernel_rfl) (by kernel_rfl) (by kernel_rfl) (fun _ _ _ h => h) (Or.inl ⟨by rfl, fun w hSw => ?_⟩) (by assumption) ?_; rotate_left; (focus ((try dsimp only at hSw); go_simp <;> with_reducible rfl)); (try simp only [Act.put, List.setIfInBounds_toArray, List.set_cons_zero, List.set_cons_succ])
        refine wpHead_take (i := 32) (v := ?_) rfl (by kernel_rfl) (by kernel_rfl) (by kernel_rfl) (by kernel_rfl) (fun _ _ _ h => h) (Or.inl ⟨by rfl, fun w hSw => ?_⟩) (by assumption) ?_; rotate_left; (focus ((try dsimp only at hSw); go_simp <;> with_reducible rfl)); (try simp only [Act.put, List.setIfInBounds_toArray, List.set_cons_zero, List.set_cons_succ])
        refine wpHead_take (i := 33) (v := ?_) rfl (by kernel_rfl) (by kernel_rfl) (by kernel_rfl) (by kernel_rfl) (fun _ _ _ h => h) (Or.inl ⟨by rfl, fun w hSw => ?_⟩) (by assumption) ?_; rotate_left; (focus ((try dsimp only at hSw); go_simp <;> with_reducible rfl)); (try simp only [Act.put, List.setIfInBounds_toArray, List.set_cons_zero, List.set_cons_succ])
        refine wpHead_take (i := 34) (v := ?_) rfl (by kernel_rfl) (by kernel_rfl) (by kernel_rfl) (by kernel_rfl) (fun _ _ _ h => h) (Or.inl ⟨by rfl, fun w hSw => ?_⟩) (by assumption) ?_; rotate_left; (focus ((try dsimp only at hSw); go_simp <;> with_reducible rfl)); (try simp only [Act.put, List.setIfInBounds_toArray, List.set_cons_zero, List.set_cons_succ])
        refine wpHead_take (i := 35) (v := ?_) rfl (by kernel_rfl) (by kernel_rfl) (by kernel_rfl) (by kernel_rfl) (fun _ _ _ h => h) (Or.inl ⟨by rfl, fun w hSw => ?_⟩) (by assumption) ?_; rotate_left; (focus ((try dsimp only at hSw); go_simp <;> with_reducible rfl)); (try simp only [Act.put, List.setIfInBounds_toArray, List.set_cons_zero, List.set_cons_succ])
        refine wpHead_take (i := 36) (v := ?_) rfl (by kernel_rfl) (by kernel_rfl) (by kernel_rfl) (by kernel_rfl) (fun _ _ _ h => h) (Or.inl ⟨by rfl, fun w hSw => ?_⟩) (by assumption) ?_; rotate_left; (focus ((try dsimp only at hSw); go_simp <;> with_reducible rfl)); (try simp only [Act.put, List.setIfInBounds_toArray, List.set_cons_zero, List.set_cons_succ])
        refine wpHead_take (i := 37) (v := ?_) rfl (by kernel_rfl) (by kernel_rfl) (by kernel_rfl) (by kernel_rfl) (fun _ _ _ h => h) (Or.inl ⟨by rfl, fun w hSw => ?_⟩) (by assumption) ?_; rotate_left; (focus ((try dsimp only at hSw); go_simp <;> with_reducible rfl)); (try simp only [Act.put, List.setIfInBounds_toArray, List.set_cons_zero, List.set_cons_succ])
        refine wpHead_take (i := 38) (v := ?_) rfl (by kernel_rfl) (by kernel_rfl) (by kernel_rfl) (by kernel_rfl) (fun _ _ _ h => h) (Or.inl ⟨by rfl, fun w hSw => ?_⟩) (by assumption) ?_; rotate_left; (focus ((try dsimp only at hSw); go_simp <;> with_reducible rfl)); (try simp only [Act.put, List.setIfInBounds_toArray, List.set_cons_zero, List.set_cons_succ])
        refine wpHead_take (i := 39) (v := ?_) rfl (by kernel_rfl) (by kernel_rfl) (by kernel_rfl) (by kernel_rfl) (fun _ _ _ h => h) (Or.inl ⟨by rfl, fun w hSw => ?_⟩) (by assumption) ?_; rotate_left; (focus ((try dsimp only at hSw); go_simp <;> with_reducible rfl)); (try simp only [Act.put, List.setIfInBounds_toArray, List.set_cons_zero, List.set_cons_succ])
        refine wpHead_take (i := 40) (v := ?_) rfl (by kernel_rfl) (by kernel_rfl) (by kernel_rfl) (by kernel_rfl) (fun _ _ _ h => h) (Or.inl ⟨by rfl, fun w hSw => ?_⟩) (by assumption) ?_; rotate_left; (focus ((try dsimp only at hSw); go_simp <;> with_reducible rfl)); (try simp only [Act.put, List.setIfInBounds_toArray, List.set_cons_zero, List.set_cons_succ])
        refine wpHead_take (i := 41) (v := ?_) rfl (by kernel_rfl) (by kernel_rfl) (by kernel_rfl) (by kernel_rfl) (fun _ _ _ h => h) (Or.inl ⟨by rfl, fun w hSw => ?_⟩) (by assumption) ?_; rotate_left; (focus ((try dsimp only at hSw); go_simp <;> with_reducible rfl)); (try simp only [Act.put, List.setIfInBounds_toArray, List.set_cons_zero, List.set_cons_succ])
        refine wpHead_take (i := 42) (v := ?_) rfl (by kernel_rfl) (by kernel_rfl) (by kernel_rfl) (by kernel_rfl) (fun _ _ _ h => h) (Or.inl ⟨by rfl, fun w hSw => ?_⟩) (by assumption) ?_; rotate_left; (focus ((try dsimp only at hSw); go_simp <;> with_reducible rfl)); (try simp only [Act.put, List.setIfInBounds_toArray, List.set_cons_zero, List.set_cons_succ])
        refine wpHead_take (i := 43) (v := ?_) rfl (by kernel_rfl) (by kernel_rfl) (by kernel_rfl) (by kernel_rfl) (fun _ _ _ h => h) (Or.inl ⟨by rfl, fun w hSw => ?_⟩) (by assumption) ?_; rotate_left; (focus ((try dsimp only at hSw); go_simp <;> with_reducible rfl)); (try simp only [Act.put, List.setIfInBounds_toArray, List.set_cons_zero, List.set_cons_succ])
        refine wpHead_done (by kernel_rfl) ?_; simp only [List.drop_succ_cons, List.drop_zero]
        clear hw1 hw2 hw3 hw4 hw5
        go_wp2
        go_ret
        exact ⟨rfl, by (repeat (first | (with_reducible refine below_drew ?_) | (with_reducible refine below_drewN ?_ _) | (with_reducible refine below_alloc ?_ _) | ((with_reducible refine Below.setCell ?_ ?_ _); rotate_left; (focus (first | (simp; done) | (simp; omega)))))); exact below_next hb3 hb4⟩
      exact AllHead.nil
end Go.Proofs.YthjmficglpfgpaaDoor
