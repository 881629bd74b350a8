/- A request by numbers. BankAgain: the walk (printed by tools/laws16.py). -/
import Derived.Test.YthjmficglpfgpaaDoorX9
import Derived.Test.YthjmficglpfgpaaDoorXA
namespace Go.Proofs.YthjmficglpfgpaaDoor
set_option linter.unusedVariables false
set_option linter.unusedSimpArgs false
open Go Go.RowKit Enc
set_option maxRecDepth 100000
set_option maxHeartbeats 3200000

def askA (o a : Int) : Int := if o = 0 then a % 3 else if 4 ≤ o then a % 5 else 9 + a % 6
def askR (x : Ask) : Req := ⟨x.key, x.op % 8, askA (x.op % 8) x.a, 9 + x.b % 6, 1 + x.amt % 2000, if x.op % 8 = 2 then x.legs % 5 else 0, if x.op % 8 = 3 then x.til % 12 else 0⟩
theorem agg_req : AggT Tryd.prog 29 7 := ⟨⟨_, Tryd.underlying29, rfl⟩, by kernel_rfl⟩
theorem askR_ok {x : Ask} (h : AskIn x) : ReqOk (askR x) ∧ (9 ≤ (askR x).b ∧ (askR x).b ≤ 14) ∧ (askR x).key < 256 ∧ (askR x).amt ≤ 2000 := by
  obtain ⟨⟨k0, k1⟩, ⟨o0, o1⟩, ⟨a0, a1⟩, ⟨b0, b1⟩, ⟨m0, m1⟩, ⟨l0, l1⟩, ⟨t0, t1⟩⟩ := h
  refine ⟨⟨?_, ?_, ?_, ?_, ?_, ?_, ?_⟩, ?_, ?_, ?_⟩ <;> simp only [askR, askA] <;> (try split) <;> (try split) <;> omega
theorem askReq_any (x : Ask) (w : World) (h : AskIn x) : Calls Tryd.prog 21 #[x.val] w fun e w' => e = .returned (askR x).val ∧ Below w.heap.size w w' := by
  obtain ⟨key, op, ra, rb, amt, legs, til⟩ := x
  obtain ⟨⟨k0, k1⟩, ⟨o0, o1⟩, ⟨a0, a1⟩, ⟨b0, b1⟩, ⟨m0, m1⟩, ⟨l0, l1⟩, ⟨t0, t1⟩⟩ := h
  simp only at *
  have hx : ∃ o, op % 8 = o := ⟨_, rfl⟩
  have HA := Lib.hid (show askR ⟨key, op, ra, rb, amt, legs, til⟩ = ⟨key, op % 8, askA (op % 8) ra, 9 + rb % 6, 1 + amt % 2000, if op % 8 = 2 then legs % 5 else 0, if op % 8 = 3 then til % 12 else 0⟩ from rfl)
  obtain ⟨o, ho⟩ := hx
  have hr : o = 0 ∨ o = 1 ∨ o = 2 ∨ o = 3 ∨ o = 4 ∨ o = 5 ∨ o = 6 ∨ o = 7 := by omega
  rcases hr with rfl | rfl | rfl | rfl | rfl | rfl | rfl | rfl
  all_goals
    have HO := Lib.hid ho
    go_enter Tryd.func21, Tryd.ntmps21
    go_wp2
    refine bodyPost_ret (res_cell rfl _ rfl agg_req rfl ((Blk.new1 _ _ _ _).alloc _)) rfl ⟨?_, by (repeat (first | (with_reducible refine below_drew ?_) | (with_reducible refine below_drewN ?_ _) | (with_reducible refine below_alloc ?_ _) | ((with_reducible refine Below.setCell ?_ ?_ _); rotate_left; (focus (first | (simp; done) | (simp; omega)))))); exact Below.refl _ _⟩
    rw [HA.out, HO.out]
    rfl
end Go.Proofs.YthjmficglpfgpaaDoor
namespace Go.Proofs.YthjmficglpfgpaaDoor
set_option linter.unusedVariables false
set_option linter.unusedSimpArgs false
open Go Go.RowKit Enc
set_option maxRecDepth 100000
set_option maxHeartbeats 6400000

theorem BA.len {s : St} (h : BA s) : s.known.length ≤ 256 := by
  have := nodup_below 256 (keysOf s.known) h.nodup fun x hx => by
    obtain ⟨k, hk, rfl⟩ := List.mem_map.1 hx
    exact (h.each k hk).2.2
  simpa [keysOf] using this
theorem sT_bools : SlT Tryd.prog 67 4 Bool 1 := ⟨Tryd.underlying67, by obtain ⟨i, h1, h2, h3, h4⟩ := info_parts (show (Tryd.prog.info? 4).map (fun i => (i.zero, i.size, i.bytes)) = some (some (.bool false), 1, 1) by kernel_rfl); exact ⟨i, _, h1, h2, h3, h4, rfl⟩⟩
/-- What a slice of bools leaves: for the walk. -/
theorem leave_bools {w : World} {lv : Value} {ls : List Bool} (h : Row w lv ls) (hc : CapOk lv) (n : Int) (h0 : 0 ≤ n) (hn : n ≤ ls.length) : ∃ A k c, (∀ W, (Instr.slice 67 lv (some (.int .i64 n)) none none).run Tryd.prog W = .ok (.slice A k c) W) ∧ (∀ W, Below w.heap.size w W → Row W (.slice A k c) (ls.drop n.toNat)) ∧ CapOk (.slice A k c) := by
  obtain ⟨A, c, rfl⟩ := h.slice
  have hd : dropV (sz Bool) n.toNat (.slice A ls.length c) = .slice (if c = n.toNat then A else A.map (·.add (n.toNat * sz Bool))) (ls.length - n.toNat) (c - n.toNat) := rfl
  refine ⟨if c = n.toNat then A else A.map (·.add (n.toNat * sz Bool)), ls.length - n.toNat, c - n.toNat, fun W => ?_, fun W hW => ?_, ?_⟩
  · have := run_dropV sT_bools h n.toNat (by omega) W
    rw [show ((n.toNat : Nat) : Int) = n by omega, hd] at this
    exact this
  · have := (h.below hW).drop hc n.toNat (by omega)
    rw [hd] at this
    exact this
  · have := dropV_cap (sz Bool) n.toNat hc
    rw [hd] at this
    exact this
def AgainRel (w : World) (bk : List Value) (gs : Nat) (n : Nat) (i lv : Value) (wr : World) : Prop :=
  ∃ (k : Nat) (s : St) (ls : List Bool) (A1 : Option Addr) (c1 : Nat) (A2 : Option Addr) (c2 : Nat) (A3 : Option Addr) (c3 : Nat) (A4 : Option Addr) (c4 : Nat), k ≤ n ∧ i = .int .i64 k ∧ (∀ W, Below w.heap.size w W → Row W lv ls) ∧ CapOk lv ∧ BA s ∧
    StV wr (.agg #[.slice A1 s.accs.length c1, .slice A2 s.pays.length c2, .slice A3 s.sagas.length c3, .slice A4 s.known.length c4, .int .i64 s.now]) s ∧ Env w wr [(w.heap.size, 25, bk), (gs, 36, [.slice A1 s.accs.length c1, .slice A2 s.pays.length c2, .slice A3 s.sagas.length c3, .slice A4 s.known.length c4, .int .i64 s.now])]
theorem bankAgain_walk (vc vh vd vp va lv : Value) (cs : List U8) (has : List U32) (ds : List U8) (ps : List Paid) (xs : List Ask) (ls : List Bool) (w : World) (hin : BookIn w vc vh vd vp cs has ds ps) (hx : Row w va xs) (hxa : ∀ x ∈ xs, AskIn x) (hl : Row w lv ls) (hcap : CapOk lv) (hT : GT w) :
    Calls Tryd.prog 7 #[.agg #[vc, vh, vd], vp, va, lv] w fun e w' => e = .returned (.bool true) ∧ Below w.heap.size w w' := by
  have h0 := (Env.nil w).alloc 25 [vc, vh, vd]
  simp only [List.nil_append, List.cons_append, List.set_cons_zero, List.set_cons_succ, World.size_alloc] at h0
  have hm := hx.max
  obtain ⟨XA, xc, rfl⟩ := hx.slice
  have HI := Lib.hid hin
  have HT := Lib.hid hT
  have HL := Lib.hid (show ∀ W, Below w.heap.size w W → Row W lv ls from fun W hW => hl.below hW)
  have HC := Lib.hid hcap
  have HX := Lib.hid (show ∀ W, Below w.heap.size w W → Row W (.slice XA xs.length xc) xs from fun W hW => hx.below hW)
  have HXA := Lib.hid hxa
  clear hin hT hl hcap hx hxa
  have H0 := Lib.hid h0
  (have f0 := h0.facts; simp only [AllF, cellsF, gapF, Nat.zero_add, Nat.reduceAdd, and_true, true_and] at f0)
  clear h0
  go_enter Tryd.func7, Tryd.ntmps7
  go_wp2_with fail
  refine (awake16 _ (HT.out.below H0.out.bel)).mono ?_
  rintro e w1 ⟨rfl, hz⟩
  have h1 := H0.out.next hz
  have H1 := Lib.hid h1
  clear f0
  (have f1 := h1.facts; simp only [AllF, cellsF, gapF, Nat.zero_add, Nat.reduceAdd, and_true, true_and] at f1)
  clear h1 hz H0
  go_wp2_with fail
  refine (state_in (HI.out.below H1.out.bel) 0 (by decide)).mono ?_
  rintro e w2 ⟨v, rfl, ⟨s0, hS, -, hv⟩, hz⟩
  obtain ⟨A1, c1, A2, c2, A3, c3, A4, c4, rfl, -⟩ := hv.open
  have HB0 := Lib.hid hS.ba
  have h2 := H1.out.next hz
  have H2 := Lib.hid h2
  have HV2 := Lib.hid hv
  clear f1 hS
  clear h2 hz H1 hv
  go_wp2_with fail
  have hN := H2.out.alloc 36 [.slice A1 s0.accs.length c1, .slice A2 s0.pays.length c2, .slice A3 s0.sagas.length c3, .slice A4 s0.known.length c4, .int .i64 s0.now]
  simp only [List.nil_append, List.cons_append, List.set_cons_zero, List.set_cons_succ, World.size_alloc] at hN
  have HQ : ∃ WN : World, w2.alloc (.cells #[.slice A1 s0.accs.length c1, .slice A2 s0.pays.length c2, .slice A3 s0.sagas.length c3, .slice A4 s0.known.length c4, .int .i64 s0.now] 36) = WN := ⟨_, rfl⟩
  obtain ⟨W3, HQ⟩ := HQ
  have hbN : Below w2.heap.size w2 W3 := by rw [← HQ]; exact below_alloc (Below.refl _ _) _
  rw [HQ] at hN ⊢
  have HW3 := Lib.hid hN
  have HBW3 := Lib.hid hbN
  clear hN HQ hbN
  have HV3 := Lib.hid (HV2.out.below HBW3.out)
  clear HV2 H2 HBW3
  generalize w2.heap.size = gs at *
  clear w2
  go_loopw [30, 3] (fun i lv wr => AgainRel w [vc, vh, vd] gs xs.length i lv wr) (fun i _ _ => xs.length - (intOf i).toNat)
  case atStart => exact ⟨0, s0, ls, A1, c1, A2, c2, A3, c3, A4, c4, Nat.zero_le _, rfl, HL.out, HC.out, HB0.out, HV3.out, HW3.out⟩
  case round =>
    obtain ⟨k, s, ls', A1, c1, A2, c2, A3, c3, A4, c4, hk, rfl, hls, hcp, hba, hv4, h4⟩ := hrel
    have HLS := Lib.hid hls
    have HCP := Lib.hid hcp
    have HBA := Lib.hid hba
    have HV4 := Lib.hid hv4
    have H4 := Lib.hid h4
    clear hls hcp hba hv4 HV3 HW3 HL HC HB0
    by_cases hlt : k < xs.length
    rotate_left
    · have hge : (xs.length : Int) ≤ (k : Int) := by omega
      clear h4
      go_wp2
      go_ret
      exact ⟨rfl, H4.out.bel⟩
    obtain ⟨ob, oo, oc', hov, x0, x1, x2, x3, x4, x5, x6, xl⟩ := (HX.out wr H4.out.bel).ask k hlt
    injection hov with e1 e2 e3
    subst e1 e3
    have hxin := HXA.out _ (rd_mem xs (k : Int) (by omega) (by omega))
    have hr := askR_ok hxin
    have HAR := Lib.hid (fun W => askReq_any (rd xs (k : Int)) W hxin)
    have hlaw := again_law (ls := ls') HBA.out hr.1 hr.2.1 hr.2.2.1
    have HG := Lib.hid HBA.out.ok.good
    have HP := Lib.hid HBA.out.ok.pays
    have HN := Lib.hid (show s.known.length ≤ 900 by have := HBA.out.len; omega)
    generalize hrr : askR (rd xs (k : Int)) = r at *
    have HDO := Lib.hid (fun (v : Value) (W : World) (hW : Below w.heap.size w W) (hv : StV W v s) => bankDo_st s v r u3 ls' W hv (HLS.out W hW) HCP.out HG.out HP.out (HT.out.below hW) HN.out)
    have HK2 := Lib.hid (show (bankDo s r ls').1.known.length ≤ 900 by have := hlaw.1.len; omega)
    generalize bankDo s r ls' = X at *
    obtain ⟨x, ⟨err, id⟩, cnt⟩ := X
    obtain ⟨hb2, ⟨n0, n1⟩, hag, hot⟩ := hlaw
    have HB2 := Lib.hid hb2
    have HDO2 := Lib.hid (show ∀ (v : Value) (W : World) (hW : Below w.heap.size w W) (hv : StV W v x), Calls Tryd.prog 27 #[v, r.val, u3] W fun e w' => BankRes W w' (x, ⟨err, id⟩, 0) e from fun v W hW hv => by
      have := bankDo_st x v r u3 ls' W hv (HLS.out W hW) HCP.out hb2.ok.good hb2.ok.pays (HT.out.below hW) HK2.out
      rw [hag ls'] at this
      exact this)
    have HDO3 := Lib.hid (show ∀ (v : Value) (W : World) (hW : Below w.heap.size w W) (hv : StV W v x), Calls Tryd.prog 27 #[v, (otherR r).val, u3] W fun e w' => BankRes W w' (x, ⟨5, 0⟩, 0) e from fun v W hW hv => by
      have := bankDo_st x v (otherR r) u3 ls' W hv (HLS.out W hW) HCP.out hb2.ok.good hb2.ok.pays (HT.out.below hW) HK2.out
      rw [hot ls'] at this
      exact this)
    have HSM := Lib.hid (show decide (SameK x x) = true from decide_eq_true ⟨⟨rfl, rfl, rfl⟩, rfl⟩)
    obtain ⟨LA, lk, lc, hsl, hrow', hcap'⟩ := leave_bools (HLS.out w (Below.refl _ _)) HCP.out cnt n0 n1
    have HROW := Lib.hid hrow'
    have HCAP := Lib.hid hcap'
    have HRB := Lib.hid hr
    have HXL := Lib.hid hsl
    clear hxin hr hb2 hag hot hrow' hcap' hrr hsl HBA HG HP HN HK2
    (have f4 := h4.facts; simp only [AllF, cellsF, gapF, Nat.zero_add, Nat.reduceAdd, and_true, true_and] at f4)
    clear h4
    go_wp2_with fail
    refine (HAR.out _).mono ?_
    rintro e w5 ⟨rfl, hz⟩
    obtain ⟨key, op, ra, rb, amt, legs, til⟩ := r
    have hz5 := below_next (below_alloc (Below.refl _ _) _) hz
    have H5 := Lib.hid (H4.out.next hz5)
    have HV5 := Lib.hid (HV4.out.below hz5)
    clear f4 H4 HV4 HAR x0 x1 x2 x3 x4 x5 x6 xl hz hz5
    have hfn := H5.out.facts
    simp only [AllF, cellsF, gapF, Nat.zero_add, Nat.reduceAdd, and_true, true_and] at hfn
    go_wp2_with fail
    clear hfn
    have hN := H5.out.alloc 29 [.int .i64 key, .int .i64 op, .int .i64 ra, .int .i64 rb, .int .i64 amt, .int .i64 legs, .int .i64 til]
    simp only [List.nil_append, List.cons_append, List.set_cons_zero, List.set_cons_succ, World.size_alloc] at hN
    have HQ : ∃ WN : World, w5.alloc (.cells #[.int .i64 key, .int .i64 op, .int .i64 ra, .int .i64 rb, .int .i64 amt, .int .i64 legs, .int .i64 til] 29) = WN := ⟨_, rfl⟩
    obtain ⟨W5, HQ⟩ := HQ
    have hbN : Below w5.heap.size w5 W5 := by rw [← HQ]; exact below_alloc (Below.refl _ _) _
    rw [HQ] at hN ⊢
    have HW5 := Lib.hid hN
    have HBW5 := Lib.hid hbN
    clear hN HQ hbN
    have HV := Lib.hid (HV5.out.below HBW5.out)
    clear H5 HV5 HBW5
    generalize w5.heap.size = gr at *
    refine (HDO.out _ _ HW5.out.bel HV.out).mono ?_
    rintro e w6 ⟨hz, v6, rfl, hv6⟩
    obtain ⟨B1, d1, B2, d2, B3, d3, B4, d4, rfl, -⟩ := hv6.open
    have H6 := Lib.hid (HW5.out.next hz)
    have HV6 := Lib.hid hv6
    clear hz hv6 HV HDO HW5
    have hfn := H6.out.facts
    simp only [AllF, cellsF, gapF, Nat.zero_add, Nat.reduceAdd, and_true, true_and] at hfn
    go_wp2_with fail
    clear hfn
    have hN := (H6.out.alloc 36 [.slice B1 x.accs.length d1, .slice B2 x.pays.length d2, .slice B3 x.sagas.length d3, .slice B4 x.known.length d4, .int .i64 x.now]).alloc 40 [.int .i64 err, .int .i64 id]
    simp only [List.nil_append, List.cons_append, List.set_cons_zero, List.set_cons_succ, World.size_alloc] at hN
    have HQ : ∃ WN : World, (w6.alloc (.cells #[.slice B1 x.accs.length d1, .slice B2 x.pays.length d2, .slice B3 x.sagas.length d3, .slice B4 x.known.length d4, .int .i64 x.now] 36)).alloc (.cells #[.int .i64 err, .int .i64 id] 40) = WN := ⟨_, rfl⟩
    obtain ⟨W6, HQ⟩ := HQ
    have hbN : Below w6.heap.size w6 W6 := by rw [← HQ]; exact below_alloc (below_alloc (Below.refl _ _) _) _
    rw [HQ] at hN ⊢
    have HW6 := Lib.hid hN
    have HBW6 := Lib.hid hbN
    clear hN HQ hbN
    generalize w6.heap.size + 1 = gy at *
    have HX2 := Lib.hid (HV6.out.below HBW6.out)
    clear H6 HV6 HBW6
    generalize w6.heap.size = gx at *
    refine (HDO2.out _ _ HW6.out.bel HX2.out).mono ?_
    rintro e w7 ⟨hz, v7, rfl, hv7⟩
    obtain ⟨D1, m1, D2, m2, D3, m3, D4, m4, rfl, -⟩ := hv7.open
    have H7 := Lib.hid (HW6.out.next hz)
    have HX3 := Lib.hid (HX2.out.below hz)
    have HU := Lib.hid hv7
    clear hz hv7 HX2 HDO2 HW6
    have hf7 := H7.out.facts
    simp only [AllF, cellsF, gapF, Nat.zero_add, Nat.reduceAdd, and_true, true_and] at hf7
    have hN := (((H7.out.alloc 36 [.slice D1 x.accs.length m1, .slice D2 x.pays.length m2, .slice D3 x.sagas.length m3, .slice D4 x.known.length m4, .int .i64 x.now]).alloc 40 [.int .i64 err, .int .i64 id]).alloc 29 [.int .i64 key, .int .i64 op, .int .i64 ra, .int .i64 (wrap64 (rb + 1000)), .int .i64 amt, .int .i64 legs, .int .i64 til])
    simp only [List.nil_append, List.cons_append, List.set_cons_zero, List.set_cons_succ, World.size_alloc] at hN
    have HN := Lib.hid hN
    have hfn := HN.out.facts
    simp only [AllF, cellsF, gapF, Nat.zero_add, Nat.reduceAdd, and_true, true_and] at hfn
    clear hN
    go_wp2_with fail
    clear hf7
    have hN := HN.out
    clear HN hfn
    have HQ : ∃ WN : World, (((w7.alloc (.cells #[.slice D1 x.accs.length m1, .slice D2 x.pays.length m2, .slice D3 x.sagas.length m3, .slice D4 x.known.length m4, .int .i64 x.now] 36)).alloc (.cells #[.int .i64 err, .int .i64 id] 40)).alloc (.cells #[.int .i64 key, .int .i64 op, .int .i64 ra, .int .i64 (wrap64 (rb + 1000)), .int .i64 amt, .int .i64 legs, .int .i64 til] 29)) = WN := ⟨_, rfl⟩
    obtain ⟨W7, HQ⟩ := HQ
    have hbN : Below w7.heap.size w7 W7 := by rw [← HQ]; exact below_alloc (below_alloc (below_alloc (Below.refl _ _) _) _) _
    rw [HQ] at hN ⊢
    have HW7 := Lib.hid hN
    have HBW7 := Lib.hid hbN
    clear hN HQ hbN
    have HX4 := Lib.hid (HX3.out.below HBW7.out)
    have HU4 := Lib.hid (HU.out.below HBW7.out)
    clear H7 HX3 HU HBW7
    generalize w7.heap.size + 1 + 1 = go at *
    generalize w7.heap.size + 1 = gv at *
    generalize w7.heap.size = gu at *
    have hw : wrap64 (rb + 1000) = rb + 1000 := by have := HRB.out.2.1; unfold wrap64; omega
    rw [hw] at HW7 ⊢
    clear hw HRB
    refine (HDO3.out _ _ HW7.out.bel HX4.out).mono ?_
    rintro e w8 ⟨hz, v8, rfl, hv8⟩
    obtain ⟨E1, k1, E2, k2, E3, k3, E4, k4, rfl, -⟩ := hv8.open
    have H8 := Lib.hid (HW7.out.next hz)
    have HX5 := Lib.hid (HX4.out.below hz)
    have HU5 := Lib.hid (HU4.out.below hz)
    have HE := Lib.hid hv8
    clear hz hv8 HX4 HU4 HDO3 HW7
    have hq := fun W => (neq_rep ⟨err, id⟩ ⟨err, id⟩ W).trans (by rw [decide_eq_false (fun h => h rfl)])
    simp only [Rep.val] at hq
    have hf8 := H8.out.facts
    simp only [AllF, cellsF, gapF, Nat.zero_add, Nat.reduceAdd, and_true, true_and] at hf8
    have hN := ((H8.out.alloc 36 [.slice E1 x.accs.length k1, .slice E2 x.pays.length k2, .slice E3 x.sagas.length k3, .slice E4 x.known.length k4, .int .i64 x.now]).alloc 40 [.int .i64 5, .int .i64 0])
    simp only [List.nil_append, List.cons_append, List.set_cons_zero, List.set_cons_succ, World.size_alloc] at hN
    have HN := Lib.hid hN
    have hfn := HN.out.facts
    simp only [AllF, cellsF, gapF, Nat.zero_add, Nat.reduceAdd, and_true, true_and] at hfn
    clear hN
    go_wp2_with fail
    clear hf8
    have hN := HN.out
    clear HN hfn
    have HQ : ∃ WN : World, ((w8.alloc (.cells #[.slice E1 x.accs.length k1, .slice E2 x.pays.length k2, .slice E3 x.sagas.length k3, .slice E4 x.known.length k4, .int .i64 x.now] 36)).alloc (.cells #[.int .i64 5, .int .i64 0] 40)) = WN := ⟨_, rfl⟩
    obtain ⟨W8, HQ⟩ := HQ
    have hbN : Below w8.heap.size w8 W8 := by rw [← HQ]; exact below_alloc (below_alloc (Below.refl _ _) _) _
    rw [HQ] at hN ⊢
    have HW8 := Lib.hid hN
    have HBW8 := Lib.hid hbN
    clear hN HQ hbN
    have HX6 := Lib.hid (HX5.out.below HBW8.out)
    have HU6 := Lib.hid (HU5.out.below HBW8.out)
    have HE6 := Lib.hid (HE.out.below HBW8.out)
    clear H8 HX5 HU5 HE HBW8
    generalize w8.heap.size + 1 = gf at *
    generalize w8.heap.size = ge at *
    clear hq
    refine (sameK_st _ _ x x _ HX6.out HU6.out).mono ?_
    rintro e w9 ⟨rfl, hz⟩
    rw [HSM.out]
    have H9 := Lib.hid (HW8.out.next hz)
    have HX7 := Lib.hid (HX6.out.below hz)
    have HE7 := Lib.hid (HE6.out.below hz)
    clear hz HX6 HU6 HE6 HW8
    have hf9 := H9.out.facts
    simp only [AllF, cellsF, gapF, Nat.zero_add, Nat.reduceAdd, and_true, true_and] at hf9
    go_wp2_with fail
    clear hf9
    refine (sameK_st _ _ x x _ HX7.out HE7.out).mono ?_
    rintro e w10 ⟨rfl, hz⟩
    rw [HSM.out]
    have H10 := Lib.hid (H9.out.next hz)
    have HX8 := Lib.hid (HX7.out.below hz)
    clear hz HX7 HE7 H9
    go_wp2_with fail
    have hxl := HXL.out
    have hfs := H10.out.facts
    simp only [AllF, cellsF, gapF, Nat.zero_add, Nat.reduceAdd, and_true, true_and] at hfs
    have hSof : ∀ w', Below w10.heap.size w10 w' → (w'.cell? ⟨gx, 0, none⟩ = some (.slice B1 x.accs.length d1) ∧ w'.cell? ⟨gx, 1, none⟩ = some (.slice B2 x.pays.length d2) ∧ w'.cell? ⟨gx, 2, none⟩ = some (.slice B3 x.sagas.length d3) ∧ w'.cell? ⟨gx, 3, none⟩ = some (.slice B4 x.known.length d4) ∧ w'.cell? ⟨gx, 4, none⟩ = some (.int .i64 x.now)) := fun w' hb => by
      obtain ⟨-, -, -, ⟨⟨q0, q1, q2, q3, q4⟩, -⟩, -⟩ := hfs
      exact ⟨cell_below hb q0, cell_below hb q1, cell_below hb q2, cell_below hb q3, cell_below hb q4⟩
    have hbd : Below w10.heap.size w10 w10.drew := below_drew (Below.refl _ _)
    refine wp_region_head 5 (fun w' => (w'.cell? ⟨gx, 0, none⟩ = some (.slice B1 x.accs.length d1) ∧ w'.cell? ⟨gx, 1, none⟩ = some (.slice B2 x.pays.length d2) ∧ w'.cell? ⟨gx, 2, none⟩ = some (.slice B3 x.sagas.length d3) ∧ w'.cell? ⟨gx, 3, none⟩ = some (.slice B4 x.known.length d4) ∧ w'.cell? ⟨gx, 4, none⟩ = some (.int .i64 x.now))) (by kernel_rfl) (by kernel_rfl) (hSof _ hbd) (fun hHeld => ?_)
    generalize w10.drew = WD at *
    have HWD := Lib.hid (H10.out.next hbd)
    have HVWD := Lib.hid (HX8.out.below hbd)
    clear hfs
    refine wpHead_take (i := 0) (v := ?_) rfl (by kernel_rfl) (by kernel_rfl) (by kernel_rfl) (by kernel_rfl) (fun _ _ _ h => h) (Or.inl ⟨by rfl, fun w hSw => ?_⟩) (by assumption) ?_; rotate_left; (focus ((try dsimp only at hSw); go_simp <;> with_reducible rfl)); (try simp only [Act.put, List.setIfInBounds_toArray, List.set_cons_zero, List.set_cons_succ])
    refine wpHead_take (i := 1) (v := ?_) rfl (by kernel_rfl) (by kernel_rfl) (by kernel_rfl) (by kernel_rfl) (fun _ _ _ h => h) (Or.inl ⟨by rfl, fun w hSw => ?_⟩) (by assumption) ?_; rotate_left; (focus ((try dsimp only at hSw); go_simp <;> with_reducible rfl)); (try simp only [Act.put, List.setIfInBounds_toArray, List.set_cons_zero, List.set_cons_succ])
    refine wpHead_take (i := 2) (v := ?_) rfl (by kernel_rfl) (by kernel_rfl) (by kernel_rfl) (by kernel_rfl) (fun _ _ _ h => h) (Or.inl ⟨by rfl, fun w hSw => ?_⟩) (by assumption) ?_; rotate_left; (focus ((try dsimp only at hSw); go_simp <;> with_reducible rfl)); (try simp only [Act.put, List.setIfInBounds_toArray, List.set_cons_zero, List.set_cons_succ])
    refine wpHead_take (i := 3) (v := ?_) rfl (by kernel_rfl) (by kernel_rfl) (by kernel_rfl) (by kernel_rfl) (fun _ _ _ h => h) (Or.inl ⟨by rfl, fun w hSw => ?_⟩) (by assumption) ?_; rotate_left; (focus ((try dsimp only at hSw); go_simp <;> with_reducible rfl)); (try simp only [Act.put, List.setIfInBounds_toArray, List.set_cons_zero, List.set_cons_succ])
    have hN := (((((HWD.out.set 1 0 (.slice B1 x.accs.length d1) rfl).set 1 1 (.slice B2 x.pays.length d2) rfl).set 1 2 (.slice B3 x.sagas.length d3) rfl).set 1 3 (.slice B4 x.known.length d4) rfl).set 1 4 (.int .i64 x.now) rfl)
    simp only [List.nil_append, List.cons_append, List.set_cons_zero, List.set_cons_succ, World.size_alloc] at hN
    have HNN := Lib.hid hN
    have hfo := HWD.out.facts
    simp only [AllF, cellsF, gapF, Nat.zero_add, Nat.reduceAdd, and_true, true_and] at hfo
    have hfs := hN.facts
    simp only [AllF, cellsF, gapF, Nat.zero_add, Nat.reduceAdd, and_true, true_and] at hfs
    have HFS := Lib.hid hfs
    clear hfs hN
    refine wpHead_ready (rs := [4]) (by kernel_rfl) (by simp) ?_
    refine AllHead.cons (i := 4) rfl (by kernel_rfl) (fun K hK => ?_) ?_
    rotate_left
    · exact AllHead.nil
    go_simp
    refine hK.out _ _ (by obtain ⟨-, -, -, ⟨⟨q0, q1, q2, q3, q4⟩, -⟩, -⟩ := HFS.out; exact ⟨q0, q1, q2, q3, q4⟩) (fun hHeldN => ?_)
    clear hK K hHeldN hfo
    try clear hHeld
    (try simp only [Act.put, List.setIfInBounds_toArray, List.set_cons_zero, List.set_cons_succ])
    have HQ : ∃ WN : World, (((((WD.setCell ⟨gs, 0, none⟩ (.slice B1 x.accs.length d1)).setCell ⟨gs, 1, none⟩ (.slice B2 x.pays.length d2)).setCell ⟨gs, 2, none⟩ (.slice B3 x.sagas.length d3)).setCell ⟨gs, 3, none⟩ (.slice B4 x.known.length d4)).setCell ⟨gs, 4, none⟩ (.int .i64 x.now)) = WN := ⟨_, rfl⟩
    obtain ⟨W12, HQ⟩ := HQ
    have HVW12 := Lib.hid (show StV W12 _ _ by rw [← HQ]; exact HVWD.out.keep (HVWD.out.offSt (HWD.out.at 1 rfl)) (set5_grown _ _ _ _ _ _ _))
    have HW12 : Hid (Env _ W12 _) := HQ ▸ HNN
    rw [HQ]
    have hfn := HW12.out.facts
    simp only [AllF, cellsF, gapF, Nat.zero_add, Nat.reduceAdd, and_true, true_and] at hfn
    clear HQ HNN HFS
    refine wpHead_done (by kernel_rfl) ?_; simp only [List.drop_succ_cons, List.drop_zero]
    go_wp2

    exact ⟨⟨k + 1, x, ls'.drop cnt.toNat, B1, d1, B2, d2, B3, d3, B4, d4, by omega, by go_num, HROW.out, HCAP.out, HB2.out, HVW12.out, HW12.out.take 2⟩, by simp [intOf]; omega⟩
end Go.Proofs.YthjmficglpfgpaaDoor
