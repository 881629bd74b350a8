/- Opening more of a law's arguments: requests, slices of bools. bank.Do: what is no request; what is known; too many keys. bank.whole where the reservation holds (printed by tools/whole.py). bank.whole. bank.Do: too many keys; a new request (printed by tools/bank2.py). bank.Do. The same knowledge; the same state but for sagas. The document's examples of a bank. -/
import Derived.Test.YthjmficglpfgpaaDoorX7
import Derived.Test.YthjmficglpfgpaaDoorX8
namespace Go.Proofs.YthjmficglpfgpaaDoor
set_option linter.unusedVariables false
set_option linter.unusedSimpArgs false
open Go Go.RowKit Go.ChangeShapes Go.WideShapes Go.Deep Enc
set_option maxRecDepth 100000
set_option maxHeartbeats 1600000

section
variable {H : Type} {enc : TypeId × Value → H} {P : Program} {w : World} {base : Nat} {spare : Nat → Bool} {held : Bool}
theorem open_agg7 {r : Reach} {b0 : Nat} {t : TypeId} {f0 f1 f2 f3 f4 f5 f6 : Field} {v : Value} {d : DataW H} {p : List MemPlace} (hs : P.underlying t = some (.struct #[f0, f1, f2, f3, f4, f5, f6])) (hone : oneCellFields P #[f0, f1, f2, f3, f4, f5, f6] = true) (hC : P.cellsOf t = 7)
    (hv : Value.okWide P w r b0 t v) (h : DataW.Trod enc P w base spare held t v d p) :
    ∃ (v0 v1 v2 v3 v4 v5 v6 : Value) (y0 y1 y2 y3 y4 y5 y6 : DataW H × List MemPlace) (n : Nat), v = .agg #[v0, v1, v2, v3, v4, v5, v6] ∧ DataW.trod enc P w base spare held n f0.type [v0] = some y0 ∧ DataW.trod enc P w base spare held n f1.type [v1] = some y1 ∧ DataW.trod enc P w base spare held n f2.type [v2] = some y2 ∧ DataW.trod enc P w base spare held n f3.type [v3] = some y3 ∧ DataW.trod enc P w base spare held n f4.type [v4] = some y4 ∧ DataW.trod enc P w base spare held n f5.type [v5] = some y5 ∧ DataW.trod enc P w base spare held n f6.type [v6] = some y6 := by
  obtain ⟨cs, rfl, hsz⟩ := okWide_struct hs hv
  obtain ⟨l⟩ := cs
  match l, hsz.trans hC with
  | [c0, c1, c2, c3, c4, c5, c6], _ =>
    obtain ⟨fuel, hf⟩ := h
    obtain ⟨xs, n, _, hx, _, hlen, hg⟩ := DataW.trod_struct hs hf
    obtain ⟨o0, k0⟩ := hone_of hone 0 f0 rfl
    obtain ⟨o1, k1⟩ := hone_of hone 1 f1 rfl
    obtain ⟨o2, k2⟩ := hone_of hone 2 f2 rfl
    obtain ⟨o3, k3⟩ := hone_of hone 3 f3 rfl
    obtain ⟨o4, k4⟩ := hone_of hone 4 f4 rfl
    obtain ⟨o5, k5⟩ := hone_of hone 5 f5 rfl
    obtain ⟨o6, k6⟩ := hone_of hone 6 f6 rfl
    match xs, hlen with
    | [y0, y1, y2, y3, y4, y5, y6], _ =>
      exact ⟨c0, c1, c2, c3, c4, c5, c6, y0, y1, y2, y3, y4, y5, y6, n, rfl, by simpa [Value.cells, o0, k0] using hg 0 f0 rfl, by simpa [Value.cells, o1, k1] using hg 1 f1 rfl, by simpa [Value.cells, o2, k2] using hg 2 f2 rfl, by simpa [Value.cells, o3, k3] using hg 3 f3 rfl, by simpa [Value.cells, o4, k4] using hg 4 f4 rfl, by simpa [Value.cells, o5, k5] using hg 5 f5 rfl, by simpa [Value.cells, o6, k6] using hg 6 f6 rfl⟩
end
/-- A request of whole numbers. -/
structure ReqIn (r : Req) : Prop where
  key : -9223372036854775808 ≤ r.key ∧ r.key ≤ 9223372036854775807
  op : -9223372036854775808 ≤ r.op ∧ r.op ≤ 9223372036854775807
  a : -9223372036854775808 ≤ r.a ∧ r.a ≤ 9223372036854775807
  b : -9223372036854775808 ≤ r.b ∧ r.b ≤ 9223372036854775807
  amt : -9223372036854775808 ≤ r.amt ∧ r.amt ≤ 9223372036854775807
  legs : -9223372036854775808 ≤ r.legs ∧ r.legs ≤ 9223372036854775807
  til : -9223372036854775808 ≤ r.til ∧ r.til ≤ 9223372036854775807
/-- A request by small numbers. -/
structure AskIn (r : Ask) : Prop where
  key : 0 ≤ r.key ∧ r.key < 256
  op : 0 ≤ r.op ∧ r.op < 256
  a : 0 ≤ r.a ∧ r.a < 256
  b : 0 ≤ r.b ∧ r.b < 256
  amt : 0 ≤ r.amt ∧ r.amt < 65536
  legs : 0 ≤ r.legs ∧ r.legs < 256
  til : 0 ≤ r.til ∧ r.til < 256
theorem open_req {H : Type} {enc : TypeId × Value → H} {w : World} {base : Nat} {spare : Nat → Bool} {held : Bool} {r : Reach} {b0 : Nat} {v : Value} {d : DataW H} {p : List MemPlace} (hv : Value.okWide Tryd.prog w r b0 29 v) (h : DataW.Trod enc Tryd.prog w base spare held 29 v d p) : ∃ r : Req, v = r.val ∧ ReqIn r := by
  obtain ⟨v0, v1, v2, v3, v4, v5, v6, y0, y1, y2, y3, y4, y5, y6, n, rfl, t0, t1, t2, t3, t4, t5, t6⟩ := open_agg7 Tryd.underlying29 (by kernel_rfl) (by kernel_rfl) hv h
  obtain ⟨n0, e0, -, w0⟩ := DataW.trod_int Tryd.underlying3 t0
  obtain ⟨n1, e1, -, w1⟩ := DataW.trod_int Tryd.underlying27 t1
  obtain ⟨n2, e2, -, w2⟩ := DataW.trod_int Tryd.underlying3 t2
  obtain ⟨n3, e3, -, w3⟩ := DataW.trod_int Tryd.underlying3 t3
  obtain ⟨n4, e4, -, w4⟩ := DataW.trod_int Tryd.underlying3 t4
  obtain ⟨n5, e5, -, w5⟩ := DataW.trod_int Tryd.underlying3 t5
  obtain ⟨n6, e6, -, w6⟩ := DataW.trod_int Tryd.underlying3 t6
  obtain rfl := List.singleton_inj.1 e0
  obtain rfl := List.singleton_inj.1 e1
  obtain rfl := List.singleton_inj.1 e2
  obtain rfl := List.singleton_inj.1 e3
  obtain rfl := List.singleton_inj.1 e4
  obtain rfl := List.singleton_inj.1 e5
  obtain rfl := List.singleton_inj.1 e6
  exact ⟨⟨n0, n1, n2, n3, n4, n5, n6⟩, rfl, wf_i64 w0, wf_i64 w1, wf_i64 w2, wf_i64 w3, wf_i64 w4, wf_i64 w5, wf_i64 w6⟩
theorem open_ask {H : Type} {enc : TypeId × Value → H} {w : World} {base : Nat} {spare : Nat → Bool} {held : Bool} {r : Reach} {b0 : Nat} {v : Value} {d : DataW H} {p : List MemPlace} (hv : Value.okWide Tryd.prog w r b0 59 v) (h : DataW.Trod enc Tryd.prog w base spare held 59 v d p) : ∃ r : Ask, v = r.val ∧ AskIn r := by
  obtain ⟨v0, v1, v2, v3, v4, v5, v6, y0, y1, y2, y3, y4, y5, y6, n, rfl, t0, t1, t2, t3, t4, t5, t6⟩ := open_agg7 Tryd.underlying59 (by kernel_rfl) (by kernel_rfl) hv h
  obtain ⟨n0, e0, -, w0⟩ := DataW.trod_int Tryd.underlying5 t0
  obtain ⟨n1, e1, -, w1⟩ := DataW.trod_int Tryd.underlying5 t1
  obtain ⟨n2, e2, -, w2⟩ := DataW.trod_int Tryd.underlying5 t2
  obtain ⟨n3, e3, -, w3⟩ := DataW.trod_int Tryd.underlying5 t3
  obtain ⟨n4, e4, -, w4⟩ := DataW.trod_int Tryd.underlying57 t4
  obtain ⟨n5, e5, -, w5⟩ := DataW.trod_int Tryd.underlying5 t5
  obtain ⟨n6, e6, -, w6⟩ := DataW.trod_int Tryd.underlying5 t6
  obtain rfl := List.singleton_inj.1 e0
  obtain rfl := List.singleton_inj.1 e1
  obtain rfl := List.singleton_inj.1 e2
  obtain rfl := List.singleton_inj.1 e3
  obtain rfl := List.singleton_inj.1 e4
  obtain rfl := List.singleton_inj.1 e5
  obtain rfl := List.singleton_inj.1 e6
  exact ⟨⟨n0, n1, n2, n3, n4, n5, n6⟩, rfl, wf_u8 w0, wf_u8 w1, wf_u8 w2, wf_u8 w3, wf_u16 w4, wf_u8 w5, wf_u8 w6⟩
theorem open_asks {H : Type} {enc : TypeId × Value → H} {w : World} {base : Nat} {spare : Nat → Bool} {held : Bool} {fuel : Nat} {v : Value} {x : DataW H × List MemPlace} (h : DataW.trod enc Tryd.prog w base spare held fuel 56 [v] = some x) :
    ∃ xs : List Ask, Row w v xs ∧ (∀ p ∈ xs, AskIn p) := by
  rcases open_structs Tryd.underlying56 Tryd.underlying59 (by kernel_rfl) (by kernel_rfl) h with rfl | ⟨a, len, cap, rfl, hl, hm, hi⟩
  · exact Row.nil_
  · exact Row.of_add hm (fun i hil => by
      obtain ⟨n, hj⟩ := hi i hil
      obtain ⟨u0, y0, c0, t0⟩ := hj 0 _ rfl
      obtain ⟨u1, y1, c1, t1⟩ := hj 1 _ rfl
      obtain ⟨u2, y2, c2, t2⟩ := hj 2 _ rfl
      obtain ⟨u3, y3, c3, t3⟩ := hj 3 _ rfl
      obtain ⟨u4, y4, c4, t4⟩ := hj 4 _ rfl
      obtain ⟨u5, y5, c5, t5⟩ := hj 5 _ rfl
      obtain ⟨u6, y6, c6, t6⟩ := hj 6 _ rfl
      obtain ⟨n0, e0, -, w0⟩ := DataW.trod_int Tryd.underlying5 t0
      obtain ⟨n1, e1, -, w1⟩ := DataW.trod_int Tryd.underlying5 t1
      obtain ⟨n2, e2, -, w2⟩ := DataW.trod_int Tryd.underlying5 t2
      obtain ⟨n3, e3, -, w3⟩ := DataW.trod_int Tryd.underlying5 t3
      obtain ⟨n4, e4, -, w4⟩ := DataW.trod_int Tryd.underlying57 t4
      obtain ⟨n5, e5, -, w5⟩ := DataW.trod_int Tryd.underlying5 t5
      obtain ⟨n6, e6, -, w6⟩ := DataW.trod_int Tryd.underlying5 t6
      obtain rfl := List.singleton_inj.1 e0
      obtain rfl := List.singleton_inj.1 e1
      obtain rfl := List.singleton_inj.1 e2
      obtain rfl := List.singleton_inj.1 e3
      obtain rfl := List.singleton_inj.1 e4
      obtain rfl := List.singleton_inj.1 e5
      obtain rfl := List.singleton_inj.1 e6
      refine ⟨⟨n0, n1, n2, n3, n4, n5, n6⟩, ⟨wf_u8 w0, wf_u8 w1, wf_u8 w2, wf_u8 w3, wf_u16 w4, wf_u8 w5, wf_u8 w6⟩, fun j u hu => ?_⟩
      match j, hu with
      | 0, hu => obtain rfl := Option.some.inj hu; exact c0
      | 1, hu => obtain rfl := Option.some.inj hu; exact c1
      | 2, hu => obtain rfl := Option.some.inj hu; exact c2
      | 3, hu => obtain rfl := Option.some.inj hu; exact c3
      | 4, hu => obtain rfl := Option.some.inj hu; exact c4
      | 5, hu => obtain rfl := Option.some.inj hu; exact c5
      | 6, hu => obtain rfl := Option.some.inj hu; exact c6)
/-- A slice of bools. -/
theorem open_bools {H : Type} {enc : TypeId × Value → H} {w : World} {base : Nat} {spare : Nat → Bool} {held : Bool} {t : TypeId} (ht : Tryd.prog.underlying t = some (.slice 4)) {fuel : Nat} {v : Value} {x : DataW H × List MemPlace} (h : DataW.trod enc Tryd.prog w base spare held fuel t [v] = some x) :
    ∃ xs : List Bool, Row w v xs ∧ CapOk v := by
  rcases open_slice ht h with ⟨h0, _⟩ | ⟨a, len, cap, m, n, D, Pl, hcs, hb, hl, hm, hmm, hx, hi⟩
  · obtain rfl : v = .slice none 0 0 := by simpa using h0
    exact ⟨[], Row.nil _, Nat.le_refl _⟩
  · obtain rfl : v = .slice (some a) len cap := by simpa using hcs
    have hC : Tryd.prog.cellsOf 4 = 1 := by kernel_rfl
    obtain ⟨xs, h1, -⟩ := Row.of_add (α := Bool) (w := w) (a := a) (cap := cap) (len := len) (by omega) (Q := fun _ => True) (fun i hil => by
      have him : i < m := by
        rw [hmm]
        split <;> omega
      obtain ⟨cs', hc, ht'⟩ := hi i him
      rw [hC] at hc
      obtain ⟨b, e, -⟩ := DataW.trod_bool Tryd.underlying4 ht'
      subst e
      obtain ⟨_, hcl, hat⟩ := World.cells?_some hc
      have h0 := hat 0 (by omega)
      refine ⟨b, trivial, fun j u hu => ?_⟩
      match j, hu with
      | 0, hu =>
        obtain rfl := Option.some.inj hu
        have e : i * sz Bool + 0 = i * 1 + 0 := rfl
        rw [e]
        simpa [Go.Deep.add_add] using h0)
    exact ⟨xs, h1, hl⟩
end Go.Proofs.YthjmficglpfgpaaDoor
namespace Go.Proofs.YthjmficglpfgpaaDoor
set_option linter.unusedVariables false
set_option linter.unusedSimpArgs false
open Go Go.RowKit Enc
set_option maxRecDepth 100000
set_option maxHeartbeats 3200000

theorem bank_bad (s : St) (v : Value) (r : Req) (lv : Value) (w : World) (hv : StV w v s) (hr : ¬ ReqOk r) : Calls Tryd.prog 27 #[v, r.val, lv] w fun e w' => BankRes w w' (s, ⟨1, 0⟩, 0) e := by
  obtain ⟨A1, c1, A2, c2, A3, c3, A4, c4, rfl, q1, q2, q3, q4⟩ := hv.open
  have h0 := (((Env.nil w).alloc 36 [.slice A1 s.accs.length c1, .slice A2 s.pays.length c2, .slice A3 s.sagas.length c3, .slice A4 s.known.length c4, .int .i64 s.now]).alloc 29 r.cells).alloc 36 [.slice none 0 0, .slice none 0 0, .slice none 0 0, .slice none 0 0, .int .i64 0]
  replace h0 := h0.alloc 40 [.int .i64 0, .int .i64 0]
  simp only [List.nil_append, List.cons_append, List.set_cons_zero, List.set_cons_succ, World.size_alloc] at h0
  have HM := Lib.hid (may_req r)
  have HV := Lib.hid hv
  have HR := Lib.hid hr
  clear q1 q2 q3 q4 hv hr
  obtain ⟨key, op, ra, rb, amt, legs, til⟩ := r
  simp only [Req.cells] at h0
  have H0 := Lib.hid h0
  clear h0
  go_enter Tryd.func27, Tryd.ntmps27
  go_wp2_with fail
  refine (HM.out _).mono ?_
  rintro e w1 ⟨b, rfl, hb, hz⟩
  obtain rfl : b = false := by
    cases b with
    | false => rfl
    | true => exact absurd (hb.1 rfl) HR.out
  have h1 := H0.out.next hz
  have H1 := Lib.hid h1
  (have f1 := h1.facts; simp only [AllF, cellsF, gapF, Nat.zero_add, Nat.reduceAdd, and_true, true_and] at f1)
  clear h1 hz H0 hb HM
  go_wp2_with fail
  refine bodyPost_ret (res_cell_cell_tmp rfl _ rfl rfl agg_st rfl (((H1.out.at 2 rfl).chain5).far2 (by simp)) agg_rep rfl (((H1.out.at 3 rfl).far5 (by simp)).chain2)) rfl ?_
  have hb : Below w.heap.size w w1 := H1.out.bel
  refine (fun (h : Below _ _ _) => ⟨h, _, rfl, HV.out.below h⟩) ?_
  (repeat (first | (with_reducible refine below_drew ?_) | (with_reducible refine below_drewN ?_ _) | (with_reducible refine below_alloc ?_ _) | ((with_reducible refine Below.setCell ?_ ?_ _); rotate_left; (focus (first | (simp; done) | (simp; omega))))))
  exact hb
theorem bank_ask (s : St) (v : Value) (r : Req) (lv : Value) (w : World) (hv : StV w v s) (hr : ReqOk r) (out : Rep) (ha : askK s.known r = some out) : Calls Tryd.prog 27 #[v, r.val, lv] w fun e w' => BankRes w w' (s, out, 0) e := by
  obtain ⟨A1, c1, A2, c2, A3, c3, A4, c4, rfl, q1, q2, q3, q4⟩ := hv.open
  have h0 := (((Env.nil w).alloc 36 [.slice A1 s.accs.length c1, .slice A2 s.pays.length c2, .slice A3 s.sagas.length c3, .slice A4 s.known.length c4, .int .i64 s.now]).alloc 29 r.cells).alloc 36 [.slice none 0 0, .slice none 0 0, .slice none 0 0, .slice none 0 0, .int .i64 0]
  replace h0 := h0.alloc 40 [.int .i64 0, .int .i64 0]
  simp only [List.nil_append, List.cons_append, List.set_cons_zero, List.set_cons_succ, World.size_alloc] at h0
  have HM := Lib.hid (may_req r)
  have HA := Lib.hid (fun (W : World) (hW : Below w.heap.size w W) => ha ▸ keysAsk_any (.slice A4 s.known.length c4) s.known r W (q4.below hW))
  have HV := Lib.hid hv
  have HR := Lib.hid hr
  clear q1 q2 q3 q4 hv hr ha
  obtain ⟨key, op, ra, rb, amt, legs, til⟩ := r
  obtain ⟨err, id⟩ := out
  simp only [Req.cells] at h0
  have H0 := Lib.hid h0
  clear h0
  go_enter Tryd.func27, Tryd.ntmps27
  go_wp2_with fail
  refine (HM.out _).mono ?_
  rintro e w1 ⟨b, rfl, hb, hz⟩
  obtain rfl : b = true := hb.2 HR.out
  have h1 := H0.out.next hz
  have H1 := Lib.hid h1
  (have f1 := h1.facts; simp only [AllF, cellsF, gapF, Nat.zero_add, Nat.reduceAdd, and_true, true_and] at f1)
  clear h1 hz H0 hb HM
  go_wp2_with fail
  refine (HA.out _ H1.out.bel).mono ?_
  rintro e w2 ⟨rfl, hz⟩
  have e0 : askV (some ⟨err, id⟩) = .tuple #[.agg #[.int .i64 err, .int .i64 id], .bool true] := rfl
  rw [e0]
  clear e0
  have h2 := H1.out.next hz
  have H2 := Lib.hid h2
  clear f1
  (have f2 := h2.facts; simp only [AllF, cellsF, gapF, Nat.zero_add, Nat.reduceAdd, and_true, true_and] at f2)
  clear h2 hz H1 HA
  go_wp2_with fail
  have h3 := H2.out.alloc 40 [.int .i64 err, .int .i64 id]
  simp only [List.nil_append, List.cons_append, List.set_cons_zero, List.set_cons_succ, World.size_alloc] at h3
  have HQ : ∃ W3 : World, w2.alloc (.cells #[.int .i64 err, .int .i64 id] 40) = W3 := ⟨_, rfl⟩
  obtain ⟨W3, HQ⟩ := HQ
  rw [HQ] at h3 ⊢
  have H3 := Lib.hid h3
  generalize w2.heap.size = g9 at *
  clear f2 HQ H2
  clear w2
  (have f3 := h3.facts; simp only [AllF, cellsF, gapF, Nat.zero_add, Nat.reduceAdd, and_true, true_and] at f3)
  clear h3
  clear f3
  have hfs := H3.out.facts
  simp only [AllF, cellsF, gapF, Nat.zero_add, Nat.reduceAdd, and_true, true_and] at hfs
  have hSof : ∀ w', Below W3.heap.size W3 w' → (w'.cell? ⟨w.heap.size, 0, none⟩ = some (.slice A1 s.accs.length c1) ∧ w'.cell? ⟨w.heap.size, 1, none⟩ = some (.slice A2 s.pays.length c2) ∧ w'.cell? ⟨w.heap.size, 2, none⟩ = some (.slice A3 s.sagas.length c3) ∧ w'.cell? ⟨w.heap.size, 3, none⟩ = some (.slice A4 s.known.length c4) ∧ w'.cell? ⟨w.heap.size, 4, none⟩ = some (.int .i64 s.now) ∧ w'.cell? ⟨g9, 0, none⟩ = some (.int .i64 err) ∧ w'.cell? ⟨g9, 1, none⟩ = some (.int .i64 id)) := fun w' hb => by
    obtain ⟨⟨⟨q0, q1, q2, q3, q4⟩, -⟩, -, -, -, ⟨q5, q6⟩, -⟩ := hfs
    exact ⟨cell_below hb q0, cell_below hb q1, cell_below hb q2, cell_below hb q3, cell_below hb q4, cell_below hb q5, cell_below hb q6⟩
  have hbd : Below W3.heap.size W3 W3.drew := below_drew (Below.refl _ _)
  refine wp_region_head 3 (fun w' => (w'.cell? ⟨w.heap.size, 0, none⟩ = some (.slice A1 s.accs.length c1) ∧ w'.cell? ⟨w.heap.size, 1, none⟩ = some (.slice A2 s.pays.length c2) ∧ w'.cell? ⟨w.heap.size, 2, none⟩ = some (.slice A3 s.sagas.length c3) ∧ w'.cell? ⟨w.heap.size, 3, none⟩ = some (.slice A4 s.known.length c4) ∧ w'.cell? ⟨w.heap.size, 4, none⟩ = some (.int .i64 s.now) ∧ w'.cell? ⟨g9, 0, none⟩ = some (.int .i64 err) ∧ w'.cell? ⟨g9, 1, none⟩ = some (.int .i64 id))) (by kernel_rfl) (by kernel_rfl) (hSof _ hbd) (fun hHeld => ?_)
  generalize W3.drew = WD at *
  have HWD := Lib.hid (H3.out.next hbd)
  clear hfs
  refine wpHead_take (i := 0) (v := ?_) rfl (by kernel_rfl) (by kernel_rfl) (by kernel_rfl) (by kernel_rfl) (fun _ _ _ h => h) (Or.inl ⟨by rfl, fun w hSw => ?_⟩) (by assumption) ?_; rotate_left; (focus ((try dsimp only at hSw); go_simp <;> with_reducible rfl)); (try simp only [Act.put, List.setIfInBounds_toArray, List.set_cons_zero, List.set_cons_succ])
  refine wpHead_take (i := 1) (v := ?_) rfl (by kernel_rfl) (by kernel_rfl) (by kernel_rfl) (by kernel_rfl) (fun _ _ _ h => h) (Or.inl ⟨by rfl, fun w hSw => ?_⟩) (by assumption) ?_; rotate_left; (focus ((try dsimp only at hSw); go_simp <;> with_reducible rfl)); (try simp only [Act.put, List.setIfInBounds_toArray, List.set_cons_zero, List.set_cons_succ])
  have hN := (((((HWD.out.set 2 0 (.slice A1 s.accs.length c1) rfl).set 2 1 (.slice A2 s.pays.length c2) rfl).set 2 2 (.slice A3 s.sagas.length c3) rfl).set 2 3 (.slice A4 s.known.length c4) rfl).set 2 4 (.int .i64 s.now) rfl)
  simp only [List.nil_append, List.cons_append, List.set_cons_zero, List.set_cons_succ, World.size_alloc] at hN
  have HNN := Lib.hid hN
  have hfo := HWD.out.facts
  simp only [AllF, cellsF, gapF, Nat.zero_add, Nat.reduceAdd, and_true, true_and] at hfo
  have hfs := hN.facts
  simp only [AllF, cellsF, gapF, Nat.zero_add, Nat.reduceAdd, and_true, true_and] at hfs
  have HFS := Lib.hid hfs
  clear hfs hN
  refine wpHead_ready (rs := [2]) (by kernel_rfl) (by simp) ?_
  refine AllHead.cons (i := 2) rfl (by kernel_rfl) (fun K hK => ?_) ?_
  rotate_left
  · exact AllHead.nil
  go_simp
  refine hK.out _ _ (by obtain ⟨⟨⟨q0, q1, q2, q3, q4⟩, -⟩, -, -, -, ⟨q5, q6⟩, -⟩ := HFS.out; exact ⟨q0, q1, q2, q3, q4, q5, q6⟩) (fun hHeldN => ?_)
  clear hK K hHeldN hfo
  try clear hHeld
  (try simp only [Act.put, List.setIfInBounds_toArray, List.set_cons_zero, List.set_cons_succ])
  have HQ : ∃ WN : World, (((((WD.setCell ⟨w.heap.size + 1 + 1, 0, none⟩ (.slice A1 s.accs.length c1)).setCell ⟨w.heap.size + 1 + 1, 1, none⟩ (.slice A2 s.pays.length c2)).setCell ⟨w.heap.size + 1 + 1, 2, none⟩ (.slice A3 s.sagas.length c3)).setCell ⟨w.heap.size + 1 + 1, 3, none⟩ (.slice A4 s.known.length c4)).setCell ⟨w.heap.size + 1 + 1, 4, none⟩ (.int .i64 s.now)) = WN := ⟨_, rfl⟩
  obtain ⟨W4, HQ⟩ := HQ
  have HW4 : Hid (Env _ W4 _) := HQ ▸ HNN
  rw [HQ]
  have hfn := HW4.out.facts
  simp only [AllF, cellsF, gapF, Nat.zero_add, Nat.reduceAdd, and_true, true_and] at hfn
  clear HQ HNN HFS
  refine wpHead_done (by kernel_rfl) ?_; simp only [List.drop_succ_cons, List.drop_zero]
  clear H3 HWD hbd hSof
  go_wp2_with fail
  refine bodyPost_ret (res_cell_cell_tmp rfl _ rfl rfl agg_st rfl ((HW4.out.at 2 rfl).far2 (by simp)) agg_rep rfl (HW4.out.at 3 rfl).chain2) rfl ?_
  have hb : Below w.heap.size w W4 := HW4.out.bel
  refine (fun (h : Below _ _ _) => ⟨h, _, rfl, HV.out.below h⟩) ?_
  (repeat (first | (with_reducible refine below_drew ?_) | (with_reducible refine below_drewN ?_ _) | (with_reducible refine below_alloc ?_ _) | ((with_reducible refine Below.setCell ?_ ?_ _); rotate_left; (focus (first | (simp; done) | (simp; omega))))))
  exact hb
end Go.Proofs.YthjmficglpfgpaaDoor
namespace Go.Proofs.YthjmficglpfgpaaDoor
set_option linter.unusedVariables false
set_option linter.unusedSimpArgs false
open Go Go.RowKit Enc
set_option maxRecDepth 100000
set_option maxHeartbeats 16000000

def WholeRel (w : World) (s : St) (st rq z5 z2 tt : List Value) (gt gs : Nat) (r : Req) (ls : List Bool) (a : Value) (wr : World) : Prop :=
  ∃ (n : Nat) (g : Saga) (f : Nat) (lv : Value) (ls' : List Bool), a = .int .i64 n ∧ WayG r g ∧ (n : Int) + restG g ≤ 20 ∧ restG g ≤ f ∧ legsGo 20 (beginG r) 0 ls = legsGo f g n ls' ∧ (∀ W, Below w.heap.size w W → Row W lv ls') ∧ CapOk lv ∧ StV wr (.agg tt.toArray) s ∧
    Env w wr [(w.heap.size, 36, st), (w.heap.size + 1, 29, rq), (w.heap.size + 1 + 1, 113, [lv]), (w.heap.size + 1 + 1 + 1, 36, z5), (w.heap.size + 1 + 1 + 1 + 1, 40, z2), (gt, 36, tt), (gs, 156, g.cells)]
theorem legsGo_stop {f : Nat} {g : Saga} {a : Int} {ls : List Bool} (h : ¬(g.phase = 0 ∧ readyB g = false)) : legsGo f g a ls = (g, a) := by
  cases f with
  | zero => rfl
  | succ f => unfold legsGo; rw [if_neg h]
theorem stE_open {w : World} {v : Value} {s : St} {ys : List Acc} (h : StV w v { s with accs := ys }) : ∃ C1 k1 C2 k2 C3 k3 C4 k4, v = .agg #[.slice C1 ys.length k1, .slice C2 s.pays.length k2, .slice C3 s.sagas.length k3, .slice C4 s.known.length k4, .int .i64 s.now] := by
  obtain ⟨C1, k1, C2, k2, C3, k3, C4, k4, rfl, -⟩ := h.open
  exact ⟨_, _, _, _, _, _, _, _, rfl⟩
theorem stE_undo {w w' : World} {s : St} {t : List Acc} {r : Req} {e : Ending} (h : StE w w' { s with accs := t } (undoA t r) e) : Below w.heap.size w w' ∧ ∃ v x, e = .returned (.tuple #[v, x]) ∧ StV w' v { s with accs := undoL t r } := by
  obtain ⟨hb, h⟩ := h
  refine ⟨hb, ?_⟩
  unfold undoL
  cases hx : undoA t r with
  | error c =>
    rw [hx] at h
    obtain ⟨v, rfl, hv⟩ := h
    exact ⟨v, _, rfl, hv⟩
  | ok ys =>
    rw [hx] at h
    obtain ⟨v, rfl, hv⟩ := h
    exact ⟨v, _, rfl, hv⟩
theorem whole_ok (s : St) (v : Value) (r : Req) (lv : Value) (ls : List Bool) (w : World) (hv : StV w v s) (hl : Row w lv ls) (hcap : CapOk lv) (hG : Good s.accs) (hT : GT w) (hlg : 0 ≤ r.legs ∧ r.legs ≤ 4) (t : List Acc) (hr : reserveA s.accs r = .ok t) :
    Calls Tryd.prog 51 #[v, r.val, lv] w fun e w' => BankRes w w' (wholeB s r ls) e := by
  obtain ⟨A1, c1, A2, c2, A3, c3, A4, c4, rfl, q1, q2, q3, q4⟩ := hv.open
  obtain ⟨L, lc, rfl⟩ := hl.slice
  have h0 := ((((Env.nil w).alloc 36 [.slice A1 s.accs.length c1, .slice A2 s.pays.length c2, .slice A3 s.sagas.length c3, .slice A4 s.known.length c4, .int .i64 s.now]).alloc 29 r.cells).alloc 113 [.slice L ls.length lc]).alloc 36 [.slice none 0 0, .slice none 0 0, .slice none 0 0, .slice none 0 0, .int .i64 0]
  replace h0 := h0.alloc 40 [.int .i64 0, .int .i64 0]
  simp only [List.nil_append, List.cons_append, List.set_cons_zero, List.set_cons_succ, World.size_alloc] at h0
  have HC := Lib.hid (fun (W : World) (hW : Below w.heap.size w W) => hr ▸ reserve_st s _ r W (hv.below hW) hG)
  have HB := Lib.hid (sagaBegin_any r)
  have HX1 := Lib.hid (show ∀ g n u, legsGo 20 (beginG r) 0 ls = (g, n) → g.phase = 0 → settleA t r = .ok u → wholeB s r ls = ({ s with accs := u }, ⟨0, 0⟩, min n ls.length) from fun g n u h1 h2 h3 => by
    simp only [wholeB, hr, h1, h2, h3, if_true])
  have HX2 := Lib.hid (show ∀ g n c, legsGo 20 (beginG r) 0 ls = (g, n) → g.phase = 0 → settleA t r = .error c → wholeB s r ls = ({ s with accs := undoL t r }, ⟨c, 0⟩, min n ls.length) from fun g n c h1 h2 h3 => by
    simp only [wholeB, hr, h1, h2, h3, if_true])
  have HX3 := Lib.hid (show ∀ g n, legsGo 20 (beginG r) 0 ls = (g, n) → ¬ g.phase = 0 → wholeB s r ls = ({ s with accs := undoL t r }, ⟨g.why, 0⟩, min n ls.length) from fun g n h1 h2 => by
    simp only [wholeB, hr, h1]
    rw [if_neg h2])
  have hGt : Good t := by
    obtain ⟨es, -, hh, -⟩ := reserve_ok hG hr
    exact hG.hold hh
  generalize wholeB s r ls = X at *
  have HV := Lib.hid hv
  have HT := Lib.hid hT
  have HLS := Lib.hid (show ∀ W, Below w.heap.size w W → Row W (.slice L ls.length lc) ls from fun W hW => hl.below hW)
  have HCAP := Lib.hid hcap
  have HWAY := Lib.hid (beginG_way hlg.1)
  have hlm := hl.max
  clear q1 q2 q3 q4 hv hT hr hl hcap
  obtain ⟨key, op, ra, rb, amt, legs, til⟩ := r
  simp only [Req.cells] at h0
  have H0 := Lib.hid h0
  clear h0
  go_enter Tryd.func51, Tryd.ntmps51
  go_wp2_with fail
  refine (HC.out _ H0.out.bel).mono ?_
  intro e w1 hres
  obtain ⟨hz, v1, rfl, hv1⟩ := hres
  have HV1 := Lib.hid hv1
  obtain ⟨B1, d1, B2, d2, B3, d3, B4, d4, rfl, -⟩ := hv1.open
  have h1 := H0.out.next hz
  have H1 := Lib.hid h1
  (have f1 := h1.facts; simp only [AllF, cellsF, gapF, Nat.zero_add, Nat.reduceAdd, and_true, true_and] at f1)
  clear h1 hz HC H0 hv1
  go_wp2_with fail
  refine (HB.out _).mono ?_
  rintro e w2 ⟨rfl, hz⟩
  have h2 := (H1.out.alloc 36 [.slice B1 t.length d1, .slice B2 s.pays.length d2, .slice B3 s.sagas.length d3, .slice B4 s.known.length d4, .int .i64 s.now]).next hz
  simp only [List.nil_append, List.cons_append, List.set_cons_zero, List.set_cons_succ, World.size_alloc] at h2
  have H2 := Lib.hid h2
  have HV2 := Lib.hid (HV1.out.below (below_next (below_alloc (Below.refl _ _) _) hz))
  clear f1
  (have f2 := h2.facts; simp only [AllF, cellsF, gapF, Nat.zero_add, Nat.reduceAdd, and_true, true_and] at f2)
  clear h2 H1 hz HV1 HB
  have e0 : (beginG ⟨key, op, ra, rb, amt, legs, til⟩).val = .agg #[.int .i64 key, .int .i64 op, .int .i64 ra, .int .i64 rb, .int .i64 amt, .int .i64 legs, .int .i64 til, .int .i64 0, .int .i64 0, .int .i64 0, .int .i64 0] := rfl
  rw [e0]
  clear e0
  go_wp2_with fail
  have h3 := H2.out.alloc 156 (beginG ⟨key, op, ra, rb, amt, legs, til⟩).cells
  simp only [beginG, Saga.cells] at h3
  simp only [List.nil_append, List.cons_append, List.set_cons_zero, List.set_cons_succ, World.size_alloc] at h3
  have HQ : ∃ W3 : World, w2.alloc (.cells (Saga.cells (beginG ⟨key, op, ra, rb, amt, legs, til⟩)).toArray 156) = W3 := ⟨_, rfl⟩
  obtain ⟨W3, HQ⟩ := HQ
  simp only [beginG, Saga.cells] at HQ
  rw [HQ] at h3 ⊢
  have H3 := Lib.hid h3
  have HV3 := Lib.hid (HV2.out.below (show Below w2.heap.size w2 W3 by rw [← HQ]; exact below_alloc (Below.refl _ _) _))
  clear h3 HQ f2 H2
  have HOFF := Lib.hid (show StOff w2.heap.size _ _ from HV2.out.offNew (Nat.le_refl _))
  clear HV2
  generalize w1.heap.size = gt at *
  generalize w2.heap.size = gs at *
  clear w2
  go_loopw [14] (fun a wr => WholeRel w { s with accs := t } [.slice A1 s.accs.length c1, .slice A2 s.pays.length c2, .slice A3 s.sagas.length c3, .slice A4 s.known.length c4, .int .i64 s.now] [.int .i64 key, .int .i64 op, .int .i64 ra, .int .i64 rb, .int .i64 amt, .int .i64 legs, .int .i64 til] [.slice none 0 0, .slice none 0 0, .slice none 0 0, .slice none 0 0, .int .i64 0] [.int .i64 0, .int .i64 0] [.slice B1 t.length d1, .slice B2 s.pays.length d2, .slice B3 s.sagas.length d3, .slice B4 s.known.length d4, .int .i64 s.now] gt gs ⟨key, op, ra, rb, amt, legs, til⟩ ls a wr) (fun a _ => 21 - (intOf a).toNat)
  case atStart => exact ⟨0, beginG ⟨key, op, ra, rb, amt, legs, til⟩, 20, _, ls, rfl, HWAY.out, by simp [restG, beginG]; omega, by simp [restG, beginG]; omega, rfl, HLS.out, HCAP.out, HV3.out, H3.out⟩
  case round =>
    obtain ⟨n, g, f, lv, ls', rfl, hway, hn, hf, hgo, hls, hcp, hv4, h4⟩ := hrel
    have HRD := Lib.hid (sagaReady_any g)
    have HLG := Lib.hid (fun ok w => sagaLeg_any g ok w (by have h1 := hway.leg; simp only at h1; omega) (by have h1 := hway.tries; omega))
    have HW2 := Lib.hid (fun (hp : g.phase = 0) (hr : readyB g = false) ok => legG_way hway hp hr ok)
    have hnn := restG_nonneg hway
    have HGO := Lib.hid hgo
    obtain ⟨LA, lcc, rfl⟩ := (hls w (Below.refl _ _)).slice
    have HLS2 := Lib.hid hls
    have HV4 := Lib.hid hv4
    have HCP := Lib.hid hcp
    clear HLS HCAP hls hgo hv4 hcp HV3
    generalize hrb : readyB g = rb0 at *
    have HRB := Lib.hid hrb
    generalize hgl : legG g = lgf at *
    have HGL := Lib.hid hgl
    clear hrb hgl
    have HWAYg := Lib.hid hway
    have HG := Lib.hid (Eq.refl g)
    obtain ⟨⟨gk, gop, gra, grb, gam, glg, gti⟩, ph, lg, tr, wy⟩ := g
    simp only [Saga.cells] at h4
    have H4 := Lib.hid h4
    (have f4 := h4.facts; simp only [AllF, cellsF, gapF, Nat.zero_add, Nat.reduceAdd, and_true, true_and] at f4)
    clear h4 hway
    by_cases hp : ph = 0
    · subst hp
      cases rb0 with
      | false =>
        obtain ⟨f, rfl⟩ : ∃ f', f = f' + 1 := ⟨f - 1, by have := (HW2.out (by trivial) (by trivial) true).2; have := restG_nonneg (HW2.out (by trivial) (by trivial) true).1; omega⟩
        go_wp2_with fail
        refine (HRD.out _).mono ?_
        rintro e w4 ⟨rfl, hz⟩
        have h5 := H4.out.next hz
        have H5 := Lib.hid h5
        have hz4 := Lib.hid hz
        clear f4
        (have f5 := h5.facts; simp only [AllF, cellsF, gapF, Nat.zero_add, Nat.reduceAdd, and_true, true_and] at f5)
        clear h5 hz H4 HRD
        have HF5 := Lib.hid f5
        go_wp2_with fail
        have hSof : ∀ w', w4.grownBy w' (some (w.heap.size + 1 + 1)) → (gs ≠ w.heap.size + 1 + 1) → (w'.cell? ⟨gs, 0, none⟩ = some (.int .i64 gk) ∧ w'.cell? ⟨gs, 1, none⟩ = some (.int .i64 gop) ∧ w'.cell? ⟨gs, 2, none⟩ = some (.int .i64 gra) ∧ w'.cell? ⟨gs, 3, none⟩ = some (.int .i64 grb) ∧ w'.cell? ⟨gs, 4, none⟩ = some (.int .i64 gam) ∧ w'.cell? ⟨gs, 5, none⟩ = some (.int .i64 glg) ∧ w'.cell? ⟨gs, 6, none⟩ = some (.int .i64 gti) ∧ w'.cell? ⟨gs, 7, none⟩ = some (.int .i64 0) ∧ w'.cell? ⟨gs, 8, none⟩ = some (.int .i64 lg) ∧ w'.cell? ⟨gs, 9, none⟩ = some (.int .i64 tr) ∧ w'.cell? ⟨gs, 10, none⟩ = some (.int .i64 wy)) := fun w' hb hne => by
          obtain ⟨-, -, -, -, -, -, ⟨k0, k1, k2, k3, k4, k5, k6, k7, k8, k9, k10⟩, -⟩ := HF5.out
          have hne' : some gs ≠ some (w.heap.size + 1 + 1) := fun h => hne (by injection h)
          exact ⟨hb.cell k0 hne', hb.cell k1 hne', hb.cell k2 hne', hb.cell k3 hne', hb.cell k4 hne', hb.cell k5 hne', hb.cell k6 hne', hb.cell k7 hne', hb.cell k8 hne', hb.cell k9 hne', hb.cell k10 hne'⟩
        have hgs : gs ≠ w.heap.size + 1 + 1 := by have := H5.out.less (i := 2) (j := 6) (by decide) rfl rfl; simp only at this; omega
        obtain ⟨b0, hb0⟩ : ∃ b0, ls'.headD true = b0 := ⟨_, rfl⟩
        have HB0 := Lib.hid hb0
        clear hb0
        have hgd : w4.grownBy w4.drew (some (w.heap.size + 1 + 1)) := only_of_below (below_drew (Below.refl _ _)) _
        have HGO2 := Lib.hid (HGO.out.trans (show legsGo (f + 1) _ _ _ = _ from by unfold legsGo; rw [if_pos ⟨rfl, HRB.out⟩, HGL.out, HB0.out]))
        have HV5 := Lib.hid (HV4.out.below hz4.out)
        clear HGO HV4
        refine wp_region_head 3 (fun w' => (w'.cell? ⟨gs, 0, none⟩ = some (.int .i64 gk) ∧ w'.cell? ⟨gs, 1, none⟩ = some (.int .i64 gop) ∧ w'.cell? ⟨gs, 2, none⟩ = some (.int .i64 gra) ∧ w'.cell? ⟨gs, 3, none⟩ = some (.int .i64 grb) ∧ w'.cell? ⟨gs, 4, none⟩ = some (.int .i64 gam) ∧ w'.cell? ⟨gs, 5, none⟩ = some (.int .i64 glg) ∧ w'.cell? ⟨gs, 6, none⟩ = some (.int .i64 gti) ∧ w'.cell? ⟨gs, 7, none⟩ = some (.int .i64 0) ∧ w'.cell? ⟨gs, 8, none⟩ = some (.int .i64 lg) ∧ w'.cell? ⟨gs, 9, none⟩ = some (.int .i64 tr) ∧ w'.cell? ⟨gs, 10, none⟩ = some (.int .i64 wy))) (by kernel_rfl) (by kernel_rfl) (hSof _ hgd hgs) (fun hHeld => ?_)
        refine wpHead_take (i := 0) (v := ?_) rfl (by kernel_rfl) (by kernel_rfl) (by kernel_rfl) (by kernel_rfl) (fun _ _ _ h => h) (Or.inl ⟨by rfl, fun w hSw => ?_⟩) (by assumption) ?_; rotate_left; (focus ((try dsimp only at hSw); go_simp <;> with_reducible rfl)); (try simp only [Act.put, List.setIfInBounds_toArray, List.set_cons_zero, List.set_cons_succ])
        refine wpHead_take (i := 1) (v := ?_) rfl (by kernel_rfl) (by kernel_rfl) (by kernel_rfl) (by kernel_rfl) (fun _ _ _ h => h) (Or.inl ⟨by rfl, fun w hSw => ?_⟩) (by assumption) ?_; rotate_left; (focus ((try dsimp only at hSw); go_simp <;> with_reducible rfl)); (try simp only [Act.put, List.setIfInBounds_toArray, List.set_cons_zero, List.set_cons_succ])
        refine wpHead_ready (rs := [2]) (by kernel_rfl) (by simp) ?_
        refine AllHead.cons (i := 2) rfl (by kernel_rfl) (fun K hK => ?_) ?_
        · go_simp
          go_at_call 79
          refine (next_any _ _ ls' _ (H5.out.drew.at 2 rfl) (HLS2.out _ H5.out.drew.bel)).mono ?_
          rintro e w6 ⟨he, hg6, hb6⟩
          rw [HB0.out] at he
          subst he
          refine hK.out _ _ (hSof _ (hgd.trans hg6) hgs) (fun hHeld6 => ?_)
          clear hK K hHeld
          (try simp only [Act.put, List.setIfInBounds_toArray, List.set_cons_zero, List.set_cons_succ])
          refine wpHead_done (by kernel_rfl) ?_; simp only [List.drop_succ_cons, List.drop_zero]
          have HV6 := Lib.hid ((HV5.out.keep (HV5.out.offLeg (H5.out.at 2 rfl)) (hgd.trans hg6)))
          have hlv := HLS2.out
          have h6 := H5.out.drew.turn (k := 2) (cs' := [if ls' = [] then .slice LA ls'.length lcc else dropV 1 1 (.slice LA ls'.length lcc)]) rfl hg6 hb6
          simp only [List.nil_append, List.cons_append, List.set_cons_zero, List.set_cons_succ, World.size_alloc] at h6
          have HLS6 := Lib.hid (fun W hW => next_row (HLS2.out W hW) HCP.out)
          have HCP6 := Lib.hid (next_cap (ls := ls') HCP.out)
          generalize (if ls' = [] then (.slice LA ls'.length lcc : Value) else dropV 1 1 (.slice LA ls'.length lcc)) = lv6 at *
          have H6 := Lib.hid h6
          have hW6 := HW2.out (by trivial) (by trivial) b0
          clear h6 hg6 hb6 hlv f5 HF5 hSof hgd H5 HV5 HLS2 HCP HW2
          generalize hg2 : lgf b0 = g2 at *
          have HG2 := Lib.hid hg2
          go_wp2_with fail
          refine (HLG.out _ _).mono ?_
          rintro e w7 ⟨rfl, hz⟩
          rw [HG2.out]
          have h7 := H6.out.next hz
          have H7 := Lib.hid h7
          have HV7 := Lib.hid (HV6.out.below hz)
          clear hHeld6
          (have f7 := h7.facts; simp only [AllF, cellsF, gapF, Nat.zero_add, Nat.reduceAdd, and_true, true_and] at f7)
          clear h7 H6 hz HV6 HLG hg2 HG2
          have HW6 := Lib.hid hW6
          clear hW6
          obtain ⟨⟨x0, x1, x2, x3, x4, x5, x6⟩, y0, y1, y2, y3⟩ := g2
          go_wp2
          have hW := HW6.out
          have h8 := (((((((((((H7.out.set 6 0 (.int .i64 x0) rfl).set 6 1 (.int .i64 x1) rfl).set 6 2 (.int .i64 x2) rfl).set 6 3 (.int .i64 x3) rfl).set 6 4 (.int .i64 x4) rfl).set 6 5 (.int .i64 x5) rfl).set 6 6 (.int .i64 x6) rfl).set 6 7 (.int .i64 y0) rfl).set 6 8 (.int .i64 y1) rfl).set 6 9 (.int .i64 y2) rfl).set 6 10 (.int .i64 y3) rfl)
          simp only [List.nil_append, List.cons_append, List.set_cons_zero, List.set_cons_succ, World.size_alloc] at h8
          exact ⟨⟨n + 1, ⟨⟨x0, x1, x2, x3, x4, x5, x6⟩, y0, y1, y2, y3⟩, f, lv6, ls'.tail, by go_num, hW.1, by have := hW.2; omega, by have := hW.2; omega, HGO2.out, HLS6.out, HCP6.out, HV7.out.keep HOFF.out (set11_grown _ _ _ _ _ _ _ _ _ _ _ _ _), h8⟩, by simp [intOf]; omega⟩
        exact AllHead.nil
      | true =>
        obtain ⟨mn, hmn⟩ : ∃ mn, min (n : Int) ls.length = mn := ⟨_, rfl⟩
        have hmin := min_run hmn Tryd.prog
        have HMN := Lib.hid hmn
        clear hmn
        have HSE := Lib.hid (settle_st { s with accs := t } _ ⟨key, op, ra, rb, amt, legs, til⟩ wr HV4.out hGt (fun es h => (move_moveOk hGt h).bal hGt))
        have HY1 := Lib.hid (fun u h => show X = _ from HX1.out _ _ u (HGO.out.trans (legsGo_stop (fun h => by rw [HRB.out] at h; exact absurd h.2 (by simp)))) rfl h)
        have HY2 := Lib.hid (fun c h => show X = _ from HX2.out _ _ c (HGO.out.trans (legsGo_stop (fun h => by rw [HRB.out] at h; exact absurd h.2 (by simp)))) rfl h)
        clear HX1 HX2 HX3 HGO HW2 HGL HG HWAYg HLG HLS2 HCP
        go_wp2_with fail
        refine (HRD.out _).mono ?_
        rintro e w4 ⟨rfl, hz⟩
        have h5 := H4.out.next hz
        have HV4a := Lib.hid (HV4.out.below hz)
        have HSE := Lib.hid (settle_st { s with accs := t } _ ⟨key, op, ra, rb, amt, legs, til⟩ w4 HV4a.out hGt (fun es h => (move_moveOk hGt h).bal hGt))
        have H5 := Lib.hid h5
        clear f4
        (have f5 := h5.facts; simp only [AllF, cellsF, gapF, Nat.zero_add, Nat.reduceAdd, and_true, true_and] at f5)
        clear h5 hz H4 HRD HV4
        go_wp2_with fail
        refine HSE.out.mono ?_
        intro e w6 hres
        obtain ⟨hz, hx⟩ := hres
        have h6 := H5.out.next hz
        have H6 := Lib.hid h6
        clear f5
        have HV6 := Lib.hid (HV4a.out.below hz)
        (have f6 := h6.facts; simp only [AllF, cellsF, gapF, Nat.zero_add, Nat.reduceAdd, and_true, true_and] at f6)
        clear h6 hz H5 HSE HV4a
        change match settleA t ⟨key, op, ra, rb, amt, legs, til⟩ with | .error c => _ | .ok ys => _ at hx
        cases hst : settleA t ⟨key, op, ra, rb, amt, legs, til⟩ with
        | ok ys =>
          rw [hst] at hx
          obtain ⟨v6, rfl, hv6⟩ := hx
          have HE := Lib.hid (HY1.out ys hst)
          clear hst HY1 HY2
          obtain ⟨C1, k1, C2, k2, C3, k3, C4, k4, rfl⟩ := stE_open (s := s) hv6
          have HV6' := Lib.hid hv6
          clear hv6 HV6
          go_wp2_with fail
          have h7 := (((((H6.out.set 3 0 (.slice C1 ys.length k1) rfl).set 3 1 (.slice C2 s.pays.length k2) rfl).set 3 2 (.slice C3 s.sagas.length k3) rfl).set 3 3 (.slice C4 s.known.length k4) rfl).set 3 4 (.int .i64 s.now) rfl)
          have h8 := ((h7.set 4 0 (.int .i64 0) rfl).set 4 1 (.int .i64 0) rfl)
          have h9 := h8.skip (.cells #[.slice C1 ys.length k1, .slice C2 s.pays.length k2, .slice C3 s.sagas.length k3, .slice C4 s.known.length k4, .int .i64 s.now] 36)
          refine bodyPost_ret (res_cell_cell_tmp rfl _ rfl rfl agg_st rfl (h9.at 3 rfl) agg_rep rfl (h9.at 4 rfl)) rfl ?_
          rw [HE.out]
          refine ⟨h9.bel, _, by rw [HMN.out]; rfl, ?_⟩
          have hv7 := HV6'.out.keep (HV6'.out.offSt (H6.out.at 3 rfl)) (set5_grown _ _ (.slice C1 ys.length k1) (.slice C2 s.pays.length k2) (.slice C3 s.sagas.length k3) (.slice C4 s.known.length k4) (.int .i64 s.now))
          have hv8 := hv7.keep (hv7.offFew (h7.at 4 rfl) (by decide)) (set2_grown _ _ (.int .i64 0) (.int .i64 0))
          exact hv8.below (below_alloc (Below.refl _ _) _)
        | error cc =>
          rw [hst] at hx
          obtain ⟨v6, rfl, hv6⟩ := hx
          have HE := Lib.hid (HY2.out cc hst)
          clear hst HY1 HY2
          obtain ⟨D1, m1, D2, m2, D3, m3, D4, m4, rfl⟩ := stE_open (s := s) hv6
          clear hv6
          go_wp2_with fail
          have h7 := H6.out.alloc 36 [.slice D1 t.length m1, .slice D2 s.pays.length m2, .slice D3 s.sagas.length m3, .slice D4 s.known.length m4, .int .i64 s.now]
          simp only [List.nil_append, List.cons_append, List.set_cons_zero, List.set_cons_succ, World.size_alloc] at h7
          have HQ : ∃ W7 : World, w6.alloc (.cells #[.slice D1 t.length m1, .slice D2 s.pays.length m2, .slice D3 s.sagas.length m3, .slice D4 s.known.length m4, .int .i64 s.now] 36) = W7 := ⟨_, rfl⟩
          obtain ⟨W7, HQ⟩ := HQ
          have HV7 := Lib.hid (HV6.out.below (show Below w6.heap.size w6 W7 by rw [← HQ]; exact below_alloc (Below.refl _ _) _))
          rw [HQ] at h7 ⊢
          have H7 := Lib.hid h7
          have HOF7 := Lib.hid HOFF.out
          generalize w6.heap.size = gu0 at *
          clear f6 HV6 H6 HQ
          clear w6
          (have f7 := h7.facts; simp only [AllF, cellsF, gapF, Nat.zero_add, Nat.reduceAdd, and_true, true_and] at f7)
          clear h7
          have hSof : ∀ w', Below W7.heap.size W7 w' → (w'.cell? ⟨gs, 0, none⟩ = some (.int .i64 gk) ∧ w'.cell? ⟨gs, 1, none⟩ = some (.int .i64 gop) ∧ w'.cell? ⟨gs, 2, none⟩ = some (.int .i64 gra) ∧ w'.cell? ⟨gs, 3, none⟩ = some (.int .i64 grb) ∧ w'.cell? ⟨gs, 4, none⟩ = some (.int .i64 gam) ∧ w'.cell? ⟨gs, 5, none⟩ = some (.int .i64 glg) ∧ w'.cell? ⟨gs, 6, none⟩ = some (.int .i64 gti) ∧ w'.cell? ⟨gs, 7, none⟩ = some (.int .i64 0) ∧ w'.cell? ⟨gs, 8, none⟩ = some (.int .i64 lg) ∧ w'.cell? ⟨gs, 9, none⟩ = some (.int .i64 tr) ∧ w'.cell? ⟨gs, 10, none⟩ = some (.int .i64 wy)) := fun w' hb => by
            obtain ⟨-, -, -, -, -, -, ⟨⟨k0, k1, k2, k3, k4, k5, k6, k7, k8, k9, k10⟩, -⟩, -⟩ := f7
            exact ⟨cell_below hb k0, cell_below hb k1, cell_below hb k2, cell_below hb k3, cell_below hb k4, cell_below hb k5, cell_below hb k6, cell_below hb k7, cell_below hb k8, cell_below hb k9, cell_below hb k10⟩
          have hbd : Below W7.heap.size W7 W7.drew := below_drew (Below.refl _ _)
          refine wp_region_head 3 (fun w' => (w'.cell? ⟨gs, 0, none⟩ = some (.int .i64 gk) ∧ w'.cell? ⟨gs, 1, none⟩ = some (.int .i64 gop) ∧ w'.cell? ⟨gs, 2, none⟩ = some (.int .i64 gra) ∧ w'.cell? ⟨gs, 3, none⟩ = some (.int .i64 grb) ∧ w'.cell? ⟨gs, 4, none⟩ = some (.int .i64 gam) ∧ w'.cell? ⟨gs, 5, none⟩ = some (.int .i64 glg) ∧ w'.cell? ⟨gs, 6, none⟩ = some (.int .i64 gti) ∧ w'.cell? ⟨gs, 7, none⟩ = some (.int .i64 0) ∧ w'.cell? ⟨gs, 8, none⟩ = some (.int .i64 lg) ∧ w'.cell? ⟨gs, 9, none⟩ = some (.int .i64 tr) ∧ w'.cell? ⟨gs, 10, none⟩ = some (.int .i64 wy))) (by kernel_rfl) (by kernel_rfl) (hSof _ hbd) (fun hHeld => ?_)
          generalize W7.drew = WD at *
          refine wpHead_take (i := 0) (v := ?_) rfl (by kernel_rfl) (by kernel_rfl) (by kernel_rfl) (by kernel_rfl) (fun _ _ _ h => h) (Or.inl ⟨by rfl, fun w hSw => ?_⟩) (by assumption) ?_; rotate_left; (focus ((try dsimp only at hSw); go_simp <;> with_reducible rfl)); (try simp only [Act.put, List.setIfInBounds_toArray, List.set_cons_zero, List.set_cons_succ])
          refine wpHead_take (i := 1) (v := ?_) rfl (by kernel_rfl) (by kernel_rfl) (by kernel_rfl) (by kernel_rfl) (fun _ _ _ h => h) (Or.inl ⟨by rfl, fun w hSw => ?_⟩) (by assumption) ?_; rotate_left; (focus ((try dsimp only at hSw); go_simp <;> with_reducible rfl)); (try simp only [Act.put, List.setIfInBounds_toArray, List.set_cons_zero, List.set_cons_succ])
          refine wpHead_one (i := 2) rfl (by kernel_rfl) (by kernel_rfl) (fun v _ => v = .int .i64 cc) (fun w' hb => hSof w' (below_next hbd hb)) ?_ ?_
          · intro K hK
            unfold WStep
            go_simp
            go_at_call 49
            refine (numErr cc _ (HT.out.below (below_next H7.out.bel hbd))).mono ?_
            rintro e w3 ⟨rfl, hz⟩
            exact hK.out _ _ hz rfl
          rintro v w8 hb8 rfl
          (try simp only [Act.put, List.setIfInBounds_toArray, List.set_cons_zero, List.set_cons_succ])
          refine wpHead_done (by kernel_rfl) ?_; simp only [List.drop_succ_cons, List.drop_zero]
          have hb78 := below_next hbd hb8
          have h8 := H7.out.next hb78
          have HV8 := Lib.hid (HV7.out.below hb78)
          have H8 := Lib.hid h8
          clear f7 hHeld hSof hb8 hbd hb78 H7 HV7
          (have f8 := h8.facts; simp only [AllF, cellsF, gapF, Nat.zero_add, Nat.reduceAdd, and_true, true_and] at f8)
          clear h8 WD
          go_wp2_with fail
          refine (sagaTurn_any ⟨⟨gk, gop, gra, grb, gam, glg, gti⟩, 0, lg, tr, wy⟩ cc _).mono ?_
          rintro e w9 ⟨rfl, hz⟩
          have e0 : (turnG ⟨⟨gk, gop, gra, grb, gam, glg, gti⟩, 0, lg, tr, wy⟩ cc).val = .agg #[.int .i64 gk, .int .i64 gop, .int .i64 gra, .int .i64 grb, .int .i64 gam, .int .i64 glg, .int .i64 gti, .int .i64 1, .int .i64 lg, .int .i64 tr, .int .i64 cc] := rfl
          rw [e0]
          clear e0
          have h9 := H8.out.next hz
          have HV9 := Lib.hid (HV8.out.below hz)
          have H9 := Lib.hid h9
          clear f8 H8 HV8 hz
          (have f9 := h9.facts; simp only [AllF, cellsF, gapF, Nat.zero_add, Nat.reduceAdd, and_true, true_and] at f9)
          clear h9
          generalize hut : undoL t ⟨key, op, ra, rb, amt, legs, til⟩ = ut at *
          have HUT := Lib.hid hut
          clear hut
          have HGT := Lib.hid hGt.abs
          go_wp2_with fail
          have h10 := (((((((((((H9.out.set 6 0 (.int .i64 gk) rfl).set 6 1 (.int .i64 gop) rfl).set 6 2 (.int .i64 gra) rfl).set 6 3 (.int .i64 grb) rfl).set 6 4 (.int .i64 gam) rfl).set 6 5 (.int .i64 glg) rfl).set 6 6 (.int .i64 gti) rfl).set 6 7 (.int .i64 1) rfl).set 6 8 (.int .i64 lg) rfl).set 6 9 (.int .i64 tr) rfl).set 6 10 (.int .i64 cc) rfl)
          simp only [List.nil_append, List.cons_append, List.set_cons_zero, List.set_cons_succ, World.size_alloc] at h10
          have HV8a := Lib.hid (HV9.out.keep HOF7.out (set11_grown _ _ (.int .i64 gk) (.int .i64 gop) (.int .i64 gra) (.int .i64 grb) (.int .i64 gam) (.int .i64 glg) (.int .i64 gti) (.int .i64 1) (.int .i64 lg) (.int .i64 tr) (.int .i64 cc)))
          have H8a := Lib.hid h10
          clear f9 H9 HV9 h10
          refine (undo_st { s with accs := t } _ ⟨key, op, ra, rb, amt, legs, til⟩ _ HV8a.out HGT.out).mono ?_
          rintro e w5 hres
          obtain ⟨hz, v5, x5, rfl, hv5⟩ := stE_undo hres
          rw [HUT.out] at hv5
          obtain ⟨C1, k1, C2, k2, C3, k3, C4, k4, rfl⟩ := stE_open hv5
          have HV5 := Lib.hid hv5
          have h5 := H8a.out.next hz
          have H5 := Lib.hid h5
          clear hres hv5 H8a HV8a
          (have f5 := h5.facts; simp only [AllF, cellsF, gapF, Nat.zero_add, Nat.reduceAdd, and_true, true_and] at f5)
          clear h5
          go_wp2_with fail
          have h6 := H5.out.alloc 36 [.slice C1 ut.length k1, .slice C2 s.pays.length k2, .slice C3 s.sagas.length k3, .slice C4 s.known.length k4, .int .i64 s.now]
          simp only [List.nil_append, List.cons_append, List.set_cons_zero, List.set_cons_succ, World.size_alloc] at h6
          have HQ : ∃ W6 : World, w5.alloc (.cells #[.slice C1 ut.length k1, .slice C2 s.pays.length k2, .slice C3 s.sagas.length k3, .slice C4 s.known.length k4, .int .i64 s.now] 36) = W6 := ⟨_, rfl⟩
          obtain ⟨W6, HQ⟩ := HQ
          have HV6 := Lib.hid (HV5.out.below (show Below w5.heap.size w5 W6 by rw [← HQ]; exact below_alloc (Below.refl _ _) _))
          rw [HQ] at h6 ⊢
          have H6 := Lib.hid h6
          generalize w5.heap.size = gu at *
          clear f5 HV5 H5 HQ hz
          clear w5
          (have f6 := h6.facts; simp only [AllF, cellsF, gapF, Nat.zero_add, Nat.reduceAdd, and_true, true_and] at f6)
          clear h6
          have hSof : ∀ w', Below W6.heap.size W6 w' → (w'.cell? ⟨gu, 0, none⟩ = some (.slice C1 ut.length k1) ∧ w'.cell? ⟨gu, 1, none⟩ = some (.slice C2 s.pays.length k2) ∧ w'.cell? ⟨gu, 2, none⟩ = some (.slice C3 s.sagas.length k3) ∧ w'.cell? ⟨gu, 3, none⟩ = some (.slice C4 s.known.length k4) ∧ w'.cell? ⟨gu, 4, none⟩ = some (.int .i64 s.now) ∧ w'.cell? ⟨gs, 10, none⟩ = some (.int .i64 cc)) := fun w' hb => by
            obtain ⟨-, -, -, -, -, -, ⟨⟨-, -, -, -, -, -, -, -, -, -, k5⟩, -⟩, -, ⟨k0, k1, k2, k3, k4⟩, -⟩ := f6
            exact ⟨cell_below hb k0, cell_below hb k1, cell_below hb k2, cell_below hb k3, cell_below hb k4, cell_below hb k5⟩
          have hbd : Below W6.heap.size W6 W6.drew := below_drew (Below.refl _ _)
          have h7 := H6.out.drew
          have H7 := Lib.hid h7
          have HV7 := Lib.hid (HV6.out.below hbd)
          refine wp_region_head 9 (fun w' => (w'.cell? ⟨gu, 0, none⟩ = some (.slice C1 ut.length k1) ∧ w'.cell? ⟨gu, 1, none⟩ = some (.slice C2 s.pays.length k2) ∧ w'.cell? ⟨gu, 2, none⟩ = some (.slice C3 s.sagas.length k3) ∧ w'.cell? ⟨gu, 3, none⟩ = some (.slice C4 s.known.length k4) ∧ w'.cell? ⟨gu, 4, none⟩ = some (.int .i64 s.now) ∧ w'.cell? ⟨gs, 10, none⟩ = some (.int .i64 cc))) (by kernel_rfl) (by kernel_rfl) (hSof _ hbd) (fun hHeld => ?_)
          generalize W6.drew = WD at *
          have h8 := (((((h7.set 3 0 (.slice C1 ut.length k1) rfl).set 3 1 (.slice C2 s.pays.length k2) rfl).set 3 2 (.slice C3 s.sagas.length k3) rfl).set 3 3 (.slice C4 s.known.length k4) rfl).set 3 4 (.int .i64 s.now) rfl)
          simp only [List.nil_append, List.cons_append, List.set_cons_zero, List.set_cons_succ, World.size_alloc] at h8
          have H8 := Lib.hid h8
          refine wpHead_take (i := 0) (v := ?_) rfl (by kernel_rfl) (by kernel_rfl) (by kernel_rfl) (by kernel_rfl) (fun _ _ _ h => h) (Or.inl ⟨by rfl, fun w hSw => ?_⟩) (by assumption) ?_; rotate_left; (focus ((try dsimp only at hSw); go_simp <;> with_reducible rfl)); (try simp only [Act.put, List.setIfInBounds_toArray, List.set_cons_zero, List.set_cons_succ])
          refine wpHead_take (i := 1) (v := ?_) rfl (by kernel_rfl) (by kernel_rfl) (by kernel_rfl) (by kernel_rfl) (fun _ _ _ h => h) (Or.inl ⟨by rfl, fun w hSw => ?_⟩) (by assumption) ?_; rotate_left; (focus ((try dsimp only at hSw); go_simp <;> with_reducible rfl)); (try simp only [Act.put, List.setIfInBounds_toArray, List.set_cons_zero, List.set_cons_succ])
          refine wpHead_take (i := 2) (v := ?_) rfl (by kernel_rfl) (by kernel_rfl) (by kernel_rfl) (by kernel_rfl) (fun _ _ _ h => h) (Or.inl ⟨by rfl, fun w hSw => ?_⟩) (by assumption) ?_; rotate_left; (focus ((try dsimp only at hSw); go_simp <;> with_reducible rfl)); (try simp only [Act.put, List.setIfInBounds_toArray, List.set_cons_zero, List.set_cons_succ])
          refine wpHead_take (i := 3) (v := ?_) rfl (by kernel_rfl) (by kernel_rfl) (by kernel_rfl) (by kernel_rfl) (fun _ _ _ h => h) (Or.inl ⟨by rfl, fun w hSw => ?_⟩) (by assumption) ?_; rotate_left; (focus ((try dsimp only at hSw); go_simp <;> with_reducible rfl)); (try simp only [Act.put, List.setIfInBounds_toArray, List.set_cons_zero, List.set_cons_succ])
          refine wpHead_take (i := 4) (v := ?_) rfl (by kernel_rfl) (by kernel_rfl) (by kernel_rfl) (by kernel_rfl) (fun _ _ _ h => h) (Or.inl ⟨by rfl, fun w hSw => ?_⟩) (by assumption) ?_; rotate_left; (focus ((try dsimp only at hSw); go_simp <;> with_reducible rfl)); (try simp only [Act.put, List.setIfInBounds_toArray, List.set_cons_zero, List.set_cons_succ])
          refine wpHead_take (i := 5) (v := ?_) rfl (by kernel_rfl) (by kernel_rfl) (by kernel_rfl) (by kernel_rfl) (fun _ _ _ h => h) (Or.inl ⟨by rfl, fun w hSw => ?_⟩) (by assumption) ?_; rotate_left; (focus ((try dsimp only at hSw); go_simp <;> with_reducible rfl)); (try simp only [Act.put, List.setIfInBounds_toArray, List.set_cons_zero, List.set_cons_succ])
          refine wpHead_take (i := 6) (v := ?_) rfl (by kernel_rfl) (by kernel_rfl) (by kernel_rfl) (by kernel_rfl) (fun _ _ _ h => h) (Or.inl ⟨by rfl, fun w hSw => ?_⟩) (by assumption) ?_; rotate_left; (focus ((try dsimp only at hSw); go_simp <;> with_reducible rfl)); (try simp only [Act.put, List.setIfInBounds_toArray, List.set_cons_zero, List.set_cons_succ])
          (have f7 := h7.facts; simp only [AllF, cellsF, gapF, Nat.zero_add, Nat.reduceAdd, and_true, true_and] at f7)
          (have f8 := h8.facts; simp only [AllF, cellsF, gapF, Nat.zero_add, Nat.reduceAdd, and_true, true_and] at f8)
          have HF8 := Lib.hid f8
          clear h7 h8 hSof H6 f8 f6
          refine wpHead_ready (rs := [7]) (by kernel_rfl) (by simp) ?_
          refine AllHead.cons (i := 7) rfl (by kernel_rfl) (fun K hK => ?_) ?_
          · go_simp
            refine hK.out _ _ (by obtain ⟨-, -, -, -, -, -, ⟨⟨-, -, -, -, -, -, -, -, -, -, k5⟩, -⟩, -, ⟨k0, k1, k2, k3, k4⟩, -⟩ := HF8.out; exact ⟨k0, k1, k2, k3, k4, k5⟩) (fun hHeld8 => ?_)
            clear hK K hHeld hHeld8
            (try simp only [Act.put, List.setIfInBounds_toArray, List.set_cons_zero, List.set_cons_succ])
            have f8 := HF8.out
            clear f7 HF8
            have HQ : ∃ W8 : World, (((((WD.setCell ⟨w.heap.size + 1 + 1 + 1, 0, none⟩ (.slice C1 ut.length k1)).setCell ⟨w.heap.size + 1 + 1 + 1, 1, none⟩ (.slice C2 s.pays.length k2)).setCell ⟨w.heap.size + 1 + 1 + 1, 2, none⟩ (.slice C3 s.sagas.length k3)).setCell ⟨w.heap.size + 1 + 1 + 1, 3, none⟩ (.slice C4 s.known.length k4)).setCell ⟨w.heap.size + 1 + 1 + 1, 4, none⟩ (.int .i64 s.now)) = W8 := ⟨_, rfl⟩
            obtain ⟨W8, HQ⟩ := HQ
            have HV8 := Lib.hid (show StV W8 _ _ by rw [← HQ]; exact HV7.out.keep (HV7.out.offSt (H7.out.at 3 rfl)) (set5_grown _ _ _ _ _ _ _))
            rw [HQ] at f8 H8 ⊢
            clear HQ H7 HV7
            have h9 := (H8.out.set 4 0 (.int .i64 cc) rfl).set 4 1 (.int .i64 0) rfl
            simp only [List.nil_append, List.cons_append, List.set_cons_zero, List.set_cons_succ, World.size_alloc] at h9
            have H9 := Lib.hid h9
            (have f9 := h9.facts; simp only [AllF, cellsF, gapF, Nat.zero_add, Nat.reduceAdd, and_true, true_and] at f9)
            have HF9 := Lib.hid f9
            clear h9 f9
            refine wpHead_ready (rs := [8]) (by kernel_rfl) (by simp) ?_
            refine AllHead.cons (i := 8) rfl (by kernel_rfl) (fun K hK => ?_) ?_
            · go_simp
              refine hK.out _ _ (by obtain ⟨-, -, -, -, -, -, ⟨⟨-, -, -, -, -, -, -, -, -, -, k5⟩, -⟩, -, ⟨k0, k1, k2, k3, k4⟩, -⟩ := HF9.out; exact ⟨k0, k1, k2, k3, k4, k5⟩) (fun hHeld9 => ?_)
              clear hK K hHeld9
              (try simp only [Act.put, List.setIfInBounds_toArray, List.set_cons_zero, List.set_cons_succ])
              refine wpHead_done (by kernel_rfl) ?_; simp only [List.drop_succ_cons, List.drop_zero]
              have f9 := HF9.out
              clear f8 HF9
              have HQ : ∃ W9 : World, ((W8.setCell ⟨w.heap.size + 1 + 1 + 1 + 1, 0, none⟩ (.int .i64 cc)).setCell ⟨w.heap.size + 1 + 1 + 1 + 1, 1, none⟩ (.int .i64 0)) = W9 := ⟨_, rfl⟩
              obtain ⟨W9, HQ⟩ := HQ
              have HV9 := Lib.hid (show StV W9 _ _ by rw [← HQ]; exact HV8.out.keep (HV8.out.offFew (H8.out.at 4 rfl) (by decide)) (set2_grown _ _ _ _))
              rw [HQ] at f9 H9 ⊢
              clear HQ H8 HV8
              go_wp2_with fail
              refine bodyPost_ret (res_cell_cell_tmp rfl _ rfl rfl agg_st rfl (H9.out.at 3 rfl) agg_rep rfl (H9.out.at 4 rfl)) rfl ?_
              rw [HE.out]
              exact ⟨H9.out.bel, _, by rw [HMN.out]; rfl, HV9.out⟩
            exact AllHead.nil
          exact AllHead.nil
    · have hps : (ph == 0) = false := by simpa using hp
      obtain ⟨mn, hmn⟩ : ∃ mn, min (n : Int) ls.length = mn := ⟨_, rfl⟩
      have hmin := min_run hmn Tryd.prog
      have HMN := Lib.hid hmn
      clear hmn
      have HE := Lib.hid (show X = _ from HX3.out _ _ (HGO.out.trans (legsGo_stop (fun h => hp h.1))) hp)
      generalize hut : undoL t ⟨key, op, ra, rb, amt, legs, til⟩ = ut at *
      have HUT := Lib.hid hut
      clear hut hp HX1 HX2 HX3 HGO HW2 HRB HGL HG HWAYg HRD HLG HLS2 HCP
      go_wp2_with fail
      refine (undo_st { s with accs := t } _ ⟨key, op, ra, rb, amt, legs, til⟩ _ HV4.out hGt.abs).mono ?_
      rintro e w5 hres
      obtain ⟨hz, v5, x5, rfl, hv5⟩ := stE_undo hres
      rw [HUT.out] at hv5
      obtain ⟨C1, k1, C2, k2, C3, k3, C4, k4, rfl⟩ := stE_open hv5
      have HV5 := Lib.hid hv5
      have h5 := H4.out.next hz
      have H5 := Lib.hid h5
      clear hres hv5 H4 HV4 f4
      (have f5 := h5.facts; simp only [AllF, cellsF, gapF, Nat.zero_add, Nat.reduceAdd, and_true, true_and] at f5)
      clear h5
      go_wp2_with fail
      have h6 := H5.out.alloc 36 [.slice C1 ut.length k1, .slice C2 s.pays.length k2, .slice C3 s.sagas.length k3, .slice C4 s.known.length k4, .int .i64 s.now]
      simp only [List.nil_append, List.cons_append, List.set_cons_zero, List.set_cons_succ, World.size_alloc] at h6
      have HQ : ∃ W6 : World, w5.alloc (.cells #[.slice C1 ut.length k1, .slice C2 s.pays.length k2, .slice C3 s.sagas.length k3, .slice C4 s.known.length k4, .int .i64 s.now] 36) = W6 := ⟨_, rfl⟩
      obtain ⟨W6, HQ⟩ := HQ
      have HV6 := Lib.hid (HV5.out.below (show Below w5.heap.size w5 W6 by rw [← HQ]; exact below_alloc (Below.refl _ _) _))
      rw [HQ] at h6 ⊢
      have H6 := Lib.hid h6
      generalize w5.heap.size = gu at *
      clear f5 HV5 H5 HQ hz
      clear w5
      (have f6 := h6.facts; simp only [AllF, cellsF, gapF, Nat.zero_add, Nat.reduceAdd, and_true, true_and] at f6)
      clear h6
      have hSof : ∀ w', Below W6.heap.size W6 w' → (w'.cell? ⟨gu, 0, none⟩ = some (.slice C1 ut.length k1) ∧ w'.cell? ⟨gu, 1, none⟩ = some (.slice C2 s.pays.length k2) ∧ w'.cell? ⟨gu, 2, none⟩ = some (.slice C3 s.sagas.length k3) ∧ w'.cell? ⟨gu, 3, none⟩ = some (.slice C4 s.known.length k4) ∧ w'.cell? ⟨gu, 4, none⟩ = some (.int .i64 s.now) ∧ w'.cell? ⟨gs, 10, none⟩ = some (.int .i64 wy)) := fun w' hb => by
        obtain ⟨-, -, -, -, -, -, ⟨⟨-, -, -, -, -, -, -, -, -, -, k5⟩, -⟩, ⟨k0, k1, k2, k3, k4⟩, -⟩ := f6
        exact ⟨cell_below hb k0, cell_below hb k1, cell_below hb k2, cell_below hb k3, cell_below hb k4, cell_below hb k5⟩
      have hbd : Below W6.heap.size W6 W6.drew := below_drew (Below.refl _ _)
      have h7 := H6.out.drew
      have H7 := Lib.hid h7
      have HV7 := Lib.hid (HV6.out.below hbd)
      refine wp_region_head 9 (fun w' => (w'.cell? ⟨gu, 0, none⟩ = some (.slice C1 ut.length k1) ∧ w'.cell? ⟨gu, 1, none⟩ = some (.slice C2 s.pays.length k2) ∧ w'.cell? ⟨gu, 2, none⟩ = some (.slice C3 s.sagas.length k3) ∧ w'.cell? ⟨gu, 3, none⟩ = some (.slice C4 s.known.length k4) ∧ w'.cell? ⟨gu, 4, none⟩ = some (.int .i64 s.now) ∧ w'.cell? ⟨gs, 10, none⟩ = some (.int .i64 wy))) (by kernel_rfl) (by kernel_rfl) (hSof _ hbd) (fun hHeld => ?_)
      generalize W6.drew = WD at *
      have h8 := (((((h7.set 3 0 (.slice C1 ut.length k1) rfl).set 3 1 (.slice C2 s.pays.length k2) rfl).set 3 2 (.slice C3 s.sagas.length k3) rfl).set 3 3 (.slice C4 s.known.length k4) rfl).set 3 4 (.int .i64 s.now) rfl)
      simp only [List.nil_append, List.cons_append, List.set_cons_zero, List.set_cons_succ, World.size_alloc] at h8
      have H8 := Lib.hid h8
      refine wpHead_take (i := 0) (v := ?_) rfl (by kernel_rfl) (by kernel_rfl) (by kernel_rfl) (by kernel_rfl) (fun _ _ _ h => h) (Or.inl ⟨by rfl, fun w hSw => ?_⟩) (by assumption) ?_; rotate_left; (focus ((try dsimp only at hSw); go_simp <;> with_reducible rfl)); (try simp only [Act.put, List.setIfInBounds_toArray, List.set_cons_zero, List.set_cons_succ])
      refine wpHead_take (i := 1) (v := ?_) rfl (by kernel_rfl) (by kernel_rfl) (by kernel_rfl) (by kernel_rfl) (fun _ _ _ h => h) (Or.inl ⟨by rfl, fun w hSw => ?_⟩) (by assumption) ?_; rotate_left; (focus ((try dsimp only at hSw); go_simp <;> with_reducible rfl)); (try simp only [Act.put, List.setIfInBounds_toArray, List.set_cons_zero, List.set_cons_succ])
      refine wpHead_take (i := 2) (v := ?_) rfl (by kernel_rfl) (by kernel_rfl) (by kernel_rfl) (by kernel_rfl) (fun _ _ _ h => h) (Or.inl ⟨by rfl, fun w hSw => ?_⟩) (by assumption) ?_; rotate_left; (focus ((try dsimp only at hSw); go_simp <;> with_reducible rfl)); (try simp only [Act.put, List.setIfInBounds_toArray, List.set_cons_zero, List.set_cons_succ])
      refine wpHead_take (i := 3) (v := ?_) rfl (by kernel_rfl) (by kernel_rfl) (by kernel_rfl) (by kernel_rfl) (fun _ _ _ h => h) (Or.inl ⟨by rfl, fun w hSw => ?_⟩) (by assumption) ?_; rotate_left; (focus ((try dsimp only at hSw); go_simp <;> with_reducible rfl)); (try simp only [Act.put, List.setIfInBounds_toArray, List.set_cons_zero, List.set_cons_succ])
      refine wpHead_take (i := 4) (v := ?_) rfl (by kernel_rfl) (by kernel_rfl) (by kernel_rfl) (by kernel_rfl) (fun _ _ _ h => h) (Or.inl ⟨by rfl, fun w hSw => ?_⟩) (by assumption) ?_; rotate_left; (focus ((try dsimp only at hSw); go_simp <;> with_reducible rfl)); (try simp only [Act.put, List.setIfInBounds_toArray, List.set_cons_zero, List.set_cons_succ])
      refine wpHead_take (i := 5) (v := ?_) rfl (by kernel_rfl) (by kernel_rfl) (by kernel_rfl) (by kernel_rfl) (fun _ _ _ h => h) (Or.inl ⟨by rfl, fun w hSw => ?_⟩) (by assumption) ?_; rotate_left; (focus ((try dsimp only at hSw); go_simp <;> with_reducible rfl)); (try simp only [Act.put, List.setIfInBounds_toArray, List.set_cons_zero, List.set_cons_succ])
      refine wpHead_take (i := 6) (v := ?_) rfl (by kernel_rfl) (by kernel_rfl) (by kernel_rfl) (by kernel_rfl) (fun _ _ _ h => h) (Or.inl ⟨by rfl, fun w hSw => ?_⟩) (by assumption) ?_; rotate_left; (focus ((try dsimp only at hSw); go_simp <;> with_reducible rfl)); (try simp only [Act.put, List.setIfInBounds_toArray, List.set_cons_zero, List.set_cons_succ])
      (have f7 := h7.facts; simp only [AllF, cellsF, gapF, Nat.zero_add, Nat.reduceAdd, and_true, true_and] at f7)
      (have f8 := h8.facts; simp only [AllF, cellsF, gapF, Nat.zero_add, Nat.reduceAdd, and_true, true_and] at f8)
      have HF8 := Lib.hid f8
      clear h7 h8 hSof H6 f8 f6
      refine wpHead_ready (rs := [7]) (by kernel_rfl) (by simp) ?_
      refine AllHead.cons (i := 7) rfl (by kernel_rfl) (fun K hK => ?_) ?_
      · go_simp
        refine hK.out _ _ (by obtain ⟨-, -, -, -, -, -, ⟨⟨-, -, -, -, -, -, -, -, -, -, k5⟩, -⟩, ⟨k0, k1, k2, k3, k4⟩, -⟩ := HF8.out; exact ⟨k0, k1, k2, k3, k4, k5⟩) (fun hHeld8 => ?_)
        clear hK K hHeld hHeld8
        (try simp only [Act.put, List.setIfInBounds_toArray, List.set_cons_zero, List.set_cons_succ])
        have f8 := HF8.out
        clear f7 HF8
        have HQ : ∃ W8 : World, (((((WD.setCell ⟨w.heap.size + 1 + 1 + 1, 0, none⟩ (.slice C1 ut.length k1)).setCell ⟨w.heap.size + 1 + 1 + 1, 1, none⟩ (.slice C2 s.pays.length k2)).setCell ⟨w.heap.size + 1 + 1 + 1, 2, none⟩ (.slice C3 s.sagas.length k3)).setCell ⟨w.heap.size + 1 + 1 + 1, 3, none⟩ (.slice C4 s.known.length k4)).setCell ⟨w.heap.size + 1 + 1 + 1, 4, none⟩ (.int .i64 s.now)) = W8 := ⟨_, rfl⟩
        obtain ⟨W8, HQ⟩ := HQ
        have HV8 := Lib.hid (show StV W8 _ _ by rw [← HQ]; exact HV7.out.keep (HV7.out.offSt (H7.out.at 3 rfl)) (set5_grown _ _ _ _ _ _ _))
        rw [HQ] at f8 H8 ⊢
        clear HQ H7 HV7
        have h9 := (H8.out.set 4 0 (.int .i64 wy) rfl).set 4 1 (.int .i64 0) rfl
        simp only [List.nil_append, List.cons_append, List.set_cons_zero, List.set_cons_succ, World.size_alloc] at h9
        have H9 := Lib.hid h9
        (have f9 := h9.facts; simp only [AllF, cellsF, gapF, Nat.zero_add, Nat.reduceAdd, and_true, true_and] at f9)
        have HF9 := Lib.hid f9
        clear h9 f9
        refine wpHead_ready (rs := [8]) (by kernel_rfl) (by simp) ?_
        refine AllHead.cons (i := 8) rfl (by kernel_rfl) (fun K hK => ?_) ?_
        · go_simp
          refine hK.out _ _ (by obtain ⟨-, -, -, -, -, -, ⟨⟨-, -, -, -, -, -, -, -, -, -, k5⟩, -⟩, ⟨k0, k1, k2, k3, k4⟩, -⟩ := HF9.out; exact ⟨k0, k1, k2, k3, k4, k5⟩) (fun hHeld9 => ?_)
          clear hK K hHeld9
          (try simp only [Act.put, List.setIfInBounds_toArray, List.set_cons_zero, List.set_cons_succ])
          refine wpHead_done (by kernel_rfl) ?_; simp only [List.drop_succ_cons, List.drop_zero]
          have f9 := HF9.out
          clear f8 HF9
          have HQ : ∃ W9 : World, ((W8.setCell ⟨w.heap.size + 1 + 1 + 1 + 1, 0, none⟩ (.int .i64 wy)).setCell ⟨w.heap.size + 1 + 1 + 1 + 1, 1, none⟩ (.int .i64 0)) = W9 := ⟨_, rfl⟩
          obtain ⟨W9, HQ⟩ := HQ
          have HV9 := Lib.hid (show StV W9 _ _ by rw [← HQ]; exact HV8.out.keep (HV8.out.offFew (H8.out.at 4 rfl) (by decide)) (set2_grown _ _ _ _))
          rw [HQ] at f9 H9 ⊢
          clear HQ H8 HV8
          go_wp2_with fail
          refine bodyPost_ret (res_cell_cell_tmp rfl _ rfl rfl agg_st rfl (H9.out.at 3 rfl) agg_rep rfl (H9.out.at 4 rfl)) rfl ?_
          rw [HE.out]
          exact ⟨H9.out.bel, _, by rw [HMN.out]; rfl, HV9.out⟩
        exact AllHead.nil
      exact AllHead.nil
end Go.Proofs.YthjmficglpfgpaaDoor
namespace Go.Proofs.YthjmficglpfgpaaDoor
set_option linter.unusedVariables false
set_option linter.unusedSimpArgs false
open Go Go.RowKit Enc
theorem whole_any (s : St) (v : Value) (r : Req) (lv : Value) (ls : List Bool) (w : World) (hv : StV w v s) (hl : Row w lv ls) (hcap : CapOk lv) (hG : Good s.accs) (hT : GT w) (hlg : 0 ≤ r.legs ∧ r.legs ≤ 4) :
    Calls Tryd.prog 51 #[v, r.val, lv] w fun e w' => BankRes w w' (wholeB s r ls) e := by
  cases hr : reserveA s.accs r with
  | error c =>
    have : wholeB s r ls = (s, ⟨c, 0⟩, 0) := by simp only [wholeB, hr]
    rw [this]
    exact whole_err s v r lv ls w hv hl hG hT c hr
  | ok t => exact whole_ok s v r lv ls w hv hl hcap hG hT hlg t hr
end Go.Proofs.YthjmficglpfgpaaDoor
namespace Go.Proofs.YthjmficglpfgpaaDoor
set_option linter.unusedVariables false
set_option linter.unusedSimpArgs false
open Go Go.RowKit Enc
set_option maxRecDepth 100000
set_option maxHeartbeats 3200000

theorem bank_full (s : St) (v : Value) (r : Req) (lv : Value) (w : World) (hv : StV w v s) (hr : ReqOk r) (hT : GT w) (hn : s.known.length ≤ 1000) (ha : askK s.known r = none) (hp : putK s.known r = .error 7) : Calls Tryd.prog 27 #[v, r.val, lv] w fun e w' => BankRes w w' (s, ⟨7, 0⟩, 0) e := by
  obtain ⟨A1, c1, A2, c2, A3, c3, A4, c4, rfl, q1, q2, q3, q4⟩ := hv.open
  have h0 := (((Env.nil w).alloc 36 [.slice A1 s.accs.length c1, .slice A2 s.pays.length c2, .slice A3 s.sagas.length c3, .slice A4 s.known.length c4, .int .i64 s.now]).alloc 29 r.cells).alloc 36 [.slice none 0 0, .slice none 0 0, .slice none 0 0, .slice none 0 0, .int .i64 0]
  replace h0 := h0.alloc 40 [.int .i64 0, .int .i64 0]
  simp only [List.nil_append, List.cons_append, List.set_cons_zero, List.set_cons_succ, World.size_alloc] at h0
  have HM := Lib.hid (may_req r)
  have HA := Lib.hid (fun (W : World) (hW : Below w.heap.size w W) => ha ▸ keysAsk_any (.slice A4 s.known.length c4) s.known r W (q4.below hW))
  have HP := Lib.hid (fun (W : World) (hW : Below w.heap.size w W) => hp ▸ keysPut_any (.slice A4 s.known.length c4) s.known r W (q4.below hW) (by omega))
  have HV := Lib.hid hv
  have HR := Lib.hid hr
  have HT := Lib.hid hT
  clear q1 q2 q3 q4 hv hr ha hT hp
  obtain ⟨key, op, ra, rb, amt, legs, til⟩ := r
  simp only [Req.cells] at h0
  have H0 := Lib.hid h0
  clear h0
  go_enter Tryd.func27, Tryd.ntmps27
  go_wp2_with fail
  refine (HM.out _).mono ?_
  rintro e w1 ⟨b, rfl, hb, hz⟩
  obtain rfl : b = true := hb.2 HR.out
  have h1 := H0.out.next hz
  have H1 := Lib.hid h1
  (have f1 := h1.facts; simp only [AllF, cellsF, gapF, Nat.zero_add, Nat.reduceAdd, and_true, true_and] at f1)
  clear h1 hz H0 hb HM
  go_wp2_with fail
  refine (HA.out _ H1.out.bel).mono ?_
  rintro e w2 ⟨rfl, hz⟩
  have e0 : askV none = .tuple #[.agg #[.int .i64 0, .int .i64 0], .bool false] := rfl
  rw [e0]
  clear e0
  have h2 := H1.out.next hz
  have H2 := Lib.hid h2
  clear f1
  (have f2 := h2.facts; simp only [AllF, cellsF, gapF, Nat.zero_add, Nat.reduceAdd, and_true, true_and] at f2)
  clear h2 hz H1 HA
  go_wp2_with fail
  have h3 := H2.out.alloc 40 [.int .i64 0, .int .i64 0]
  simp only [List.nil_append, List.cons_append, List.set_cons_zero, List.set_cons_succ, World.size_alloc] at h3
  have H3 := Lib.hid h3
  refine (HP.out _ H3.out.bel).mono ?_
  intro e w4 hres
  obtain ⟨hz, hx⟩ := hres
  have h4 := H3.out.next hz
  have H4 := Lib.hid h4
  clear f2 H2 H3 HP h3
  obtain rfl : e = _ := hx
  generalize w2.heap.size = g9 at *
  clear hz
  clear w2
  (have f4 := h4.facts; simp only [AllF, cellsF, gapF, Nat.zero_add, Nat.reduceAdd, and_true, true_and] at f4)
  clear h4
  go_wp2_with fail
  clear f4
  have hfs := H4.out.facts
  simp only [AllF, cellsF, gapF, Nat.zero_add, Nat.reduceAdd, and_true, true_and] at hfs
  have hSof : ∀ w', Below w4.heap.size w4 w' → (w'.cell? ⟨w.heap.size, 0, none⟩ = some (.slice A1 s.accs.length c1) ∧ w'.cell? ⟨w.heap.size, 1, none⟩ = some (.slice A2 s.pays.length c2) ∧ w'.cell? ⟨w.heap.size, 2, none⟩ = some (.slice A3 s.sagas.length c3) ∧ w'.cell? ⟨w.heap.size, 3, none⟩ = some (.slice A4 s.known.length c4) ∧ w'.cell? ⟨w.heap.size, 4, none⟩ = some (.int .i64 s.now)) := fun w' hb => by
    obtain ⟨⟨⟨q0, q1, q2, q3, q4⟩, -⟩, -⟩ := hfs
    exact ⟨cell_below hb q0, cell_below hb q1, cell_below hb q2, cell_below hb q3, cell_below hb q4⟩
  have hbd : Below w4.heap.size w4 w4.drew := below_drew (Below.refl _ _)
  refine wp_region_head 5 (fun w' => (w'.cell? ⟨w.heap.size, 0, none⟩ = some (.slice A1 s.accs.length c1) ∧ w'.cell? ⟨w.heap.size, 1, none⟩ = some (.slice A2 s.pays.length c2) ∧ w'.cell? ⟨w.heap.size, 2, none⟩ = some (.slice A3 s.sagas.length c3) ∧ w'.cell? ⟨w.heap.size, 3, none⟩ = some (.slice A4 s.known.length c4) ∧ w'.cell? ⟨w.heap.size, 4, none⟩ = some (.int .i64 s.now))) (by kernel_rfl) (by kernel_rfl) (hSof _ hbd) (fun hHeld => ?_)
  generalize w4.drew = WD at *
  have HWD := Lib.hid (H4.out.next hbd)
  clear hfs
  refine wpHead_take (i := 0) (v := ?_) rfl (by kernel_rfl) (by kernel_rfl) (by kernel_rfl) (by kernel_rfl) (fun _ _ _ h => h) (Or.inl ⟨by rfl, fun w hSw => ?_⟩) (by assumption) ?_; rotate_left; (focus ((try dsimp only at hSw); go_simp <;> with_reducible rfl)); (try simp only [Act.put, List.setIfInBounds_toArray, List.set_cons_zero, List.set_cons_succ])
  refine wpHead_take (i := 1) (v := ?_) rfl (by kernel_rfl) (by kernel_rfl) (by kernel_rfl) (by kernel_rfl) (fun _ _ _ h => h) (Or.inl ⟨by rfl, fun w hSw => ?_⟩) (by assumption) ?_; rotate_left; (focus ((try dsimp only at hSw); go_simp <;> with_reducible rfl)); (try simp only [Act.put, List.setIfInBounds_toArray, List.set_cons_zero, List.set_cons_succ])
  refine wpHead_one (i := 2) rfl (by kernel_rfl) (by kernel_rfl) (fun v _ => v = .int .i64 7) (fun w' hb => hSof w' (below_next hbd hb)) ?_ ?_
  · intro K hK
    unfold WStep
    go_simp
    go_at_call 49
    refine (numErr 7 _ (HT.out.below HWD.out.bel)).mono ?_
    rintro e w3 ⟨rfl, hz⟩
    exact hK.out _ _ hz rfl
  rintro v w5 hbn rfl
  (try simp only [Act.put, List.setIfInBounds_toArray, List.set_cons_zero, List.set_cons_succ])
  have hHeldn := hSof w5 (below_next hbd hbn)
  have Hw5 := Lib.hid (HWD.out.next hbn)
  refine wpHead_take (i := 3) (v := ?_) rfl (by kernel_rfl) (by kernel_rfl) (by kernel_rfl) (by kernel_rfl) (fun _ _ _ h => h) (Or.inl ⟨by rfl, fun w hSw => ?_⟩) (by assumption) ?_; rotate_left; (focus ((try dsimp only at hSw); go_simp <;> with_reducible rfl)); (try simp only [Act.put, List.setIfInBounds_toArray, List.set_cons_zero, List.set_cons_succ])
  have hN := (((((Hw5.out.set 2 0 (.slice A1 s.accs.length c1) rfl).set 2 1 (.slice A2 s.pays.length c2) rfl).set 2 2 (.slice A3 s.sagas.length c3) rfl).set 2 3 (.slice A4 s.known.length c4) rfl).set 2 4 (.int .i64 s.now) rfl)
  simp only [List.nil_append, List.cons_append, List.set_cons_zero, List.set_cons_succ, World.size_alloc] at hN
  have HNN := Lib.hid hN
  have hfo := Hw5.out.facts
  simp only [AllF, cellsF, gapF, Nat.zero_add, Nat.reduceAdd, and_true, true_and] at hfo
  have hfs := hN.facts
  simp only [AllF, cellsF, gapF, Nat.zero_add, Nat.reduceAdd, and_true, true_and] at hfs
  have HFS := Lib.hid hfs
  clear hfs hN
  refine wpHead_ready (rs := [4]) (by kernel_rfl) (by simp) ?_
  refine AllHead.cons (i := 4) rfl (by kernel_rfl) (fun K hK => ?_) ?_
  rotate_left
  · exact AllHead.nil
  go_simp
  refine hK.out _ _ (by obtain ⟨⟨⟨q0, q1, q2, q3, q4⟩, -⟩, -⟩ := HFS.out; exact ⟨q0, q1, q2, q3, q4⟩) (fun hHeldN => ?_)
  clear hK K hHeldN hfo
  try clear hHeld
  (try simp only [Act.put, List.setIfInBounds_toArray, List.set_cons_zero, List.set_cons_succ])
  have HQ : ∃ WN : World, (((((w5.setCell ⟨w.heap.size + 1 + 1, 0, none⟩ (.slice A1 s.accs.length c1)).setCell ⟨w.heap.size + 1 + 1, 1, none⟩ (.slice A2 s.pays.length c2)).setCell ⟨w.heap.size + 1 + 1, 2, none⟩ (.slice A3 s.sagas.length c3)).setCell ⟨w.heap.size + 1 + 1, 3, none⟩ (.slice A4 s.known.length c4)).setCell ⟨w.heap.size + 1 + 1, 4, none⟩ (.int .i64 s.now)) = WN := ⟨_, rfl⟩
  obtain ⟨W6, HQ⟩ := HQ
  have HW6 : Hid (Env _ W6 _) := HQ ▸ HNN
  rw [HQ]
  have hfn := HW6.out.facts
  simp only [AllF, cellsF, gapF, Nat.zero_add, Nat.reduceAdd, and_true, true_and] at hfn
  clear HQ HNN HFS
  refine wpHead_done (by kernel_rfl) ?_; simp only [List.drop_succ_cons, List.drop_zero]
  go_wp2_with fail
  refine bodyPost_ret (res_cell_cell_tmp rfl _ rfl rfl agg_st rfl ((HW6.out.at 2 rfl).far2 (by simp)) agg_rep rfl (HW6.out.at 3 rfl).chain2) rfl ?_
  have hb : Below w.heap.size w W6 := HW6.out.bel
  refine (fun (h : Below _ _ _) => ⟨h, _, rfl, HV.out.below h⟩) ?_
  (repeat (first | (with_reducible refine below_drew ?_) | (with_reducible refine below_drewN ?_ _) | (with_reducible refine below_alloc ?_ _) | ((with_reducible refine Below.setCell ?_ ?_ _); rotate_left; (focus (first | (simp; done) | (simp; omega))))))
  exact hb
theorem tellK_put {ks : List Kn} {r : Req} (h : findK r.key ks < 0) (p : Rep) : tellK (ks ++ [⟨r, ⟨0, 0⟩, false⟩]) r.key p = .ok (ks ++ [⟨r, p, true⟩]) := by
  unfold tellK
  rw [find_new h, if_neg (by omega), rd_snoc, if_neg (by simp), Int.toNat_natCast, set_last]
/-- A request that is new is done whole, or at once. -/
def doneB (s : St) (r : Req) (ls : List Bool) : St × Rep × Int := if longB r = true then wholeB s r ls else ((opsDo s r).1, (opsDo s r).2, 0)
theorem bank_new (s : St) (v : Value) (r : Req) (lv : Value) (ls : List Bool) (w : World) (hv : StV w v s) (hl : Row w lv ls) (hcap : CapOk lv) (hr : ReqOk r) (hG : Good s.accs) (hPay : PaysOk s.accs s.pays) (hT : GT w) (hn : s.known.length ≤ 900) (ha : askK s.known r = none) (hf : findK r.key s.known < 0) (hp : putK s.known r = .ok (s.known ++ [⟨r, ⟨0, 0⟩, false⟩])) :
    Calls Tryd.prog 27 #[v, r.val, lv] w fun e w' => BankRes w w' ({ (doneB s r ls).1 with known := s.known ++ [⟨r, (doneB s r ls).2.1, true⟩] }, (doneB s r ls).2.1, (doneB s r ls).2.2) e := by
  obtain ⟨A1, c1, A2, c2, A3, c3, A4, c4, rfl, q1, q2, q3, q4⟩ := hv.open
  have h0 := (((Env.nil w).alloc 36 [.slice A1 s.accs.length c1, .slice A2 s.pays.length c2, .slice A3 s.sagas.length c3, .slice A4 s.known.length c4, .int .i64 s.now]).alloc 29 r.cells).alloc 36 [.slice none 0 0, .slice none 0 0, .slice none 0 0, .slice none 0 0, .int .i64 0]
  replace h0 := h0.alloc 40 [.int .i64 0, .int .i64 0]
  simp only [List.nil_append, List.cons_append, List.set_cons_zero, List.set_cons_succ, World.size_alloc] at h0
  have HM := Lib.hid (may_req r)
  have HA := Lib.hid (fun (W : World) (hW : Below w.heap.size w W) => ha ▸ keysAsk_any (.slice A4 s.known.length c4) s.known r W (q4.below hW))
  have HP := Lib.hid (fun (W : World) (hW : Below w.heap.size w W) => hp ▸ keysPut_any (.slice A4 s.known.length c4) s.known r W (q4.below hW) (by omega))
  have HV := Lib.hid hv
  have HR := Lib.hid hr
  have HT := Lib.hid hT
  clear q1 q2 q3 q4 hv hr ha hT hp
  have HTL := Lib.hid (show ∀ (y : Value) (p : Rep) (W : World) (hy : Row W y (s.known ++ [⟨r, ⟨0, 0⟩, false⟩])), Calls Tryd.prog 52 #[y, .int .i64 r.key, p.val] W fun e w' => KnRes W w' (.ok (s.known ++ [⟨r, p, true⟩])) e from fun y p W hy => by
    have := keysTell_any y (s.known ++ [⟨r, ⟨0, 0⟩, false⟩]) r.key p W hy (by simp; omega)
    rw [tellK_put hf p] at this
    exact this)
  have HLG := Lib.hid (long_any r)
  have HWH := Lib.hid (show longB r = true → ∀ W, Below w.heap.size w W → Calls Tryd.prog 51 #[_, r.val, lv] W fun e w' => BankRes W w' (doneB s r ls) e from fun hlb W hW => by
    have := whole_any s _ r lv ls W (HV.out.below hW) (hl.below hW) hcap hG (HT.out.below hW) HR.out.legs
    unfold doneB
    rw [if_pos hlb]
    exact this)
  have HOP := Lib.hid (show ¬ longB r = true → ∀ W, Below w.heap.size w W → Calls Tryd.prog 14 #[_, r.val] W fun e w' => DoSt W w' ((doneB s r ls).1, (doneB s r ls).2.1) e from fun hlb W hW => by
    have := opsDo_st s _ r W (HV.out.below hW) hG hPay (HT.out.below hW)
    unfold doneB
    rw [if_neg hlb]
    exact this)
  have HZ := Lib.hid (show ¬ longB r = true → (doneB s r ls).2.2 = 0 from fun hlb => by unfold doneB; rw [if_neg hlb])
  clear hG hPay hl hcap hf
  generalize doneB s r ls = X at *
  generalize hlb : longB r = lb at *
  clear hlb
  obtain ⟨key, op, ra, rb, amt, legs, til⟩ := r
  simp only [Req.cells] at h0
  have H0 := Lib.hid h0
  clear h0
  go_enter Tryd.func27, Tryd.ntmps27
  go_wp2_with fail
  refine (HM.out _).mono ?_
  rintro e w1 ⟨b, rfl, hb, hz⟩
  obtain rfl : b = true := hb.2 HR.out
  have h1 := H0.out.next hz
  have H1 := Lib.hid h1
  (have f1 := h1.facts; simp only [AllF, cellsF, gapF, Nat.zero_add, Nat.reduceAdd, and_true, true_and] at f1)
  clear h1 hz H0 hb HM
  go_wp2_with fail
  refine (HA.out _ H1.out.bel).mono ?_
  rintro e w2 ⟨rfl, hz⟩
  have e0 : askV none = .tuple #[.agg #[.int .i64 0, .int .i64 0], .bool false] := rfl
  rw [e0]
  clear e0
  have h2 := H1.out.next hz
  have H2 := Lib.hid h2
  clear f1
  (have f2 := h2.facts; simp only [AllF, cellsF, gapF, Nat.zero_add, Nat.reduceAdd, and_true, true_and] at f2)
  clear h2 hz H1 HA
  go_wp2_with fail
  have h3 := H2.out.alloc 40 [.int .i64 0, .int .i64 0]
  simp only [List.nil_append, List.cons_append, List.set_cons_zero, List.set_cons_succ, World.size_alloc] at h3
  have H3 := Lib.hid h3
  refine (HP.out _ H3.out.bel).mono ?_
  intro e w4 hres
  obtain ⟨hz, hx⟩ := hres
  have h4 := H3.out.next hz
  have H4 := Lib.hid h4
  clear f2 H2 H3 HP h3
  obtain ⟨y, rfl, hy⟩ := hx
  have HY := Lib.hid hy.row
  clear hy
  obtain ⟨K0, kc, hyv⟩ := HY.out.slice
  have hlk : (s.known ++ [Kn.mk ⟨key, op, ra, rb, amt, legs, til⟩ ⟨0, 0⟩ false]).length = s.known.length + 1 := by simp
  rw [hlk] at hyv
  subst hyv
  clear hlk
  generalize w2.heap.size = g9 at *
  clear hz
  clear w2
  (have f4 := h4.facts; simp only [AllF, cellsF, gapF, Nat.zero_add, Nat.reduceAdd, and_true, true_and] at f4)
  clear h4
  go_wp2_with fail
  clear f4
  have hN := (H4.out.alloc 36 [.slice A1 s.accs.length c1, .slice A2 s.pays.length c2, .slice A3 s.sagas.length c3, .slice A4 s.known.length c4, .int .i64 s.now]).alloc 40 [.int .i64 0, .int .i64 0]
  simp only [List.nil_append, List.cons_append, List.set_cons_zero, List.set_cons_succ, World.size_alloc] at hN
  have HQ : ∃ WN : World, (w4.alloc (.cells #[.slice A1 s.accs.length c1, .slice A2 s.pays.length c2, .slice A3 s.sagas.length c3, .slice A4 s.known.length c4, .int .i64 s.now] 36)).alloc (.cells #[.int .i64 0, .int .i64 0] 40) = WN := ⟨_, rfl⟩
  obtain ⟨W5, HQ⟩ := HQ
  have HY5 := Lib.hid (HY.out.below (show Below w4.heap.size w4 W5 by rw [← HQ]; exact below_alloc (below_alloc (Below.refl _ _) _) _))
  rw [HQ] at hN ⊢
  have H5 := Lib.hid hN
  have HYA := Lib.hid (HY.out.apart (g := w4.heap.size) (Nat.le_refl _))
  have HYB := Lib.hid (HY.out.apart (g := w4.heap.size + 1) (Nat.le_succ _))
  clear hN HQ H4 HY
  generalize w4.heap.size = gt at *
  clear w4
  refine (HLG.out _).mono ?_
  rintro e w6 ⟨rfl, hz⟩
  have h6 := H5.out.next hz
  have HY6 := Lib.hid (HY5.out.below hz)
  have H6 := Lib.hid h6
  (have f6 := h6.facts; simp only [AllF, cellsF, gapF, Nat.zero_add, Nat.reduceAdd, and_true, true_and] at f6)
  clear h6 hz H5 HLG HY5
  obtain ⟨x, ⟨err, id⟩, cnt⟩ := X
  cases lb with
  | true =>
    go_wp2_with fail
    refine (HWH.out (by trivial) _ H6.out.bel).mono ?_
    rintro e w7 ⟨hz, v7, rfl, hv7⟩
    obtain ⟨D1, m1, D2, m2, D3, m3, D4, m4, rfl, -⟩ := hv7.open
    have HV7 := Lib.hid hv7
    have h7 := H6.out.next hz
    have HY7 := Lib.hid (HY6.out.below hz)
    have H7 := Lib.hid h7
    clear f6 hv7
    (have f7 := h7.facts; simp only [AllF, cellsF, gapF, Nat.zero_add, Nat.reduceAdd, and_true, true_and] at f7)
    clear h7 hz H6 HY6 HWH HOP
    go_wp2_with fail
    clear f7
    have hN := (((((H7.out.set 5 0 (.slice D1 x.accs.length m1) rfl).set 5 1 (.slice D2 x.pays.length m2) rfl).set 5 2 (.slice D3 x.sagas.length m3) rfl).set 5 3 (.slice D4 x.known.length m4) rfl).set 5 4 (.int .i64 x.now) rfl)
    simp only [List.nil_append, List.cons_append, List.set_cons_zero, List.set_cons_succ, World.size_alloc] at hN
    have HQ : ∃ WN : World, (((((w7.setCell ⟨gt, 0, none⟩ (.slice D1 x.accs.length m1)).setCell ⟨gt, 1, none⟩ (.slice D2 x.pays.length m2)).setCell ⟨gt, 2, none⟩ (.slice D3 x.sagas.length m3)).setCell ⟨gt, 3, none⟩ (.slice D4 x.known.length m4)).setCell ⟨gt, 4, none⟩ (.int .i64 x.now)) = WN := ⟨_, rfl⟩
    obtain ⟨W8, HQ⟩ := HQ
    have HVW8 := Lib.hid (show StV W8 _ _ by rw [← HQ]; exact HV7.out.keep (HV7.out.offSt (H7.out.at 5 rfl)) (set5_grown _ _ _ _ _ _ _))
    have HY8 := Lib.hid (show Row W8 _ _ by rw [← HQ]; exact HY7.out.only HYA.out (set5_grown _ _ _ _ _ _ _))
    rw [HQ] at hN ⊢
    have HW8 := Lib.hid hN
    clear hN HQ
    have hN := ((HW8.out.set 6 0 (.int .i64 err) rfl).set 6 1 (.int .i64 id) rfl)
    simp only [List.nil_append, List.cons_append, List.set_cons_zero, List.set_cons_succ, World.size_alloc] at hN
    have HQ : ∃ WN : World, ((W8.setCell ⟨gt + 1, 0, none⟩ (.int .i64 err)).setCell ⟨gt + 1, 1, none⟩ (.int .i64 id)) = WN := ⟨_, rfl⟩
    obtain ⟨W9, HQ⟩ := HQ
    have HVW9 := Lib.hid (show StV W9 _ _ by rw [← HQ]; exact HVW8.out.keep (HVW8.out.offFew (HW8.out.at 6 rfl) (by decide)) (set2_grown _ _ _ _))
    have HY9 := Lib.hid (show Row W9 _ _ by rw [← HQ]; exact HY8.out.only HYB.out (set2_grown _ _ _ _))
    rw [HQ] at hN ⊢
    have HW9 := Lib.hid hN
    clear hN HQ
    refine (HTL.out _ ⟨err, id⟩ _ HY9.out).mono ?_
    intro e w10 hres
    obtain ⟨hz, yk, rfl, hyk⟩ := hres
    obtain ⟨K1, kd, hyv⟩ := hyk.row.slice
    have hlk : (s.known ++ [Kn.mk ⟨key, op, ra, rb, amt, legs, til⟩ ⟨err, id⟩ true]).length = s.known.length + 1 := by simp
    rw [hlk] at hyv
    subst hyv
    clear hlk
    have h10 := HW9.out.next hz
    have HV10 := Lib.hid (HVW9.out.below hz)
    have hgt := (HW9.out.at 5 rfl).lt
    have HYK := Lib.hid (hyk.setLow hgt 3 (.slice K1 (s.known.length + 1) kd)).row
    have H10 := Lib.hid h10
    clear hz hyk hgt
    (have f10 := h10.facts; simp only [AllF, cellsF, gapF, Nat.zero_add, Nat.reduceAdd, and_true, true_and] at f10)
    clear h10 HTL HY9
    go_wp2_with fail
    clear f10
    have hN := H10.out.set 5 3 (.slice K1 (s.known.length + 1) kd) rfl
    simp only [List.nil_append, List.cons_append, List.set_cons_zero, List.set_cons_succ, World.size_alloc] at hN
    have HQ : ∃ WN : World, w10.setCell ⟨gt, 3, none⟩ (.slice K1 (s.known.length + 1) kd) = WN := ⟨_, rfl⟩
    obtain ⟨W11, HQ⟩ := HQ
    have HV11 : Hid (StV W11 (.agg #[.slice D1 x.accs.length m1, .slice D2 x.pays.length m2, .slice D3 x.sagas.length m3, .slice K1 (s.known.length + 1) kd, .int .i64 x.now]) { x with known := (s.known ++ [Kn.mk ⟨key, op, ra, rb, amt, legs, til⟩ ⟨err, id⟩ true]) }) := Lib.hid (by
      have hk := HV10.out.keep (HV10.out.offSt (H10.out.at 5 rfl)) ((World.grownBy.refl w10 (some gt)).setCell (a := ⟨gt, 3, none⟩) (g := gt) rfl (.slice K1 (s.known.length + 1) kd))
      obtain ⟨r1, r2, r3, -⟩ := hk.rows
      rw [← HQ]
      exact ⟨_, _, _, _, rfl, r1, r2, r3, HYK.out⟩)
    rw [HQ] at hN ⊢
    have H11 := Lib.hid hN
    clear hN HQ H10 HV10 HYK
    have hfs := H11.out.facts
    simp only [AllF, cellsF, gapF, Nat.zero_add, Nat.reduceAdd, and_true, true_and] at hfs
    have hSof : ∀ w', Below W11.heap.size W11 w' → (w'.cell? ⟨gt, 0, none⟩ = some (.slice D1 x.accs.length m1) ∧ w'.cell? ⟨gt, 1, none⟩ = some (.slice D2 x.pays.length m2) ∧ w'.cell? ⟨gt, 2, none⟩ = some (.slice D3 x.sagas.length m3) ∧ w'.cell? ⟨gt, 3, none⟩ = some (.slice K1 (s.known.length + 1) kd) ∧ w'.cell? ⟨gt, 4, none⟩ = some (.int .i64 x.now) ∧ w'.cell? ⟨gt + 1, 0, none⟩ = some (.int .i64 err) ∧ w'.cell? ⟨gt + 1, 1, none⟩ = some (.int .i64 id)) := fun w' hb => by
      obtain ⟨-, -, -, -, -, ⟨⟨q0, q1, q2, q3, q4⟩, -⟩, ⟨q5, q6⟩, -⟩ := hfs
      exact ⟨cell_below hb q0, cell_below hb q1, cell_below hb q2, cell_below hb q3, cell_below hb q4, cell_below hb q5, cell_below hb q6⟩
    have hbd : Below W11.heap.size W11 W11.drew := below_drew (Below.refl _ _)
    refine wp_region_head 5 (fun w' => (w'.cell? ⟨gt, 0, none⟩ = some (.slice D1 x.accs.length m1) ∧ w'.cell? ⟨gt, 1, none⟩ = some (.slice D2 x.pays.length m2) ∧ w'.cell? ⟨gt, 2, none⟩ = some (.slice D3 x.sagas.length m3) ∧ w'.cell? ⟨gt, 3, none⟩ = some (.slice K1 (s.known.length + 1) kd) ∧ w'.cell? ⟨gt, 4, none⟩ = some (.int .i64 x.now) ∧ w'.cell? ⟨gt + 1, 0, none⟩ = some (.int .i64 err) ∧ w'.cell? ⟨gt + 1, 1, none⟩ = some (.int .i64 id))) (by kernel_rfl) (by kernel_rfl) (hSof _ hbd) (fun hHeld => ?_)
    generalize W11.drew = WD at *
    have HWD := Lib.hid (H11.out.next hbd)
    have HVWD := Lib.hid (HV11.out.below hbd)
    clear hfs
    refine wpHead_take (i := 0) (v := ?_) rfl (by kernel_rfl) (by kernel_rfl) (by kernel_rfl) (by kernel_rfl) (fun _ _ _ h => h) (Or.inl ⟨by rfl, fun w hSw => ?_⟩) (by assumption) ?_; rotate_left; (focus ((try dsimp only at hSw); go_simp <;> with_reducible rfl)); (try simp only [Act.put, List.setIfInBounds_toArray, List.set_cons_zero, List.set_cons_succ])
    refine wpHead_take (i := 1) (v := ?_) rfl (by kernel_rfl) (by kernel_rfl) (by kernel_rfl) (by kernel_rfl) (fun _ _ _ h => h) (Or.inl ⟨by rfl, fun w hSw => ?_⟩) (by assumption) ?_; rotate_left; (focus ((try dsimp only at hSw); go_simp <;> with_reducible rfl)); (try simp only [Act.put, List.setIfInBounds_toArray, List.set_cons_zero, List.set_cons_succ])
    refine wpHead_take (i := 2) (v := ?_) rfl (by kernel_rfl) (by kernel_rfl) (by kernel_rfl) (by kernel_rfl) (fun _ _ _ h => h) (Or.inl ⟨by rfl, fun w hSw => ?_⟩) (by assumption) ?_; rotate_left; (focus ((try dsimp only at hSw); go_simp <;> with_reducible rfl)); (try simp only [Act.put, List.setIfInBounds_toArray, List.set_cons_zero, List.set_cons_succ])
    have hN := (((((HWD.out.set 2 0 (.slice D1 x.accs.length m1) rfl).set 2 1 (.slice D2 x.pays.length m2) rfl).set 2 2 (.slice D3 x.sagas.length m3) rfl).set 2 3 (.slice K1 (s.known.length + 1) kd) rfl).set 2 4 (.int .i64 x.now) rfl)
    simp only [List.nil_append, List.cons_append, List.set_cons_zero, List.set_cons_succ, World.size_alloc] at hN
    have HNN := Lib.hid hN
    have hfo := HWD.out.facts
    simp only [AllF, cellsF, gapF, Nat.zero_add, Nat.reduceAdd, and_true, true_and] at hfo
    have hfs := hN.facts
    simp only [AllF, cellsF, gapF, Nat.zero_add, Nat.reduceAdd, and_true, true_and] at hfs
    have HFS := Lib.hid hfs
    clear hfs hN
    refine wpHead_ready (rs := [3]) (by kernel_rfl) (by simp) ?_
    refine AllHead.cons (i := 3) rfl (by kernel_rfl) (fun K hK => ?_) ?_
    rotate_left
    · exact AllHead.nil
    go_simp
    refine hK.out _ _ (by obtain ⟨-, -, -, -, -, ⟨⟨q0, q1, q2, q3, q4⟩, -⟩, ⟨q5, q6⟩, -⟩ := HFS.out; exact ⟨q0, q1, q2, q3, q4, q5, q6⟩) (fun hHeldN => ?_)
    clear hK K hHeldN hfo
    try clear hHeld
    (try simp only [Act.put, List.setIfInBounds_toArray, List.set_cons_zero, List.set_cons_succ])
    have HQ : ∃ WN : World, (((((WD.setCell ⟨w.heap.size + 1 + 1, 0, none⟩ (.slice D1 x.accs.length m1)).setCell ⟨w.heap.size + 1 + 1, 1, none⟩ (.slice D2 x.pays.length m2)).setCell ⟨w.heap.size + 1 + 1, 2, none⟩ (.slice D3 x.sagas.length m3)).setCell ⟨w.heap.size + 1 + 1, 3, none⟩ (.slice K1 (s.known.length + 1) kd)).setCell ⟨w.heap.size + 1 + 1, 4, none⟩ (.int .i64 x.now)) = WN := ⟨_, rfl⟩
    obtain ⟨W12, HQ⟩ := HQ
    have HVW12 := Lib.hid (show StV W12 _ _ by rw [← HQ]; exact HVWD.out.keep (HVWD.out.offSt (HWD.out.at 2 rfl)) (set5_grown _ _ _ _ _ _ _))
    have HW12 : Hid (Env _ W12 _) := HQ ▸ HNN
    rw [HQ]
    have hfn := HW12.out.facts
    simp only [AllF, cellsF, gapF, Nat.zero_add, Nat.reduceAdd, and_true, true_and] at hfn
    clear HQ HNN HFS
    have hN := ((HW12.out.set 3 0 (.int .i64 err) rfl).set 3 1 (.int .i64 id) rfl)
    simp only [List.nil_append, List.cons_append, List.set_cons_zero, List.set_cons_succ, World.size_alloc] at hN
    have HNN := Lib.hid hN
    have hfo := HW12.out.facts
    simp only [AllF, cellsF, gapF, Nat.zero_add, Nat.reduceAdd, and_true, true_and] at hfo
    have hfs := hN.facts
    simp only [AllF, cellsF, gapF, Nat.zero_add, Nat.reduceAdd, and_true, true_and] at hfs
    have HFS := Lib.hid hfs
    clear hfs hN
    refine wpHead_ready (rs := [4]) (by kernel_rfl) (by simp) ?_
    refine AllHead.cons (i := 4) rfl (by kernel_rfl) (fun K hK => ?_) ?_
    rotate_left
    · exact AllHead.nil
    go_simp
    refine hK.out _ _ (by obtain ⟨-, -, -, -, -, ⟨⟨q0, q1, q2, q3, q4⟩, -⟩, ⟨q5, q6⟩, -⟩ := HFS.out; exact ⟨q0, q1, q2, q3, q4, q5, q6⟩) (fun hHeldN => ?_)
    clear hK K hHeldN hfo
    try clear hHeld
    (try simp only [Act.put, List.setIfInBounds_toArray, List.set_cons_zero, List.set_cons_succ])
    have HQ : ∃ WN : World, ((W12.setCell ⟨w.heap.size + 1 + 1 + 1, 0, none⟩ (.int .i64 err)).setCell ⟨w.heap.size + 1 + 1 + 1, 1, none⟩ (.int .i64 id)) = WN := ⟨_, rfl⟩
    obtain ⟨W13, HQ⟩ := HQ
    have HVW13 := Lib.hid (show StV W13 _ _ by rw [← HQ]; exact HVW12.out.keep (HVW12.out.offFew (HW12.out.at 3 rfl) (by decide)) (set2_grown _ _ _ _))
    have HW13 : Hid (Env _ W13 _) := HQ ▸ HNN
    rw [HQ]
    have hfn := HW13.out.facts
    simp only [AllF, cellsF, gapF, Nat.zero_add, Nat.reduceAdd, and_true, true_and] at hfn
    clear HQ HNN HFS
    refine wpHead_done (by kernel_rfl) ?_; simp only [List.drop_succ_cons, List.drop_zero]
    go_wp2_with fail
    refine bodyPost_ret (res_cell_cell_tmp rfl _ rfl rfl agg_st rfl (HW13.out.at 2 rfl) agg_rep rfl (HW13.out.at 3 rfl)) rfl ?_
    exact ⟨HW13.out.bel, _, rfl, HVW13.out⟩
  | false =>
    go_wp2_with fail
    refine (HOP.out (by simp) _ H6.out.bel).mono ?_
    rintro e w7 ⟨hz, v7, rfl, hv7⟩
    obtain ⟨D1, m1, D2, m2, D3, m3, D4, m4, rfl, -⟩ := hv7.open
    have HV7 := Lib.hid hv7
    have h7 := H6.out.next hz
    have HY7 := Lib.hid (HY6.out.below hz)
    have H7 := Lib.hid h7
    clear f6 hv7
    (have f7 := h7.facts; simp only [AllF, cellsF, gapF, Nat.zero_add, Nat.reduceAdd, and_true, true_and] at f7)
    clear h7 hz H6 HY6 HWH HOP
    go_wp2_with fail
    clear f7
    have hN := (((((H7.out.set 5 0 (.slice D1 x.accs.length m1) rfl).set 5 1 (.slice D2 x.pays.length m2) rfl).set 5 2 (.slice D3 x.sagas.length m3) rfl).set 5 3 (.slice D4 x.known.length m4) rfl).set 5 4 (.int .i64 x.now) rfl)
    simp only [List.nil_append, List.cons_append, List.set_cons_zero, List.set_cons_succ, World.size_alloc] at hN
    have HQ : ∃ WN : World, (((((w7.setCell ⟨gt, 0, none⟩ (.slice D1 x.accs.length m1)).setCell ⟨gt, 1, none⟩ (.slice D2 x.pays.length m2)).setCell ⟨gt, 2, none⟩ (.slice D3 x.sagas.length m3)).setCell ⟨gt, 3, none⟩ (.slice D4 x.known.length m4)).setCell ⟨gt, 4, none⟩ (.int .i64 x.now)) = WN := ⟨_, rfl⟩
    obtain ⟨W8, HQ⟩ := HQ
    have HVW8 := Lib.hid (show StV W8 _ _ by rw [← HQ]; exact HV7.out.keep (HV7.out.offSt (H7.out.at 5 rfl)) (set5_grown _ _ _ _ _ _ _))
    have HY8 := Lib.hid (show Row W8 _ _ by rw [← HQ]; exact HY7.out.only HYA.out (set5_grown _ _ _ _ _ _ _))
    rw [HQ] at hN ⊢
    have HW8 := Lib.hid hN
    clear hN HQ
    have hN := ((HW8.out.set 6 0 (.int .i64 err) rfl).set 6 1 (.int .i64 id) rfl)
    simp only [List.nil_append, List.cons_append, List.set_cons_zero, List.set_cons_succ, World.size_alloc] at hN
    have HQ : ∃ WN : World, ((W8.setCell ⟨gt + 1, 0, none⟩ (.int .i64 err)).setCell ⟨gt + 1, 1, none⟩ (.int .i64 id)) = WN := ⟨_, rfl⟩
    obtain ⟨W9, HQ⟩ := HQ
    have HVW9 := Lib.hid (show StV W9 _ _ by rw [← HQ]; exact HVW8.out.keep (HVW8.out.offFew (HW8.out.at 6 rfl) (by decide)) (set2_grown _ _ _ _))
    have HY9 := Lib.hid (show Row W9 _ _ by rw [← HQ]; exact HY8.out.only HYB.out (set2_grown _ _ _ _))
    rw [HQ] at hN ⊢
    have HW9 := Lib.hid hN
    clear hN HQ
    refine (HTL.out _ ⟨err, id⟩ _ HY9.out).mono ?_
    intro e w10 hres
    obtain ⟨hz, yk, rfl, hyk⟩ := hres
    obtain ⟨K1, kd, hyv⟩ := hyk.row.slice
    have hlk : (s.known ++ [Kn.mk ⟨key, op, ra, rb, amt, legs, til⟩ ⟨err, id⟩ true]).length = s.known.length + 1 := by simp
    rw [hlk] at hyv
    subst hyv
    clear hlk
    have h10 := HW9.out.next hz
    have HV10 := Lib.hid (HVW9.out.below hz)
    have hgt := (HW9.out.at 5 rfl).lt
    have HYK := Lib.hid (hyk.setLow hgt 3 (.slice K1 (s.known.length + 1) kd)).row
    have H10 := Lib.hid h10
    clear hz hyk hgt
    (have f10 := h10.facts; simp only [AllF, cellsF, gapF, Nat.zero_add, Nat.reduceAdd, and_true, true_and] at f10)
    clear h10 HTL HY9
    go_wp2_with fail
    clear f10
    have hN := H10.out.set 5 3 (.slice K1 (s.known.length + 1) kd) rfl
    simp only [List.nil_append, List.cons_append, List.set_cons_zero, List.set_cons_succ, World.size_alloc] at hN
    have HQ : ∃ WN : World, w10.setCell ⟨gt, 3, none⟩ (.slice K1 (s.known.length + 1) kd) = WN := ⟨_, rfl⟩
    obtain ⟨W11, HQ⟩ := HQ
    have HV11 : Hid (StV W11 (.agg #[.slice D1 x.accs.length m1, .slice D2 x.pays.length m2, .slice D3 x.sagas.length m3, .slice K1 (s.known.length + 1) kd, .int .i64 x.now]) { x with known := (s.known ++ [Kn.mk ⟨key, op, ra, rb, amt, legs, til⟩ ⟨err, id⟩ true]) }) := Lib.hid (by
      have hk := HV10.out.keep (HV10.out.offSt (H10.out.at 5 rfl)) ((World.grownBy.refl w10 (some gt)).setCell (a := ⟨gt, 3, none⟩) (g := gt) rfl (.slice K1 (s.known.length + 1) kd))
      obtain ⟨r1, r2, r3, -⟩ := hk.rows
      rw [← HQ]
      exact ⟨_, _, _, _, rfl, r1, r2, r3, HYK.out⟩)
    rw [HQ] at hN ⊢
    have H11 := Lib.hid hN
    clear hN HQ H10 HV10 HYK
    have hfs := H11.out.facts
    simp only [AllF, cellsF, gapF, Nat.zero_add, Nat.reduceAdd, and_true, true_and] at hfs
    have hSof : ∀ w', Below W11.heap.size W11 w' → (w'.cell? ⟨gt, 0, none⟩ = some (.slice D1 x.accs.length m1) ∧ w'.cell? ⟨gt, 1, none⟩ = some (.slice D2 x.pays.length m2) ∧ w'.cell? ⟨gt, 2, none⟩ = some (.slice D3 x.sagas.length m3) ∧ w'.cell? ⟨gt, 3, none⟩ = some (.slice K1 (s.known.length + 1) kd) ∧ w'.cell? ⟨gt, 4, none⟩ = some (.int .i64 x.now) ∧ w'.cell? ⟨gt + 1, 0, none⟩ = some (.int .i64 err) ∧ w'.cell? ⟨gt + 1, 1, none⟩ = some (.int .i64 id)) := fun w' hb => by
      obtain ⟨-, -, -, -, -, ⟨⟨q0, q1, q2, q3, q4⟩, -⟩, ⟨q5, q6⟩, -⟩ := hfs
      exact ⟨cell_below hb q0, cell_below hb q1, cell_below hb q2, cell_below hb q3, cell_below hb q4, cell_below hb q5, cell_below hb q6⟩
    have hbd : Below W11.heap.size W11 W11.drew := below_drew (Below.refl _ _)
    refine wp_region_head 5 (fun w' => (w'.cell? ⟨gt, 0, none⟩ = some (.slice D1 x.accs.length m1) ∧ w'.cell? ⟨gt, 1, none⟩ = some (.slice D2 x.pays.length m2) ∧ w'.cell? ⟨gt, 2, none⟩ = some (.slice D3 x.sagas.length m3) ∧ w'.cell? ⟨gt, 3, none⟩ = some (.slice K1 (s.known.length + 1) kd) ∧ w'.cell? ⟨gt, 4, none⟩ = some (.int .i64 x.now) ∧ w'.cell? ⟨gt + 1, 0, none⟩ = some (.int .i64 err) ∧ w'.cell? ⟨gt + 1, 1, none⟩ = some (.int .i64 id))) (by kernel_rfl) (by kernel_rfl) (hSof _ hbd) (fun hHeld => ?_)
    generalize W11.drew = WD at *
    have HWD := Lib.hid (H11.out.next hbd)
    have HVWD := Lib.hid (HV11.out.below hbd)
    clear hfs
    refine wpHead_take (i := 0) (v := ?_) rfl (by kernel_rfl) (by kernel_rfl) (by kernel_rfl) (by kernel_rfl) (fun _ _ _ h => h) (Or.inl ⟨by rfl, fun w hSw => ?_⟩) (by assumption) ?_; rotate_left; (focus ((try dsimp only at hSw); go_simp <;> with_reducible rfl)); (try simp only [Act.put, List.setIfInBounds_toArray, List.set_cons_zero, List.set_cons_succ])
    refine wpHead_take (i := 1) (v := ?_) rfl (by kernel_rfl) (by kernel_rfl) (by kernel_rfl) (by kernel_rfl) (fun _ _ _ h => h) (Or.inl ⟨by rfl, fun w hSw => ?_⟩) (by assumption) ?_; rotate_left; (focus ((try dsimp only at hSw); go_simp <;> with_reducible rfl)); (try simp only [Act.put, List.setIfInBounds_toArray, List.set_cons_zero, List.set_cons_succ])
    refine wpHead_take (i := 2) (v := ?_) rfl (by kernel_rfl) (by kernel_rfl) (by kernel_rfl) (by kernel_rfl) (fun _ _ _ h => h) (Or.inl ⟨by rfl, fun w hSw => ?_⟩) (by assumption) ?_; rotate_left; (focus ((try dsimp only at hSw); go_simp <;> with_reducible rfl)); (try simp only [Act.put, List.setIfInBounds_toArray, List.set_cons_zero, List.set_cons_succ])
    have hN := (((((HWD.out.set 2 0 (.slice D1 x.accs.length m1) rfl).set 2 1 (.slice D2 x.pays.length m2) rfl).set 2 2 (.slice D3 x.sagas.length m3) rfl).set 2 3 (.slice K1 (s.known.length + 1) kd) rfl).set 2 4 (.int .i64 x.now) rfl)
    simp only [List.nil_append, List.cons_append, List.set_cons_zero, List.set_cons_succ, World.size_alloc] at hN
    have HNN := Lib.hid hN
    have hfo := HWD.out.facts
    simp only [AllF, cellsF, gapF, Nat.zero_add, Nat.reduceAdd, and_true, true_and] at hfo
    have hfs := hN.facts
    simp only [AllF, cellsF, gapF, Nat.zero_add, Nat.reduceAdd, and_true, true_and] at hfs
    have HFS := Lib.hid hfs
    clear hfs hN
    refine wpHead_ready (rs := [3]) (by kernel_rfl) (by simp) ?_
    refine AllHead.cons (i := 3) rfl (by kernel_rfl) (fun K hK => ?_) ?_
    rotate_left
    · exact AllHead.nil
    go_simp
    refine hK.out _ _ (by obtain ⟨-, -, -, -, -, ⟨⟨q0, q1, q2, q3, q4⟩, -⟩, ⟨q5, q6⟩, -⟩ := HFS.out; exact ⟨q0, q1, q2, q3, q4, q5, q6⟩) (fun hHeldN => ?_)
    clear hK K hHeldN hfo
    try clear hHeld
    (try simp only [Act.put, List.setIfInBounds_toArray, List.set_cons_zero, List.set_cons_succ])
    have HQ : ∃ WN : World, (((((WD.setCell ⟨w.heap.size + 1 + 1, 0, none⟩ (.slice D1 x.accs.length m1)).setCell ⟨w.heap.size + 1 + 1, 1, none⟩ (.slice D2 x.pays.length m2)).setCell ⟨w.heap.size + 1 + 1, 2, none⟩ (.slice D3 x.sagas.length m3)).setCell ⟨w.heap.size + 1 + 1, 3, none⟩ (.slice K1 (s.known.length + 1) kd)).setCell ⟨w.heap.size + 1 + 1, 4, none⟩ (.int .i64 x.now)) = WN := ⟨_, rfl⟩
    obtain ⟨W12, HQ⟩ := HQ
    have HVW12 := Lib.hid (show StV W12 _ _ by rw [← HQ]; exact HVWD.out.keep (HVWD.out.offSt (HWD.out.at 2 rfl)) (set5_grown _ _ _ _ _ _ _))
    have HW12 : Hid (Env _ W12 _) := HQ ▸ HNN
    rw [HQ]
    have hfn := HW12.out.facts
    simp only [AllF, cellsF, gapF, Nat.zero_add, Nat.reduceAdd, and_true, true_and] at hfn
    clear HQ HNN HFS
    have hN := ((HW12.out.set 3 0 (.int .i64 err) rfl).set 3 1 (.int .i64 id) rfl)
    simp only [List.nil_append, List.cons_append, List.set_cons_zero, List.set_cons_succ, World.size_alloc] at hN
    have HNN := Lib.hid hN
    have hfo := HW12.out.facts
    simp only [AllF, cellsF, gapF, Nat.zero_add, Nat.reduceAdd, and_true, true_and] at hfo
    have hfs := hN.facts
    simp only [AllF, cellsF, gapF, Nat.zero_add, Nat.reduceAdd, and_true, true_and] at hfs
    have HFS := Lib.hid hfs
    clear hfs hN
    refine wpHead_ready (rs := [4]) (by kernel_rfl) (by simp) ?_
    refine AllHead.cons (i := 4) rfl (by kernel_rfl) (fun K hK => ?_) ?_
    rotate_left
    · exact AllHead.nil
    go_simp
    refine hK.out _ _ (by obtain ⟨-, -, -, -, -, ⟨⟨q0, q1, q2, q3, q4⟩, -⟩, ⟨q5, q6⟩, -⟩ := HFS.out; exact ⟨q0, q1, q2, q3, q4, q5, q6⟩) (fun hHeldN => ?_)
    clear hK K hHeldN hfo
    try clear hHeld
    (try simp only [Act.put, List.setIfInBounds_toArray, List.set_cons_zero, List.set_cons_succ])
    have HQ : ∃ WN : World, ((W12.setCell ⟨w.heap.size + 1 + 1 + 1, 0, none⟩ (.int .i64 err)).setCell ⟨w.heap.size + 1 + 1 + 1, 1, none⟩ (.int .i64 id)) = WN := ⟨_, rfl⟩
    obtain ⟨W13, HQ⟩ := HQ
    have HVW13 := Lib.hid (show StV W13 _ _ by rw [← HQ]; exact HVW12.out.keep (HVW12.out.offFew (HW12.out.at 3 rfl) (by decide)) (set2_grown _ _ _ _))
    have HW13 : Hid (Env _ W13 _) := HQ ▸ HNN
    rw [HQ]
    have hfn := HW13.out.facts
    simp only [AllF, cellsF, gapF, Nat.zero_add, Nat.reduceAdd, and_true, true_and] at hfn
    clear HQ HNN HFS
    refine wpHead_done (by kernel_rfl) ?_; simp only [List.drop_succ_cons, List.drop_zero]
    go_wp2_with fail
    refine bodyPost_ret (res_cell_cell_tmp rfl _ rfl rfl agg_st rfl (HW13.out.at 2 rfl) agg_rep rfl (HW13.out.at 3 rfl)) rfl ?_
    have hcz : cnt = 0 := HZ.out (by simp)
    subst hcz
    exact ⟨HW13.out.bel, _, rfl, HVW13.out⟩
end Go.Proofs.YthjmficglpfgpaaDoor
namespace Go.Proofs.YthjmficglpfgpaaDoor
set_option linter.unusedVariables false
set_option linter.unusedSimpArgs false
open Go Go.RowKit Enc
set_option maxRecDepth 100000
set_option maxHeartbeats 3200000

theorem bankDo_st (s : St) (v : Value) (r : Req) (lv : Value) (ls : List Bool) (w : World) (hv : StV w v s) (hl : Row w lv ls) (hcap : CapOk lv) (hG : Good s.accs) (hPay : PaysOk s.accs s.pays) (hT : GT w) (hn : s.known.length ≤ 900) :
    Calls Tryd.prog 27 #[v, r.val, lv] w fun e w' => BankRes w w' (bankDo s r ls) e := by
  by_cases hr : ReqOk r
  rotate_left
  · have : bankDo s r ls = (s, ⟨1, 0⟩, 0) := by unfold bankDo; rw [if_pos hr]
    rw [this]
    exact bank_bad s v r lv w hv hr
  cases ha : askK s.known r with
  | some out =>
    have : bankDo s r ls = (s, out, 0) := by unfold bankDo; rw [if_neg (fun h => h hr), ha]
    rw [this]
    exact bank_ask s v r lv w hv hr out ha
  | none =>
    have hf := ask_none ha
    by_cases hl2 : s.known.length ≥ 256
    · have : bankDo s r ls = (s, ⟨7, 0⟩, 0) := by unfold bankDo; rw [if_neg (fun h => h hr), ha]; simp only; rw [if_pos hl2]
      rw [this]
      exact bank_full s v r lv w hv hr hT (by omega) ha (by unfold putK; rw [if_neg (by omega), if_pos hl2])
    · have : bankDo s r ls = ({ (doneB s r ls).1 with known := s.known ++ [⟨r, (doneB s r ls).2.1, true⟩] }, (doneB s r ls).2.1, (doneB s r ls).2.2) := by unfold bankDo doneB; rw [if_neg (fun h => h hr), ha]; simp only; rw [if_neg hl2]
      rw [this]
      exact bank_new s v r lv ls w hv hl hcap hr hG hPay hT hn ha hf (by unfold putK; rw [if_neg (by omega), if_neg hl2])
/-- How many answers a bank takes. -/
theorem bankDo_cnt (s : St) (r : Req) (ls : List Bool) : 0 ≤ (bankDo s r ls).2.2 ∧ (bankDo s r ls).2.2 ≤ ls.length := by
  have hle : ∀ (f : Nat) (g : Saga) (a : Int) (l : List Bool), 0 ≤ a → 0 ≤ (legsGo f g a l).2 := by
    intro f
    induction f with
    | zero => intro g a l h; exact h
    | succ f ih =>
      intro g a l h
      unfold legsGo
      split
      · exact ih _ _ _ (by omega)
      · exact h
  have hw : 0 ≤ (wholeB s r ls).2.2 ∧ (wholeB s r ls).2.2 ≤ ls.length := by
    have h0 := hle 20 (beginG r) 0 ls (Int.le_refl _)
    unfold wholeB
    split
    · simp
    · simp only
      split
      · split <;> simp only <;> omega
      · simp only; omega
  unfold bankDo
  split
  · simp
  · split
    · simp
    · split
      · simp
      · simp only
        split
        · exact hw
        · simp
end Go.Proofs.YthjmficglpfgpaaDoor
namespace Go.Proofs.YthjmficglpfgpaaDoor
set_option linter.unusedVariables false
set_option linter.unusedSimpArgs false
open Go Go.RowKit Enc
set_option maxRecDepth 100000
set_option maxHeartbeats 1600000

theorem same_kns (a b : Value) (xs ys : List Kn) (w : World) (ha : Row w a xs) (hb : Row w b ys) : Calls Tryd.prog 53 #[a, b] w fun e w' => Tells (xs = ys) w w' e := by
  have hm := ha.max
  have hm2 := hb.max
  obtain ⟨A, c, hav⟩ := ha.slice
  obtain ⟨A2, c2, hbv⟩ := hb.slice
  subst hav hbv
  by_cases hl : xs.length = ys.length
  rotate_left
  · have hn := Lib.hid (show ¬ xs = ys from fun h => hl (h ▸ rfl))
    have hlb : ((xs.length : Int) != ys.length) = true := by rw [bne_iff_ne]; omega
    clear hl
    go_enter Tryd.func53, Tryd.ntmps53
    go_wp2
    go_ret
    exact ⟨by rw [decide_eq_false hn.out]; rfl, 0, rfl⟩
  · have hlb : ((xs.length : Int) != ys.length) = false := by simp [hl]
    have HL := Lib.hid hl
    clear hl
    have hq := neq_kn
    go_enter Tryd.func53, Tryd.ntmps53
    go_wp2
    go_loopw [13] (fun i wr => SameRel w xs ys i wr) (fun i _ => xs.length - (intOf i).toNat)
    case atStart => exact ⟨0, by omega, rfl, ⟨0, rfl⟩, fun j h0 h1 => by omega⟩
    case round =>
      obtain ⟨k, hk, rfl, ⟨n, rfl⟩, hall⟩ := hrel
      have HA := Lib.hid hall
      clear hall
      by_cases hlt : k < xs.length
      · have hlt2 : k < ys.length := by have := HL.out; omega
        obtain ⟨b1, o1, c1', hv, x0, x1, x2, x3, x4, x5, x6, x7, x8, x9, l1⟩ := ha.kn k hlt
        injection hv with hv1 _ hv3
        subst hv1 hv3
        obtain ⟨b2, o2, c2', hv, y0, y1, y2, y3, y4, y5, y6, y7, y8, y9, l2⟩ := hb.kn k hlt2
        injection hv with hv1 _ hv3
        subst hv1 hv3
        have i0 : (0 : Int) ≤ (k : Int) := by omega
        have i1 : (k : Int) < (xs.length : Int) := by omega
        have i2 : (k : Int) < (ys.length : Int) := by omega
        clear hq
        by_cases he : rd xs (k : Int) = rd ys (k : Int)
        · have hq1 := fun w => (neq_kn (rd xs (k : Int)) (rd ys (k : Int)) w).trans (by rw [decide_eq_false (fun h => h he)])
          have HE := Lib.hid he
          clear he
          go_wp2
          go_quiet (fail)
          go_wp2
          exact ⟨⟨k + 1, by omega, by go_num, ⟨_, rfl⟩, fun j j0 hj => by
            rcases Int.lt_or_le j k with h | h
            · exact HA.out j j0 h
            · rw [show j = (k : Int) by omega]; exact HE.out⟩, by simp [intOf]; omega⟩
        · have hq1 := fun w => (neq_kn (rd xs (k : Int)) (rd ys (k : Int)) w).trans (by rw [decide_eq_true he])
          have hn := Lib.hid (show ¬ xs = ys from fun h => he (h ▸ rfl))
          clear he
          go_wp2
          go_quiet (fail)
          go_wp2
          go_ret
          exact ⟨by rw [decide_eq_false hn.out]; rfl, by first | exact ⟨_, rfl⟩ | exact drewN_drewN w n nq⟩
      · have hy := Lib.hid (show xs = ys from rd_ext HL.out fun j j0 hj => HA.out j j0 (by omega))
        have i1 : (xs.length : Int) ≤ (k : Int) := by omega
        go_wp2
        go_ret
        exact ⟨by rw [decide_eq_true hy.out]; rfl, n, rfl⟩
/-- The same state, but for sagas. -/
def SameK (s t : St) : Prop := SameP s t ∧ s.known = t.known
instance (s t : St) : Decidable (SameK s t) := by unfold SameK; infer_instance
theorem sameK_st (v u : Value) (s t : St) (w : World) (hv : StV w v s) (hu : StV w u t) : Calls Tryd.prog 28 #[v, u] w fun e w' => TellsB (SameK s t) w w' e := by
  obtain ⟨A1, c1, A2, c2, A3, c3, A4, c4, rfl, -, -, -, q4⟩ := hv.open
  obtain ⟨B1, d1, B2, d2, B3, d3, B4, d4, rfl, -, -, -, r4⟩ := hu.open
  have h0 := ((Env.nil w).alloc 36 [.slice A1 s.accs.length c1, .slice A2 s.pays.length c2, .slice A3 s.sagas.length c3, .slice A4 s.known.length c4, .int .i64 s.now]).alloc 36 [.slice B1 t.accs.length d1, .slice B2 t.pays.length d2, .slice B3 t.sagas.length d3, .slice B4 t.known.length d4, .int .i64 t.now]
  simp only [List.nil_append, List.cons_append, List.set_cons_zero, List.set_cons_succ, World.size_alloc] at h0
  have HS := Lib.hid (fun (W : World) (hW : Below w.heap.size w W) => same_st _ _ s t W (hv.below hW) (hu.below hW))
  have HK := Lib.hid (fun (W : World) (hW : Below w.heap.size w W) => same_kns (.slice A4 s.known.length c4) (.slice B4 t.known.length d4) s.known t.known W (q4.below hW) (r4.below hW))
  have HD : SameK s t ↔ SameP s t ∧ s.known = t.known := Iff.rfl
  clear q4 r4 hv hu
  have H0 := Lib.hid h0
  clear h0
  by_cases h1 : SameP s t
  · have H1 := Lib.hid (decide_eq_true h1)
    have HD2 := Lib.hid (show decide (SameK s t) = decide (s.known = t.known) by rw [Bool.eq_iff_iff]; simp [HD, h1])
    clear h1 HD
    go_enter Tryd.func28, Tryd.ntmps28
    go_wp2_with fail
    refine (HS.out _ H0.out.bel).mono ?_
    rintro e w1 ⟨rfl, hz⟩
    rw [H1.out]
    have h1 := H0.out.next hz
    have H2 := Lib.hid h1
    (have f1 := h1.facts; simp only [AllF, cellsF, gapF, Nat.zero_add, Nat.reduceAdd, and_true, true_and] at f1)
    clear h1 hz H0 HS
    go_wp2_with fail
    refine (HK.out _ H2.out.bel).mono ?_
    rintro e w2 ht
    have hb := ht.below
    obtain ⟨rfl, n, rfl⟩ := ht
    go_wp2
    go_ret
    exact ⟨by rw [HD2.out]; rfl, below_next H2.out.bel hb⟩
  · have H1 := Lib.hid (decide_eq_false h1)
    have HD2 := Lib.hid (show decide (SameK s t) = false from decide_eq_false fun h => h1 h.1)
    clear h1 HD
    go_enter Tryd.func28, Tryd.ntmps28
    go_wp2_with fail
    refine (HS.out _ H0.out.bel).mono ?_
    rintro e w1 ⟨rfl, hz⟩
    rw [H1.out]
    have h1 := H0.out.next hz
    have H2 := Lib.hid h1
    (have f1 := h1.facts; simp only [AllF, cellsF, gapF, Nat.zero_add, Nat.reduceAdd, and_true, true_and] at f1)
    clear h1 hz H0 HS
    go_wp2
    go_ret
    exact ⟨by rw [HD2.out]; rfl, H2.out.bel⟩
end Go.Proofs.YthjmficglpfgpaaDoor
namespace Go.Proofs.YthjmficglpfgpaaDoor
set_option linter.unusedVariables false
set_option linter.unusedSimpArgs false
open Go Go.RowKit Enc
set_option maxRecDepth 100000
set_option maxHeartbeats 3200000

def bw0 : St := stOf [] [500, 500, 500, 500] [] 0
def br : Req := ⟨1, 2, 9, 12, 5, 1, 0⟩
def bl : List Bool := [false, false, false, false, true]
def bw1 : St := (bankDo bw0 br bl).1
theorem br_ok : ReqOk br := by decide
theorem bw0_num : StNum bw0 := stOf_num [] [500, 500, 500, 500] [] 0 (by simp)
theorem StNum.ba {s : St} (h : StNum s) : BA s := ⟨h.ok, h.now.1, by rw [h.known]; simp [keysOf], by rw [h.known]; simp⟩
theorem bw_2 : (bankDo bw0 br bl).2 = (⟨9, 0⟩, 4) := by rfl
theorem bw_3 : bankDo bw1 br [] = (bw1, ⟨9, 0⟩, 0) := by
  have := (again_law (ls := bl) bw0_num.ba br_ok (by decide) (by decide)).2.2.1 []
  rw [bw_2] at this
  exact this
theorem bw_k : bw1.known.length = 1 := (bad_law (ls := bl) bw0_num br_ok).2.1
theorem bw_1 : bankDo bw0 br bl = (bw1, ⟨9, 0⟩, 4) := by
  have h := bw_2
  have : bankDo bw0 br bl = ((bankDo bw0 br bl).1, (bankDo bw0 br bl).2) := rfl
  rw [this, h]
  rfl
theorem bw1_ba : BA bw1 := (again_law (ls := bl) bw0_num.ba br_ok (by decide) (by decide)).1
theorem awake16 (w : World) (hT : GT w) : Calls Tryd.prog 26 #[] w fun e w' => e = .returned (.bool true) ∧ Below w.heap.size w w' := by
  have hq := eql_rep
  go_enter Tryd.func26, Tryd.ntmps26
  go_wp2_with fail
  have hrow : Row (w.alloc (.cells #[.int .u32 500, .int .u32 500, .int .u32 500, .int .u32 500] 112)) (.slice (some ⟨w.heap.size, 0, none⟩) 4 4) [U32.mk 500, U32.mk 500, U32.mk 500, U32.mk 500] := Row.lit w _ _ rfl _ 4 rfl (by decide)
  refine (state_any (.slice none 0 0) _ (.slice none 0 0) (.slice none 0 0) [] [U32.mk 500, U32.mk 500, U32.mk 500, U32.mk 500] [] [] 0 _ (Row.nil _) hrow (Row.nil _) (Row.nil _) (by simp) (by simp) (by simp) (by decide) ⟨_, _, _, rfl, Nat.le_refl _⟩).mono ?_
  rintro e w1 ⟨v, rfl, hv, hz⟩
  have hv0 : StV w1 v bw0 := hv
  clear hv
  obtain ⟨A1, c1, A2, c2, A3, c3, A4, c4, rfl, -⟩ := hv0.open
  have h1 := (Env.nil w).next (below_next (below_alloc (Below.refl _ _) _) hz)
  clear hz hrow
  go_wp2_with fail
  have h2 := ((h1.alloc 36 [.slice A1 bw0.accs.length c1, .slice A2 bw0.pays.length c2, .slice A3 bw0.sagas.length c3, .slice A4 bw0.known.length c4, .int .i64 bw0.now]).alloc 29 [.int .i64 1, .int .i64 2, .int .i64 9, .int .i64 12, .int .i64 5, .int .i64 1, .int .i64 0]).alloc 4 [.bool false, .bool false, .bool false, .bool false, .bool true]
  simp only [List.nil_append, List.cons_append, List.set_cons_zero, List.set_cons_succ, World.size_alloc] at h2
  have H2 := Lib.hid h2
  refine (bankDo_st bw0 _ br _ bl _ (hv0.below (below_alloc (below_alloc (below_alloc (Below.refl _ _) _) _) _)) (Own.of_blk (xs := bl) (B := 0) (H2.out.at 2 rfl) (Nat.zero_le _) rfl rfl (by decide) (by decide)).row (Nat.le_refl _) bw0_num.ok.good bw0_num.ok.pays (hT.below H2.out.bel) (by rw [bw0_num.known]; simp)).mono ?_
  rw [bw_1]
  rintro e w3 ⟨hz, v3, rfl, hv3⟩
  obtain ⟨B1, d1, B2, d2, B3, d3, B4, d4, rfl, -⟩ := hv3.open
  have h3 := H2.out.next hz
  have H3 := Lib.hid h3
  have HV3 := Lib.hid hv3
  (have f3 := h3.facts; simp only [AllF, cellsF, gapF, Nat.zero_add, Nat.reduceAdd, and_true, true_and] at f3)
  clear h3 hz h2 H2 hv3 h1 hv0
  go_wp2_with fail
  have h4 := (H3.out.alloc 36 [.slice B1 bw1.accs.length d1, .slice B2 bw1.pays.length d2, .slice B3 bw1.sagas.length d3, .slice B4 bw1.known.length d4, .int .i64 bw1.now]).alloc 40 [.int .i64 9, .int .i64 0]
  simp only [List.nil_append, List.cons_append, List.set_cons_zero, List.set_cons_succ, World.size_alloc] at h4
  have H4 := Lib.hid h4
  refine (bankDo_st bw1 _ br (.slice none 0 0) [] _ (HV3.out.below (below_alloc (below_alloc (Below.refl _ _) _) _)) (Row.nil _) (Nat.le_refl _) bw1_ba.ok.good bw1_ba.ok.pays (hT.below H4.out.bel) (by rw [bw_k]; decide)).mono ?_
  rw [bw_3]
  rintro e w5 ⟨hz, v5, rfl, hv5⟩
  obtain ⟨C1, k1, C2, k2, C3, k3, C4, k4, rfl, -⟩ := hv5.open
  have h5 := H4.out.next hz
  have H5 := Lib.hid h5
  clear f3
  (have f5 := h5.facts; simp only [AllF, cellsF, gapF, Nat.zero_add, Nat.reduceAdd, and_true, true_and] at f5)
  have hk : (bw1.known.length : Int) = 1 := by rw [bw_k]; rfl
  have hk2 : ((bw1.known.length : Int) == 1) = true := by rw [hk]; rfl
  have HK := Lib.hid hk
  clear h5 hz h4 H4 H3 hv5 HV3 hk
  go_wp2
  go_ret
  refine ⟨?_, ?_⟩
  · rfl
  · (repeat (first | (with_reducible refine below_drew ?_) | (with_reducible refine below_drewN ?_ _) | (with_reducible refine below_alloc ?_ _) | ((with_reducible refine Below.setCell ?_ ?_ _); rotate_left; (focus (first | (simp; done) | (simp; omega))))))
    exact H5.out.bel
end Go.Proofs.YthjmficglpfgpaaDoor
