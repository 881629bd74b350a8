/- What is charged back: in plain Lean. -/
import Derived.Test.YthjmficglpfgpaaDoorPlain4
namespace Go.Proofs.YthjmficglpfgpaaDoor
set_option linter.unusedVariables false
set_option linter.unusedSimpArgs false
open Go Go.RowKit Enc
set_option maxRecDepth 100000

theorem asum_reverse (j : Int) (es : List Ent) : asum j es.reverse = asum j es := by
  induction es with
  | nil => rfl
  | cons e es ih => rw [List.reverse_cons, asum_append, ih]; simp only [asum]; omega
theorem asum_neg (j : Int) (es : List Ent) : asum j (es.map neg) = - asum j es := by
  induction es with
  | nil => rfl
  | cons e es ih =>
    rw [List.map_cons]
    simp only [asum, ih, neg]
    split <;> omega
theorem asum_back (j : Int) (es : List Ent) : asum j (back es) = - asum j es := by
  unfold back
  rw [asum_reverse, asum_neg]
theorem asum_lossy (xs : List Acc) (to l j : Int) (es : List Ent) (h : 0 < es.length) : asum j (lossy xs to l es) = asum j es + (if (rd es 0).acct = j then l else 0) + (if 3 * (rd xs to).cur + 2 = j then -l else 0) := by
  cases es with
  | nil => simp at h
  | cons e es =>
    unfold lossy
    rw [show rd (e :: es) 0 = e from rfl, List.set_cons_zero, asum_append]
    simp only [asum]
    split <;> split <;> omega
theorem move_asum {xs : List Acc} {a b n : Int} {es : List Ent} (hG : Good xs) (ha : 9 ≤ a) (h : move xs a b n = .ok es) : asum a es = -n := by
  have hs := move_same h
  unfold move at h
  split at h
  · cases h
  split at h
  · cases h
  split at h
  · cases h
  split at h
  · injection h with h
    subst h
    simp only [asum]
    rw [if_pos trivial, if_neg (Ne.symm hs.1)]
    omega
  split at h
  · cases h
  split at h
  · cases h
  injection h with h
  subst h
  obtain ⟨a0, a3⟩ := hG.cur a hs.2.2.2.1.1 hs.2.2.2.1.2
  obtain ⟨b0, b3⟩ := hG.cur b hs.2.2.2.2.1 hs.2.2.2.2.2
  simp only [asum]
  rw [if_pos trivial, if_neg (by omega), if_neg (by omega), if_neg (Ne.symm hs.1)]
  omega
theorem move_near {xs : List Acc} {a b n : Int} (ha : 0 ≤ a ∧ a < xs.length) (hb : 0 ≤ b ∧ b < xs.length) (hne : a ≠ b) (hn : 1 ≤ n ∧ n ≤ 1099511627776) (hc : (rd xs a).cur = (rd xs b).cur) : move xs a b n = .ok [⟨a, -n⟩, ⟨b, n⟩] := by
  unfold move
  rw [if_neg (by omega), if_neg (by omega), if_neg (by omega), if_pos hc]
/-- Small balances take small entries. -/
theorem fold_small (N : Int) (hN : 0 ≤ N) : ∀ (es : List Ent) (xs : List Acc) (M : Int), (∀ j : Int, 0 ≤ j → j < xs.length → -M ≤ (rd xs j).bal ∧ (rd xs j).bal ≤ M) → (∀ e ∈ es, (0 ≤ e.acct ∧ e.acct < xs.length) ∧ -N ≤ e.amt ∧ e.amt ≤ N) → M + es.length * N ≤ 1125899906842624 → ∃ ys, es.foldlM post1 xs = .ok ys
  | [], xs, M, _, _, _ => ⟨xs, rfl⟩
  | e :: es, xs, M, hb, ha, hM => by
    obtain ⟨⟨a0, a1⟩, n0, n1⟩ := ha e (List.mem_cons_self ..)
    have hbe := hb e.acct a0 a1
    have e1 : ((es.length + 1 : Nat) : Int) * N = es.length * N + N := by rw [Int.natCast_add, Int.add_mul]; simp
    have e2 : 0 ≤ (es.length : Int) * N := Int.mul_nonneg (by omega) hN
    simp only [List.length_cons, e1] at hM
    have hm : mayP ((rd xs e.acct).bal + e.amt) := by unfold mayP; omega
    have h1 : post1 xs e = .ok (upd xs e.acct { rd xs e.acct with bal := (rd xs e.acct).bal + e.amt }) := by unfold post1; rw [if_pos hm]
    have hrd := fun (j : Int) (h0 : 0 ≤ j) (hj : j < xs.length) => rd_upd xs e.acct j { rd xs e.acct with bal := (rd xs e.acct).bal + e.amt } h0 hj a0
    have hl := upd_len xs e.acct { rd xs e.acct with bal := (rd xs e.acct).bal + e.amt }
    rw [List.foldlM_cons, h1]
    refine fold_small N hN es _ (M + N) (fun j j0 hj => ?_) (fun x hx => ?_) (by omega)
    · rw [hrd j j0 (by omega)]
      split
      · simp only; omega
      · have := hb j j0 (by omega); omega
    · rw [hl]; exact ha x (List.mem_cons_of_mem _ hx)
theorem solv_mk {xs : List Acc} (h : ∀ k : Int, 9 ≤ k → k < xs.length → (rd xs k).held ≤ (rd xs k).bal) : solvB xs = true := by
  unfold solvB
  rw [List.all_eq_true]
  intro k hk
  have hk := List.mem_range.1 hk
  simp only [Bool.or_eq_true, decide_eq_true_eq]
  by_cases h9 : k < 9
  · exact .inl h9
  · exact .inr (h k (by omega) (by omega))
theorem post_mk {xs ys : List Acc} {es : List Ent} (h : es.foldlM post1 xs = .ok ys) (hs : solvB ys = true) : post xs es = .ok ys := by
  unfold post
  rw [h]
  simp only
  rw [if_pos hs]
theorem rd_pair (a b : Ent) : rd [a, b] 0 = a := rfl
theorem back_pair (a b n m : Int) : back [⟨a, n⟩, ⟨b, m⟩] = [⟨b, -m⟩, ⟨a, -n⟩] := by simp [back, neg]
/-- A charge between accounts of one currency comes through. -/
theorem charge_near {xs : List Acc} {p : Pay} {n : Int} (hG : Good xs) (hb : ∀ j : Int, 0 ≤ j → j < xs.length → -1000000 ≤ (rd xs j).bal ∧ (rd xs j).bal ≤ 1000000) (hf : 9 ≤ p.frm ∧ p.frm < xs.length) (ht : 9 ≤ p.to ∧ p.to < xs.length) (hne : p.frm ≠ p.to)
    (hn : 1 ≤ n ∧ n ≤ 1000) (hc : (rd xs p.frm).cur = (rd xs p.to).cur) : ∃ ys, chargeF xs n p = .ok ys := by
  have hm := move_near (xs := xs) (a := p.frm) (b := p.to) (n := n) ⟨by omega, hf.2⟩ ⟨by omega, ht.2⟩ hne (by omega) hc
  have hbk : backE xs p n = .ok [⟨p.to, -n⟩, ⟨p.frm, n⟩] := by
    unfold backE
    rw [hm]
    show Except.ok (back _) = _
    rw [back_pair]
    simp
  have hB := chgEs_bal hG ht hbk
  have hcl := hG.client p.to ht.1 ht.2
  obtain ⟨c0, c3⟩ := hG.cur p.to (by omega) ht.2
  have h9 := hG.len9
  have hla : lacks xs p [⟨p.to, -n⟩, ⟨p.frm, n⟩] = n - ((rd xs p.to).bal - (rd xs p.to).held) := by
    unfold lacks
    rw [rd_pair]
    simp only
    omega
  have hes : ∀ e ∈ chgEs xs p [⟨p.to, -n⟩, ⟨p.frm, n⟩], (0 ≤ e.acct ∧ e.acct < xs.length) ∧ -1000 ≤ e.amt ∧ e.amt ≤ 1000 := by
    intro e he
    refine ⟨hB.mem e he, ?_⟩
    unfold chgEs at he
    rw [hla] at he
    split at he
    · unfold lossy at he
      rw [rd_pair, List.set_cons_zero] at he
      simp only [List.cons_append, List.nil_append, List.mem_cons, List.not_mem_nil, or_false] at he
      rcases he with rfl | rfl | rfl <;> simp only <;> omega
    · simp only [List.mem_cons, List.not_mem_nil, or_false] at he
      rcases he with rfl | rfl <;> simp only <;> omega
  have hlen : (chgEs xs p [⟨p.to, -n⟩, ⟨p.frm, n⟩]).length ≤ 3 := by
    unfold chgEs lossy
    split <;> simp
  obtain ⟨ys, hys⟩ := fold_small 1000 (by decide) _ xs 1000000 hb hes (by omega)
  have hmv := fold_moved _ xs ys hys hB.mem
  have hl := hmv.len
  refine ⟨ys, ?_⟩
  unfold chargeF
  rw [hbk]
  refine post_mk hys (solv_mk fun k k9 hk => ?_)
  rw [hmv.held k (by omega) (by omega), hmv.bal k (by omega) (by omega)]
  have hk := hG.client k k9 (by omega)
  have has : asum k (chgEs xs p [⟨p.to, -n⟩, ⟨p.frm, n⟩]) = (if p.to = k then -n else 0) + (if p.frm = k then n else 0) + (if 0 < n - ((rd xs p.to).bal - (rd xs p.to).held) ∧ p.to = k then n - ((rd xs p.to).bal - (rd xs p.to).held) else 0) := by
    unfold chgEs
    rw [hla]
    split
    · rename_i hpos
      rw [asum_lossy _ _ _ _ _ (by simp), rd_pair]
      simp only [asum]
      rw [if_neg (show ¬ 3 * (rd xs p.to).cur + 2 = k by omega)]
      by_cases e : p.to = k
      · simp only [e, if_true, and_true]
        rw [e] at hpos
        rw [if_pos hpos]
        split <;> omega
      · simp only [e, if_false, and_false]
        split <;> omega
    · rename_i hpos
      simp only [asum]
      rw [if_neg (show ¬(0 < n - ((rd xs p.to).bal - (rd xs p.to).held) ∧ p.to = k) from fun h => hpos h.1)]
      split <;> split <;> omega
  rw [has]
  by_cases e : p.to = k
  · subst e
    rw [if_pos rfl, if_neg hne]
    split <;> omega
  · rw [if_neg e, if_neg (show ¬(_ ∧ p.to = k) from fun h => e h.2)]
    split <;> omega
/-- What the law of charges asks. -/
theorem charge_law {s : St} (h : StNum s) {i n : Int} (h0 : 0 ≤ i) (hi : i < s.pays.length) (hn : 0 ≤ n ∧ n < 256) :
    (∃ c, c ≠ 0 ∧ opsDo s ⟨0, 7, i, 0, 1 + n, 0, 0⟩ = (s, ⟨c, 0⟩) ∧ (gave (rd s.pays i) < 1 + n ∨ (rd s.accs (rd s.pays i).frm).cur ≠ (rd s.accs (rd s.pays i).to).cur)) ∨
    (∃ t, opsDo s ⟨0, 7, i, 0, 1 + n, 0, 0⟩ = (t, ⟨0, 0⟩) ∧ Ok (fun _ => 0) t.accs t.pays ∧ t.accs.length = s.accs.length ∧ t.pays.length = s.pays.length ∧ (rd t.accs (rd s.pays i).frm).bal = (rd s.accs (rd s.pays i).frm).bal + 1 + n ∧ (rd t.pays i).chgd = (rd s.pays i).chgd + 1 + n) := by
  obtain ⟨p, hp⟩ : ∃ p, rd s.pays i = p := ⟨_, rfl⟩
  have hpk := h.ok.pays.2 i h0 hi
  have hap := h.ok.apart i h0 hi
  have hop := h.ok.open_ i h0 hi
  have hG := h.ok.good
  rw [hp] at hpk hap hop ⊢
  have hR : opsR s.now s.accs s.pays ⟨0, 7, i, 0, 1 + n, 0, 0⟩ = deskPay (chargeF s.accs (1 + n)) s.pays ⟨0, 7, i, 0, 1 + n, 0, 0⟩ := by
    simp [opsR]
  cases hr : opsR s.now s.accs s.pays ⟨0, 7, i, 0, 1 + n, 0, 0⟩ with
  | error c =>
    obtain ⟨he, hc⟩ := opsDo_err hr
    refine .inl ⟨c, by omega, he, ?_⟩
    by_cases hg : gave p < 1 + n
    · exact .inl hg
    · refine .inr fun hcur => ?_
      have hpd : payDo p 7 (1 + n) = .ok { p with chgd := p.chgd + (1 + n) } := by
        unfold payDo
        rw [if_neg (by omega), if_neg (by omega), if_neg (by omega), if_neg (by omega), if_neg (by omega), if_pos (by omega)]
      have hl := h.len
      obtain ⟨ys, hys⟩ := charge_near (n := 1 + n) hG (fun j j0 hj => by
        by_cases h9 : j < 9
        · have := h.houseBal j j0 h9; omega
        · have := h.clientBal j (by omega) hj; omega) hpk.2.1 hpk.2.2 hap (by omega) hcur
      rw [hR] at hr
      unfold deskPay at hr
      rw [if_neg (by simp only; omega)] at hr
      simp only at hr
      rw [hp, hpd] at hr
      simp only at hr
      rw [hys] at hr
      cases hr
  | ok t =>
    obtain ⟨ys, qs, id⟩ := t
    have hok := ops_ok h.ok h.now.1 (r := ⟨0, 7, i, 0, 1 + n, 0, 0⟩) ⟨fun h => by simp at h, fun h => by simp at h⟩ hr
    have hd := opsDo_yes hr
    rw [hR] at hr
    obtain ⟨⟨a0, a1⟩, rfl, q, hq, hy, rfl⟩ := deskPay_ok hr
    simp only at a0 a1 hq hy
    rw [hp] at hq hy
    have hdn := payDo_done hpk.1 hop hq
    refine .inr ⟨_, hd, hok.1, ?_, by simp, ?_, ?_⟩
    · simp only
      unfold chargeF at hy
      cases hb : backE s.accs p (1 + n) with
      | error c => rw [hb] at hy; cases hy
      | ok es =>
        rw [hb] at hy
        exact (post_moved hy (chgEs_bal hG hpk.2.2 hb)).len
    · simp only
      unfold chargeF at hy
      cases hb : backE s.accs p (1 + n) with
      | error c => rw [hb] at hy; cases hy
      | ok es =>
        rw [hb] at hy
        simp only at hy
        have hmv := post_moved hy (chgEs_bal hG hpk.2.2 hb)
        rw [hmv.bal p.frm (by omega) hpk.2.1.2]
        have hh := back_head hG hb
        obtain ⟨fs, hf, rfl⟩ := backE_ok hb
        have hcu := hG.cur p.to (by omega) hpk.2.2.2
        have hb1 : asum p.frm (back fs) = 1 + n := by rw [asum_back, move_asum hG hpk.2.1.1 hf]; omega
        have : asum p.frm (chgEs s.accs p (back fs)) = 1 + n := by
          unfold chgEs
          split
          · rw [asum_lossy _ _ _ _ _ hh.1.1, hb1, hh.2.1, if_neg (Ne.symm hap), if_neg (by omega)]
            omega
          · exact hb1
        rw [this]
        omega
    · simp only
      have := rd_set s.pays i.toNat i q h0 hi
      rw [if_pos (by omega)] at this
      rw [this, (hdn.chg rfl).2.1]
      simp only
      omega
end Go.Proofs.YthjmficglpfgpaaDoor
