/- Accounts that are right, and the entries that are made of them: in plain Lean. -/
import Derived.Test.YthjmficglpfgpaaDoorW4
namespace Go.Proofs.YthjmficglpfgpaaDoor
set_option linter.unusedVariables false
set_option linter.unusedSimpArgs false
open Go Go.RowKit Enc
set_option maxRecDepth 100000

/-- Accounts that may be. -/
structure Good (xs : List Acc) : Prop where
  len9 : 9 ≤ xs.length
  len64 : xs.length ≤ 64
  cur : ∀ k : Int, 0 ≤ k → k < xs.length → 0 ≤ (rd xs k).cur ∧ (rd xs k).cur < 3
  bal : ∀ k : Int, 0 ≤ k → k < xs.length → -1125899906842624 ≤ (rd xs k).bal ∧ (rd xs k).bal ≤ 1125899906842624
  house : ∀ k : Int, 0 ≤ k → k < 9 → (rd xs k).cur = k / 3 ∧ (rd xs k).held = 0
  client : ∀ k : Int, 9 ≤ k → k < xs.length → 0 ≤ (rd xs k).held ∧ (rd xs k).held ≤ (rd xs k).bal
theorem Good.curOk {xs : List Acc} (h : Good xs) : CurOk xs := h.cur
theorem Good.abs {xs : List Acc} (h : Good xs) : ABs xs := by
  refine ⟨by have := h.len64; omega, fun k h0 hk => ⟨h.bal k h0 hk, ?_⟩⟩
  have hb := h.bal k h0 hk
  by_cases h9 : k < 9
  · have := (h.house k h0 h9).2; omega
  · have := h.client k (by omega) hk; omega

theorem psum_bd (xs : List Acc) (c : Int) (M : Int) (hM : 0 ≤ M) : ∀ es : List Ent, (∀ e ∈ es, -M ≤ e.amt ∧ e.amt ≤ M) → -(es.length * M) ≤ psum xs c es ∧ psum xs c es ≤ es.length * M
  | [], _ => by simp [psum]
  | e :: es, h => by
    have h1 := psum_bd xs c M hM es fun x hx => h x (List.mem_cons_of_mem _ hx)
    have h2 := h e (List.mem_cons_self ..)
    have e1 : ((es.length + 1 : Nat) : Int) * M = es.length * M + M := by rw [Int.natCast_add, Int.add_mul]; simp
    simp only [psum, List.length_cons, e1]
    split <;> omega
theorem Bal.small {xs : List Acc} {es : List Ent} (hl : es.length ≤ 8) (hcur : CurOk xs) (h : ∀ e ∈ es, (0 ≤ e.acct ∧ e.acct < xs.length) ∧ -4398046511104 ≤ e.amt ∧ e.amt ≤ 4398046511104) (hz : ∀ c : Int, 0 ≤ c → c < 3 → psum xs c es = 0) : Bal xs es := by
  have hm : ∀ k : Nat, k < es.length → rd es k ∈ es := fun k hk => by rw [rd_nat es k hk]; exact List.getElem_mem hk
  refine ⟨fun k hk => (h _ (hm k hk)).1, fun k hk => by have := (h _ (hm k hk)).2; unfold mayP; omega, fun k hk => hcur _ (h _ (hm k hk)).1.1 (h _ (hm k hk)).1.2, fun c k h0 h3 hk => ?_, hz⟩
  have := psum_bd xs c 4398046511104 (by decide) (es.take k) fun e he => (h e (List.mem_of_mem_take he)).2
  have hl2 : ((es.take k).length : Int) ≤ 8 := by simp; omega
  unfold mayP
  omega
theorem psum_rev (xs : List Acc) (c : Int) : ∀ es : List Ent, psum xs c es.reverse = psum xs c es
  | [] => rfl
  | e :: es => by rw [List.reverse_cons, psum_append, psum_rev xs c es]; simp only [psum]; omega
theorem psum_neg (xs : List Acc) (c : Int) : ∀ es : List Ent, psum xs c (es.map neg) = - psum xs c es
  | [] => rfl
  | e :: es => by
    rw [List.map_cons]
    simp only [psum, psum_neg xs c es, neg]
    split <;> omega
theorem psum_back (xs : List Acc) (c : Int) (es : List Ent) : psum xs c (back es) = - psum xs c es := by
  unfold back
  first | rw [psum_rev, psum_neg] | rw [psum_neg, psum_rev] | simp [psum_rev, psum_neg]

/-- What the entries of a move are. -/
structure MoveOk (xs : List Acc) (frm to n : Int) (es : List Ent) : Prop where
  len : 2 ≤ es.length ∧ es.length ≤ 4
  all : ∀ e ∈ es, (0 ≤ e.acct ∧ e.acct < xs.length) ∧ -1099511627776 ≤ e.amt ∧ e.amt ≤ 1099511627776
  zero : ∀ c : Int, psum xs c es = 0
  head : rd es 0 = ⟨frm, -n⟩
  last : (rd (back es) 0).acct = to ∧ -1099511627776 ≤ (rd (back es) 0).amt ∧ (rd (back es) 0).amt < 0
theorem move_moveOk {xs : List Acc} {frm to n : Int} {es : List Ent} (hG : Good xs) (h : move xs frm to n = .ok es) : MoveOk xs frm to n es := by
  have h9 := hG.len9
  unfold move at h
  split at h
  · cases h
  rename_i h1
  split at h
  · cases h
  rename_i h2
  split at h
  · cases h
  rename_i h3
  have hn : 1 ≤ n ∧ n ≤ 1099511627776 := by
    rcases Decidable.em (1 ≤ n ∧ n ≤ 1099511627776) with h | h
    · exact h
    · exact absurd (.inr h) h3
  have h1' : 0 ≤ frm ∧ frm < xs.length := Decidable.not_not.1 h1
  have h2' : 0 ≤ to ∧ to < xs.length := Decidable.not_not.1 h2
  split at h
  · rename_i hc
    injection h with h
    subst h
    refine ⟨by simp, ?_, fun c => ?_, rfl, ?_⟩
    · simp only [List.mem_cons, List.not_mem_nil, or_false]
      rintro e (rfl | rfl)
      · exact ⟨h1', by simp; omega⟩
      · exact ⟨h2', by simp; omega⟩
    · simp only [psum, hc]
      split <;> omega
    · simp [back, neg, rd]; omega
  rename_i hc
  split at h
  · cases h
  rename_i h5
  split at h
  · cases h
  rename_i h6
  injection h with h
  subst h
  obtain ⟨a0, a3⟩ := hG.cur frm h1'.1 h1'.2
  obtain ⟨b0, b3⟩ := hG.cur to h2'.1 h2'.2
  have hq : n * (rate (rd xs frm).cur (rd xs to).cur).1 / (rate (rd xs frm).cur (rd xs to).cur).2 ≤ 1099511627776 := by simpa using h5
  obtain ⟨⟨r1, r2⟩, r3, r4⟩ := rate_bd (rd xs frm).cur (rd xs to).cur
  have hx0 : 0 ≤ n * (rate (rd xs frm).cur (rd xs to).cur).1 := Int.mul_nonneg (by omega) (by omega)
  have hq0 : 0 ≤ n * (rate (rd xs frm).cur (rd xs to).cur).1 / (rate (rd xs frm).cur (rd xs to).cur).2 := Int.ediv_nonneg hx0 (by omega)
  generalize n * (rate (rd xs frm).cur (rd xs to).cur).1 / (rate (rd xs frm).cur (rd xs to).cur).2 = q at *
  have e1 := (hG.house (3 * (rd xs frm).cur + 1) (by omega) (by omega)).1
  have e2 := (hG.house (3 * (rd xs to).cur + 1) (by omega) (by omega)).1
  generalize hA : (rd xs frm).cur = a at *
  generalize hB : (rd xs to).cur = b at *
  refine ⟨by simp, ?_, fun c => ?_, rfl, ?_⟩
  · simp only [List.mem_cons, List.not_mem_nil, or_false]
    rintro e (rfl | rfl | rfl | rfl)
    · exact ⟨h1', by simp; omega⟩
    · exact ⟨by simp; omega, by simp; omega⟩
    · exact ⟨by simp; omega, by simp; omega⟩
    · exact ⟨h2', by simp; omega⟩
  · simp only [psum, hA, hB, e1, e2]
    have x1 : (3 * a + 1) / 3 = a := by omega
    have x2 : (3 * b + 1) / 3 = b := by omega
    rw [x1, x2]
    (repeat' split) <;> omega
  · simp [back, neg, rd]; omega
theorem MoveOk.bal {xs : List Acc} {frm to n : Int} {es : List Ent} (hG : Good xs) (h : MoveOk xs frm to n es) : Bal xs es :=
  Bal.small (by have := h.len; omega) hG.cur (fun e he => ⟨(h.all e he).1, by have := (h.all e he).2; omega⟩) fun c _ _ => h.zero c
theorem mem_back {es : List Ent} {e : Ent} (h : e ∈ back es) : ∃ x ∈ es, e = neg x := by
  unfold back at h
  simp only [List.mem_reverse, List.mem_map] at h
  obtain ⟨x, hx, rfl⟩ := h
  exact ⟨x, hx, rfl⟩
theorem back_len (es : List Ent) : (back es).length = es.length := by simp [back]
theorem MoveOk.backs {xs : List Acc} {frm to n : Int} {es : List Ent} (h : MoveOk xs frm to n es) : ∀ e ∈ back es, (0 ≤ e.acct ∧ e.acct < xs.length) ∧ -1099511627776 ≤ e.amt ∧ e.amt ≤ 1099511627776 := by
  intro e he
  obtain ⟨x, hx, rfl⟩ := mem_back he
  obtain ⟨h1, h2⟩ := h.all x hx
  exact ⟨h1, by simp [neg]; omega⟩
theorem MoveOk.backBal {xs : List Acc} {frm to n : Int} {es : List Ent} (hG : Good xs) (h : MoveOk xs frm to n es) : Bal xs (back es) :=
  Bal.small (by rw [back_len]; have := h.len; omega) hG.cur (fun e he => ⟨(h.backs e he).1, by have := (h.backs e he).2; omega⟩) fun c _ _ => by rw [psum_back, h.zero c]; rfl
/-- What a charge makes of the entries, where the seller lacks l. -/
def lossy (xs : List Acc) (to l : Int) (es : List Ent) : List Ent := es.set 0 { rd es 0 with amt := (rd es 0).amt + l } ++ [⟨3 * (rd xs to).cur + 2, -l⟩]
theorem lossy_bal {xs : List Acc} {frm to n l : Int} {es : List Ent} (hG : Good xs) (h : MoveOk xs frm to n es) (h2 : 0 ≤ to ∧ to < xs.length) (hl : -1125899906842624 ≤ l ∧ l ≤ 1099511627776) (hl0 : 0 ≤ l) : Bal xs (lossy xs to l (back es)) := by
  obtain ⟨b0, b3⟩ := hG.cur to h2.1 h2.2
  have h9 := hG.len9
  have e2 := (hG.house (3 * (rd xs to).cur + 2) (by omega) (by omega)).1
  have hb := h.backs
  have hz : ∀ c, psum xs c (back es) = 0 := fun c => by rw [psum_back, h.zero c]; rfl
  have hlen : (back es).length ≤ 4 := by rw [back_len]; exact h.len.2
  have hlen2 : 2 ≤ (back es).length := by rw [back_len]; exact h.len.1
  have hla := h.last
  generalize back es = fs at *
  cases fs with
  | nil => simp at hlen2
  | cons f fs =>
    have hf : rd (f :: fs) 0 = f := rfl
    rw [hf] at hla
    unfold lossy
    rw [hf, List.set_cons_zero]
    obtain ⟨hla1, hla2⟩ := hla
    refine Bal.small (by simp at hlen ⊢; omega) hG.cur ?_ fun c _ _ => ?_
    · intro e he
      simp only [List.cons_append, List.mem_cons, List.mem_append, List.not_mem_nil, or_false] at he
      rcases he with rfl | he | rfl
      · exact ⟨by simp only [hla1]; exact h2, by simp only; omega⟩
      · have := hb e (List.mem_cons_of_mem _ he); exact ⟨this.1, by omega⟩
      · exact ⟨by simp only; omega, by simp only; omega⟩
    · have := hz c
      rw [psum_append]
      simp only [psum, hla1] at this ⊢
      rw [e2]
      have x2 : (3 * (rd xs to).cur + 2) / 3 = (rd xs to).cur := by omega
      rw [x2]
      split <;> simp_all <;> omega

theorem Bal.congr {xs ys : List Acc} {es : List Ent} (h : Bal xs es) (hl : ys.length = xs.length) (hc : ∀ k : Int, 0 ≤ k → k < xs.length → (rd ys k).cur = (rd xs k).cur) : Bal ys es := by
  have hs : ∀ (c : Int) (fs : List Ent), (∀ e ∈ fs, 0 ≤ e.acct ∧ e.acct < xs.length) → psum ys c fs = psum xs c fs := by
    intro c fs
    induction fs with
    | nil => intro _; rfl
    | cons f fs ih =>
      intro hf
      have h1 := hf f (List.mem_cons_self ..)
      simp only [psum, ih fun e he => hf e (List.mem_cons_of_mem _ he), hc f.acct h1.1 h1.2]
  have ha : ∀ e ∈ es, 0 ≤ e.acct ∧ e.acct < xs.length := fun e he => by
    obtain ⟨k, hk, rfl⟩ := List.getElem_of_mem he
    have := h.acct k hk
    rwa [rd_nat es k hk] at this
  refine ⟨fun k hk => by rw [hl]; exact h.acct k hk, h.amt, fun k hk => by rw [hc _ (h.acct k hk).1 (h.acct k hk).2]; exact h.cur k hk, fun c k h0 h3 hk => ?_, fun c h0 h3 => by rw [hs c es ha]; exact h.zero c h0 h3⟩
  rw [hs c _ fun e he => ha e (List.mem_of_mem_take he)]
  exact h.sums c k h0 h3 hk
theorem release_ok {xs ys : List Acc} {k n : Int} (hA : ABs xs) (h : release xs k n = .ok ys) : ABs ys ∧ ys.length = xs.length ∧ ∀ j : Int, 0 ≤ j → j < xs.length → (rd ys j).cur = (rd xs j).cur := by
  unfold release at h
  split at h
  · cases h
  rename_i h1
  have h1' : 9 ≤ k ∧ k < xs.length := Decidable.not_not.1 h1
  split at h
  · cases h
  rename_i h2
  split at h
  · cases h
  rename_i h3
  injection h with h
  subst h
  have := hA.2 k (by omega) h1'.2
  refine ⟨hA.upd (by omega) ⟨this.1, ?_⟩, upd_len _ _ _, fun j h0 hj => ?_⟩
  · have := this.2
    simp only
    omega
  · rw [rd_upd xs k j _ h0 hj (by omega)]
    split
    · rename_i hjk; subst hjk; rfl
    · rfl
/-- Letting an amount go that was held, and doing entries. -/
def spend (xs : List Acc) (n : Int) (es : List Ent) : Except Int (List Acc) := if es.length = 0 then .error 13 else (release xs (rd es 0).acct n).bind fun ys => post ys es
end Go.Proofs.YthjmficglpfgpaaDoor
