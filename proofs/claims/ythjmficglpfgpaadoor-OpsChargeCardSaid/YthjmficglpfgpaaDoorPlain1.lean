/- What is done to accounts, and what stays right: in plain Lean. -/
import Derived.Test.YthjmficglpfgpaaDoorGood
import Derived.Test.YthjmficglpfgpaaDoorW5
namespace Go.Proofs.YthjmficglpfgpaaDoor
set_option linter.unusedVariables false
set_option linter.unusedSimpArgs false
open Go Go.RowKit Enc
set_option maxRecDepth 100000

/-! ### Lists by number -/
section
variable {α : Type} [Inhabited α]
theorem rd_set (xs : List α) (k : Nat) (j : Int) (x : α) (h0 : 0 ≤ j) (hj : j < xs.length) : rd (xs.set k x) j = if j = k then x else rd xs j := by
  unfold rd
  by_cases h : j = k
  · subst h
    rw [if_pos rfl, List.getD_eq_getElem?_getD, Int.toNat_natCast, List.getElem?_set_self (by omega)]
    rfl
  · rw [if_neg h, List.getD_eq_getElem?_getD, List.getElem?_set_ne (by omega), List.getD_eq_getElem?_getD]
theorem rd_left (xs ys : List α) (j : Int) (h0 : 0 ≤ j) (hj : j < xs.length) : rd (xs ++ ys) j = rd xs j := by
  unfold rd
  rw [List.getD_eq_getElem?_getD, List.getD_eq_getElem?_getD, List.getElem?_append_left (by omega)]
theorem rd_snoc (xs : List α) (x : α) : rd (xs ++ [x]) (xs.length : Int) = x := by
  unfold rd
  rw [List.getD_eq_getElem?_getD, Int.toNat_natCast, List.getElem?_append_right (Nat.le_refl _)]
  simp
theorem rd_out (xs : List α) (j : Int) (h0 : 0 ≤ j) (h : (xs.length : Int) ≤ j) : rd xs j = default := by
  unfold rd
  rw [List.getD_eq_getElem?_getD, List.getElem?_eq_none (by omega)]
  rfl
theorem rd_zero (x : α) (xs : List α) : rd (x :: xs) 0 = x := rfl
theorem rd_succ (x : α) (xs : List α) (j : Int) (h : 0 ≤ j) : rd (x :: xs) (j + 1) = rd xs j := by
  unfold rd
  rw [show (j + 1).toNat = j.toNat + 1 by omega]
  rfl
theorem mem_rd {xs : List α} {x : α} (h : x ∈ xs) : ∃ k : Int, 0 ≤ k ∧ k < xs.length ∧ rd xs k = x := by
  obtain ⟨k, hk, rfl⟩ := List.getElem_of_mem h
  exact ⟨k, by omega, by omega, rd_nat xs k hk⟩
theorem rd_mem (xs : List α) (k : Int) (h0 : 0 ≤ k) (hk : k < xs.length) : rd xs k ∈ xs := by
  obtain ⟨n, rfl⟩ := Int.eq_ofNat_of_zero_le h0
  rw [rd_nat xs n (by omega)]
  exact List.getElem_mem _
theorem rd_ext {xs ys : List α} (hl : xs.length = ys.length) (h : ∀ k : Int, 0 ≤ k → k < xs.length → rd xs k = rd ys k) : xs = ys := by
  refine List.ext_getElem hl fun k h1 h2 => ?_
  have := h k (by omega) (by omega)
  rwa [rd_nat xs k h1, rd_nat ys k h2] at this
end

/-! ### Sums -/
/-- What accounts of a currency have together. -/
def csum (c : Int) : List Acc → Int
  | [] => 0
  | a :: xs => (if a.cur = c then a.bal else 0) + csum c xs
theorem csum_append (c : Int) (xs ys : List Acc) : csum c (xs ++ ys) = csum c xs + csum c ys := by
  induction xs with
  | nil => simp [csum]
  | cons a xs ih => simp only [List.cons_append, csum, ih]; omega
theorem csum_set (c : Int) : ∀ (xs : List Acc) (k : Nat) (x : Acc) (h : k < xs.length), x.cur = (xs[k]).cur → csum c (xs.set k x) = csum c xs + (if (xs[k]).cur = c then x.bal - (xs[k]).bal else 0)
  | [], k, x, h, _ => by simp at h
  | a :: xs, 0, x, h, hc => by
    simp only [List.set_cons_zero, csum, List.getElem_cons_zero] at hc ⊢
    rw [hc]
    split <;> omega
  | a :: xs, k + 1, x, h, hc => by
    have hk : k < xs.length := by simpa using h
    have := csum_set c xs k x hk (by simpa using hc)
    simp only [List.set_cons_succ, csum, List.getElem_cons_succ, this]
    omega
theorem csum_upd (c : Int) {xs : List Acc} {k : Int} (h0 : 0 ≤ k) (hk : k < xs.length) {x : Acc} (hc : x.cur = (rd xs k).cur) : csum c (upd xs k x) = csum c xs + (if (rd xs k).cur = c then x.bal - (rd xs k).bal else 0) := by
  obtain ⟨n, rfl⟩ := Int.eq_ofNat_of_zero_le h0
  have hn : n < xs.length := by omega
  rw [rd_nat xs n hn] at hc ⊢
  unfold upd
  rw [Int.toNat_natCast]
  exact csum_set c xs n x hn hc
/-- What entries bring to an account. -/
def asum (j : Int) : List Ent → Int
  | [] => 0
  | e :: es => (if e.acct = j then e.amt else 0) + asum j es
theorem asum_append (j : Int) (es fs : List Ent) : asum j (es ++ fs) = asum j es + asum j fs := by
  induction es with
  | nil => simp [asum]
  | cons e es ih => simp only [List.cons_append, asum, ih]; omega
theorem psum_congr {xs ys : List Acc} (c : Int) (es : List Ent) (h : ∀ e ∈ es, (rd ys e.acct).cur = (rd xs e.acct).cur) : psum ys c es = psum xs c es := by
  induction es with
  | nil => rfl
  | cons e es ih =>
    simp only [psum, ih fun x hx => h x (List.mem_cons_of_mem _ hx), h e (List.mem_cons_self ..)]

/-- What entries make of accounts. -/
structure Moved (xs ys : List Acc) (es : List Ent) : Prop where
  len : ys.length = xs.length
  cur : ∀ j : Int, 0 ≤ j → j < xs.length → (rd ys j).cur = (rd xs j).cur
  held : ∀ j : Int, 0 ≤ j → j < xs.length → (rd ys j).held = (rd xs j).held
  bal : ∀ j : Int, 0 ≤ j → j < xs.length → (rd ys j).bal = (rd xs j).bal + asum j es
  may : ∀ j : Int, 0 ≤ j → j < xs.length → mayP (rd xs j).bal → mayP (rd ys j).bal
  sums : ∀ c, csum c ys = csum c xs + psum xs c es
theorem fold_moved : ∀ (es : List Ent) (xs ys : List Acc), es.foldlM post1 xs = .ok ys → (∀ e ∈ es, 0 ≤ e.acct ∧ e.acct < xs.length) → Moved xs ys es
  | [], xs, ys, h, _ => by
    have h : Except.ok xs = Except.ok ys := h
    injection h with h
    subst h
    exact ⟨rfl, fun _ _ _ => rfl, fun _ _ _ => rfl, fun _ _ _ => by simp [asum], fun _ _ _ h => h, fun c => by simp [psum]⟩
  | e :: es, xs, ys, h, ha => by
    obtain ⟨a0, a1⟩ := ha e (List.mem_cons_self ..)
    rw [List.foldlM_cons] at h
    by_cases hm : mayP ((rd xs e.acct).bal + e.amt)
    · have h1 : post1 xs e = .ok (upd xs e.acct { rd xs e.acct with bal := (rd xs e.acct).bal + e.amt }) := by unfold post1; rw [if_pos hm]
      rw [h1] at h
      have h : es.foldlM post1 (upd xs e.acct { rd xs e.acct with bal := (rd xs e.acct).bal + e.amt }) = .ok ys := h
      have hrd := fun (j : Int) (h0 : 0 ≤ j) (hj : j < xs.length) => rd_upd xs e.acct j { rd xs e.acct with bal := (rd xs e.acct).bal + e.amt } h0 hj a0
      have hcs := fun c => csum_upd c a0 a1 (x := { rd xs e.acct with bal := (rd xs e.acct).bal + e.amt }) rfl
      have hl := upd_len xs e.acct { rd xs e.acct with bal := (rd xs e.acct).bal + e.amt }
      generalize upd xs e.acct { rd xs e.acct with bal := (rd xs e.acct).bal + e.amt } = zs at *
      have ih := fold_moved es zs ys h fun x hx => by rw [hl]; exact ha x (List.mem_cons_of_mem _ hx)
      have hcur : ∀ j : Int, 0 ≤ j → j < xs.length → (rd zs j).cur = (rd xs j).cur := fun j h0 hj => by
        rw [hrd j h0 hj]
        split
        · rename_i e1; subst e1; rfl
        · rfl
      refine ⟨ih.len.trans hl, fun j h0 hj => (ih.cur j h0 (by omega)).trans (hcur j h0 hj), fun j h0 hj => ?_, fun j h0 hj => ?_, fun j h0 hj hp => ?_, fun c => ?_⟩
      · rw [ih.held j h0 (by omega), hrd j h0 hj]
        split
        · rename_i e1; subst e1; rfl
        · rfl
      · rw [ih.bal j h0 (by omega), hrd j h0 hj]
        simp only [asum]
        by_cases e1 : j = e.acct
        · subst e1
          rw [if_pos rfl, if_pos rfl]
          simp only
          omega
        · rw [if_neg e1, if_neg (Ne.symm e1)]
          omega
      · refine ih.may j h0 (by omega) ?_
        rw [hrd j h0 hj]
        split
        · exact hm
        · exact hp
      · rw [ih.sums c, hcs c]
        rw [psum_congr c es fun x hx => hcur x.acct (ha x (List.mem_cons_of_mem _ hx)).1 (ha x (List.mem_cons_of_mem _ hx)).2]
        simp only [psum]
        split <;> omega
    · have h1 : post1 xs e = .error 4 := by unfold post1; rw [if_neg hm]
      rw [h1] at h
      cases h

theorem Bal.mem {xs : List Acc} {es : List Ent} (h : Bal xs es) : ∀ e ∈ es, 0 ≤ e.acct ∧ e.acct < xs.length := fun e he => by
  obtain ⟨k, hk, rfl⟩ := List.getElem_of_mem he
  have := h.acct k hk
  rwa [rd_nat es k hk] at this
theorem solv_at {xs : List Acc} (h : solvB xs = true) (k : Int) (h9 : 9 ≤ k) (hk : k < xs.length) : (rd xs k).held ≤ (rd xs k).bal := by
  unfold solvB at h
  rw [List.all_eq_true] at h
  obtain ⟨n, rfl⟩ := Int.eq_ofNat_of_zero_le (show 0 ≤ k by omega)
  have := h n (List.mem_range.2 (by omega))
  simp only [Bool.or_eq_true, decide_eq_true_eq] at this
  rcases this with h | h
  · omega
  · exact h
theorem post_fold {xs ys : List Acc} {es : List Ent} (h : post xs es = .ok ys) : es.foldlM post1 xs = .ok ys ∧ solvB ys = true := by
  unfold post at h
  cases hf : es.foldlM post1 xs with
  | error c => rw [hf] at h; cases h
  | ok out =>
    rw [hf] at h
    simp only at h
    split at h
    · injection h with h
      subst h
      exact ⟨rfl, by assumption⟩
    · cases h
theorem post_moved {xs ys : List Acc} {es : List Ent} (h : post xs es = .ok ys) (hB : Bal xs es) : Moved xs ys es := fold_moved es xs ys (post_fold h).1 hB.mem
theorem Good.moved {xs ys : List Acc} {es : List Ent} (hG : Good xs) (hm : Moved xs ys es) (hs : ∀ k : Int, 9 ≤ k → k < ys.length → (rd ys k).held ≤ (rd ys k).bal) : Good ys := by
  have hl := hm.len
  have h9 := hG.len9
  refine ⟨by omega, by have := hG.len64; omega, fun k h0 hk => ?_, fun k h0 hk => ?_, fun k h0 hk => ?_, fun k h0 hk => ?_⟩
  · rw [hm.cur k h0 (by omega)]; exact hG.cur k h0 (by omega)
  · exact hm.may k h0 (by omega) (hG.bal k h0 (by omega))
  · rw [hm.cur k h0 (by omega), hm.held k h0 (by omega)]; exact hG.house k h0 hk
  · refine ⟨?_, hs k h0 hk⟩
    rw [hm.held k (by omega) (by omega)]
    exact (hG.client k h0 (by omega)).1
theorem Good.post {xs ys : List Acc} {es : List Ent} (hG : Good xs) (hB : Bal xs es) (h : post xs es = .ok ys) : Good ys :=
  hG.moved (post_moved h hB) fun k h9 hk => solv_at (post_fold h).2 k h9 hk
theorem post_sums {xs ys : List Acc} {es : List Ent} (hB : Bal xs es) (h : post xs es = .ok ys) (c : Int) (h0 : 0 ≤ c) (h3 : c < 3) : csum c ys = csum c xs := by
  rw [(post_moved h hB).sums c, hB.zero c h0 h3]; omega

/-- What a hold turns: what is held of one account alone. -/
structure Turned (xs ys : List Acc) (k n : Int) : Prop where
  len : ys.length = xs.length
  at_ : 9 ≤ k ∧ k < xs.length
  cur : ∀ j : Int, 0 ≤ j → j < xs.length → (rd ys j).cur = (rd xs j).cur
  bal : ∀ j : Int, 0 ≤ j → j < xs.length → (rd ys j).bal = (rd xs j).bal
  held : ∀ j : Int, 0 ≤ j → j < xs.length → (rd ys j).held = (rd xs j).held + if j = k then n else 0
  sums : ∀ c, csum c ys = csum c xs
theorem turned_upd {xs : List Acc} {k n : Int} (h9 : 9 ≤ k) (hk : k < xs.length) : Turned xs (upd xs k { rd xs k with held := (rd xs k).held + n }) k n := by
  have hrd := fun (j : Int) (h0 : 0 ≤ j) (hj : j < xs.length) => rd_upd xs k j { rd xs k with held := (rd xs k).held + n } h0 hj (by omega)
  refine ⟨upd_len _ _ _, ⟨h9, hk⟩, fun j h0 hj => ?_, fun j h0 hj => ?_, fun j h0 hj => ?_, fun c => ?_⟩
  · rw [hrd j h0 hj]; split
    · rename_i e1; subst e1; rfl
    · rfl
  · rw [hrd j h0 hj]; split
    · rename_i e1; subst e1; rfl
    · rfl
  · rw [hrd j h0 hj]; split
    · rename_i e1; subst e1; rfl
    · omega
  · rw [csum_upd c (x := { rd xs k with held := (rd xs k).held + n }) (by omega) hk rfl]
    simp only
    split <;> omega
theorem hold_ok {xs ys : List Acc} {k n : Int} (h : hold xs k n = .ok ys) : Turned xs ys k n ∧ (1 ≤ n ∧ n ≤ 1099511627776) ∧ n ≤ (rd xs k).bal - (rd xs k).held ∧ ys = upd xs k { rd xs k with held := (rd xs k).held + n } := by
  unfold hold at h
  split at h
  · cases h
  rename_i h1
  have h1' : 9 ≤ k ∧ k < xs.length := Decidable.not_not.1 h1
  split at h
  · cases h
  rename_i h2
  have h2' : 1 ≤ n ∧ n ≤ 1099511627776 := Decidable.not_not.1 h2
  split at h
  · cases h
  rename_i h3
  injection h with h
  subst h
  exact ⟨turned_upd h1'.1 h1'.2, h2', by omega, rfl⟩
theorem release_ok' {xs ys : List Acc} {k n : Int} (h : release xs k n = .ok ys) : Turned xs ys k (-n) ∧ (1 ≤ n ∧ n ≤ 1099511627776) ∧ n ≤ (rd xs k).held ∧ ys = upd xs k { rd xs k with held := (rd xs k).held - n } := by
  unfold release at h
  split at h
  · cases h
  rename_i h1
  have h1' : 9 ≤ k ∧ k < xs.length := Decidable.not_not.1 h1
  split at h
  · cases h
  rename_i h2
  have h2' : 1 ≤ n ∧ n ≤ 1099511627776 := Decidable.not_not.1 h2
  split at h
  · cases h
  rename_i h3
  injection h with h
  subst h
  refine ⟨?_, h2', by omega, rfl⟩
  have := turned_upd (xs := xs) (k := k) (n := -n) h1'.1 h1'.2
  rwa [show (rd xs k).held + -n = (rd xs k).held - n by omega] at this
theorem Good.turned {xs ys : List Acc} {k n : Int} (hG : Good xs) (ht : Turned xs ys k n) (h0 : 0 ≤ (rd xs k).held + n) (h1 : (rd xs k).held + n ≤ (rd xs k).bal) : Good ys := by
  have hl := ht.len
  have h9 := hG.len9
  have hk := ht.at_
  refine ⟨by omega, by have := hG.len64; omega, fun j j0 hj => ?_, fun j j0 hj => ?_, fun j j0 hj => ?_, fun j j0 hj => ?_⟩
  · rw [ht.cur j j0 (by omega)]; exact hG.cur j j0 (by omega)
  · rw [ht.bal j j0 (by omega)]; exact hG.bal j j0 (by omega)
  · rw [ht.cur j j0 (by omega), ht.held j j0 (by omega), if_neg (by omega)]
    have := hG.house j j0 hj
    exact ⟨this.1, by omega⟩
  · rw [ht.held j (by omega) (by omega), ht.bal j (by omega) (by omega)]
    have := hG.client j j0 (by omega)
    split
    · rename_i e1; subst e1; exact ⟨h0, h1⟩
    · exact ⟨by omega, by omega⟩
theorem Good.hold {xs ys : List Acc} {k n : Int} (hG : Good xs) (h : hold xs k n = .ok ys) : Good ys := by
  obtain ⟨ht, h1, h2, _⟩ := hold_ok h
  have := hG.client k ht.at_.1 ht.at_.2
  exact hG.turned ht (by omega) (by omega)
theorem Good.release {xs ys : List Acc} {k n : Int} (hG : Good xs) (h : release xs k n = .ok ys) : Good ys := by
  obtain ⟨ht, h1, h2, _⟩ := release_ok' h
  have := hG.client k ht.at_.1 ht.at_.2
  exact hG.turned ht (by omega) (by omega)

/-! ### What payments hold -/
def hsum (k : Int) : List Pay → Int
  | [] => 0
  | p :: ps => (if p.frm = k then left p else 0) + hsum k ps
theorem hsum_append (k : Int) (ps qs : List Pay) : hsum k (ps ++ qs) = hsum k ps + hsum k qs := by
  induction ps with
  | nil => simp [hsum]
  | cons p ps ih => simp only [List.cons_append, hsum, ih]; omega
theorem hsum_set (k : Int) : ∀ (ps : List Pay) (i : Nat) (q : Pay) (h : i < ps.length), q.frm = (ps[i]).frm → hsum k (ps.set i q) = hsum k ps + (if (ps[i]).frm = k then left q - left (ps[i]) else 0)
  | [], i, q, h, _ => by simp at h
  | p :: ps, 0, q, h, hc => by
    simp only [List.set_cons_zero, hsum, List.getElem_cons_zero] at hc ⊢
    rw [hc]
    split <;> omega
  | p :: ps, i + 1, q, h, hc => by
    have hi : i < ps.length := by simpa using h
    have := hsum_set k ps i q hi (by simpa using hc)
    simp only [List.set_cons_succ, hsum, List.getElem_cons_succ, this]
    omega
theorem hsum_upd (k : Int) {ps : List Pay} {i : Int} (h0 : 0 ≤ i) (hi : i < ps.length) {q : Pay} (hc : q.frm = (rd ps i).frm) : hsum k (ps.set i.toNat q) = hsum k ps + (if (rd ps i).frm = k then left q - left (rd ps i) else 0) := by
  obtain ⟨n, rfl⟩ := Int.eq_ofNat_of_zero_le h0
  have hn : n < ps.length := by omega
  rw [rd_nat ps n hn] at hc ⊢
  rw [Int.toNat_natCast]
  exact hsum_set k ps n q hn hc
theorem hsum_zero (k : Int) : ∀ ps : List Pay, (∀ p ∈ ps, p.frm ≠ k) → hsum k ps = 0
  | [], _ => rfl
  | p :: ps, h => by
    simp only [hsum]
    rw [if_neg (h p (List.mem_cons_self ..)), hsum_zero k ps fun x hx => h x (List.mem_cons_of_mem _ hx)]
    rfl
theorem hsum_nonneg (k : Int) : ∀ ps : List Pay, (∀ p ∈ ps, 0 ≤ left p) → 0 ≤ hsum k ps
  | [], _ => by simp [hsum]
  | p :: ps, h => by
    have h1 := h p (List.mem_cons_self ..)
    have h2 := hsum_nonneg k ps fun x hx => h x (List.mem_cons_of_mem _ hx)
    simp only [hsum]
    split <;> omega
theorem hsum_ge (k : Int) : ∀ (ps : List Pay) (p : Pay), p ∈ ps → p.frm = k → (∀ p ∈ ps, 0 ≤ left p) → left p ≤ hsum k ps
  | [], p, h, _, _ => by cases h
  | a :: ps, p, h, hk, hall => by
    have h1 := hall a (List.mem_cons_self ..)
    have h2 := hsum_nonneg k ps fun x hx => hall x (List.mem_cons_of_mem _ hx)
    simp only [hsum]
    rcases List.mem_cons.1 h with rfl | h
    · rw [if_pos hk]; omega
    · have := hsum_ge k ps p h hk fun x hx => hall x (List.mem_cons_of_mem _ hx)
      split <;> omega
end Go.Proofs.YthjmficglpfgpaaDoor
