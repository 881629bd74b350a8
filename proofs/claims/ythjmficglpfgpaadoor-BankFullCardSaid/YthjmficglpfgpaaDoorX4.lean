/- What an authorisation makes of accounts and payments. What a charge makes of accounts: in plain Lean. What is done to accounts, and what stays right: in plain Lean. What requests make of a state, and what stays right: in plain Lean. What a tick makes of a state: in plain Lean. States by numbers: in plain Lean. Keys, sagas, and a bank: in plain Lean. The laws of a bank: in plain Lean. What is charged back: in plain Lean. More laws of a bank: in plain Lean. -/
import Derived.Test.YthjmficglpfgpaaDoorX3
import Derived.Test.YthjmficglpfgpaaDoorX1
namespace Go.Proofs.YthjmficglpfgpaaDoor
set_option linter.unusedVariables false
set_option linter.unusedSimpArgs false
open Go Go.RowKit Enc
def deskAuth (now : Int) (xs : List Acc) (ps : List Pay) (r : Req) : Except Int (List Acc × List Pay × Int) :=
  if (isCl xs r.a && isCl xs r.b) = false then .error 2
  else if r.a = r.b ∨ r.til ≤ now then .error 1
  else if ps.length ≥ 64 then .error 7
  else match hold xs r.a r.amt with
    | .error c => .error c
    | .ok ys => .ok (ys, ps ++ [⟨r.a, r.b, r.amt, 0, 0, 0, r.til, 0⟩], ps.length)
end Go.Proofs.YthjmficglpfgpaaDoor
namespace Go.Proofs.YthjmficglpfgpaaDoor
set_option linter.unusedVariables false
set_option linter.unusedSimpArgs false
open Go Go.RowKit Enc
set_option maxRecDepth 100000

/-- What the seller lacks. -/
def lacks (xs : List Acc) (p : Pay) (es : List Ent) : Int := -(rd es 0).amt - ((rd xs p.to).bal - (rd xs p.to).held)
def chgEs (xs : List Acc) (p : Pay) (es : List Ent) : List Ent := if 0 < lacks xs p es then lossy xs p.to (lacks xs p es) es else es
def chargeF (xs : List Acc) (n : Int) (p : Pay) : Except Int (List Acc) :=
  match backE xs p n with
  | .error c => .error c
  | .ok es => post xs (chgEs xs p es)
theorem backE_ok {xs : List Acc} {p : Pay} {n : Int} {es : List Ent} (h : backE xs p n = .ok es) : ∃ fs, move xs p.frm p.to n = .ok fs ∧ es = back fs := by
  unfold backE at h
  cases hm : move xs p.frm p.to n with
  | error c => rw [hm] at h; cases h
  | ok fs =>
    rw [hm] at h
    injection h with h
    exact ⟨fs, rfl, h.symm⟩
theorem back_head {xs : List Acc} {p : Pay} {n : Int} {es : List Ent} (hG : Good xs) (h : backE xs p n = .ok es) : (0 < es.length ∧ es.length ≤ 4) ∧ (rd es 0).acct = p.to ∧ -1099511627776 ≤ (rd es 0).amt ∧ (rd es 0).amt < 0 := by
  obtain ⟨fs, hf, rfl⟩ := backE_ok h
  have hM := move_moveOk hG hf
  rw [back_len]
  exact ⟨⟨by have := hM.len; omega, hM.len.2⟩, hM.last⟩
theorem lacks_bd {xs : List Acc} {p : Pay} {n : Int} {es : List Ent} (hG : Good xs) (hp : 9 ≤ p.to ∧ p.to < xs.length) (h : backE xs p n = .ok es) : -1125899906842624 ≤ lacks xs p es ∧ lacks xs p es ≤ 1099511627776 := by
  obtain ⟨_, _, h2, h3⟩ := back_head hG h
  have hc := hG.client p.to hp.1 hp.2
  have hb := hG.bal p.to (by omega) hp.2
  unfold lacks
  omega
theorem chgEs_bal {xs : List Acc} {p : Pay} {n : Int} {es : List Ent} (hG : Good xs) (hp : 9 ≤ p.to ∧ p.to < xs.length) (h : backE xs p n = .ok es) : Bal xs (chgEs xs p es) := by
  have hl := lacks_bd hG hp h
  obtain ⟨fs, hf, rfl⟩ := backE_ok h
  have hM := move_moveOk hG hf
  unfold chgEs
  split
  · exact lossy_bal hG hM ⟨by omega, hp.2⟩ hl (by omega)
  · exact hM.backBal hG
end Go.Proofs.YthjmficglpfgpaaDoor
namespace Go.Proofs.YthjmficglpfgpaaDoor
set_option linter.unusedVariables false
set_option linter.unusedSimpArgs false
open Go Go.RowKit Enc
set_option maxRecDepth 100000

/-! ### Lists by number -/
section
variable {α : Type} [Inhabited α]
theorem rd_set (xs : List α) (k : Nat) (j : Int) (x : α) (h0 : 0 ≤ j) (hj : j < xs.length) : rd (xs.set k x) j = if j = k then x else rd xs j := by
  unfold rd
  by_cases h : j = k
  · subst h
    rw [if_pos rfl, List.getD_eq_getElem?_getD, Int.toNat_natCast, List.getElem?_set_self (by omega)]
    rfl
  · rw [if_neg h, List.getD_eq_getElem?_getD, List.getElem?_set_ne (by omega), List.getD_eq_getElem?_getD]
theorem rd_left (xs ys : List α) (j : Int) (h0 : 0 ≤ j) (hj : j < xs.length) : rd (xs ++ ys) j = rd xs j := by
  unfold rd
  rw [List.getD_eq_getElem?_getD, List.getD_eq_getElem?_getD, List.getElem?_append_left (by omega)]
theorem rd_snoc (xs : List α) (x : α) : rd (xs ++ [x]) (xs.length : Int) = x := by
  unfold rd
  rw [List.getD_eq_getElem?_getD, Int.toNat_natCast, List.getElem?_append_right (Nat.le_refl _)]
  simp
theorem rd_out (xs : List α) (j : Int) (h0 : 0 ≤ j) (h : (xs.length : Int) ≤ j) : rd xs j = default := by
  unfold rd
  rw [List.getD_eq_getElem?_getD, List.getElem?_eq_none (by omega)]
  rfl
theorem rd_zero (x : α) (xs : List α) : rd (x :: xs) 0 = x := rfl
theorem rd_succ (x : α) (xs : List α) (j : Int) (h : 0 ≤ j) : rd (x :: xs) (j + 1) = rd xs j := by
  unfold rd
  rw [show (j + 1).toNat = j.toNat + 1 by omega]
  rfl
theorem mem_rd {xs : List α} {x : α} (h : x ∈ xs) : ∃ k : Int, 0 ≤ k ∧ k < xs.length ∧ rd xs k = x := by
  obtain ⟨k, hk, rfl⟩ := List.getElem_of_mem h
  exact ⟨k, by omega, by omega, rd_nat xs k hk⟩
theorem rd_mem (xs : List α) (k : Int) (h0 : 0 ≤ k) (hk : k < xs.length) : rd xs k ∈ xs := by
  obtain ⟨n, rfl⟩ := Int.eq_ofNat_of_zero_le h0
  rw [rd_nat xs n (by omega)]
  exact List.getElem_mem _
theorem rd_ext {xs ys : List α} (hl : xs.length = ys.length) (h : ∀ k : Int, 0 ≤ k → k < xs.length → rd xs k = rd ys k) : xs = ys := by
  refine List.ext_getElem hl fun k h1 h2 => ?_
  have := h k (by omega) (by omega)
  rwa [rd_nat xs k h1, rd_nat ys k h2] at this
end

/-! ### Sums -/
/-- What accounts of a currency have together. -/
def csum (c : Int) : List Acc → Int
  | [] => 0
  | a :: xs => (if a.cur = c then a.bal else 0) + csum c xs
theorem csum_append (c : Int) (xs ys : List Acc) : csum c (xs ++ ys) = csum c xs + csum c ys := by
  induction xs with
  | nil => simp [csum]
  | cons a xs ih => simp only [List.cons_append, csum, ih]; omega
theorem csum_set (c : Int) : ∀ (xs : List Acc) (k : Nat) (x : Acc) (h : k < xs.length), x.cur = (xs[k]).cur → csum c (xs.set k x) = csum c xs + (if (xs[k]).cur = c then x.bal - (xs[k]).bal else 0)
  | [], k, x, h, _ => by simp at h
  | a :: xs, 0, x, h, hc => by
    simp only [List.set_cons_zero, csum, List.getElem_cons_zero] at hc ⊢
    rw [hc]
    split <;> omega
  | a :: xs, k + 1, x, h, hc => by
    have hk : k < xs.length := by simpa using h
    have := csum_set c xs k x hk (by simpa using hc)
    simp only [List.set_cons_succ, csum, List.getElem_cons_succ, this]
    omega
theorem csum_upd (c : Int) {xs : List Acc} {k : Int} (h0 : 0 ≤ k) (hk : k < xs.length) {x : Acc} (hc : x.cur = (rd xs k).cur) : csum c (upd xs k x) = csum c xs + (if (rd xs k).cur = c then x.bal - (rd xs k).bal else 0) := by
  obtain ⟨n, rfl⟩ := Int.eq_ofNat_of_zero_le h0
  have hn : n < xs.length := by omega
  rw [rd_nat xs n hn] at hc ⊢
  unfold upd
  rw [Int.toNat_natCast]
  exact csum_set c xs n x hn hc
/-- What entries bring to an account. -/
def asum (j : Int) : List Ent → Int
  | [] => 0
  | e :: es => (if e.acct = j then e.amt else 0) + asum j es
theorem asum_append (j : Int) (es fs : List Ent) : asum j (es ++ fs) = asum j es + asum j fs := by
  induction es with
  | nil => simp [asum]
  | cons e es ih => simp only [List.cons_append, asum, ih]; omega
theorem psum_congr {xs ys : List Acc} (c : Int) (es : List Ent) (h : ∀ e ∈ es, (rd ys e.acct).cur = (rd xs e.acct).cur) : psum ys c es = psum xs c es := by
  induction es with
  | nil => rfl
  | cons e es ih =>
    simp only [psum, ih fun x hx => h x (List.mem_cons_of_mem _ hx), h e (List.mem_cons_self ..)]

/-- What entries make of accounts. -/
structure Moved (xs ys : List Acc) (es : List Ent) : Prop where
  len : ys.length = xs.length
  cur : ∀ j : Int, 0 ≤ j → j < xs.length → (rd ys j).cur = (rd xs j).cur
  held : ∀ j : Int, 0 ≤ j → j < xs.length → (rd ys j).held = (rd xs j).held
  bal : ∀ j : Int, 0 ≤ j → j < xs.length → (rd ys j).bal = (rd xs j).bal + asum j es
  may : ∀ j : Int, 0 ≤ j → j < xs.length → mayP (rd xs j).bal → mayP (rd ys j).bal
  sums : ∀ c, csum c ys = csum c xs + psum xs c es
theorem fold_moved : ∀ (es : List Ent) (xs ys : List Acc), es.foldlM post1 xs = .ok ys → (∀ e ∈ es, 0 ≤ e.acct ∧ e.acct < xs.length) → Moved xs ys es
  | [], xs, ys, h, _ => by
    have h : Except.ok xs = Except.ok ys := h
    injection h with h
    subst h
    exact ⟨rfl, fun _ _ _ => rfl, fun _ _ _ => rfl, fun _ _ _ => by simp [asum], fun _ _ _ h => h, fun c => by simp [psum]⟩
  | e :: es, xs, ys, h, ha => by
    obtain ⟨a0, a1⟩ := ha e (List.mem_cons_self ..)
    rw [List.foldlM_cons] at h
    by_cases hm : mayP ((rd xs e.acct).bal + e.amt)
    · have h1 : post1 xs e = .ok (upd xs e.acct { rd xs e.acct with bal := (rd xs e.acct).bal + e.amt }) := by unfold post1; rw [if_pos hm]
      rw [h1] at h
      have h : es.foldlM post1 (upd xs e.acct { rd xs e.acct with bal := (rd xs e.acct).bal + e.amt }) = .ok ys := h
      have hrd := fun (j : Int) (h0 : 0 ≤ j) (hj : j < xs.length) => rd_upd xs e.acct j { rd xs e.acct with bal := (rd xs e.acct).bal + e.amt } h0 hj a0
      have hcs := fun c => csum_upd c a0 a1 (x := { rd xs e.acct with bal := (rd xs e.acct).bal + e.amt }) rfl
      have hl := upd_len xs e.acct { rd xs e.acct with bal := (rd xs e.acct).bal + e.amt }
      generalize upd xs e.acct { rd xs e.acct with bal := (rd xs e.acct).bal + e.amt } = zs at *
      have ih := fold_moved es zs ys h fun x hx => by rw [hl]; exact ha x (List.mem_cons_of_mem _ hx)
      have hcur : ∀ j : Int, 0 ≤ j → j < xs.length → (rd zs j).cur = (rd xs j).cur := fun j h0 hj => by
        rw [hrd j h0 hj]
        split
        · rename_i e1; subst e1; rfl
        · rfl
      refine ⟨ih.len.trans hl, fun j h0 hj => (ih.cur j h0 (by omega)).trans (hcur j h0 hj), fun j h0 hj => ?_, fun j h0 hj => ?_, fun j h0 hj hp => ?_, fun c => ?_⟩
      · rw [ih.held j h0 (by omega), hrd j h0 hj]
        split
        · rename_i e1; subst e1; rfl
        · rfl
      · rw [ih.bal j h0 (by omega), hrd j h0 hj]
        simp only [asum]
        by_cases e1 : j = e.acct
        · subst e1
          rw [if_pos rfl, if_pos rfl]
          simp only
          omega
        · rw [if_neg e1, if_neg (Ne.symm e1)]
          omega
      · refine ih.may j h0 (by omega) ?_
        rw [hrd j h0 hj]
        split
        · exact hm
        · exact hp
      · rw [ih.sums c, hcs c]
        rw [psum_congr c es fun x hx => hcur x.acct (ha x (List.mem_cons_of_mem _ hx)).1 (ha x (List.mem_cons_of_mem _ hx)).2]
        simp only [psum]
        split <;> omega
    · have h1 : post1 xs e = .error 4 := by unfold post1; rw [if_neg hm]
      rw [h1] at h
      cases h

theorem Bal.mem {xs : List Acc} {es : List Ent} (h : Bal xs es) : ∀ e ∈ es, 0 ≤ e.acct ∧ e.acct < xs.length := fun e he => by
  obtain ⟨k, hk, rfl⟩ := List.getElem_of_mem he
  have := h.acct k hk
  rwa [rd_nat es k hk] at this
theorem solv_at {xs : List Acc} (h : solvB xs = true) (k : Int) (h9 : 9 ≤ k) (hk : k < xs.length) : (rd xs k).held ≤ (rd xs k).bal := by
  unfold solvB at h
  rw [List.all_eq_true] at h
  obtain ⟨n, rfl⟩ := Int.eq_ofNat_of_zero_le (show 0 ≤ k by omega)
  have := h n (List.mem_range.2 (by omega))
  simp only [Bool.or_eq_true, decide_eq_true_eq] at this
  rcases this with h | h
  · omega
  · exact h
theorem post_fold {xs ys : List Acc} {es : List Ent} (h : post xs es = .ok ys) : es.foldlM post1 xs = .ok ys ∧ solvB ys = true := by
  unfold post at h
  cases hf : es.foldlM post1 xs with
  | error c => rw [hf] at h; cases h
  | ok out =>
    rw [hf] at h
    simp only at h
    split at h
    · injection h with h
      subst h
      exact ⟨rfl, by assumption⟩
    · cases h
theorem post_moved {xs ys : List Acc} {es : List Ent} (h : post xs es = .ok ys) (hB : Bal xs es) : Moved xs ys es := fold_moved es xs ys (post_fold h).1 hB.mem
theorem Good.moved {xs ys : List Acc} {es : List Ent} (hG : Good xs) (hm : Moved xs ys es) (hs : ∀ k : Int, 9 ≤ k → k < ys.length → (rd ys k).held ≤ (rd ys k).bal) : Good ys := by
  have hl := hm.len
  have h9 := hG.len9
  refine ⟨by omega, by have := hG.len64; omega, fun k h0 hk => ?_, fun k h0 hk => ?_, fun k h0 hk => ?_, fun k h0 hk => ?_⟩
  · rw [hm.cur k h0 (by omega)]; exact hG.cur k h0 (by omega)
  · exact hm.may k h0 (by omega) (hG.bal k h0 (by omega))
  · rw [hm.cur k h0 (by omega), hm.held k h0 (by omega)]; exact hG.house k h0 hk
  · refine ⟨?_, hs k h0 hk⟩
    rw [hm.held k (by omega) (by omega)]
    exact (hG.client k h0 (by omega)).1
theorem Good.post {xs ys : List Acc} {es : List Ent} (hG : Good xs) (hB : Bal xs es) (h : post xs es = .ok ys) : Good ys :=
  hG.moved (post_moved h hB) fun k h9 hk => solv_at (post_fold h).2 k h9 hk
theorem post_sums {xs ys : List Acc} {es : List Ent} (hB : Bal xs es) (h : post xs es = .ok ys) (c : Int) (h0 : 0 ≤ c) (h3 : c < 3) : csum c ys = csum c xs := by
  rw [(post_moved h hB).sums c, hB.zero c h0 h3]; omega

/-- What a hold turns: what is held of one account alone. -/
structure Turned (xs ys : List Acc) (k n : Int) : Prop where
  len : ys.length = xs.length
  at_ : 9 ≤ k ∧ k < xs.length
  cur : ∀ j : Int, 0 ≤ j → j < xs.length → (rd ys j).cur = (rd xs j).cur
  bal : ∀ j : Int, 0 ≤ j → j < xs.length → (rd ys j).bal = (rd xs j).bal
  held : ∀ j : Int, 0 ≤ j → j < xs.length → (rd ys j).held = (rd xs j).held + if j = k then n else 0
  sums : ∀ c, csum c ys = csum c xs
theorem turned_upd {xs : List Acc} {k n : Int} (h9 : 9 ≤ k) (hk : k < xs.length) : Turned xs (upd xs k { rd xs k with held := (rd xs k).held + n }) k n := by
  have hrd := fun (j : Int) (h0 : 0 ≤ j) (hj : j < xs.length) => rd_upd xs k j { rd xs k with held := (rd xs k).held + n } h0 hj (by omega)
  refine ⟨upd_len _ _ _, ⟨h9, hk⟩, fun j h0 hj => ?_, fun j h0 hj => ?_, fun j h0 hj => ?_, fun c => ?_⟩
  · rw [hrd j h0 hj]; split
    · rename_i e1; subst e1; rfl
    · rfl
  · rw [hrd j h0 hj]; split
    · rename_i e1; subst e1; rfl
    · rfl
  · rw [hrd j h0 hj]; split
    · rename_i e1; subst e1; rfl
    · omega
  · rw [csum_upd c (x := { rd xs k with held := (rd xs k).held + n }) (by omega) hk rfl]
    simp only
    split <;> omega
theorem hold_ok {xs ys : List Acc} {k n : Int} (h : hold xs k n = .ok ys) : Turned xs ys k n ∧ (1 ≤ n ∧ n ≤ 1099511627776) ∧ n ≤ (rd xs k).bal - (rd xs k).held ∧ ys = upd xs k { rd xs k with held := (rd xs k).held + n } := by
  unfold hold at h
  split at h
  · cases h
  rename_i h1
  have h1' : 9 ≤ k ∧ k < xs.length := Decidable.not_not.1 h1
  split at h
  · cases h
  rename_i h2
  have h2' : 1 ≤ n ∧ n ≤ 1099511627776 := Decidable.not_not.1 h2
  split at h
  · cases h
  rename_i h3
  injection h with h
  subst h
  exact ⟨turned_upd h1'.1 h1'.2, h2', by omega, rfl⟩
theorem release_ok' {xs ys : List Acc} {k n : Int} (h : release xs k n = .ok ys) : Turned xs ys k (-n) ∧ (1 ≤ n ∧ n ≤ 1099511627776) ∧ n ≤ (rd xs k).held ∧ ys = upd xs k { rd xs k with held := (rd xs k).held - n } := by
  unfold release at h
  split at h
  · cases h
  rename_i h1
  have h1' : 9 ≤ k ∧ k < xs.length := Decidable.not_not.1 h1
  split at h
  · cases h
  rename_i h2
  have h2' : 1 ≤ n ∧ n ≤ 1099511627776 := Decidable.not_not.1 h2
  split at h
  · cases h
  rename_i h3
  injection h with h
  subst h
  refine ⟨?_, h2', by omega, rfl⟩
  have := turned_upd (xs := xs) (k := k) (n := -n) h1'.1 h1'.2
  rwa [show (rd xs k).held + -n = (rd xs k).held - n by omega] at this
theorem Good.turned {xs ys : List Acc} {k n : Int} (hG : Good xs) (ht : Turned xs ys k n) (h0 : 0 ≤ (rd xs k).held + n) (h1 : (rd xs k).held + n ≤ (rd xs k).bal) : Good ys := by
  have hl := ht.len
  have h9 := hG.len9
  have hk := ht.at_
  refine ⟨by omega, by have := hG.len64; omega, fun j j0 hj => ?_, fun j j0 hj => ?_, fun j j0 hj => ?_, fun j j0 hj => ?_⟩
  · rw [ht.cur j j0 (by omega)]; exact hG.cur j j0 (by omega)
  · rw [ht.bal j j0 (by omega)]; exact hG.bal j j0 (by omega)
  · rw [ht.cur j j0 (by omega), ht.held j j0 (by omega), if_neg (by omega)]
    have := hG.house j j0 hj
    exact ⟨this.1, by omega⟩
  · rw [ht.held j (by omega) (by omega), ht.bal j (by omega) (by omega)]
    have := hG.client j j0 (by omega)
    split
    · rename_i e1; subst e1; exact ⟨h0, h1⟩
    · exact ⟨by omega, by omega⟩
theorem Good.hold {xs ys : List Acc} {k n : Int} (hG : Good xs) (h : hold xs k n = .ok ys) : Good ys := by
  obtain ⟨ht, h1, h2, _⟩ := hold_ok h
  have := hG.client k ht.at_.1 ht.at_.2
  exact hG.turned ht (by omega) (by omega)
theorem Good.release {xs ys : List Acc} {k n : Int} (hG : Good xs) (h : release xs k n = .ok ys) : Good ys := by
  obtain ⟨ht, h1, h2, _⟩ := release_ok' h
  have := hG.client k ht.at_.1 ht.at_.2
  exact hG.turned ht (by omega) (by omega)

/-! ### What payments hold -/
def hsum (k : Int) : List Pay → Int
  | [] => 0
  | p :: ps => (if p.frm = k then left p else 0) + hsum k ps
theorem hsum_append (k : Int) (ps qs : List Pay) : hsum k (ps ++ qs) = hsum k ps + hsum k qs := by
  induction ps with
  | nil => simp [hsum]
  | cons p ps ih => simp only [List.cons_append, hsum, ih]; omega
theorem hsum_set (k : Int) : ∀ (ps : List Pay) (i : Nat) (q : Pay) (h : i < ps.length), q.frm = (ps[i]).frm → hsum k (ps.set i q) = hsum k ps + (if (ps[i]).frm = k then left q - left (ps[i]) else 0)
  | [], i, q, h, _ => by simp at h
  | p :: ps, 0, q, h, hc => by
    simp only [List.set_cons_zero, hsum, List.getElem_cons_zero] at hc ⊢
    rw [hc]
    split <;> omega
  | p :: ps, i + 1, q, h, hc => by
    have hi : i < ps.length := by simpa using h
    have := hsum_set k ps i q hi (by simpa using hc)
    simp only [List.set_cons_succ, hsum, List.getElem_cons_succ, this]
    omega
theorem hsum_upd (k : Int) {ps : List Pay} {i : Int} (h0 : 0 ≤ i) (hi : i < ps.length) {q : Pay} (hc : q.frm = (rd ps i).frm) : hsum k (ps.set i.toNat q) = hsum k ps + (if (rd ps i).frm = k then left q - left (rd ps i) else 0) := by
  obtain ⟨n, rfl⟩ := Int.eq_ofNat_of_zero_le h0
  have hn : n < ps.length := by omega
  rw [rd_nat ps n hn] at hc ⊢
  rw [Int.toNat_natCast]
  exact hsum_set k ps n q hn hc
theorem hsum_zero (k : Int) : ∀ ps : List Pay, (∀ p ∈ ps, p.frm ≠ k) → hsum k ps = 0
  | [], _ => rfl
  | p :: ps, h => by
    simp only [hsum]
    rw [if_neg (h p (List.mem_cons_self ..)), hsum_zero k ps fun x hx => h x (List.mem_cons_of_mem _ hx)]
    rfl
theorem hsum_nonneg (k : Int) : ∀ ps : List Pay, (∀ p ∈ ps, 0 ≤ left p) → 0 ≤ hsum k ps
  | [], _ => by simp [hsum]
  | p :: ps, h => by
    have h1 := h p (List.mem_cons_self ..)
    have h2 := hsum_nonneg k ps fun x hx => h x (List.mem_cons_of_mem _ hx)
    simp only [hsum]
    split <;> omega
theorem hsum_ge (k : Int) : ∀ (ps : List Pay) (p : Pay), p ∈ ps → p.frm = k → (∀ p ∈ ps, 0 ≤ left p) → left p ≤ hsum k ps
  | [], p, h, _, _ => by cases h
  | a :: ps, p, h, hk, hall => by
    have h1 := hall a (List.mem_cons_self ..)
    have h2 := hsum_nonneg k ps fun x hx => hall x (List.mem_cons_of_mem _ hx)
    simp only [hsum]
    rcases List.mem_cons.1 h with rfl | h
    · rw [if_pos hk]; omega
    · have := hsum_ge k ps p h hk fun x hx => hall x (List.mem_cons_of_mem _ hx)
      split <;> omega
end Go.Proofs.YthjmficglpfgpaaDoor
namespace Go.Proofs.YthjmficglpfgpaaDoor
set_option linter.unusedVariables false
set_option linter.unusedSimpArgs false
open Go Go.RowKit Enc
set_option maxRecDepth 100000

/-- What a request makes of accounts and payments. -/
def opsR (now : Int) (xs : List Acc) (ps : List Pay) (r : Req) : Except Int (List Acc × List Pay × Int) :=
  if r.op = 0 then deskOpen xs ps r
  else if r.op = 1 then deskDeposit xs ps r
  else if r.op = 2 then deskTransfer xs ps r
  else if r.op = 3 then deskAuth now xs ps r
  else if r.op = 4 then deskPay (capF xs r.amt) ps r
  else if r.op = 5 then deskPay (fun p => release xs p.frm (left p)) ps r
  else if r.op = 6 then deskPay (refF xs r.amt) ps r
  else if r.op = 7 then deskPay (chargeF xs r.amt) ps r
  else .error 1
def opsDo (s : St) (r : Req) : St × Rep :=
  match opsR s.now s.accs s.pays r with
  | .error c => (s, ⟨c, 0⟩)
  | .ok (xs, ps, id) => ({ s with accs := xs, pays := ps }, ⟨0, id⟩)

/-- What is right of accounts and payments, where G holds besides. -/
structure Ok (G : Int → Int) (xs : List Acc) (ps : List Pay) : Prop where
  good : Good xs
  pays : PaysOk xs ps
  sums : ∀ c : Int, 0 ≤ c → c < 3 → csum c xs = 0
  held : ∀ k : Int, 9 ≤ k → k < xs.length → (rd xs k).held = hsum k ps + G k
  open_ : ∀ k : Int, 0 ≤ k → k < ps.length → (rd ps k).stage = 0 → (rd ps k).capt < (rd ps k).auth
  apart : ∀ k : Int, 0 ≤ k → k < ps.length → (rd ps k).frm ≠ (rd ps k).to
  gpos : ∀ k : Int, 0 ≤ G k
  gout : ∀ k : Int, xs.length ≤ k → G k = 0
/-- A request that can be done to a right state. -/
def Fit (r : Req) : Prop := (r.op = 0 → 0 ≤ r.a ∧ r.a < 3) ∧ (r.op = 3 → r.til ≤ 1073741824)

theorem move_same {xs : List Acc} {a b n : Int} {es : List Ent} (h : move xs a b n = .ok es) : a ≠ b ∧ 1 ≤ n ∧ n ≤ 1099511627776 ∧ (0 ≤ a ∧ a < xs.length) ∧ (0 ≤ b ∧ b < xs.length) := by
  unfold move at h
  split at h
  · cases h
  rename_i h1
  split at h
  · cases h
  rename_i h2
  split at h
  · cases h
  rename_i h3
  have h1' : 0 ≤ a ∧ a < xs.length := Decidable.not_not.1 h1
  have h2' : 0 ≤ b ∧ b < xs.length := Decidable.not_not.1 h2
  have hn : 1 ≤ n ∧ n ≤ 1099511627776 := by
    rcases Decidable.em (1 ≤ n ∧ n ≤ 1099511627776) with h | h
    · exact h
    · exact absurd (.inr h) h3
  exact ⟨fun h => h3 (.inl h), hn.1, hn.2, h1', h2'⟩

/-- Accounts that were moved, payments as they were. -/
theorem Ok.moved {G : Int → Int} {xs ys : List Acc} {ps : List Pay} {es : List Ent} (h : Ok G xs ps) (hB : Bal xs es) (hp : post xs es = .ok ys) : Ok G ys ps := by
  have hm := post_moved hp hB
  have hl := hm.len
  refine ⟨h.good.post hB hp, ⟨h.pays.1, fun k h0 hk => ?_⟩, fun c h0 h3 => by rw [post_sums hB hp c h0 h3]; exact h.sums c h0 h3, fun k h9 hk => ?_, h.open_, h.apart, h.gpos, fun k hk => h.gout k (by omega)⟩
  · have := h.pays.2 k h0 hk
    rw [hl]; exact this
  · rw [hm.held k (by omega) (by omega)]; exact h.held k h9 (by omega)
theorem deskPost_ok {G : Int → Int} {xs ys : List Acc} {ps qs : List Pay} {a b n id : Int} (h : Ok G xs ps) (hd : deskPost xs ps a b n = .ok (ys, qs, id)) : Ok G ys qs ∧ qs = ps ∧ id = 0 ∧ ys.length = xs.length ∧ ∃ es, move xs a b n = .ok es ∧ post xs es = .ok ys := by
  unfold deskPost at hd
  cases hm : move xs a b n with
  | error c => rw [hm] at hd; cases hd
  | ok es =>
    rw [hm] at hd
    simp only at hd
    cases hp : post xs es with
    | error c => rw [hp] at hd; cases hd
    | ok zs =>
      rw [hp] at hd
      injection hd with hd
      injection hd with e1 hd
      injection hd with e2 e3
      subst e1 e2 e3
      have hB := (move_moveOk h.good hm).bal h.good
      exact ⟨h.moved hB hp, rfl, rfl, (post_moved hp hB).len, es, rfl, hp⟩

/-- What payDo makes of a payment. -/
structure Paydone (p q : Pay) (op n : Int) : Prop where
  ok : PayOk q
  open_ : q.stage = 0 → q.capt < q.auth
  frm : q.frm = p.frm
  to : q.to = p.to
  auth : q.auth = p.auth
  til : q.til = p.til
  cap : op = 4 → left q = left p - n
  void : op = 5 → left q = 0 ∧ p.stage = 0 ∧ q = { p with stage := 1 }
  ref : op = 6 → left q = left p ∧ q = { p with refd := p.refd + n }
  chg : op = 7 → left q = left p ∧ q = { p with chgd := p.chgd + n } ∧ n ≤ gave p
  opr : 4 ≤ op ∧ op ≤ 7
  amt : op ≠ 5 → 1 ≤ n
theorem payDo_done {p q : Pay} {op n : Int} (hp : PayOk p) (ho : p.stage = 0 → p.capt < p.auth) (h : payDo p op n = .ok q) : Paydone p q op n := by
  obtain ⟨⟨a1, a2⟩, ⟨b1, b2⟩, c1, d1, g1, t1, s1⟩ := hp
  unfold payDo at h
  split at h
  · cases h
  rename_i h1
  have h1' : 4 ≤ op ∧ op ≤ 7 := Decidable.not_not.1 h1
  split at h
  · cases h
  rename_i h2
  have h2' : op ≠ 5 → 1 ≤ n := fun h5 => by
    rcases Int.lt_or_le n 1 with hlt | hge
    · exact absurd ⟨h5, hlt⟩ h2
    · exact hge
  split at h
  · rename_i h4
    split at h
    · rename_i hn
      injection h with h
      subst h
      have hn1 := h2' (by omega)
      have hst : p.stage = 0 := by
        rcases s1 with s1 | s1
        · exact s1
        · unfold left at hn; rw [if_neg (by omega)] at hn; omega
      have hl : left p = p.auth - p.capt := by unfold left; rw [if_pos hst]
      have := ho hst
      by_cases e : p.capt + n = p.auth
      · rw [if_pos e]
        refine ⟨⟨⟨a1, a2⟩, ⟨by simp only; omega, by simp only; omega⟩, c1, d1, by simp only; omega, t1, .inr rfl⟩, fun h => by simp at h, rfl, rfl, rfl, rfl, fun _ => ?_, fun h => by omega, fun h => by omega, fun h => by omega, h1', h2'⟩
        rw [hl]
        simp only [left]
        rw [if_neg (by decide)]
        omega
      · rw [if_neg e]
        refine ⟨⟨⟨a1, a2⟩, ⟨by simp only; omega, by simp only; omega⟩, c1, d1, by simp only; omega, t1, s1⟩, fun h => by simp only; omega, rfl, rfl, rfl, rfl, fun _ => ?_, fun h => by omega, fun h => by omega, fun h => by omega, h1', h2'⟩
        rw [hl]
        simp only [left]
        rw [if_pos hst]
        omega
    · cases h
  rename_i h4
  split at h
  · rename_i h5
    split at h
    · rename_i hs
      injection h with h
      subst h
      refine ⟨⟨⟨a1, a2⟩, ⟨b1, b2⟩, c1, d1, g1, t1, .inr rfl⟩, fun h => by simp at h, rfl, rfl, rfl, rfl, fun h => by omega, fun _ => ⟨?_, hs, rfl⟩, fun h => by omega, fun h => by omega, h1', h2'⟩
      simp [left]
    · cases h
  rename_i h5
  split at h
  · rename_i h6
    split at h
    · rename_i hn
      injection h with h
      subst h
      have hn1 := h2' (by omega)
      unfold gave at hn
      exact ⟨⟨⟨a1, a2⟩, ⟨b1, b2⟩, by simp only; omega, d1, by simp only; omega, t1, s1⟩, ho, rfl, rfl, rfl, rfl, fun h => by omega, fun h => by omega, fun _ => ⟨rfl, rfl⟩, fun h => by omega, h1', h2'⟩
    · cases h
  · rename_i h6
    split at h
    · rename_i hn
      injection h with h
      subst h
      have hn1 := h2' (by omega)
      have hn' := hn
      unfold gave at hn
      exact ⟨⟨⟨a1, a2⟩, ⟨b1, b2⟩, c1, by simp only; omega, by simp only; omega, t1, s1⟩, ho, rfl, rfl, rfl, rfl, fun h => by omega, fun h => by omega, fun h => by omega, fun _ => ⟨rfl, rfl, hn'⟩, h1', h2'⟩
    · cases h

theorem deskPay_ok {f : Pay → Except Int (List Acc)} {ps qs : List Pay} {r : Req} {ys : List Acc} {id : Int} (h : deskPay f ps r = .ok (ys, qs, id)) :
    (0 ≤ r.a ∧ r.a < ps.length) ∧ id = 0 ∧ ∃ q, payDo (rd ps r.a) r.op r.amt = .ok q ∧ f (rd ps r.a) = .ok ys ∧ qs = ps.set r.a.toNat q := by
  unfold deskPay at h
  split at h
  · cases h
  rename_i h1
  have h1' : 0 ≤ r.a ∧ r.a < ps.length := Decidable.not_not.1 h1
  cases hp : payDo (rd ps r.a) r.op r.amt with
  | error c => rw [hp] at h; cases h
  | ok q =>
    rw [hp] at h
    simp only at h
    cases hf : f (rd ps r.a) with
    | error c => rw [hf] at h; cases h
    | ok zs =>
      rw [hf] at h
      injection h with h
      injection h with e1 h
      injection h with e2 e3
      subst e1 e2 e3
      exact ⟨h1', rfl, q, rfl, rfl, rfl⟩
/-- Accounts and a payment that were turned together. -/
theorem Ok.paid {G : Int → Int} {xs ys : List Acc} {ps : List Pay} {i : Int} {q : Pay} {op n : Int} (h : Ok G xs ps) (h0 : 0 ≤ i) (hi : i < ps.length) (hd : Paydone (rd ps i) q op n) (hG : Good ys) (hl : ys.length = xs.length)
    (hs : ∀ c : Int, 0 ≤ c → c < 3 → csum c ys = csum c xs) (hh : ∀ j : Int, 9 ≤ j → j < xs.length → (rd ys j).held = (rd xs j).held + if (rd ps i).frm = j then left q - left (rd ps i) else 0) : Ok G ys (ps.set i.toNat q) := by
  have hlen : (ps.set i.toNat q).length = ps.length := by simp
  have hrd := fun (j : Int) (j0 : 0 ≤ j) (hj : j < ps.length) => rd_set ps i.toNat j q j0 hj
  have hi' : ((i.toNat : Nat) : Int) = i := by omega
  rw [hi'] at hrd
  refine ⟨hG, ⟨by rw [hlen]; exact h.pays.1, fun k k0 hk => ?_⟩, fun c c0 c3 => by rw [hs c c0 c3]; exact h.sums c c0 c3, fun j j9 hj => ?_, fun k k0 hk => ?_, fun k k0 hk => ?_, h.gpos, fun k hk => h.gout k (by omega)⟩
  · rw [hlen] at hk
    rw [hrd k k0 hk, hl]
    have hk1 := h.pays.2 k k0 hk
    split
    · rename_i e
      subst e
      rw [hd.frm, hd.to]
      exact ⟨hd.ok, hk1.2⟩
    · exact hk1
  · rw [hh j j9 (by omega), h.held j j9 (by omega), hsum_upd j h0 hi hd.frm]
    omega
  · rw [hlen] at hk
    rw [hrd k k0 hk]
    split
    · exact hd.open_
    · exact h.open_ k k0 hk
  · rw [hlen] at hk
    rw [hrd k k0 hk]
    split
    · rename_i e
      subst e
      rw [hd.frm, hd.to]
      exact h.apart k k0 hk
    · exact h.apart k k0 hk
theorem move_head {xs : List Acc} {a b n : Int} {es : List Ent} (h : move xs a b n = .ok es) : rd es 0 = ⟨a, -n⟩ ∧ es.length ≠ 0 := by
  unfold move at h
  split at h
  · cases h
  split at h
  · cases h
  split at h
  · cases h
  split at h
  · injection h with h
    subst h
    exact ⟨rfl, by simp⟩
  split at h
  · cases h
  split at h
  · cases h
  injection h with h
  subst h
  exact ⟨rfl, by simp⟩
theorem capF_ok {xs ys : List Acc} {p : Pay} {n : Int} (hG : Good xs) (h : capF xs n p = .ok ys) : ∃ es zs, move xs p.frm p.to n = .ok es ∧ release xs p.frm n = .ok zs ∧ post zs es = .ok ys ∧ Bal zs es := by
  unfold capF at h
  cases hm : move xs p.frm p.to n with
  | error c => rw [hm] at h; cases h
  | ok es =>
    rw [hm] at h
    simp only at h
    obtain ⟨h0, hl⟩ := move_head hm
    unfold spend at h
    rw [if_neg hl, h0] at h
    simp only at h
    cases hr : release xs p.frm n with
    | error c => rw [hr] at h; cases h
    | ok zs =>
      rw [hr] at h
      have h : post zs es = .ok ys := h
      obtain ⟨_, hzl, hzc⟩ := release_ok hG.abs hr
      exact ⟨es, zs, rfl, rfl, h, ((move_moveOk hG hm).bal hG).congr hzl hzc⟩
theorem ops_ok {G : Int → Int} {now : Int} {xs ys : List Acc} {ps qs : List Pay} {r : Req} {id : Int} (h : Ok G xs ps) (hn : 0 ≤ now) (hf : Fit r) (hd : opsR now xs ps r = .ok (ys, qs, id)) : Ok G ys qs ∧ xs.length ≤ ys.length := by
  unfold opsR at hd
  split at hd
  · rename_i hop
    unfold deskOpen at hd
    split at hd
    · cases hd
    rename_i h64
    injection hd with hd
    injection hd with e1 hd
    injection hd with e2 e3
    subst e1 e2 e3
    have hc := hf.1 hop
    have hlen : (xs ++ [Acc.mk r.a 0 0]).length = xs.length + 1 := by simp
    have h9 := h.good.len9
    have hL := fun (j : Int) (j0 : 0 ≤ j) (hj : j < xs.length) => rd_left xs [Acc.mk r.a 0 0] j j0 hj
    have hS : rd (xs ++ [Acc.mk r.a 0 0]) (xs.length : Int) = Acc.mk r.a 0 0 := rd_snoc xs _
    have hcase : ∀ j : Int, j < (xs ++ [Acc.mk r.a 0 0]).length → j < xs.length ∨ j = xs.length := fun j hj => by rw [hlen] at hj; omega
    refine ⟨⟨⟨by omega, by omega, fun j j0 hj => ?_, fun j j0 hj => ?_, fun j j0 hj => ?_, fun j j0 hj => ?_⟩, ⟨h.pays.1, fun k k0 hk => ?_⟩, fun c c0 c3 => ?_, fun j j9 hj => ?_, h.open_, h.apart, h.gpos, fun k hk => h.gout k (by omega)⟩, by omega⟩
    · rcases hcase j hj with hj | rfl
      · rw [hL j j0 hj]; exact h.good.cur j j0 hj
      · rw [hS]; exact hc
    · rcases hcase j hj with hj | rfl
      · rw [hL j j0 hj]; exact h.good.bal j j0 hj
      · rw [hS]; simp
    · rw [hL j j0 (by omega)]; exact h.good.house j j0 hj
    · rcases hcase j hj with hj | rfl
      · rw [hL j (by omega) hj]; exact h.good.client j j0 hj
      · rw [hS]; simp
    · have := h.pays.2 k k0 hk
      exact ⟨this.1, ⟨this.2.1.1, by omega⟩, ⟨this.2.2.1, by omega⟩⟩
    · rw [csum_append, h.sums c c0 c3]; simp [csum]
    · rcases hcase j hj with hj | rfl
      · rw [hL j (by omega) hj]; exact h.held j j9 hj
      · rw [hS, h.gout _ (Int.le_refl _), hsum_zero]
        · rfl
        · intro p hp
          obtain ⟨k, k0, hk, rfl⟩ := mem_rd hp
          have := (h.pays.2 k k0 hk).2.1.2
          omega
  rename_i hop0
  split at hd
  · unfold deskDeposit at hd
    split at hd
    · have := deskPost_ok h hd
      exact ⟨this.1, by omega⟩
    · cases hd
  split at hd
  · unfold deskTransfer at hd
    split at hd
    · have := deskPost_ok h hd
      exact ⟨this.1, by omega⟩
    · cases hd
  split at hd
  · rename_i hop3
    unfold deskAuth at hd
    split at hd
    · cases hd
    rename_i hcl
    split at hd
    · cases hd
    rename_i hbad
    split at hd
    · cases hd
    rename_i h64
    cases hh : hold xs r.a r.amt with
    | error c => rw [hh] at hd; cases hd
    | ok zs =>
      rw [hh] at hd
      injection hd with hd
      injection hd with e1 hd
      injection hd with e2 e3
      subst e1 e2 e3
      obtain ⟨ht, ha, hfree, _⟩ := hold_ok hh
      have hlen : (ps ++ [Pay.mk r.a r.b r.amt 0 0 0 r.til 0]).length = ps.length + 1 := by simp
      have hL := fun (j : Int) (j0 : 0 ≤ j) (hj : j < ps.length) => rd_left ps [Pay.mk r.a r.b r.amt 0 0 0 r.til 0] j j0 hj
      have hS : rd (ps ++ [Pay.mk r.a r.b r.amt 0 0 0 r.til 0]) (ps.length : Int) = Pay.mk r.a r.b r.amt 0 0 0 r.til 0 := rd_snoc ps _
      have hcase : ∀ j : Int, j < (ps ++ [Pay.mk r.a r.b r.amt 0 0 0 r.til 0]).length → j < ps.length ∨ j = ps.length := fun j hj => by rw [hlen] at hj; omega
      have hcl' : (9 ≤ r.a ∧ r.a < xs.length) ∧ (9 ≤ r.b ∧ r.b < xs.length) := by simp [isCl] at hcl; omega
      have hbad' : r.a ≠ r.b ∧ now < r.til := ⟨fun e => hbad (.inl e), by rcases Int.lt_or_le now r.til with h | h; exact h; exact absurd (.inr h) hbad⟩
      have htil := hf.2 hop3
      have hl := ht.len
      refine ⟨⟨h.good.hold hh, ⟨by rw [hlen]; omega, fun k k0 hk => ?_⟩, fun c c0 c3 => by rw [ht.sums c]; exact h.sums c c0 c3, fun j j9 hj => ?_, fun k k0 hk => ?_, fun k k0 hk => ?_, h.gpos, fun k hk => h.gout k (by omega)⟩, by omega⟩
      · rw [hl]
        rcases hcase k hk with hk | rfl
        · rw [hL k k0 hk]; exact h.pays.2 k k0 hk
        · rw [hS]
          exact ⟨⟨ha, ⟨by simp, by simp only; omega⟩, by simp, by simp, by simp, ⟨by simp only; omega, htil⟩, .inl rfl⟩, hcl'⟩
      · rw [ht.held j (by omega) (by omega), h.held j j9 (by omega), hsum_append]
        simp only [hsum, left]
        by_cases e : j = r.a
        · subst e
          rw [if_pos rfl, if_pos rfl]
          simp
          omega
        · rw [if_neg e, if_neg (Ne.symm e)]
          omega
      · rcases hcase k hk with hk | rfl
        · rw [hL k k0 hk]; exact h.open_ k k0 hk
        · rw [hS]; intro _; simp only; omega
      · rcases hcase k hk with hk | rfl
        · rw [hL k k0 hk]; exact h.apart k k0 hk
        · rw [hS]; exact hbad'.1
  split at hd
  · rename_i hop4
    obtain ⟨⟨a0, a1⟩, rfl, q, hq, hy, rfl⟩ := deskPay_ok hd
    have hpk := h.pays.2 r.a a0 a1
    have hdn := payDo_done hpk.1 (h.open_ r.a a0 a1) hq
    obtain ⟨es, zs, hm, hr, hp, hB⟩ := capF_ok h.good hy
    obtain ⟨ht, ha, hfree, _⟩ := release_ok' hr
    have hmv := post_moved hp hB
    have hl1 := ht.len
    have hl2 := hmv.len
    refine ⟨h.paid a0 a1 hdn ((h.good.release hr).post hB hp) (by omega) (fun c c0 c3 => by rw [post_sums hB hp c c0 c3, ht.sums c]) (fun j j9 hj => ?_), by omega⟩
    rw [hmv.held j (by omega) (by omega), ht.held j (by omega) (by omega), hdn.cap hop4]
    by_cases e : (rd ps r.a).frm = j
    · rw [if_pos e, if_pos e.symm]; omega
    · rw [if_neg e, if_neg (Ne.symm e)]
  split at hd
  · rename_i hop5
    obtain ⟨⟨a0, a1⟩, rfl, q, hq, hy, rfl⟩ := deskPay_ok hd
    have hpk := h.pays.2 r.a a0 a1
    have hdn := payDo_done hpk.1 (h.open_ r.a a0 a1) hq
    obtain ⟨ht, ha, hfree, _⟩ := release_ok' hy
    have hl1 := ht.len
    refine ⟨h.paid a0 a1 hdn (h.good.release hy) (by omega) (fun c c0 c3 => ht.sums c) (fun j j9 hj => ?_), by omega⟩
    rw [ht.held j (by omega) (by omega), (hdn.void hop5).1]
    by_cases e : (rd ps r.a).frm = j
    · rw [if_pos e, if_pos e.symm]; omega
    · rw [if_neg e, if_neg (Ne.symm e)]
  split at hd
  · rename_i hop6
    obtain ⟨⟨a0, a1⟩, rfl, q, hq, hy, rfl⟩ := deskPay_ok hd
    have hpk := h.pays.2 r.a a0 a1
    have hdn := payDo_done hpk.1 (h.open_ r.a a0 a1) hq
    unfold refF at hy
    cases hb : backE xs (rd ps r.a) r.amt with
    | error c => rw [hb] at hy; cases hy
    | ok es =>
      rw [hb] at hy
      simp only at hy
      have hB := backE_bal h.good hb
      have hmv := post_moved hy hB
      have hl2 := hmv.len
      refine ⟨h.paid a0 a1 hdn (h.good.post hB hy) (by omega) (fun c c0 c3 => post_sums hB hy c c0 c3) (fun j j9 hj => ?_), by omega⟩
      rw [hmv.held j (by omega) (by omega), (hdn.ref hop6).1]
      split <;> omega
  split at hd
  · rename_i hop7
    obtain ⟨⟨a0, a1⟩, rfl, q, hq, hy, rfl⟩ := deskPay_ok hd
    have hpk := h.pays.2 r.a a0 a1
    have hdn := payDo_done hpk.1 (h.open_ r.a a0 a1) hq
    unfold chargeF at hy
    cases hb : backE xs (rd ps r.a) r.amt with
    | error c => rw [hb] at hy; cases hy
    | ok es =>
      rw [hb] at hy
      simp only at hy
      have hB := chgEs_bal h.good hpk.2.2 hb
      have hmv := post_moved hy hB
      have hl2 := hmv.len
      refine ⟨h.paid a0 a1 hdn (h.good.post hB hy) (by omega) (fun c c0 c3 => post_sums hB hy c c0 c3) (fun j j9 hj => ?_), by omega⟩
      rw [hmv.held j (by omega) (by omega), (hdn.chg hop7).1]
      split <;> omega
  · cases hd
/-! ### Errors are numbers above 0 -/
def EPos {α : Type} (r : Except Int α) : Prop := ∀ c, r = .error c → 1 ≤ c ∧ c ≤ 13
theorem EPos.ok {α : Type} (a : α) : EPos (.ok a : Except Int α) := fun c h => by cases h
theorem EPos.err {α : Type} (c : Int) (h : 1 ≤ c ∧ c ≤ 13) : EPos (.error c : Except Int α) := fun d hd => by injection hd with hd; omega
theorem EPos.ite {α : Type} {P : Prop} [Decidable P] {a b : Except Int α} (ha : EPos a) (hb : EPos b) : EPos (if P then a else b) := by split <;> assumption
theorem move_pos (xs : List Acc) (a b n : Int) : EPos (move xs a b n) := by
  unfold move
  repeat' first | exact EPos.ok _ | exact EPos.err _ (by decide) | refine EPos.ite ?_ ?_
theorem fold_pos : ∀ (es : List Ent) (xs : List Acc), EPos (es.foldlM post1 xs)
  | [], xs => EPos.ok xs
  | e :: es, xs => by
    rw [List.foldlM_cons]
    unfold post1
    split
    · exact fold_pos es _
    · intro c h
      injection h with h
      omega
theorem post_pos (xs : List Acc) (es : List Ent) : EPos (post xs es) := by
  unfold post
  have := fold_pos es xs
  cases hf : es.foldlM post1 xs with
  | error c => rw [hf] at this; exact this
  | ok ys => exact EPos.ite (EPos.ok _) (EPos.err _ (by decide))
theorem hold_pos (xs : List Acc) (k n : Int) : EPos (hold xs k n) := by
  unfold hold
  repeat' first | exact EPos.ok _ | exact EPos.err _ (by decide) | refine EPos.ite ?_ ?_
theorem release_pos (xs : List Acc) (k n : Int) : EPos (release xs k n) := by
  unfold release
  repeat' first | exact EPos.ok _ | exact EPos.err _ (by decide) | refine EPos.ite ?_ ?_
theorem payDo_pos (p : Pay) (op n : Int) : EPos (payDo p op n) := by
  unfold payDo
  repeat' first | exact EPos.ok _ | exact EPos.err _ (by decide) | refine EPos.ite ?_ ?_
theorem spend_pos (xs : List Acc) (n : Int) (es : List Ent) : EPos (spend xs n es) := by
  unfold spend
  refine EPos.ite (EPos.err _ (by decide)) ?_
  have := release_pos xs (rd es 0).acct n
  cases hr : release xs (rd es 0).acct n with
  | error c => rw [hr] at this; exact fun d hd => this d (by injection hd with hd; rw [hd])
  | ok ys => exact post_pos ys es
theorem deskPost_pos (xs : List Acc) (ps : List Pay) (a b n : Int) : EPos (deskPost xs ps a b n) := by
  unfold deskPost
  have := move_pos xs a b n
  cases hm : move xs a b n with
  | error c => rw [hm] at this; exact fun d hd => this d (by injection hd with hd; rw [hd])
  | ok es =>
    simp only
    have := post_pos xs es
    cases hp : post xs es with
    | error c => rw [hp] at this; exact fun d hd => this d (by injection hd with hd; rw [hd])
    | ok ys => exact EPos.ok _
theorem deskPay_pos (f : Pay → Except Int (List Acc)) (hf : ∀ p, EPos (f p)) (ps : List Pay) (r : Req) : EPos (deskPay f ps r) := by
  unfold deskPay
  refine EPos.ite (EPos.err _ (by decide)) ?_
  have := payDo_pos (rd ps r.a) r.op r.amt
  cases hm : payDo (rd ps r.a) r.op r.amt with
  | error c => rw [hm] at this; exact fun d hd => this d (by injection hd with hd; rw [hd])
  | ok q =>
    simp only
    have := hf (rd ps r.a)
    cases hp : f (rd ps r.a) with
    | error c => rw [hp] at this; exact fun d hd => this d (by injection hd with hd; rw [hd])
    | ok ys => exact EPos.ok _
theorem backE_pos (xs : List Acc) (p : Pay) (n : Int) : EPos (backE xs p n) := by
  unfold backE
  have := move_pos xs p.frm p.to n
  cases hm : move xs p.frm p.to n with
  | error c => rw [hm] at this; exact fun d hd => this d (by injection hd with hd; rw [hd])
  | ok es => exact EPos.ok _
theorem opsR_pos (now : Int) (xs : List Acc) (ps : List Pay) (r : Req) : EPos (opsR now xs ps r) := by
  unfold opsR
  refine EPos.ite ?_ (EPos.ite ?_ (EPos.ite ?_ (EPos.ite ?_ (EPos.ite ?_ (EPos.ite ?_ (EPos.ite ?_ (EPos.ite ?_ ?_)))))))
  · unfold deskOpen
    exact EPos.ite (EPos.err _ (by decide)) (EPos.ok _)
  · unfold deskDeposit
    exact EPos.ite (deskPost_pos _ _ _ _ _) (EPos.err _ (by decide))
  · unfold deskTransfer
    exact EPos.ite (deskPost_pos _ _ _ _ _) (EPos.err _ (by decide))
  · unfold deskAuth
    refine EPos.ite (EPos.err _ (by decide)) (EPos.ite (EPos.err _ (by decide)) (EPos.ite (EPos.err _ (by decide)) ?_))
    have := hold_pos xs r.a r.amt
    cases hh : hold xs r.a r.amt with
    | error c => rw [hh] at this; exact fun d hd => this d (by injection hd with hd; rw [hd])
    | ok ys => exact EPos.ok _
  · refine deskPay_pos _ (fun p => ?_) ps r
    unfold capF
    have := move_pos xs p.frm p.to r.amt
    cases hm : move xs p.frm p.to r.amt with
    | error c => rw [hm] at this; exact fun d hd => this d (by injection hd with hd; rw [hd])
    | ok es => exact spend_pos _ _ _
  · exact deskPay_pos _ (fun p => release_pos _ _ _) ps r
  · refine deskPay_pos _ (fun p => ?_) ps r
    unfold refF
    have := backE_pos xs p r.amt
    cases hm : backE xs p r.amt with
    | error c => rw [hm] at this; exact fun d hd => this d (by injection hd with hd; rw [hd])
    | ok es => exact post_pos _ _
  · refine deskPay_pos _ (fun p => ?_) ps r
    unfold chargeF
    have := backE_pos xs p r.amt
    cases hm : backE xs p r.amt with
    | error c => rw [hm] at this; exact fun d hd => this d (by injection hd with hd; rw [hd])
    | ok es => exact post_pos _ _
  · exact EPos.err _ (by decide)
theorem opsDo_err {s : St} {r : Req} {c : Int} (h : opsR s.now s.accs s.pays r = .error c) : opsDo s r = (s, ⟨c, 0⟩) ∧ 1 ≤ c ∧ c ≤ 13 := ⟨by unfold opsDo; rw [h], opsR_pos _ _ _ _ c h⟩
theorem opsDo_yes {s : St} {r : Req} {t : List Acc × List Pay × Int} (h : opsR s.now s.accs s.pays r = .ok t) : opsDo s r = ({ s with accs := t.1, pays := t.2.1 }, ⟨0, t.2.2⟩) := by unfold opsDo; rw [h]
end Go.Proofs.YthjmficglpfgpaaDoor
namespace Go.Proofs.YthjmficglpfgpaaDoor
set_option linter.unusedVariables false
set_option linter.unusedSimpArgs false
open Go Go.RowKit Enc
set_option maxRecDepth 100000

def shut (p : Pay) : Pay := { p with stage := 1 }
def dueB (now : Int) (p : Pay) : Bool := decide (p.stage = 0 ∧ p.til ≤ now)
def closeP (now : Int) (ps : List Pay) : List Pay := ps.map fun p => if dueB now p then shut p else p
def closeA (now : Int) (xs : List Acc) (ps : List Pay) : List Acc := xs.mapIdx fun i a => { a with held := a.held - (hsum (i : Int) ps - hsum (i : Int) (closeP now ps)) }
/-- A state behind a tick. -/
def tickSt (s : St) : St :=
  if s.now ≥ 1073741824 then s else { s with now := s.now + 1, accs := closeA (s.now + 1) s.accs s.pays, pays := closeP (s.now + 1) s.pays }
/-- The request that a tick makes for a payment. -/
def voidReq (k : Int) : Req := ⟨0, 5, k, 0, 0, 0, 0⟩
def voids (ks : List Int) (s : St) : St := ks.foldl (fun s k => (opsDo s (voidReq k)).1) s

/-- Accounts alike but for what is held. -/
structure Alike (xs ys : List Acc) : Prop where
  len : ys.length = xs.length
  cur : ∀ j : Int, 0 ≤ j → j < xs.length → (rd ys j).cur = (rd xs j).cur
  bal : ∀ j : Int, 0 ≤ j → j < xs.length → (rd ys j).bal = (rd xs j).bal
theorem Alike.refl (xs : List Acc) : Alike xs xs := ⟨rfl, fun _ _ _ => rfl, fun _ _ _ => rfl⟩
theorem Alike.trans {xs ys zs : List Acc} (h : Alike xs ys) (k : Alike ys zs) : Alike xs zs := by
  have := h.len
  exact ⟨k.len.trans h.len, fun j h0 hj => (k.cur j h0 (by omega)).trans (h.cur j h0 hj), fun j h0 hj => (k.bal j h0 (by omega)).trans (h.bal j h0 hj)⟩
theorem Turned.alike {xs ys : List Acc} {k n : Int} (h : Turned xs ys k n) : Alike xs ys := ⟨h.len, h.cur, h.bal⟩
theorem Acc.eq {a b : Acc} (h1 : a.cur = b.cur) (h2 : a.bal = b.bal) (h3 : a.held = b.held) : a = b := by
  cases a; cases b; simp_all
/-- What is held is told by the payments. -/
theorem Ok.same {G : Int → Int} {xs ys zs : List Acc} {ps : List Pay} (h : Ok G ys ps) (k : Ok G zs ps) (ha : Alike xs ys) (hb : Alike xs zs) : ys = zs := by
  have l1 := ha.len
  have l2 := hb.len
  refine rd_ext (l1.trans l2.symm) fun j j0 hj => Acc.eq ?_ ?_ ?_
  · rw [ha.cur j j0 (by omega), hb.cur j j0 (by omega)]
  · rw [ha.bal j j0 (by omega), hb.bal j j0 (by omega)]
  · by_cases h9 : j < 9
    · rw [(h.good.house j j0 h9).2, (k.good.house j j0 h9).2]
    · rw [h.held j (by omega) hj, k.held j (by omega) (by omega)]

theorem Ok.left0 {G : Int → Int} {xs : List Acc} {ps : List Pay} (h : Ok G xs ps) : ∀ p ∈ ps, 0 ≤ left p := fun p hp => by
  obtain ⟨k, k0, hk, rfl⟩ := mem_rd hp
  exact (left_bd (h.pays.2 k k0 hk).1).1
theorem void_one {G : Int → Int} {now : Int} {xs : List Acc} {ps : List Pay} {k : Int} (h : Ok G xs ps) (h0 : 0 ≤ k) (hk : k < ps.length) (hs : (rd ps k).stage = 0) :
    ∃ ys, opsR now xs ps (voidReq k) = .ok (ys, ps.set k.toNat (shut (rd ps k)), 0) ∧ Alike xs ys := by
  have hp := h.pays.2 k h0 hk
  have ho := h.open_ k h0 hk hs
  have hl : left (rd ps k) = (rd ps k).auth - (rd ps k).capt := by unfold left; rw [if_pos hs]
  have ha := hp.1.auth
  have hc := hp.1.capt
  have hheld := h.held (rd ps k).frm hp.2.1.1 hp.2.1.2
  have hge := hsum_ge (rd ps k).frm ps (rd ps k) (rd_mem ps k h0 hk) rfl h.left0
  have hgp := h.gpos (rd ps k).frm
  have hrel : release xs (rd ps k).frm (left (rd ps k)) = .ok (upd xs (rd ps k).frm { rd xs (rd ps k).frm with held := (rd xs (rd ps k).frm).held - left (rd ps k) }) := by
    unfold release
    rw [if_neg (by have := hp.2.1; omega), if_neg (by omega), if_neg (by omega)]
  have hpd : payDo (rd ps k) 5 0 = .ok (shut (rd ps k)) := by
    unfold payDo
    rw [if_neg (by omega), if_neg (by omega), if_neg (by omega), if_pos rfl, if_pos hs]
    rfl
  refine ⟨_, ?_, (release_ok' hrel).1.alike⟩
  have hR : opsR now xs ps (voidReq k) = deskPay (fun p => release xs p.frm (left p)) ps (voidReq k) := by simp [opsR, voidReq]
  rw [hR]
  unfold deskPay voidReq
  simp only
  rw [if_neg (by omega), hpd]
  simp only
  rw [hrel]

/-- What is done by voids of payments that are open. -/
structure Voided (G : Int → Int) (s t : St) (ks : List Int) : Prop where
  ok : Ok G t.accs t.pays
  alike : Alike s.accs t.accs
  len : t.pays.length = s.pays.length
  pay : ∀ j : Int, 0 ≤ j → j < s.pays.length → rd t.pays j = if j ∈ ks then shut (rd s.pays j) else rd s.pays j
  sagas : t.sagas = s.sagas
  known : t.known = s.known
  now : t.now = s.now
theorem voids_ok {G : Int → Int} : ∀ (ks : List Int) (s : St), Ok G s.accs s.pays → 0 ≤ s.now → ks.Nodup → (∀ k ∈ ks, (0 ≤ k ∧ k < s.pays.length) ∧ (rd s.pays k).stage = 0) → Voided G s (voids ks s) ks
  | [], s, h, _, _, _ => ⟨h, Alike.refl _, rfl, fun j _ _ => by simp [voids], rfl, rfl, rfl⟩
  | k :: ks, s, h, hn, hnd, hall => by
    obtain ⟨⟨k0, hk⟩, hs⟩ := hall k (List.mem_cons_self ..)
    rw [List.nodup_cons] at hnd
    obtain ⟨ys, hys, hal⟩ := void_one (now := s.now) h k0 hk hs
    have hok := (ops_ok h hn ⟨fun h => by simp [voidReq] at h, fun h => by simp [voidReq] at h⟩ hys).1
    have hone : (opsDo s (voidReq k)).1 = { s with accs := ys, pays := s.pays.set k.toNat (shut (rd s.pays k)) } := by
      unfold opsDo; rw [hys]
    have hrd := fun (j : Int) (j0 : 0 ≤ j) (hj : j < s.pays.length) => rd_set s.pays k.toNat j (shut (rd s.pays k)) j0 hj
    rw [show ((k.toNat : Nat) : Int) = k by omega] at hrd
    have hlen : (s.pays.set k.toNat (shut (rd s.pays k))).length = s.pays.length := by simp
    have hv : voids (k :: ks) s = voids ks { s with accs := ys, pays := s.pays.set k.toNat (shut (rd s.pays k)) } := by
      show voids ks (opsDo s (voidReq k)).1 = _
      rw [hone]
    rw [hv]
    have ih := voids_ok (G := G) ks { s with accs := ys, pays := s.pays.set k.toNat (shut (rd s.pays k)) } hok hn hnd.2 (fun j hj => by
      have hj' := hall j (List.mem_cons_of_mem _ hj)
      have hne : j ≠ k := fun e => hnd.1 (e ▸ hj)
      simp only
      rw [hlen, hrd j hj'.1.1 hj'.1.2, if_neg hne]
      exact hj')
    refine ⟨ih.ok, hal.trans ih.alike, ih.len.trans hlen, fun j j0 hj => ?_, ih.sagas, ih.known, ih.now⟩
    rw [ih.pay j j0 (by simp only; omega)]
    simp only
    rw [hrd j j0 hj]
    by_cases e : j = k
    · subst e
      rw [if_neg hnd.1, if_pos rfl, if_pos (List.mem_cons_self ..)]
    · rw [if_neg e]
      by_cases hm : j ∈ ks
      · rw [if_pos hm, if_pos (List.mem_cons_of_mem _ hm)]
      · rw [if_neg hm, if_neg (fun h => by rcases List.mem_cons.1 h with h | h; exact e h; exact hm h)]

/-- The payments whose time is over, each once. -/
structure Due (ps : List Pay) (now : Int) (ks : List Int) : Prop where
  nodup : ks.Nodup
  mem : ∀ k, k ∈ ks ↔ (0 ≤ k ∧ k < ps.length) ∧ dueB now (rd ps k) = true
theorem closeP_len (now : Int) (ps : List Pay) : (closeP now ps).length = ps.length := by simp [closeP]
theorem rd_closeP (now : Int) (ps : List Pay) (j : Int) (j0 : 0 ≤ j) (hj : j < ps.length) : rd (closeP now ps) j = if dueB now (rd ps j) then shut (rd ps j) else rd ps j := by
  obtain ⟨n, rfl⟩ := Int.eq_ofNat_of_zero_le j0
  rw [rd_nat _ n (by rw [closeP_len]; omega), rd_nat ps n (by omega)]
  simp [closeP]
theorem closeA_len (now : Int) (xs : List Acc) (ps : List Pay) : (closeA now xs ps).length = xs.length := by simp [closeA]
theorem rd_closeA (now : Int) (xs : List Acc) (ps : List Pay) (j : Int) (j0 : 0 ≤ j) (hj : j < xs.length) : rd (closeA now xs ps) j = { rd xs j with held := (rd xs j).held - (hsum j ps - hsum j (closeP now ps)) } := by
  obtain ⟨n, rfl⟩ := Int.eq_ofNat_of_zero_le j0
  rw [rd_nat _ n (by rw [closeA_len]; omega), rd_nat xs n (by omega)]
  simp [closeA]
theorem Voided.closed {G : Int → Int} {s t : St} {ks : List Int} {now : Int} (h : Ok G s.accs s.pays) (hv : Voided G s t ks) (hd : Due s.pays now ks) : t.pays = closeP now s.pays ∧ t.accs = closeA now s.accs s.pays := by
  have hp : t.pays = closeP now s.pays := by
    refine rd_ext (by rw [hv.len, closeP_len]) fun j j0 hj => ?_
    have hj' : j < s.pays.length := by rw [hv.len] at hj; exact hj
    rw [hv.pay j j0 hj', rd_closeP now s.pays j j0 hj']
    by_cases hm : j ∈ ks
    · rw [if_pos hm, if_pos ((hd.mem j).1 hm).2]
    · rw [if_neg hm, if_neg (fun e => hm ((hd.mem j).2 ⟨⟨j0, hj'⟩, e⟩))]
  refine ⟨hp, ?_⟩
  have hl := hv.alike.len
  refine rd_ext (by rw [closeA_len]; exact hl) fun j j0 hj => ?_
  rw [rd_closeA now s.accs s.pays j j0 (by omega)]
  refine Acc.eq (hv.alike.cur j j0 (by omega)) (hv.alike.bal j j0 (by omega)) ?_
  simp only
  by_cases h9 : j < 9
  · rw [(hv.ok.good.house j j0 h9).2, (h.good.house j j0 h9).2, ← hp, hsum_zero, hsum_zero]
    · rfl
    · intro p hm
      obtain ⟨k, k0, hk, rfl⟩ := mem_rd hm
      have := (hv.ok.pays.2 k k0 hk).2.1.1
      omega
    · intro p hm
      obtain ⟨k, k0, hk, rfl⟩ := mem_rd hm
      have := (h.pays.2 k k0 hk).2.1.1
      omega
  · rw [hv.ok.held j (by omega) hj, h.held j (by omega) (by omega), hp]
    omega
/-- What a tick leaves is right. -/
theorem tick_eq {G : Int → Int} {s : St} {ks : List Int} (h : Ok G s.accs s.pays) (hn : 0 ≤ s.now) (hlt : s.now < 1073741824) (hd : Due s.pays (s.now + 1) ks) :
    voids ks { s with now := s.now + 1 } = tickSt s ∧ Ok G (tickSt s).accs (tickSt s).pays := by
  have hv := voids_ok (G := G) ks { s with now := s.now + 1 } h (by simp only; omega) hd.nodup (fun k hk => by
    obtain ⟨h1, h2⟩ := (hd.mem k).1 hk
    refine ⟨h1, ?_⟩
    unfold dueB at h2
    exact (of_decide_eq_true h2).1)
  have hc := Voided.closed (s := { s with now := s.now + 1 }) (now := s.now + 1) h hv hd
  have he : voids ks { s with now := s.now + 1 } = tickSt s := by
    unfold tickSt
    rw [if_neg (by omega)]
    have e1 := hc.1
    have e2 := hc.2
    have e3 := hv.sagas
    have e4 := hv.known
    have e5 := hv.now
    revert e1 e2 e3 e4 e5
    generalize voids ks { s with now := s.now + 1 } = t
    intro e1 e2 e3 e4 e5
    cases t
    simp only at e1 e2 e3 e4 e5
    subst e1 e2 e3 e4 e5
    rfl
  exact ⟨he, he ▸ hv.ok⟩
theorem Due.none {ps : List Pay} {now : Int} {ks : List Int} (h : Due (closeP now ps) now ks) : ks = [] := by
  cases ks with
  | nil => rfl
  | cons k ks =>
    have := (h.mem k).1 (List.mem_cons_self ..)
    obtain ⟨⟨k0, hk⟩, hd⟩ := this
    rw [closeP_len] at hk
    rw [rd_closeP now ps k k0 hk] at hd
    split at hd
    · simp [dueB, shut] at hd
    · rename_i hn; exact absurd hd hn
end Go.Proofs.YthjmficglpfgpaaDoor
namespace Go.Proofs.YthjmficglpfgpaaDoor
set_option linter.unusedVariables false
set_option linter.unusedSimpArgs false
open Go Go.RowKit Enc
set_option maxRecDepth 100000

/-- The currencies of the six accounts. -/
def six (cs : List Int) : List Int := (cs.take 6 ++ [0, 1, 2, 0, 1, 0]).take 6
def hasAt (has : List Int) (k : Int) : Int := if k < has.length then rd has k % 100000 else 0
def bookStep (has : List Int) (az : List Acc) (k c : Int) : List Acc :=
  upd az (3 * (c % 3)) { rd az (3 * (c % 3)) with bal := (rd az (3 * (c % 3))).bal - hasAt has k } ++ [⟨c % 3, hasAt has k, 0⟩]
def house : List Acc := [⟨0, 0, 0⟩, ⟨0, 0, 0⟩, ⟨0, 0, 0⟩, ⟨1, 0, 0⟩, ⟨1, 0, 0⟩, ⟨1, 0, 0⟩, ⟨2, 0, 0⟩, ⟨2, 0, 0⟩, ⟨2, 0, 0⟩]
def bookFrom (has : List Int) : List Acc → Int → List Int → List Acc
  | az, _, [] => az
  | az, k, c :: cs => bookFrom has (bookStep has az k c) (k + 1) cs
def book (cs has : List Int) : List Acc := bookFrom has house 0 cs
def payOf (p : Paid) : Pay :=
  let auth := 1 + p.auth
  let capt := p.capt % (auth + 1)
  let refd := p.refd % (capt + 1)
  let chgd := p.chgd % (capt - refd + 1)
  ⟨9 + p.frm % 6, 9 + p.to % 6, auth, capt, refd, chgd, p.til % 20, if p.closed = true ∨ capt = auth then 1 else 0⟩
def payStep (s : List Acc × List Pay) (p : Paid) : List Acc × List Pay :=
  let x := payOf p
  if x.frm = x.to then s
  else if 0 < left x then
    match hold s.1 x.frm (left x) with
    | .error _ => s
    | .ok az => (az, s.2 ++ [x])
  else (s.1, s.2 ++ [x])
def stOf (cs has : List Int) (ps : List Paid) (now : Int) : St :=
  let r := (ps.take 6).foldl payStep (book (six cs) has, [])
  ⟨r.1, r.2, [], [], now % 12⟩

/-- Accounts by numbers: n clients. -/
structure Bk (az : List Acc) (n : Int) : Prop where
  len : (az.length : Int) = 9 + n
  cur : ∀ k : Int, 0 ≤ k → k < az.length → 0 ≤ (rd az k).cur ∧ (rd az k).cur < 3
  house : ∀ k : Int, 0 ≤ k → k < 9 → (rd az k).cur = k / 3 ∧ -(n * 99999) ≤ (rd az k).bal ∧ (rd az k).bal ≤ 0
  client : ∀ k : Int, 9 ≤ k → k < az.length → 0 ≤ (rd az k).bal ∧ (rd az k).bal ≤ 99999
  held : ∀ k : Int, 0 ≤ k → k < az.length → (rd az k).held = 0
  sums : ∀ c : Int, csum c az = 0
theorem house_bk : Bk house 0 := by
  refine ⟨by decide, fun k h0 hk => ?_, fun k h0 hk => ?_, fun k h9 hk => ?_, fun k h0 hk => ?_, fun c => ?_⟩
  · have : k = 0 ∨ k = 1 ∨ k = 2 ∨ k = 3 ∨ k = 4 ∨ k = 5 ∨ k = 6 ∨ k = 7 ∨ k = 8 := by simp [house] at hk; omega
    rcases this with rfl | rfl | rfl | rfl | rfl | rfl | rfl | rfl | rfl <;> decide
  · have : k = 0 ∨ k = 1 ∨ k = 2 ∨ k = 3 ∨ k = 4 ∨ k = 5 ∨ k = 6 ∨ k = 7 ∨ k = 8 := by omega
    rcases this with rfl | rfl | rfl | rfl | rfl | rfl | rfl | rfl | rfl <;> decide
  · simp [house] at hk; omega
  · have : k = 0 ∨ k = 1 ∨ k = 2 ∨ k = 3 ∨ k = 4 ∨ k = 5 ∨ k = 6 ∨ k = 7 ∨ k = 8 := by simp [house] at hk; omega
    rcases this with rfl | rfl | rfl | rfl | rfl | rfl | rfl | rfl | rfl <;> decide
  · simp only [house, csum]
    (repeat' split) <;> rfl
theorem hasAt_bd (has : List Int) (k : Int) : 0 ≤ hasAt has k ∧ hasAt has k ≤ 99999 := by
  unfold hasAt
  split <;> omega
theorem bookStep_bk (has : List Int) {az : List Acc} {n : Int} (h : Bk az n) (hn : 0 ≤ n) (k c : Int) : Bk (bookStep has az k c) (n + 1) := by
  have hb := hasAt_bd has k
  unfold bookStep
  generalize hasAt has k = b at *
  have hc : 0 ≤ c % 3 ∧ c % 3 < 3 := by omega
  generalize c % 3 = d at *
  have hl := h.len
  have hh := h.house (3 * d) (by omega) (by omega)
  have hcur : (rd az (3 * d)).cur = d := by rw [hh.1]; omega
  have hrd := fun (j : Int) (h0 : 0 ≤ j) (hj : j < az.length) => rd_upd az (3 * d) j { rd az (3 * d) with bal := (rd az (3 * d)).bal - b } h0 hj (by omega)
  have hcs := fun c' => csum_upd c' (xs := az) (k := 3 * d) (by omega) (by omega) (x := { rd az (3 * d) with bal := (rd az (3 * d)).bal - b }) rfl
  have hul := upd_len az (3 * d) { rd az (3 * d) with bal := (rd az (3 * d)).bal - b }
  have hheld := h.held (3 * d) (by omega) (by omega)
  have hcu := h.cur (3 * d) (by omega) (by omega)
  generalize upd az (3 * d) { rd az (3 * d) with bal := (rd az (3 * d)).bal - b } = us at *
  have hL := fun (j : Int) (j0 : 0 ≤ j) (hj : j < us.length) => rd_left us [Acc.mk d b 0] j j0 hj
  have hS : rd (us ++ [Acc.mk d b 0]) (us.length : Int) = Acc.mk d b 0 := rd_snoc us _
  have hlen : (us ++ [Acc.mk d b 0]).length = us.length + 1 := by simp
  have hcase : ∀ j : Int, j < (us ++ [Acc.mk d b 0]).length → j < us.length ∨ j = us.length := fun j hj => by rw [hlen] at hj; omega
  refine ⟨by rw [hlen, hul]; omega, fun j j0 hj => ?_, fun j j0 hj => ?_, fun j j9 hj => ?_, fun j j0 hj => ?_, fun c' => ?_⟩
  · rcases hcase j hj with hj | rfl
    · rw [hL j j0 hj, hrd j j0 (by omega)]
      split
      · exact hcu
      · exact h.cur j j0 (by omega)
    · rw [hS]; exact hc
  · rw [hL j j0 (by omega), hrd j j0 (by omega)]
    have := h.house j j0 hj
    split
    · rename_i e; subst e
      exact ⟨this.1, by simp only; omega, by simp only; omega⟩
    · exact ⟨this.1, by omega, by omega⟩
  · rcases hcase j hj with hj | rfl
    · rw [hL j (by omega) hj, hrd j (by omega) (by omega), if_neg (by omega)]
      exact h.client j j9 (by omega)
    · rw [hS]; exact hb
  · rcases hcase j hj with hj | rfl
    · rw [hL j j0 hj, hrd j j0 (by omega)]
      split
      · exact hheld
      · exact h.held j j0 (by omega)
    · rw [hS]
  · rw [csum_append, hcs c', h.sums c', hcur]
    simp only [csum]
    split <;> omega
theorem bookFrom_bk (has : List Int) : ∀ (cs : List Int) (az : List Acc) (n k : Int), Bk az n → 0 ≤ n → Bk (bookFrom has az k cs) (n + cs.length)
  | [], az, n, k, h, _ => by simpa [bookFrom] using h
  | c :: cs, az, n, k, h, hn => by
    have := bookFrom_bk has cs (bookStep has az k c) (n + 1) (k + 1) (bookStep_bk has h hn k c) (by omega)
    simp only [bookFrom, List.length_cons]
    rwa [show n + ((cs.length + 1 : Nat) : Int) = n + 1 + cs.length by omega]
theorem six_len (cs : List Int) : (six cs).length = 6 := by
  simp [six]
theorem book_bk (cs has : List Int) : Bk (book (six cs) has) 6 := by
  have := bookFrom_bk has (six cs) house 0 0 house_bk (by decide)
  rw [six_len] at this
  simpa [book] using this
theorem Bk.good {az : List Acc} (h : Bk az 6) : Good az := by
  have hl := h.len
  refine ⟨by omega, by omega, h.cur, fun k h0 hk => ?_, fun k h0 hk => ⟨(h.house k h0 hk).1, h.held k h0 (by omega)⟩, fun k h9 hk => ?_⟩
  · by_cases h9 : k < 9
    · have := h.house k h0 h9; omega
    · have := h.client k (by omega) hk; omega
  · rw [h.held k (by omega) hk]
    have := h.client k h9 hk; omega
theorem Bk.ok {az : List Acc} (h : Bk az 6) : Ok (fun _ => 0) az [] :=
  ⟨h.good, ⟨by simp, fun k h0 hk => by simp at hk; omega⟩, fun c _ _ => h.sums c, fun k h9 hk => by rw [h.held k (by omega) hk]; rfl, fun k h0 hk => by simp at hk; omega, fun k h0 hk => by simp at hk; omega, fun _ => Int.le_refl _, fun _ _ => rfl⟩
/-- A payment by numbers. -/
structure PaidOk (p : Paid) : Prop where
  frm : 0 ≤ p.frm ∧ p.frm < 256
  to : 0 ≤ p.to ∧ p.to < 256
  auth : 0 ≤ p.auth ∧ p.auth < 256
  capt : 0 ≤ p.capt ∧ p.capt < 256
  refd : 0 ≤ p.refd ∧ p.refd < 256
  chgd : 0 ≤ p.chgd ∧ p.chgd < 256
  til : 0 ≤ p.til ∧ p.til < 256
theorem payOf_ok {p : Paid} (h : PaidOk p) : PayOk (payOf p) ∧ ((payOf p).stage = 0 → (payOf p).capt < (payOf p).auth) ∧ (9 ≤ (payOf p).frm ∧ (payOf p).frm < 15) ∧ (9 ≤ (payOf p).to ∧ (payOf p).to < 15) ∧ (payOf p).auth ≤ 256 := by
  obtain ⟨h1, h2, h3, h4, h5, h6, h7⟩ := h
  unfold payOf
  simp only
  have c0 := Int.emod_nonneg p.capt (show (1 + p.auth + 1) ≠ 0 by omega)
  have c1 := Int.emod_lt_of_pos p.capt (show 0 < (1 + p.auth + 1) by omega)
  generalize p.capt % (1 + p.auth + 1) = c at *
  have r0 := Int.emod_nonneg p.refd (show (c + 1) ≠ 0 by omega)
  have r1 := Int.emod_lt_of_pos p.refd (show 0 < (c + 1) by omega)
  generalize p.refd % (c + 1) = r at *
  have g0 := Int.emod_nonneg p.chgd (show (c - r + 1) ≠ 0 by omega)
  have g1 := Int.emod_lt_of_pos p.chgd (show 0 < (c - r + 1) by omega)
  generalize p.chgd % (c - r + 1) = g at *
  refine ⟨⟨⟨by simp only; omega, by simp only; omega⟩, ⟨by simp only; omega, by simp only; omega⟩, by simp only; omega, by simp only; omega, by simp only; omega, ⟨by simp only; omega, by simp only; omega⟩, ?_⟩, ?_, ⟨by omega, by omega⟩, ⟨by omega, by omega⟩, by omega⟩
  · simp only
    split
    · exact .inr rfl
    · exact .inl rfl
  · split
    · intro h; simp at h
    · rename_i hn
      intro _
      have : c ≠ 1 + p.auth := fun e => hn (.inr e)
      omega
/-- States by numbers, on the way. -/
structure Num0 (b az : List Acc) (ps : List Pay) (n : Nat) : Prop where
  ok : Ok (fun _ => 0) az ps
  alike : Alike b az
  len : (az.length : Int) = 15
  pays : ps.length ≤ n
  small : ∀ k : Int, 0 ≤ k → k < ps.length → (rd ps k).auth ≤ 256
theorem payStep_num {b az : List Acc} {ps : List Pay} {n : Nat} (hn : n < 6) (h : Num0 b az ps n) {p : Paid} (hp : PaidOk p) : Num0 b (payStep (az, ps) p).1 (payStep (az, ps) p).2 (n + 1) := by
  obtain ⟨o1, o2, o3, o4, o5⟩ := payOf_ok hp
  have hl := h.len
  have hpl := h.pays
  unfold payStep
  simp only
  generalize payOf p = x at *
  split
  · exact ⟨h.ok, h.alike, h.len, by simp only; omega, h.small⟩
  rename_i hne
  have hlen : (ps ++ [x]).length = ps.length + 1 := by simp
  have hL := fun (j : Int) (j0 : 0 ≤ j) (hj : j < ps.length) => rd_left ps [x] j j0 hj
  have hS : rd (ps ++ [x]) (ps.length : Int) = x := rd_snoc ps _
  have hcase : ∀ j : Int, j < (ps ++ [x]).length → j < ps.length ∨ j = ps.length := fun j hj => by rw [hlen] at hj; omega
  have hone : ∀ j, hsum j [x] = if x.frm = j then left x else 0 := fun j => by simp [hsum]
  split
  · rename_i hpos
    cases hh : hold az x.frm (left x) with
    | error c => exact ⟨h.ok, h.alike, h.len, by simp only; omega, h.small⟩
    | ok ys =>
      obtain ⟨ht, ha, hfree, _⟩ := hold_ok hh
      have htl := ht.len
      refine ⟨⟨h.ok.good.hold hh, ⟨by simp only [hlen]; omega, fun k k0 hk => ?_⟩, fun c c0 c3 => by simp only; rw [ht.sums c]; exact h.ok.sums c c0 c3, fun j j9 hj => ?_, fun k k0 hk => ?_, fun k k0 hk => ?_, h.ok.gpos, fun k _ => rfl⟩, h.alike.trans ht.alike, by simp only; omega, by simp only [hlen]; omega, fun k k0 hk => ?_⟩
      · simp only at hk ⊢
        rcases hcase k hk with hk | rfl
        · rw [hL k k0 hk, htl]; exact h.ok.pays.2 k k0 hk
        · rw [hS]; exact ⟨o1, ⟨o3.1, by omega⟩, ⟨o4.1, by omega⟩⟩
      · simp only at hj ⊢
        rw [ht.held j (by omega) (by omega), h.ok.held j j9 (by omega), hsum_append, hone]
        by_cases e : j = x.frm
        · rw [if_pos e, if_pos e.symm]
          omega
        · rw [if_neg e, if_neg (Ne.symm e)] <;> omega
      · simp only at hk ⊢
        rcases hcase k hk with hk | rfl
        · rw [hL k k0 hk]; exact h.ok.open_ k k0 hk
        · rw [hS]; exact o2
      · simp only at hk ⊢
        rcases hcase k hk with hk | rfl
        · rw [hL k k0 hk]; exact h.ok.apart k k0 hk
        · rw [hS]; exact hne
      · simp only at hk ⊢
        rcases hcase k hk with hk | rfl
        · rw [hL k k0 hk]; exact h.small k k0 hk
        · rw [hS]; exact o5
  · rename_i hpos
    have hl0 := (left_bd o1).1
    have hz : left x = 0 := by omega
    refine ⟨⟨h.ok.good, ⟨by simp only [hlen]; omega, fun k k0 hk => ?_⟩, h.ok.sums, fun j j9 hj => ?_, fun k k0 hk => ?_, fun k k0 hk => ?_, h.ok.gpos, fun k _ => rfl⟩, h.alike, h.len, by simp only [hlen]; omega, fun k k0 hk => ?_⟩
    · simp only at hk ⊢
      rcases hcase k hk with hk | rfl
      · rw [hL k k0 hk]; exact h.ok.pays.2 k k0 hk
      · rw [hS]; exact ⟨o1, ⟨o3.1, by omega⟩, ⟨o4.1, by omega⟩⟩
    · simp only at hj ⊢
      rw [h.ok.held j j9 (by omega), hsum_append, hone, hz]
      split <;> omega
    · simp only at hk ⊢
      rcases hcase k hk with hk | rfl
      · rw [hL k k0 hk]; exact h.ok.open_ k k0 hk
      · rw [hS]; exact o2
    · simp only at hk ⊢
      rcases hcase k hk with hk | rfl
      · rw [hL k k0 hk]; exact h.ok.apart k k0 hk
      · rw [hS]; exact hne
    · simp only at hk ⊢
      rcases hcase k hk with hk | rfl
      · rw [hL k k0 hk]; exact h.small k k0 hk
      · rw [hS]; exact o5
theorem payFold_num {b : List Acc} : ∀ (l : List Paid) (az : List Acc) (ps : List Pay) (n : Nat), n + l.length ≤ 6 → Num0 b az ps n → (∀ p ∈ l, PaidOk p) → Num0 b (l.foldl payStep (az, ps)).1 (l.foldl payStep (az, ps)).2 (n + l.length)
  | [], az, ps, n, _, h, _ => h
  | p :: l, az, ps, n, hn, h, hall => by
    simp only [List.length_cons] at hn
    have h1 := payStep_num (by omega) h (hall p (List.mem_cons_self ..))
    have := payFold_num l _ _ (n + 1) (by omega) h1 fun x hx => hall x (List.mem_cons_of_mem _ hx)
    simp only [List.foldl_cons, List.length_cons]
    rwa [show n + (l.length + 1) = n + 1 + l.length by omega]
/-- A state by numbers is right. -/
structure StNum (s : St) : Prop where
  ok : Ok (fun _ => 0) s.accs s.pays
  len : (s.accs.length : Int) = 15
  pays : s.pays.length ≤ 6
  small : ∀ k : Int, 0 ≤ k → k < s.pays.length → (rd s.pays k).auth ≤ 256
  houseBal : ∀ k : Int, 0 ≤ k → k < 9 → -600000 ≤ (rd s.accs k).bal ∧ (rd s.accs k).bal ≤ 0
  clientBal : ∀ k : Int, 9 ≤ k → k < s.accs.length → 0 ≤ (rd s.accs k).bal ∧ (rd s.accs k).bal ≤ 99999
  sagas : s.sagas = []
  known : s.known = []
  now : 0 ≤ s.now ∧ s.now < 12
theorem stOf_num (cs has : List Int) (ps : List Paid) (now : Int) (hp : ∀ p ∈ ps, PaidOk p) : StNum (stOf cs has ps now) := by
  have hb := book_bk cs has
  have hl := hb.len
  have h0 : Num0 (book (six cs) has) (book (six cs) has) [] 0 := ⟨hb.ok, Alike.refl _, by omega, Nat.le_refl _, fun k h0 hk => by simp at hk; omega⟩
  have h := payFold_num (ps.take 6) _ _ 0 (by simp; omega) h0 fun p hx => hp p (List.mem_of_mem_take hx)
  have hal := h.alike
  refine ⟨h.ok, h.len, Nat.le_trans h.pays (by simp; omega), h.small, fun k k0 hk => ?_, fun k k9 hk => ?_, rfl, rfl, ?_⟩
  · show -600000 ≤ (rd ((ps.take 6).foldl payStep (book (six cs) has, [])).1 k).bal ∧ (rd ((ps.take 6).foldl payStep (book (six cs) has, [])).1 k).bal ≤ 0
    rw [hal.bal k k0 (by omega)]
    have := hb.house k k0 hk
    omega
  · have hk : k < ((ps.take 6).foldl payStep (book (six cs) has, [])).1.length := hk
    have hl2 := hal.len
    show 0 ≤ (rd ((ps.take 6).foldl payStep (book (six cs) has, [])).1 k).bal ∧ (rd ((ps.take 6).foldl payStep (book (six cs) has, [])).1 k).bal ≤ 99999
    rw [hal.bal k (by omega) (by omega)]
    exact hb.client k k9 (by omega)
  · show 0 ≤ now % 12 ∧ now % 12 < 12
    omega
end Go.Proofs.YthjmficglpfgpaaDoor
namespace Go.Proofs.YthjmficglpfgpaaDoor
set_option linter.unusedVariables false
set_option linter.unusedSimpArgs false
open Go Go.RowKit Enc
set_option maxRecDepth 100000

/-! ### Keys -/
/-- A key's place; -1: there is none. -/
def findK (key : Int) : List Kn → Int
  | [] => -1
  | k :: ks => if k.req.key = key then 0 else if findK key ks < 0 then -1 else findK key ks + 1
/-- What is known of a key's place. -/
structure Place (ks : List Kn) (key i : Int) : Prop where
  low : ∀ j : Int, 0 ≤ j → j < i → (rd ks j).req.key ≠ key
  at_ : 0 ≤ i → i < ks.length ∧ (rd ks i).req.key = key
  none : i < 0 → i = -1 ∧ ∀ j : Int, 0 ≤ j → j < ks.length → (rd ks j).req.key ≠ key
theorem findK_place (key : Int) : ∀ ks : List Kn, Place ks key (findK key ks)
  | [] => ⟨fun j h0 h => by simp [findK] at h; omega, fun h => by simp [findK] at h, fun _ => ⟨rfl, fun j h0 h => by simp at h; omega⟩⟩
  | k :: ks => by
    have ih := findK_place key ks
    unfold findK
    by_cases hk : k.req.key = key
    · rw [if_pos hk]
      exact ⟨fun j h0 h => by omega, fun _ => ⟨by simp only [List.length_cons]; omega, by rw [rd_zero]; exact hk⟩, fun h => by omega⟩
    · rw [if_neg hk]
      have hz : ∀ j : Int, 0 ≤ j → (P : Int → Prop) → (P 0) → (∀ i : Int, 0 ≤ i → P (i + 1)) → P j := fun j h0 P p0 ps => by
        rcases Int.lt_or_le 0 j with h | h
        · have := ps (j - 1) (by omega)
          rwa [show j - 1 + 1 = j by omega] at this
        · rwa [show j = 0 by omega]
      by_cases hn : findK key ks < 0
      · rw [if_pos hn]
        obtain ⟨_, h2⟩ := ih.none hn
        refine ⟨fun j h0 h => by omega, fun h => by omega, fun _ => ⟨rfl, fun j h0 hj => ?_⟩⟩
        rcases Int.lt_or_le 0 j with h | h
        · have := h2 (j - 1) (by omega) (by simp only [List.length_cons] at hj; omega)
          have e := rd_succ k ks (j - 1) (by omega)
          rw [show j - 1 + 1 = j by omega] at e
          rwa [e]
        · rw [show j = 0 by omega, rd_zero]; exact hk
      · rw [if_neg hn]
        obtain ⟨a1, a2⟩ := ih.at_ (by omega)
        refine ⟨fun j h0 hj => ?_, fun _ => ⟨by simp only [List.length_cons]; omega, by rw [rd_succ _ _ _ (by omega)]; exact a2⟩, fun h => by omega⟩
        rcases Int.lt_or_le 0 j with h | h
        · have := ih.low (j - 1) (by omega) (by omega)
          have e := rd_succ k ks (j - 1) (by omega)
          rw [show j - 1 + 1 = j by omega] at e
          rwa [e]
        · rw [show j = 0 by omega, rd_zero]; exact hk
theorem Place.eq {ks : List Kn} {key i j : Int} (h : Place ks key i) (k : Place ks key j) : i = j := by
  rcases Int.lt_or_le i 0 with hi | hi
  · obtain ⟨rfl, hn⟩ := h.none hi
    rcases Int.lt_or_le j 0 with hj | hj
    · exact (k.none hj).1.symm
    · obtain ⟨a, b⟩ := k.at_ hj
      exact absurd b (hn j hj a)
  · obtain ⟨a, b⟩ := h.at_ hi
    rcases Int.lt_or_le j 0 with hj | hj
    · exact absurd b ((k.none hj).2 i hi a)
    · obtain ⟨c, d⟩ := k.at_ hj
      rcases Int.lt_trichotomy i j with hl | hl | hl
      · exact absurd b (k.low i hi hl)
      · exact hl
      · exact absurd d (h.low j hj hl)
theorem findK_eq {ks : List Kn} {key i : Int} (h : Place ks key i) : findK key ks = i := (findK_place key ks).eq h
def askK (ks : List Kn) (r : Req) : Option Rep :=
  if findK r.key ks < 0 then none
  else if (rd ks (findK r.key ks)).req ≠ r then some ⟨5, 0⟩
  else if (rd ks (findK r.key ks)).told = false then some ⟨10, 0⟩
  else some (rd ks (findK r.key ks)).rep
def putK (ks : List Kn) (r : Req) : Except Int (List Kn) :=
  if 0 ≤ findK r.key ks then .error 5
  else if ks.length ≥ 256 then .error 7
  else .ok (ks ++ [⟨r, ⟨0, 0⟩, false⟩])
def tellK (ks : List Kn) (key : Int) (p : Rep) : Except Int (List Kn) :=
  if findK key ks < 0 then .error 2
  else if (rd ks (findK key ks)).told = true then .error 6
  else .ok (ks.set (findK key ks).toNat { rd ks (findK key ks) with rep := p, told := true })
/-- The list that Tell hands back, where the error is thrown away. -/
def tellL (ks : List Kn) (key : Int) (p : Rep) : List Kn := match tellK ks key p with | .error _ => [] | .ok l => l
theorem find_new {ks : List Kn} {r : Req} (h : findK r.key ks < 0) (p : Rep) (b : Bool) : findK r.key (ks ++ [⟨r, p, b⟩]) = ks.length := by
  obtain ⟨_, hn⟩ := (findK_place r.key ks).none h
  refine findK_eq ⟨fun j h0 hj => ?_, fun _ => ⟨by simp only [List.length_append, List.length_singleton]; omega, by rw [rd_snoc]⟩, fun h => by omega⟩
  rw [rd_left _ _ _ h0 hj]
  exact hn j h0 hj
theorem set_last {α : Type} (xs : List α) (x y : α) : (xs ++ [x]).set xs.length y = xs ++ [y] := by
  rw [List.set_append_right _ _ (Nat.le_refl _)]
  simp
/-- A request that was put is told. -/
theorem tell_put {ks : List Kn} {r : Req} (h : findK r.key ks < 0) (p : Rep) : tellL (ks ++ [⟨r, ⟨0, 0⟩, false⟩]) r.key p = ks ++ [⟨r, p, true⟩] := by
  unfold tellL tellK
  rw [find_new h, if_neg (by omega), rd_snoc, if_neg (by simp), Int.toNat_natCast, set_last]
theorem ask_new {ks : List Kn} {r : Req} (h : findK r.key ks < 0) (p : Rep) : askK (ks ++ [⟨r, p, true⟩]) r = some p := by
  unfold askK
  rw [find_new h, if_neg (by omega), rd_snoc, if_neg (by simp), if_neg (by simp)]

/-! ### Sagas -/
def beginG (r : Req) : Saga := ⟨r, 0, 0, 0, 0⟩
def readyB (g : Saga) : Bool := decide (g.phase = 0 ∧ g.req.legs ≤ g.leg)
def agreeG (g : Saga) : Saga := { g with leg := g.leg + 1, tries := 0 }
def refuseG (g : Saga) : Saga := if 3 < g.tries + 1 then { g with tries := g.tries + 1, phase := 1, why := 9 } else { g with tries := g.tries + 1 }
def legG (g : Saga) (ok : Bool) : Saga := if g.phase ≠ 0 ∨ readyB g = true then g else if ok then agreeG g else refuseG g
def turnG (g : Saga) (c : Int) : Saga := if g.phase = 0 then { g with phase := 1, why := c } else g
def mostG (g : Saga) : Int := if g.phase = 0 then max 0 (g.req.legs - g.leg) * 4 - g.tries + 2 else if g.phase = 1 then 1 else 0
/-- A saga that may be. -/
structure SagaOk (g : Saga) : Prop where
  leg : 0 ≤ g.leg ∧ g.leg ≤ g.req.legs
  tries : 0 ≤ g.tries ∧ g.tries ≤ 4
  legs : 0 ≤ g.req.legs ∧ g.req.legs ≤ 4
  phase : (g.phase = 0 ∧ g.why = 0 ∧ g.tries ≤ 3 ∧ (g.tries = 0 ∨ g.leg < g.req.legs)) ∨ (g.phase = 1 ∧ g.why ≠ 0)

/-! ### A transfer of several legs -/
def reserveA (xs : List Acc) (r : Req) : Except Int (List Acc) :=
  if (isCl xs r.a && isCl xs r.b) = false then .error 2
  else match move xs r.a r.b r.amt with
    | .error c => .error c
    | .ok _ => hold xs r.a r.amt
def settleA (xs : List Acc) (r : Req) : Except Int (List Acc) :=
  match move xs r.a r.b r.amt with
  | .error c => .error c
  | .ok es => spend xs r.amt es
def undoA (xs : List Acc) (r : Req) : Except Int (List Acc) := release xs r.a r.amt
def undoL (xs : List Acc) (r : Req) : List Acc := match undoA xs r with | .error _ => xs | .ok ys => ys
def legsGo : Nat → Saga → Int → List Bool → Saga × Int
  | 0, g, a, _ => (g, a)
  | f + 1, g, a, ls => if g.phase = 0 ∧ readyB g = false then legsGo f (legG g (ls.headD true)) (a + 1) ls.tail else (g, a)
def wholeB (s : St) (r : Req) (ls : List Bool) : St × Rep × Int :=
  match reserveA s.accs r with
  | .error c => (s, ⟨c, 0⟩, 0)
  | .ok t =>
    let ga := legsGo 20 (beginG r) 0 ls
    if ga.1.phase = 0 then
      match settleA t r with
      | .ok u => ({ s with accs := u }, ⟨0, 0⟩, min ga.2 ls.length)
      | .error c => ({ s with accs := undoL t r }, ⟨c, 0⟩, min ga.2 ls.length)
    else ({ s with accs := undoL t r }, ⟨ga.1.why, 0⟩, min ga.2 ls.length)
def bankDo (s : St) (r : Req) (ls : List Bool) : St × Rep × Int :=
  if ¬ ReqOk r then (s, ⟨1, 0⟩, 0)
  else match askK s.known r with
    | some out => (s, out, 0)
    | none => if s.known.length ≥ 256 then (s, ⟨7, 0⟩, 0)
      else
        let x := if longB r = true then wholeB s r ls else ((opsDo s r).1, (opsDo s r).2, 0)
        ({ x.1 with known := s.known ++ [⟨r, x.2.1, true⟩] }, x.2.1, x.2.2)
def bankRun : St → List Req → List Bool → St × List Rep
  | s, [], _ => (s, [])
  | s, r :: rs, ls =>
    let x := bankDo s r ls
    let y := bankRun x.1 rs (ls.drop x.2.2.toNat)
    (y.1, x.2.1 :: y.2)

theorem Acc.eta (a : Acc) : a = ⟨a.cur, a.bal, a.held⟩ := rfl
theorem upd_upd (xs : List Acc) (k : Int) (x y : Acc) : upd (upd xs k x) k y = upd xs k y := by simp [upd]
theorem upd_self {xs : List Acc} {k : Int} (h0 : 0 ≤ k) (hk : k < xs.length) : upd xs k (rd xs k) = xs := by
  refine rd_ext (upd_len _ _ _) fun j j0 hj => ?_
  rw [upd_len] at hj
  rw [rd_upd xs k j _ j0 hj h0]
  split
  · rename_i e; rw [e]
  · rfl
/-- What was held is let go. -/
theorem release_hold {xs t : List Acc} {k n : Int} (hG : Good xs) (h : hold xs k n = .ok t) : release t k n = .ok xs := by
  obtain ⟨ht, hn, hfree, rfl⟩ := hold_ok h
  have hk := ht.at_
  have hl := ht.len
  have hc := hG.client k hk.1 hk.2
  have hr := rd_upd xs k k { rd xs k with held := (rd xs k).held + n } (by omega) hk.2 (by omega)
  rw [if_pos rfl] at hr
  unfold release
  rw [if_neg (by omega), if_neg (by omega), hr, if_neg (by simp only; omega), upd_upd]
  simp only
  rw [show (rd xs k).held + n - n = (rd xs k).held by omega]
  exact congrArg Except.ok (upd_self (by omega) hk.2)
theorem move_alike {xs t : List Acc} (h : Alike xs t) (a b n : Int) : move t a b n = move xs a b n := by
  unfold move
  rw [h.len]
  split
  · rfl
  rename_i h1
  split
  · rfl
  rename_i h2
  have h1' : 0 ≤ a ∧ a < xs.length := Decidable.not_not.1 h1
  have h2' : 0 ≤ b ∧ b < xs.length := Decidable.not_not.1 h2
  rw [h.cur a h1'.1 h1'.2, h.cur b h2'.1 h2'.2]
theorem reserve_ok {xs t : List Acc} {r : Req} (hG : Good xs) (h : reserveA xs r = .ok t) : ∃ es, move xs r.a r.b r.amt = .ok es ∧ hold xs r.a r.amt = .ok t ∧ (isCl xs r.a && isCl xs r.b) = true ∧ undoA t r = .ok xs ∧ settleA t r = post xs es := by
  unfold reserveA at h
  split at h
  · cases h
  rename_i hcl
  cases hm : move xs r.a r.b r.amt with
  | error c => rw [hm] at h; cases h
  | ok es =>
    rw [hm] at h
    have h : hold xs r.a r.amt = .ok t := h
    have hr := release_hold hG h
    obtain ⟨hh, hl⟩ := move_head hm
    refine ⟨es, rfl, h, by simpa using hcl, hr, ?_⟩
    unfold settleA
    rw [move_alike (hold_ok h).1.alike, hm]
    simp only
    unfold spend
    rw [if_neg hl, hh]
    simp only
    rw [hr]
    rfl
/-- A transfer of several legs is one of none, or nothing. -/
theorem whole_eq {s : St} {r : Req} {ls : List Bool} (hG : Good s.accs) (hop : r.op = 2) : wholeB s r ls =
    match reserveA s.accs r with
    | .error c => (s, ⟨c, 0⟩, 0)
    | .ok _ =>
      let ga := legsGo 20 (beginG r) 0 ls
      if ga.1.phase = 0 then ((opsDo s r).1, (opsDo s r).2, min ga.2 ls.length) else (s, ⟨ga.1.why, 0⟩, min ga.2 ls.length) := by
  unfold wholeB
  cases hr : reserveA s.accs r with
  | error c => rfl
  | ok t =>
    obtain ⟨es, hm, hh, hcl, hu, hs⟩ := reserve_ok hG hr
    have hul : undoL t r = s.accs := by unfold undoL; rw [hu]
    simp only [hul, hs]
    have hR : opsR s.now s.accs s.pays r = deskPost s.accs s.pays r.a r.b r.amt := by
      unfold opsR
      rw [if_neg (by omega), if_neg (by omega), if_pos hop]
      unfold deskTransfer
      rw [if_pos hcl]
    split
    · unfold opsDo
      rw [hR]
      unfold deskPost
      rw [hm]
      simp only
      cases post s.accs es with
      | error c => rfl
      | ok ys => rfl
    · rfl
end Go.Proofs.YthjmficglpfgpaaDoor
namespace Go.Proofs.YthjmficglpfgpaaDoor
set_option linter.unusedVariables false
set_option linter.unusedSimpArgs false
open Go Go.RowKit Enc
set_option maxRecDepth 100000

/-! ### Legs -/
/-- How many answers a saga still takes, at most. -/
def restG (g : Saga) : Int := if g.phase = 0 then (g.req.legs - g.leg) * 4 - g.tries else 0
/-- A saga on its way: forward, or back for a leg. -/
structure WayG (r : Req) (g : Saga) : Prop where
  req : g.req = r
  leg : 0 ≤ g.leg ∧ g.leg ≤ r.legs
  tries : 0 ≤ g.tries ∧ g.tries ≤ 4
  phase : (g.phase = 0 ∧ g.why = 0 ∧ g.tries ≤ 3 ∧ (g.tries = 0 ∨ g.leg < r.legs)) ∨ (g.phase = 1 ∧ g.why = 9)
theorem beginG_way {r : Req} (h : 0 ≤ r.legs) : WayG r (beginG r) := ⟨rfl, ⟨by simp [beginG], h⟩, by simp [beginG], .inl ⟨rfl, rfl, by simp [beginG], .inl rfl⟩⟩
theorem legG_way {r : Req} {g : Saga} (h : WayG r g) (hp : g.phase = 0) (hr : readyB g = false) (ok : Bool) : WayG r (legG g ok) ∧ restG (legG g ok) + 1 ≤ restG g := by
  have hr' : g.leg < g.req.legs := by
    unfold readyB at hr
    have := of_decide_eq_false hr
    rcases Int.lt_or_le g.leg g.req.legs with h | h
    · exact h
    · exact absurd ⟨hp, h⟩ this
  obtain ⟨h1, h2, h3, h4⟩ := h
  rw [h1] at hr'
  unfold legG
  rw [if_neg (by rintro (h | h); exact h hp; rw [hr] at h; cases h)]
  have h4' : g.why = 0 ∧ g.tries ≤ 3 := by
    rcases h4 with h | h
    · exact ⟨h.2.1, h.2.2.1⟩
    · omega
  have hrest : restG g = (r.legs - g.leg) * 4 - g.tries := by unfold restG; rw [if_pos hp, h1]
  cases ok with
  | true =>
    simp only [if_true, agreeG]
    refine ⟨⟨h1, ⟨by simp only; omega, by simp only; omega⟩, ⟨by simp only; omega, by simp only; omega⟩, .inl ⟨hp, h4'.1, by simp, .inl rfl⟩⟩, ?_⟩
    rw [hrest]
    simp only [restG, hp, if_true, h1]
    omega
  | false =>
    simp only [refuseG]
    rw [if_neg (by decide)]
    by_cases ht : 3 < g.tries + 1
    · rw [if_pos ht]
      refine ⟨⟨h1, h2, ⟨by simp only; omega, by simp only; omega⟩, .inr ⟨rfl, rfl⟩⟩, ?_⟩
      rw [hrest]
      simp only [restG]
      rw [if_neg (by decide)]
      omega
    · rw [if_neg ht]
      refine ⟨⟨h1, h2, ⟨by simp only; omega, by simp only; omega⟩, .inl ⟨hp, h4'.1, by simp only; omega, .inr hr'⟩⟩, ?_⟩
      rw [hrest]
      simp only [restG, hp, if_true, h1]
      omega
theorem restG_nonneg {r : Req} {g : Saga} (h : WayG r g) : 0 ≤ restG g := by
  obtain ⟨h1, h2, h3, h4⟩ := h
  unfold restG
  rw [h1]
  split <;> omega
theorem legsGo_end {r : Req} : ∀ (f : Nat) (g : Saga) (a : Int) (ls : List Bool), WayG r g → restG g ≤ f → WayG r (legsGo f g a ls).1 ∧ ¬((legsGo f g a ls).1.phase = 0 ∧ readyB (legsGo f g a ls).1 = false) ∧ a ≤ (legsGo f g a ls).2
  | 0, g, a, ls, h, hf => by
    refine ⟨h, ?_, Int.le_refl _⟩
    rintro ⟨hp, hr⟩
    have := (legG_way h hp hr true)
    have h0 := restG_nonneg this.1
    omega
  | f + 1, g, a, ls, h, hf => by
    unfold legsGo
    by_cases hc : g.phase = 0 ∧ readyB g = false
    · rw [if_pos hc]
      have := legG_way h hc.1 hc.2 (ls.headD true)
      have ih := legsGo_end f (legG g (ls.headD true)) (a + 1) ls.tail this.1 (by omega)
      exact ⟨ih.1, ih.2.1, by omega⟩
    · rw [if_neg hc]
      exact ⟨h, hc, Int.le_refl _⟩
/-- Where all agree a saga gets ready. -/
theorem legsGo_nil {r : Req} : ∀ (f : Nat) (g : Saga) (a : Int), WayG r g → g.phase = 0 → (legsGo f g a []).1.phase = 0
  | 0, g, a, _, hp => hp
  | f + 1, g, a, h, hp => by
    unfold legsGo
    by_cases hc : g.phase = 0 ∧ readyB g = false
    · rw [if_pos hc]
      have := legG_way h hc.1 hc.2 true
      refine legsGo_nil f _ _ this.1 ?_
      unfold legG
      rw [if_neg (by rintro (h | h); exact h hp; rw [hc.2] at h; cases h)]
      exact hp
    · rw [if_neg hc]
      exact hp

/-! ### What a bank does -/
theorem opsDo_known (s : St) (r : Req) : (opsDo s r).1.known = s.known ∧ (opsDo s r).1.sagas = s.sagas ∧ (opsDo s r).1.now = s.now := by
  unfold opsDo
  split <;> exact ⟨rfl, rfl, rfl⟩
theorem opsDo_same {s : St} {r : Req} (h : (opsDo s r).2.err ≠ 0) : (opsDo s r).1 = s := by
  unfold opsDo at h ⊢
  split
  · rfl
  · rename_i h1
    rw [h1] at h
    exact absurd rfl h
theorem reqOk_fit {r : Req} (h : ReqOk r) : Fit r := ⟨h.cur, fun _ => h.til.2⟩
theorem opsDo_ok {G : Int → Int} {s : St} {r : Req} (h : Ok G s.accs s.pays) (hn : 0 ≤ s.now) (hf : Fit r) : Ok G (opsDo s r).1.accs (opsDo s r).1.pays ∧ s.accs.length ≤ (opsDo s r).1.accs.length := by
  unfold opsDo
  split
  · exact ⟨h, Nat.le_refl _⟩
  · rename_i h1
    exact ops_ok h hn hf h1
/-- What comes of a request that is done first. -/
def firstDo (s : St) (r : Req) (ls : List Bool) : St × Rep × Int := if longB r = true then wholeB s r ls else ((opsDo s r).1, (opsDo s r).2, 0)
structure First (s : St) (x : St × Rep × Int) (ls : List Bool) : Prop where
  ok : Ok (fun _ => 0) x.1.accs x.1.pays
  len : s.accs.length ≤ x.1.accs.length
  known : x.1.known = s.known
  sagas : x.1.sagas = s.sagas
  now : x.1.now = s.now
  same : x.2.1.err ≠ 0 → x.1 = s
  n : 0 ≤ x.2.2 ∧ x.2.2 ≤ ls.length
theorem firstDo_ok {s : St} {r : Req} {ls : List Bool} (h : Ok (fun _ => 0) s.accs s.pays) (hn : 0 ≤ s.now) (hr : ReqOk r) : First s (firstDo s r ls) ls := by
  have hd := opsDo_ok h hn (reqOk_fit hr)
  obtain ⟨k1, k2, k3⟩ := opsDo_known s r
  unfold firstDo
  split
  · rename_i hl
    have hop : 0 < r.legs ∧ r.op = 2 := by unfold longB at hl; exact of_decide_eq_true hl
    rw [whole_eq h.good hop.2]
    cases hres : reserveA s.accs r with
    | error c => exact ⟨h, Nat.le_refl _, rfl, rfl, rfl, fun _ => rfl, ⟨Int.le_refl _, by simp only; omega⟩⟩
    | ok t =>
      have hw := legsGo_end 20 (beginG r) 0 ls (beginG_way hr.legs.1) (by
        have := hr.legs
        unfold restG beginG
        simp only
        rw [if_pos trivial]
        omega)
      simp only
      split
      · exact ⟨hd.1, hd.2, k1, k2, k3, fun he => opsDo_same he, ⟨by simp only; omega, by simp only; omega⟩⟩
      · exact ⟨h, Nat.le_refl _, rfl, rfl, rfl, fun _ => rfl, ⟨by simp only; omega, by simp only; omega⟩⟩
  · exact ⟨hd.1, hd.2, k1, k2, k3, fun he => opsDo_same he, ⟨Int.le_refl _, by simp only; omega⟩⟩
theorem bankDo_eq (s : St) (r : Req) (ls : List Bool) : bankDo s r ls =
    if ¬ ReqOk r then (s, ⟨1, 0⟩, 0)
    else match askK s.known r with
    | some out => (s, out, 0)
    | none => if s.known.length ≥ 256 then (s, ⟨7, 0⟩, 0)
      else ({ (firstDo s r ls).1 with known := s.known ++ [⟨r, (firstDo s r ls).2.1, true⟩] }, (firstDo s r ls).2.1, (firstDo s r ls).2.2) := rfl

theorem nodup_below : ∀ (N : Nat) (l : List Int), l.Nodup → (∀ x ∈ l, 0 ≤ x ∧ x < N) → l.length ≤ N
  | 0, l, _, h => by
    cases l with
    | nil => exact Nat.le_refl _
    | cons x l => have := h x (List.mem_cons_self ..); omega
  | N + 1, l, hn, h => by
    by_cases hm : (N : Int) ∈ l
    · have := nodup_below N (l.erase (N : Int)) (hn.erase _) fun x hx => by
        have h1 := (hn.mem_erase_iff).1 hx
        have := h x h1.2
        have := h1.1
        omega
      rw [List.length_erase_of_mem hm] at this
      omega
    · have := nodup_below N l hn fun x hx => by
        have h1 := h x hx
        have : x ≠ N := fun e => hm (e ▸ hx)
        omega
      omega
def keysOf (ks : List Kn) : List Int := ks.map fun k => k.req.key
theorem find_none_iff (ks : List Kn) (key : Int) : findK key ks < 0 ↔ key ∉ keysOf ks := by
  have hp := findK_place key ks
  constructor
  · intro h hm
    obtain ⟨k, hk, rfl⟩ := List.mem_map.1 hm
    obtain ⟨i, i0, hi, rfl⟩ := mem_rd hk
    exact (hp.none h).2 i i0 hi rfl
  · intro h
    rcases Int.lt_or_le (findK key ks) 0 with h1 | h1
    · exact h1
    · obtain ⟨a, b⟩ := hp.at_ h1
      exact absurd (List.mem_map.2 ⟨_, rd_mem ks _ h1 a, b⟩) h
theorem ask_none {ks : List Kn} {r : Req} (h : askK ks r = none) : findK r.key ks < 0 := by
  unfold askK at h
  split at h
  · assumption
  · split at h
    · cases h
    · split at h <;> cases h
/-- A bank's state whose requests have small numbers. -/
structure BA (s : St) : Prop where
  ok : Ok (fun _ => 0) s.accs s.pays
  now : 0 ≤ s.now
  nodup : (keysOf s.known).Nodup
  each : ∀ k ∈ s.known, k.told = true ∧ k.req.b ≤ 14 ∧ 0 ≤ k.req.key ∧ k.req.key < 256
def otherR (r : Req) : Req := { r with b := r.b + 1000 }
theorem again_law {s : St} {r : Req} {ls : List Bool} (h : BA s) (hr : ReqOk r) (hb : 9 ≤ r.b ∧ r.b ≤ 14) (hk : r.key < 256) :
    BA (bankDo s r ls).1 ∧ (0 ≤ (bankDo s r ls).2.2 ∧ (bankDo s r ls).2.2 ≤ ls.length) ∧ (∀ l, bankDo (bankDo s r ls).1 r l = ((bankDo s r ls).1, (bankDo s r ls).2.1, 0)) ∧ ∀ l, bankDo (bankDo s r ls).1 (otherR r) l = ((bankDo s r ls).1, ⟨5, 0⟩, 0) := by
  have hro : ReqOk (otherR r) := ⟨hr.key, hr.legs, hr.til, hr.long, hr.op, hr.cur, hr.amt⟩
  cases ha : askK s.known r with
  | some out =>
    have hd : ∀ l, bankDo s r l = (s, out, 0) := fun l => by
      rw [bankDo_eq, if_neg (by simpa using hr), ha]
    rw [hd ls]
    refine ⟨h, ⟨Int.le_refl _, by simp only; omega⟩, hd, fun l => ?_⟩
    have hi : ¬ findK r.key s.known < 0 := fun hc => by
      unfold askK at ha
      rw [if_pos hc] at ha
      cases ha
    have hp := (findK_place r.key s.known).at_ (by omega)
    have he := h.each _ (rd_mem s.known _ (by omega) hp.1)
    have hao : askK s.known (otherR r) = some ⟨5, 0⟩ := by
      unfold askK
      show (if findK r.key s.known < 0 then none else if (rd s.known (findK r.key s.known)).req ≠ otherR r then _ else _) = _
      rw [if_neg hi, if_pos]
      intro e
      have := congrArg Req.b e
      simp only [otherR] at this
      omega
    rw [bankDo_eq, if_neg (by simpa using hro)]
    simp only [hao]
  | none =>
    have hf := ask_none ha
    have hnk := (find_none_iff s.known r.key).1 hf
    have hlen : s.known.length < 256 := by
      have := nodup_below 256 (r.key :: keysOf s.known) (List.nodup_cons.2 ⟨hnk, h.nodup⟩) fun x hx => by
        rcases List.mem_cons.1 hx with rfl | hx
        · exact ⟨hr.key.1, by omega⟩
        · obtain ⟨k, hk, rfl⟩ := List.mem_map.1 hx
          have := h.each k hk
          exact ⟨this.2.2.1, by omega⟩
      simp [keysOf] at this
      omega
    have hF := firstDo_ok (ls := ls) h.ok h.now hr
    have hd : bankDo s r ls = ({ (firstDo s r ls).1 with known := s.known ++ [⟨r, (firstDo s r ls).2.1, true⟩] }, (firstDo s r ls).2.1, (firstDo s r ls).2.2) := by
      rw [bankDo_eq, if_neg (by simpa using hr), ha]
      simp only
      rw [if_neg (by omega)]
    rw [hd]
    generalize firstDo s r ls = x at *
    have hnew := find_new hf (x.2.1) true
    refine ⟨⟨hF.ok, by rw [show (St.mk x.1.accs x.1.pays x.1.sagas (s.known ++ [Kn.mk r x.2.1 true]) x.1.now).now = x.1.now from rfl, hF.now]; exact h.now, ?_, fun k hk' => ?_⟩, hF.n, fun l => ?_, fun l => ?_⟩
    · show (keysOf (s.known ++ [⟨r, x.2.1, true⟩])).Nodup
      unfold keysOf
      rw [List.map_append, List.nodup_append]
      refine ⟨h.nodup, by simp, fun a ha' b hb' => ?_⟩
      simp only [List.map_cons, List.map_nil, List.mem_singleton] at hb'
      subst hb'
      intro e
      exact hnk (e ▸ ha')
    · have hk' : k ∈ s.known ++ [⟨r, x.2.1, true⟩] := hk'
      rcases List.mem_append.1 hk' with hk' | hk'
      · exact h.each k hk'
      · rw [List.mem_singleton] at hk'
        subst hk'
        exact ⟨rfl, hb.2, hr.key.1, hk⟩
    · rw [bankDo_eq, if_neg (by simpa using hr)]
      simp only
      rw [ask_new hf x.2.1]
    · have hao : askK (s.known ++ [⟨r, x.2.1, true⟩]) (otherR r) = some ⟨5, 0⟩ := by
        unfold askK
        show (if findK r.key (s.known ++ [Kn.mk r x.2.1 true]) < 0 then none else if (rd (s.known ++ [Kn.mk r x.2.1 true]) (findK r.key (s.known ++ [Kn.mk r x.2.1 true]))).req ≠ otherR r then _ else _) = _
        rw [hnew, if_neg (by omega), rd_snoc, if_pos]
        intro e
        have := congrArg Req.b e
        simp only [otherR] at this
        omega
      rw [bankDo_eq, if_neg (by simpa using hro)]
      simp only [hao]
theorem bankRun_append (s : St) (a b : List Req) : bankRun s (a ++ b) [] = ((bankRun (bankRun s a []).1 b []).1, (bankRun s a []).2 ++ (bankRun (bankRun s a []).1 b []).2) := by
  induction a generalizing s with
  | nil => simp [bankRun]
  | cons r a ih =>
    simp only [List.cons_append, bankRun, List.drop_nil, ih]
theorem bankRun_len (s : St) (rs : List Req) (ls : List Bool) : (bankRun s rs ls).2.length = rs.length := by
  induction rs generalizing s ls with
  | nil => rfl
  | cons r rs ih => simp only [bankRun, List.length_cons, ih]
end Go.Proofs.YthjmficglpfgpaaDoor
namespace Go.Proofs.YthjmficglpfgpaaDoor
set_option linter.unusedVariables false
set_option linter.unusedSimpArgs false
open Go Go.RowKit Enc
set_option maxRecDepth 100000

theorem asum_reverse (j : Int) (es : List Ent) : asum j es.reverse = asum j es := by
  induction es with
  | nil => rfl
  | cons e es ih => rw [List.reverse_cons, asum_append, ih]; simp only [asum]; omega
theorem asum_neg (j : Int) (es : List Ent) : asum j (es.map neg) = - asum j es := by
  induction es with
  | nil => rfl
  | cons e es ih =>
    rw [List.map_cons]
    simp only [asum, ih, neg]
    split <;> omega
theorem asum_back (j : Int) (es : List Ent) : asum j (back es) = - asum j es := by
  unfold back
  rw [asum_reverse, asum_neg]
theorem asum_lossy (xs : List Acc) (to l j : Int) (es : List Ent) (h : 0 < es.length) : asum j (lossy xs to l es) = asum j es + (if (rd es 0).acct = j then l else 0) + (if 3 * (rd xs to).cur + 2 = j then -l else 0) := by
  cases es with
  | nil => simp at h
  | cons e es =>
    unfold lossy
    rw [show rd (e :: es) 0 = e from rfl, List.set_cons_zero, asum_append]
    simp only [asum]
    split <;> split <;> omega
theorem move_asum {xs : List Acc} {a b n : Int} {es : List Ent} (hG : Good xs) (ha : 9 ≤ a) (h : move xs a b n = .ok es) : asum a es = -n := by
  have hs := move_same h
  unfold move at h
  split at h
  · cases h
  split at h
  · cases h
  split at h
  · cases h
  split at h
  · injection h with h
    subst h
    simp only [asum]
    rw [if_pos trivial, if_neg (Ne.symm hs.1)]
    omega
  split at h
  · cases h
  split at h
  · cases h
  injection h with h
  subst h
  obtain ⟨a0, a3⟩ := hG.cur a hs.2.2.2.1.1 hs.2.2.2.1.2
  obtain ⟨b0, b3⟩ := hG.cur b hs.2.2.2.2.1 hs.2.2.2.2.2
  simp only [asum]
  rw [if_pos trivial, if_neg (by omega), if_neg (by omega), if_neg (Ne.symm hs.1)]
  omega
theorem move_near {xs : List Acc} {a b n : Int} (ha : 0 ≤ a ∧ a < xs.length) (hb : 0 ≤ b ∧ b < xs.length) (hne : a ≠ b) (hn : 1 ≤ n ∧ n ≤ 1099511627776) (hc : (rd xs a).cur = (rd xs b).cur) : move xs a b n = .ok [⟨a, -n⟩, ⟨b, n⟩] := by
  unfold move
  rw [if_neg (by omega), if_neg (by omega), if_neg (by omega), if_pos hc]
/-- Small balances take small entries. -/
theorem fold_small (N : Int) (hN : 0 ≤ N) : ∀ (es : List Ent) (xs : List Acc) (M : Int), (∀ j : Int, 0 ≤ j → j < xs.length → -M ≤ (rd xs j).bal ∧ (rd xs j).bal ≤ M) → (∀ e ∈ es, (0 ≤ e.acct ∧ e.acct < xs.length) ∧ -N ≤ e.amt ∧ e.amt ≤ N) → M + es.length * N ≤ 1125899906842624 → ∃ ys, es.foldlM post1 xs = .ok ys
  | [], xs, M, _, _, _ => ⟨xs, rfl⟩
  | e :: es, xs, M, hb, ha, hM => by
    obtain ⟨⟨a0, a1⟩, n0, n1⟩ := ha e (List.mem_cons_self ..)
    have hbe := hb e.acct a0 a1
    have e1 : ((es.length + 1 : Nat) : Int) * N = es.length * N + N := by rw [Int.natCast_add, Int.add_mul]; simp
    have e2 : 0 ≤ (es.length : Int) * N := Int.mul_nonneg (by omega) hN
    simp only [List.length_cons, e1] at hM
    have hm : mayP ((rd xs e.acct).bal + e.amt) := by unfold mayP; omega
    have h1 : post1 xs e = .ok (upd xs e.acct { rd xs e.acct with bal := (rd xs e.acct).bal + e.amt }) := by unfold post1; rw [if_pos hm]
    have hrd := fun (j : Int) (h0 : 0 ≤ j) (hj : j < xs.length) => rd_upd xs e.acct j { rd xs e.acct with bal := (rd xs e.acct).bal + e.amt } h0 hj a0
    have hl := upd_len xs e.acct { rd xs e.acct with bal := (rd xs e.acct).bal + e.amt }
    rw [List.foldlM_cons, h1]
    refine fold_small N hN es _ (M + N) (fun j j0 hj => ?_) (fun x hx => ?_) (by omega)
    · rw [hrd j j0 (by omega)]
      split
      · simp only; omega
      · have := hb j j0 (by omega); omega
    · rw [hl]; exact ha x (List.mem_cons_of_mem _ hx)
theorem solv_mk {xs : List Acc} (h : ∀ k : Int, 9 ≤ k → k < xs.length → (rd xs k).held ≤ (rd xs k).bal) : solvB xs = true := by
  unfold solvB
  rw [List.all_eq_true]
  intro k hk
  have hk := List.mem_range.1 hk
  simp only [Bool.or_eq_true, decide_eq_true_eq]
  by_cases h9 : k < 9
  · exact .inl h9
  · exact .inr (h k (by omega) (by omega))
theorem post_mk {xs ys : List Acc} {es : List Ent} (h : es.foldlM post1 xs = .ok ys) (hs : solvB ys = true) : post xs es = .ok ys := by
  unfold post
  rw [h]
  simp only
  rw [if_pos hs]
theorem rd_pair (a b : Ent) : rd [a, b] 0 = a := rfl
theorem back_pair (a b n m : Int) : back [⟨a, n⟩, ⟨b, m⟩] = [⟨b, -m⟩, ⟨a, -n⟩] := by simp [back, neg]
/-- A charge between accounts of one currency comes through. -/
theorem charge_near {xs : List Acc} {p : Pay} {n : Int} (hG : Good xs) (hb : ∀ j : Int, 0 ≤ j → j < xs.length → -1000000 ≤ (rd xs j).bal ∧ (rd xs j).bal ≤ 1000000) (hf : 9 ≤ p.frm ∧ p.frm < xs.length) (ht : 9 ≤ p.to ∧ p.to < xs.length) (hne : p.frm ≠ p.to)
    (hn : 1 ≤ n ∧ n ≤ 1000) (hc : (rd xs p.frm).cur = (rd xs p.to).cur) : ∃ ys, chargeF xs n p = .ok ys := by
  have hm := move_near (xs := xs) (a := p.frm) (b := p.to) (n := n) ⟨by omega, hf.2⟩ ⟨by omega, ht.2⟩ hne (by omega) hc
  have hbk : backE xs p n = .ok [⟨p.to, -n⟩, ⟨p.frm, n⟩] := by
    unfold backE
    rw [hm]
    show Except.ok (back _) = _
    rw [back_pair]
    simp
  have hB := chgEs_bal hG ht hbk
  have hcl := hG.client p.to ht.1 ht.2
  obtain ⟨c0, c3⟩ := hG.cur p.to (by omega) ht.2
  have h9 := hG.len9
  have hla : lacks xs p [⟨p.to, -n⟩, ⟨p.frm, n⟩] = n - ((rd xs p.to).bal - (rd xs p.to).held) := by
    unfold lacks
    rw [rd_pair]
    simp only
    omega
  have hes : ∀ e ∈ chgEs xs p [⟨p.to, -n⟩, ⟨p.frm, n⟩], (0 ≤ e.acct ∧ e.acct < xs.length) ∧ -1000 ≤ e.amt ∧ e.amt ≤ 1000 := by
    intro e he
    refine ⟨hB.mem e he, ?_⟩
    unfold chgEs at he
    rw [hla] at he
    split at he
    · unfold lossy at he
      rw [rd_pair, List.set_cons_zero] at he
      simp only [List.cons_append, List.nil_append, List.mem_cons, List.not_mem_nil, or_false] at he
      rcases he with rfl | rfl | rfl <;> simp only <;> omega
    · simp only [List.mem_cons, List.not_mem_nil, or_false] at he
      rcases he with rfl | rfl <;> simp only <;> omega
  have hlen : (chgEs xs p [⟨p.to, -n⟩, ⟨p.frm, n⟩]).length ≤ 3 := by
    unfold chgEs lossy
    split <;> simp
  obtain ⟨ys, hys⟩ := fold_small 1000 (by decide) _ xs 1000000 hb hes (by omega)
  have hmv := fold_moved _ xs ys hys hB.mem
  have hl := hmv.len
  refine ⟨ys, ?_⟩
  unfold chargeF
  rw [hbk]
  refine post_mk hys (solv_mk fun k k9 hk => ?_)
  rw [hmv.held k (by omega) (by omega), hmv.bal k (by omega) (by omega)]
  have hk := hG.client k k9 (by omega)
  have has : asum k (chgEs xs p [⟨p.to, -n⟩, ⟨p.frm, n⟩]) = (if p.to = k then -n else 0) + (if p.frm = k then n else 0) + (if 0 < n - ((rd xs p.to).bal - (rd xs p.to).held) ∧ p.to = k then n - ((rd xs p.to).bal - (rd xs p.to).held) else 0) := by
    unfold chgEs
    rw [hla]
    split
    · rename_i hpos
      rw [asum_lossy _ _ _ _ _ (by simp), rd_pair]
      simp only [asum]
      rw [if_neg (show ¬ 3 * (rd xs p.to).cur + 2 = k by omega)]
      by_cases e : p.to = k
      · simp only [e, if_true, and_true]
        rw [e] at hpos
        rw [if_pos hpos]
        split <;> omega
      · simp only [e, if_false, and_false]
        split <;> omega
    · rename_i hpos
      simp only [asum]
      rw [if_neg (show ¬(0 < n - ((rd xs p.to).bal - (rd xs p.to).held) ∧ p.to = k) from fun h => hpos h.1)]
      split <;> split <;> omega
  rw [has]
  by_cases e : p.to = k
  · subst e
    rw [if_pos rfl, if_neg hne]
    split <;> omega
  · rw [if_neg e, if_neg (show ¬(_ ∧ p.to = k) from fun h => e h.2)]
    split <;> omega
/-- What the law of charges asks. -/
theorem charge_law {s : St} (h : StNum s) {i n : Int} (h0 : 0 ≤ i) (hi : i < s.pays.length) (hn : 0 ≤ n ∧ n < 256) :
    (∃ c, c ≠ 0 ∧ opsDo s ⟨0, 7, i, 0, 1 + n, 0, 0⟩ = (s, ⟨c, 0⟩) ∧ (gave (rd s.pays i) < 1 + n ∨ (rd s.accs (rd s.pays i).frm).cur ≠ (rd s.accs (rd s.pays i).to).cur)) ∨
    (∃ t, opsDo s ⟨0, 7, i, 0, 1 + n, 0, 0⟩ = (t, ⟨0, 0⟩) ∧ Ok (fun _ => 0) t.accs t.pays ∧ t.accs.length = s.accs.length ∧ t.pays.length = s.pays.length ∧ (rd t.accs (rd s.pays i).frm).bal = (rd s.accs (rd s.pays i).frm).bal + 1 + n ∧ (rd t.pays i).chgd = (rd s.pays i).chgd + 1 + n) := by
  obtain ⟨p, hp⟩ : ∃ p, rd s.pays i = p := ⟨_, rfl⟩
  have hpk := h.ok.pays.2 i h0 hi
  have hap := h.ok.apart i h0 hi
  have hop := h.ok.open_ i h0 hi
  have hG := h.ok.good
  rw [hp] at hpk hap hop ⊢
  have hR : opsR s.now s.accs s.pays ⟨0, 7, i, 0, 1 + n, 0, 0⟩ = deskPay (chargeF s.accs (1 + n)) s.pays ⟨0, 7, i, 0, 1 + n, 0, 0⟩ := by
    simp [opsR]
  cases hr : opsR s.now s.accs s.pays ⟨0, 7, i, 0, 1 + n, 0, 0⟩ with
  | error c =>
    obtain ⟨he, hc⟩ := opsDo_err hr
    refine .inl ⟨c, by omega, he, ?_⟩
    by_cases hg : gave p < 1 + n
    · exact .inl hg
    · refine .inr fun hcur => ?_
      have hpd : payDo p 7 (1 + n) = .ok { p with chgd := p.chgd + (1 + n) } := by
        unfold payDo
        rw [if_neg (by omega), if_neg (by omega), if_neg (by omega), if_neg (by omega), if_neg (by omega), if_pos (by omega)]
      have hl := h.len
      obtain ⟨ys, hys⟩ := charge_near (n := 1 + n) hG (fun j j0 hj => by
        by_cases h9 : j < 9
        · have := h.houseBal j j0 h9; omega
        · have := h.clientBal j (by omega) hj; omega) hpk.2.1 hpk.2.2 hap (by omega) hcur
      rw [hR] at hr
      unfold deskPay at hr
      rw [if_neg (by simp only; omega)] at hr
      simp only at hr
      rw [hp, hpd] at hr
      simp only at hr
      rw [hys] at hr
      cases hr
  | ok t =>
    obtain ⟨ys, qs, id⟩ := t
    have hok := ops_ok h.ok h.now.1 (r := ⟨0, 7, i, 0, 1 + n, 0, 0⟩) ⟨fun h => by simp at h, fun h => by simp at h⟩ hr
    have hd := opsDo_yes hr
    rw [hR] at hr
    obtain ⟨⟨a0, a1⟩, rfl, q, hq, hy, rfl⟩ := deskPay_ok hr
    simp only at a0 a1 hq hy
    rw [hp] at hq hy
    have hdn := payDo_done hpk.1 hop hq
    refine .inr ⟨_, hd, hok.1, ?_, by simp, ?_, ?_⟩
    · simp only
      unfold chargeF at hy
      cases hb : backE s.accs p (1 + n) with
      | error c => rw [hb] at hy; cases hy
      | ok es =>
        rw [hb] at hy
        exact (post_moved hy (chgEs_bal hG hpk.2.2 hb)).len
    · simp only
      unfold chargeF at hy
      cases hb : backE s.accs p (1 + n) with
      | error c => rw [hb] at hy; cases hy
      | ok es =>
        rw [hb] at hy
        simp only at hy
        have hmv := post_moved hy (chgEs_bal hG hpk.2.2 hb)
        rw [hmv.bal p.frm (by omega) hpk.2.1.2]
        have hh := back_head hG hb
        obtain ⟨fs, hf, rfl⟩ := backE_ok hb
        have hcu := hG.cur p.to (by omega) hpk.2.2.2
        have hb1 : asum p.frm (back fs) = 1 + n := by rw [asum_back, move_asum hG hpk.2.1.1 hf]; omega
        have : asum p.frm (chgEs s.accs p (back fs)) = 1 + n := by
          unfold chgEs
          split
          · rw [asum_lossy _ _ _ _ _ hh.1.1, hb1, hh.2.1, if_neg (Ne.symm hap), if_neg (by omega)]
            omega
          · exact hb1
        rw [this]
        omega
    · simp only
      have := rd_set s.pays i.toNat i q h0 hi
      rw [if_pos (by omega)] at this
      rw [this, (hdn.chg rfl).2.1]
      simp only
      omega
end Go.Proofs.YthjmficglpfgpaaDoor
namespace Go.Proofs.YthjmficglpfgpaaDoor
set_option linter.unusedVariables false
set_option linter.unusedSimpArgs false
open Go Go.RowKit Enc
set_option maxRecDepth 100000

theorem bad_law {s : St} {r : Req} {ls : List Bool} (h : StNum s) (hr : ReqOk r) :
    askK (bankDo s r ls).1.known r = some (bankDo s r ls).2.1 ∧ (bankDo s r ls).1.known.length = 1 ∧ ((bankDo s r ls).2.1.err ≠ 0 → (bankDo s r ls).1.accs = s.accs ∧ (bankDo s r ls).1.pays = s.pays ∧ (bankDo s r ls).1.now = s.now) := by
  have ha : askK s.known r = none := by rw [h.known]; rfl
  have hF := firstDo_ok (ls := ls) h.ok h.now.1 hr
  have hd : bankDo s r ls = ({ (firstDo s r ls).1 with known := s.known ++ [⟨r, (firstDo s r ls).2.1, true⟩] }, (firstDo s r ls).2.1, (firstDo s r ls).2.2) := by
    rw [bankDo_eq, if_neg (by simpa using hr), ha]
    simp only
    rw [if_neg (by rw [h.known]; simp)]
  rw [hd]
  generalize firstDo s r ls = x at *
  refine ⟨ask_new (ask_none ha) _, by rw [h.known]; rfl, fun he => ?_⟩
  have := hF.same he
  simp only
  rw [this]
  exact ⟨rfl, rfl, rfl⟩
def fullKn (k : Nat) : List Kn := (List.range k).map fun (i : Nat) => ⟨⟨1000 + i, 0, 0, 0, 0, 0, 0⟩, ⟨0, 0⟩, true⟩
def fullSt (k : Nat) : St := ⟨house, [], [], fullKn k, 0⟩
theorem fullKn_len (k : Nat) : (fullKn k).length = k := by simp [fullKn]
theorem fullKn_find (k : Nat) (key : Int) (h : key < 256) : findK key (fullKn k) < 0 := by
  rw [find_none_iff]
  intro hm
  obtain ⟨x, hx, he⟩ := List.mem_map.1 hm
  obtain ⟨i, _, rfl⟩ := List.mem_map.1 hx
  simp only at he
  omega
theorem house_ok : Ok (fun _ => 0) house [] := by
  have h := house_bk
  have hl := h.len
  refine ⟨⟨by decide, by decide, h.cur, fun k h0 hk => ?_, fun k h0 hk => ⟨(h.house k h0 hk).1, h.held k h0 (by omega)⟩, fun k h9 hk => by omega⟩, ⟨by simp, fun k h0 hk => by simp at hk; omega⟩, fun c _ _ => h.sums c, fun k h9 hk => by omega, fun k h0 hk => by simp at hk; omega, fun k h0 hk => by simp at hk; omega, fun _ => Int.le_refl _, fun _ _ => rfl⟩
  have := h.house k h0 (by omega)
  omega
theorem full_law {k : Nat} {r : Req} (hr : ReqOk r) (hk : r.key < 256) (h8 : k ≤ 256) :
    (k ≥ 256 → bankDo (fullSt k) r [] = (fullSt k, ⟨7, 0⟩, 0)) ∧ (k < 256 → (bankDo (fullSt k) r []).1.known.length = k + 1) := by
  have hf := fullKn_find k r.key hk
  have ha : askK (fullSt k).known r = none := by
    show askK (fullKn k) r = none
    unfold askK
    rw [if_pos hf]
  have hl : (fullSt k).known.length = k := fullKn_len k
  refine ⟨fun h => ?_, fun h => ?_⟩
  · rw [bankDo_eq, if_neg (by simpa using hr), ha]
    simp only
    rw [if_pos (by omega)]
  · rw [bankDo_eq, if_neg (by simpa using hr), ha]
    simp only
    rw [if_neg (by omega)]
    simp only [List.length_append, List.length_singleton, hl]

/-! ### Balances that stay small -/
def Within (B : Int) (xs : List Acc) : Prop := ∀ j : Int, 0 ≤ j → j < xs.length → -B ≤ (rd xs j).bal ∧ (rd xs j).bal ≤ B
theorem Within.mono {B C : Int} {xs : List Acc} (h : Within B xs) (hB : B ≤ C) : Within C xs := fun j h0 hj => by have := h j h0 hj; omega
theorem asum_bd (j N : Int) (hN : 0 ≤ N) : ∀ es : List Ent, (∀ e ∈ es, -N ≤ e.amt ∧ e.amt ≤ N) → -(es.length * N) ≤ asum j es ∧ asum j es ≤ es.length * N
  | [], _ => by simp [asum]
  | e :: es, h => by
    have h1 := asum_bd j N hN es fun x hx => h x (List.mem_cons_of_mem _ hx)
    have h2 := h e (List.mem_cons_self ..)
    have e1 : ((es.length + 1 : Nat) : Int) * N = es.length * N + N := by rw [Int.natCast_add, Int.add_mul]; simp
    simp only [asum, List.length_cons, e1]
    split <;> omega
theorem move_small {xs : List Acc} {a b n : Int} {es : List Ent} (hn : n ≤ 2000) (h : move xs a b n = .ok es) : ∀ e ∈ es, -320000 ≤ e.amt ∧ e.amt ≤ 320000 := by
  have hs := move_same h
  unfold move at h
  split at h
  · cases h
  split at h
  · cases h
  split at h
  · cases h
  split at h
  · injection h with h
    subst h
    simp only [List.mem_cons, List.not_mem_nil, or_false]
    rintro e (rfl | rfl) <;> simp only <;> omega
  split at h
  · cases h
  split at h
  · cases h
  injection h with h
  subst h
  obtain ⟨⟨r1, r2⟩, r3, r4⟩ := rate_bd (rd xs a).cur (rd xs b).cur
  have hx0 : 0 ≤ n * (rate (rd xs a).cur (rd xs b).cur).1 := Int.mul_nonneg (by omega) (by omega)
  have hx1 : n * (rate (rd xs a).cur (rd xs b).cur).1 ≤ 2000 * 160 := Int.mul_le_mul (by omega) r2 (by omega) (by omega)
  have hq0 : 0 ≤ n * (rate (rd xs a).cur (rd xs b).cur).1 / (rate (rd xs a).cur (rd xs b).cur).2 := Int.ediv_nonneg hx0 (by omega)
  have hq1 : n * (rate (rd xs a).cur (rd xs b).cur).1 / (rate (rd xs a).cur (rd xs b).cur).2 ≤ n * (rate (rd xs a).cur (rd xs b).cur).1 := Int.ediv_le_self _ hx0
  generalize n * (rate (rd xs a).cur (rd xs b).cur).1 / (rate (rd xs a).cur (rd xs b).cur).2 = q at *
  generalize n * (rate (rd xs a).cur (rd xs b).cur).1 = y at *
  simp only [List.mem_cons, List.not_mem_nil, or_false]
  rintro e (rfl | rfl | rfl | rfl) <;> simp only <;> omega
theorem Moved.within {xs ys : List Acc} {es : List Ent} {B : Int} (h : Moved xs ys es) (hw : Within B xs) (hl : es.length ≤ 5) (he : ∀ e ∈ es, -320000 ≤ e.amt ∧ e.amt ≤ 320000) : Within (B + 2000000) ys := fun j j0 hj => by
  have hl' := h.len
  have h1 := hw j j0 (by omega)
  have h2 := asum_bd j 320000 (by decide) es he
  rw [h.bal j j0 (by omega)]
  have : (es.length : Int) * 320000 ≤ 5 * 320000 := Int.mul_le_mul_of_nonneg_right (by omega) (by decide)
  omega
theorem Turned.within {xs ys : List Acc} {k n B : Int} (h : Turned xs ys k n) (hw : Within B xs) : Within B ys := fun j j0 hj => by
  have hl := h.len
  rw [h.bal j j0 (by omega)]
  exact hw j j0 (by omega)
theorem back_small {es : List Ent} (h : ∀ e ∈ es, -320000 ≤ e.amt ∧ e.amt ≤ 320000) : ∀ e ∈ back es, -320000 ≤ e.amt ∧ e.amt ≤ 320000 := fun e he => by
  obtain ⟨x, hx, rfl⟩ := mem_back he
  have := h x hx
  simp only [neg]
  omega
theorem opsR_within {now B : Int} {xs ys : List Acc} {ps qs : List Pay} {r : Req} {id : Int} {G : Int → Int} (h : Ok G xs ps) (hB : 0 ≤ B) (hw : Within B xs) (hn : r.amt ≤ 2000) (hd : opsR now xs ps r = .ok (ys, qs, id)) : Within (B + 2000000) ys := by
  unfold opsR at hd
  split at hd
  · unfold deskOpen at hd
    split at hd
    · cases hd
    injection hd with hd
    injection hd with e1 hd
    subst e1
    intro j j0 hj
    rcases Int.lt_or_le j xs.length with h1 | h1
    · rw [rd_left _ _ _ j0 h1]
      have := hw j j0 h1
      omega
    · have : j = xs.length := by simp at hj; omega
      subst this
      rw [rd_snoc]
      simp only
      omega
  have hpost : ∀ (a b n : Int), n ≤ 2000 → ∀ {ys : List Acc} {qs : List Pay} {id : Int}, deskPost xs ps a b n = .ok (ys, qs, id) → Within (B + 2000000) ys := fun a b n hn ys qs id hd => by
    obtain ⟨_, _, _, _, es, hm, hp⟩ := deskPost_ok h hd
    have hM := move_moveOk h.good hm
    exact (post_moved hp (hM.bal h.good)).within hw (by have := hM.len; omega) (move_small hn hm)
  split at hd
  · unfold deskDeposit at hd
    split at hd
    · exact hpost _ _ _ hn hd
    · cases hd
  split at hd
  · unfold deskTransfer at hd
    split at hd
    · exact hpost _ _ _ hn hd
    · cases hd
  split at hd
  · unfold deskAuth at hd
    split at hd
    · cases hd
    split at hd
    · cases hd
    split at hd
    · cases hd
    cases hh : hold xs r.a r.amt with
    | error c => rw [hh] at hd; cases hd
    | ok zs =>
      rw [hh] at hd
      injection hd with hd
      injection hd with e1 hd
      subst e1
      exact ((hold_ok hh).1.within hw).mono (by omega)
  split at hd
  · obtain ⟨⟨a0, a1⟩, rfl, q, hq, hy, rfl⟩ := deskPay_ok hd
    obtain ⟨es, zs, hm, hr, hp, hBl⟩ := capF_ok h.good hy
    have hM := move_moveOk h.good hm
    exact (post_moved hp hBl).within ((release_ok' hr).1.within hw) (by have := hM.len; omega) (move_small hn hm)
  split at hd
  · obtain ⟨⟨a0, a1⟩, rfl, q, hq, hy, rfl⟩ := deskPay_ok hd
    exact ((release_ok' hy).1.within hw).mono (by omega)
  split at hd
  · obtain ⟨⟨a0, a1⟩, rfl, q, hq, hy, rfl⟩ := deskPay_ok hd
    unfold refF at hy
    cases hb : backE xs (rd ps r.a) r.amt with
    | error c => rw [hb] at hy; cases hy
    | ok es =>
      rw [hb] at hy
      simp only at hy
      have hBl := backE_bal h.good hb
      obtain ⟨fs, hf, rfl⟩ := backE_ok hb
      have hM := move_moveOk h.good hf
      exact (post_moved hy hBl).within hw (by rw [back_len]; have := hM.len; omega) (back_small (move_small hn hf))
  split at hd
  · obtain ⟨⟨a0, a1⟩, rfl, q, hq, hy, rfl⟩ := deskPay_ok hd
    have hpk := h.pays.2 r.a a0 a1
    unfold chargeF at hy
    cases hb : backE xs (rd ps r.a) r.amt with
    | error c => rw [hb] at hy; cases hy
    | ok es =>
      rw [hb] at hy
      simp only at hy
      have hBl := chgEs_bal h.good hpk.2.2 hb
      have hh := back_head h.good hb
      have hcl := h.good.client _ hpk.2.2.1 hpk.2.2.2
      obtain ⟨fs, hf, rfl⟩ := backE_ok hb
      have hM := move_moveOk h.good hf
      have hsm := back_small (move_small hn hf)
      refine (post_moved hy hBl).within hw ?_ ?_
      · unfold chgEs
        split
        · unfold lossy
          simp only [List.length_append, List.length_set, List.length_singleton]
          have := hh.1
          omega
        · have := hh.1
          omega
      · unfold chgEs
        split
        · rename_i hpos
          intro e he
          have h0 := hsm _ (rd_mem (back fs) 0 (Int.le_refl _) (by have := hh.1; omega))
          have hla : lacks xs (rd ps r.a) (back fs) ≤ -(rd (back fs) 0).amt := by unfold lacks; omega
          unfold lossy at he
          rcases List.mem_append.1 he with he | he
          · rcases List.mem_or_eq_of_mem_set he with he | rfl
            · exact hsm e he
            · simp only
              omega
          · rw [List.mem_singleton] at he
            subst he
            simp only
            omega
        · exact hsm
  · cases hd
/-- What cannot be held cannot be moved. -/
theorem reserve_err {s : St} {r : Req} {c B : Int} (hG : Good s.accs) (hw : Within B s.accs) (hB : B ≤ 562949953421312) (hop : r.op = 2) (h : reserveA s.accs r = .error c) : opsDo s r = (s, ⟨c, 0⟩) := by
  have hR : opsR s.now s.accs s.pays r = deskTransfer s.accs s.pays r := by
    unfold opsR
    rw [if_neg (by omega), if_neg (by omega), if_pos hop]
  unfold reserveA at h
  split at h
  · rename_i hcl
    injection h with h
    subst h
    unfold opsDo
    rw [hR]
    unfold deskTransfer
    rw [if_neg (by rw [hcl]; simp)]
  rename_i hcl
  have hcl : (isCl s.accs r.a && isCl s.accs r.b) = true := by simpa using hcl
  have hT : deskTransfer s.accs s.pays r = deskPost s.accs s.pays r.a r.b r.amt := by unfold deskTransfer; rw [if_pos hcl]
  have hcl' : (9 ≤ r.a ∧ r.a < s.accs.length) ∧ (9 ≤ r.b ∧ r.b < s.accs.length) := by simpa [isCl] using hcl
  unfold opsDo
  rw [hR, hT]
  unfold deskPost
  cases hm : move s.accs r.a r.b r.amt with
  | error d =>
    rw [hm] at h
    injection h with h
    subst h
    rfl
  | ok es =>
    rw [hm] at h
    have h : hold s.accs r.a r.amt = .error c := h
    have hs := move_same hm
    have hM := move_moveOk hG hm
    have hBl := hM.bal hG
    unfold hold at h
    rw [if_neg (by omega), if_neg (by omega)] at h
    split at h
    · rename_i hfree
      injection h with h
      subst h
      obtain ⟨ys, hys⟩ := fold_small 1099511627776 (by decide) es s.accs B hw (fun e he => ⟨hBl.mem e he, (hM.all e he).2⟩) (by
        have h4 := hM.len.2
        have : (es.length : Int) * 1099511627776 ≤ 4 * 1099511627776 := Int.mul_le_mul_of_nonneg_right (by omega) (by decide)
        omega)
      have hmv := fold_moved _ _ _ hys hBl.mem
      have hl := hmv.len
      have hsol : solvB ys = false := by
        cases hb : solvB ys with
        | false => rfl
        | true =>
          have := solv_at hb r.a hcl'.1.1 (by omega)
          rw [hmv.held r.a (by omega) hcl'.1.2, hmv.bal r.a (by omega) hcl'.1.2, move_asum hG hcl'.1.1 hm] at this
          omega
      simp only
      unfold post
      rw [hys]
      simp only
      rw [hsol]
      rfl
    · cases h
end Go.Proofs.YthjmficglpfgpaaDoor
