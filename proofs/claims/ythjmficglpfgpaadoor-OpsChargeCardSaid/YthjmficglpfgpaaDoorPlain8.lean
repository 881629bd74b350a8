/- More laws of a bank: in plain Lean. -/
import Derived.Test.YthjmficglpfgpaaDoorPlain7
import Derived.Test.YthjmficglpfgpaaDoorPlain5
namespace Go.Proofs.YthjmficglpfgpaaDoor
set_option linter.unusedVariables false
set_option linter.unusedSimpArgs false
open Go Go.RowKit Enc
set_option maxRecDepth 100000

theorem bad_law {s : St} {r : Req} {ls : List Bool} (h : StNum s) (hr : ReqOk r) :
    askK (bankDo s r ls).1.known r = some (bankDo s r ls).2.1 ∧ (bankDo s r ls).1.known.length = 1 ∧ ((bankDo s r ls).2.1.err ≠ 0 → (bankDo s r ls).1.accs = s.accs ∧ (bankDo s r ls).1.pays = s.pays ∧ (bankDo s r ls).1.now = s.now) := by
  have ha : askK s.known r = none := by rw [h.known]; rfl
  have hF := firstDo_ok (ls := ls) h.ok h.now.1 hr
  have hd : bankDo s r ls = ({ (firstDo s r ls).1 with known := s.known ++ [⟨r, (firstDo s r ls).2.1, true⟩] }, (firstDo s r ls).2.1, (firstDo s r ls).2.2) := by
    rw [bankDo_eq, if_neg (by simpa using hr), ha]
    simp only
    rw [if_neg (by rw [h.known]; simp)]
  rw [hd]
  generalize firstDo s r ls = x at *
  refine ⟨ask_new (ask_none ha) _, by rw [h.known]; rfl, fun he => ?_⟩
  have := hF.same he
  simp only
  rw [this]
  exact ⟨rfl, rfl, rfl⟩
def fullKn (k : Nat) : List Kn := (List.range k).map fun (i : Nat) => ⟨⟨1000 + i, 0, 0, 0, 0, 0, 0⟩, ⟨0, 0⟩, true⟩
def fullSt (k : Nat) : St := ⟨house, [], [], fullKn k, 0⟩
theorem fullKn_len (k : Nat) : (fullKn k).length = k := by simp [fullKn]
theorem fullKn_find (k : Nat) (key : Int) (h : key < 256) : findK key (fullKn k) < 0 := by
  rw [find_none_iff]
  intro hm
  obtain ⟨x, hx, he⟩ := List.mem_map.1 hm
  obtain ⟨i, _, rfl⟩ := List.mem_map.1 hx
  simp only at he
  omega
theorem house_ok : Ok (fun _ => 0) house [] := by
  have h := house_bk
  have hl := h.len
  refine ⟨⟨by decide, by decide, h.cur, fun k h0 hk => ?_, fun k h0 hk => ⟨(h.house k h0 hk).1, h.held k h0 (by omega)⟩, fun k h9 hk => by omega⟩, ⟨by simp, fun k h0 hk => by simp at hk; omega⟩, fun c _ _ => h.sums c, fun k h9 hk => by omega, fun k h0 hk => by simp at hk; omega, fun k h0 hk => by simp at hk; omega, fun _ => Int.le_refl _, fun _ _ => rfl⟩
  have := h.house k h0 (by omega)
  omega
theorem full_law {k : Nat} {r : Req} (hr : ReqOk r) (hk : r.key < 256) (h8 : k ≤ 256) :
    (k ≥ 256 → bankDo (fullSt k) r [] = (fullSt k, ⟨7, 0⟩, 0)) ∧ (k < 256 → (bankDo (fullSt k) r []).1.known.length = k + 1) := by
  have hf := fullKn_find k r.key hk
  have ha : askK (fullSt k).known r = none := by
    show askK (fullKn k) r = none
    unfold askK
    rw [if_pos hf]
  have hl : (fullSt k).known.length = k := fullKn_len k
  refine ⟨fun h => ?_, fun h => ?_⟩
  · rw [bankDo_eq, if_neg (by simpa using hr), ha]
    simp only
    rw [if_pos (by omega)]
  · rw [bankDo_eq, if_neg (by simpa using hr), ha]
    simp only
    rw [if_neg (by omega)]
    simp only [List.length_append, List.length_singleton, hl]

/-! ### Balances that stay small -/
def Within (B : Int) (xs : List Acc) : Prop := ∀ j : Int, 0 ≤ j → j < xs.length → -B ≤ (rd xs j).bal ∧ (rd xs j).bal ≤ B
theorem Within.mono {B C : Int} {xs : List Acc} (h : Within B xs) (hB : B ≤ C) : Within C xs := fun j h0 hj => by have := h j h0 hj; omega
theorem asum_bd (j N : Int) (hN : 0 ≤ N) : ∀ es : List Ent, (∀ e ∈ es, -N ≤ e.amt ∧ e.amt ≤ N) → -(es.length * N) ≤ asum j es ∧ asum j es ≤ es.length * N
  | [], _ => by simp [asum]
  | e :: es, h => by
    have h1 := asum_bd j N hN es fun x hx => h x (List.mem_cons_of_mem _ hx)
    have h2 := h e (List.mem_cons_self ..)
    have e1 : ((es.length + 1 : Nat) : Int) * N = es.length * N + N := by rw [Int.natCast_add, Int.add_mul]; simp
    simp only [asum, List.length_cons, e1]
    split <;> omega
theorem move_small {xs : List Acc} {a b n : Int} {es : List Ent} (hn : n ≤ 2000) (h : move xs a b n = .ok es) : ∀ e ∈ es, -320000 ≤ e.amt ∧ e.amt ≤ 320000 := by
  have hs := move_same h
  unfold move at h
  split at h
  · cases h
  split at h
  · cases h
  split at h
  · cases h
  split at h
  · injection h with h
    subst h
    simp only [List.mem_cons, List.not_mem_nil, or_false]
    rintro e (rfl | rfl) <;> simp only <;> omega
  split at h
  · cases h
  split at h
  · cases h
  injection h with h
  subst h
  obtain ⟨⟨r1, r2⟩, r3, r4⟩ := rate_bd (rd xs a).cur (rd xs b).cur
  have hx0 : 0 ≤ n * (rate (rd xs a).cur (rd xs b).cur).1 := Int.mul_nonneg (by omega) (by omega)
  have hx1 : n * (rate (rd xs a).cur (rd xs b).cur).1 ≤ 2000 * 160 := Int.mul_le_mul (by omega) r2 (by omega) (by omega)
  have hq0 : 0 ≤ n * (rate (rd xs a).cur (rd xs b).cur).1 / (rate (rd xs a).cur (rd xs b).cur).2 := Int.ediv_nonneg hx0 (by omega)
  have hq1 : n * (rate (rd xs a).cur (rd xs b).cur).1 / (rate (rd xs a).cur (rd xs b).cur).2 ≤ n * (rate (rd xs a).cur (rd xs b).cur).1 := Int.ediv_le_self _ hx0
  generalize n * (rate (rd xs a).cur (rd xs b).cur).1 / (rate (rd xs a).cur (rd xs b).cur).2 = q at *
  generalize n * (rate (rd xs a).cur (rd xs b).cur).1 = y at *
  simp only [List.mem_cons, List.not_mem_nil, or_false]
  rintro e (rfl | rfl | rfl | rfl) <;> simp only <;> omega
theorem Moved.within {xs ys : List Acc} {es : List Ent} {B : Int} (h : Moved xs ys es) (hw : Within B xs) (hl : es.length ≤ 5) (he : ∀ e ∈ es, -320000 ≤ e.amt ∧ e.amt ≤ 320000) : Within (B + 2000000) ys := fun j j0 hj => by
  have hl' := h.len
  have h1 := hw j j0 (by omega)
  have h2 := asum_bd j 320000 (by decide) es he
  rw [h.bal j j0 (by omega)]
  have : (es.length : Int) * 320000 ≤ 5 * 320000 := Int.mul_le_mul_of_nonneg_right (by omega) (by decide)
  omega
theorem Turned.within {xs ys : List Acc} {k n B : Int} (h : Turned xs ys k n) (hw : Within B xs) : Within B ys := fun j j0 hj => by
  have hl := h.len
  rw [h.bal j j0 (by omega)]
  exact hw j j0 (by omega)
theorem back_small {es : List Ent} (h : ∀ e ∈ es, -320000 ≤ e.amt ∧ e.amt ≤ 320000) : ∀ e ∈ back es, -320000 ≤ e.amt ∧ e.amt ≤ 320000 := fun e he => by
  obtain ⟨x, hx, rfl⟩ := mem_back he
  have := h x hx
  simp only [neg]
  omega
theorem opsR_within {now B : Int} {xs ys : List Acc} {ps qs : List Pay} {r : Req} {id : Int} {G : Int → Int} (h : Ok G xs ps) (hB : 0 ≤ B) (hw : Within B xs) (hn : r.amt ≤ 2000) (hd : opsR now xs ps r = .ok (ys, qs, id)) : Within (B + 2000000) ys := by
  unfold opsR at hd
  split at hd
  · unfold deskOpen at hd
    split at hd
    · cases hd
    injection hd with hd
    injection hd with e1 hd
    subst e1
    intro j j0 hj
    rcases Int.lt_or_le j xs.length with h1 | h1
    · rw [rd_left _ _ _ j0 h1]
      have := hw j j0 h1
      omega
    · have : j = xs.length := by simp at hj; omega
      subst this
      rw [rd_snoc]
      simp only
      omega
  have hpost : ∀ (a b n : Int), n ≤ 2000 → ∀ {ys : List Acc} {qs : List Pay} {id : Int}, deskPost xs ps a b n = .ok (ys, qs, id) → Within (B + 2000000) ys := fun a b n hn ys qs id hd => by
    obtain ⟨_, _, _, _, es, hm, hp⟩ := deskPost_ok h hd
    have hM := move_moveOk h.good hm
    exact (post_moved hp (hM.bal h.good)).within hw (by have := hM.len; omega) (move_small hn hm)
  split at hd
  · unfold deskDeposit at hd
    split at hd
    · exact hpost _ _ _ hn hd
    · cases hd
  split at hd
  · unfold deskTransfer at hd
    split at hd
    · exact hpost _ _ _ hn hd
    · cases hd
  split at hd
  · unfold deskAuth at hd
    split at hd
    · cases hd
    split at hd
    · cases hd
    split at hd
    · cases hd
    cases hh : hold xs r.a r.amt with
    | error c => rw [hh] at hd; cases hd
    | ok zs =>
      rw [hh] at hd
      injection hd with hd
      injection hd with e1 hd
      subst e1
      exact ((hold_ok hh).1.within hw).mono (by omega)
  split at hd
  · obtain ⟨⟨a0, a1⟩, rfl, q, hq, hy, rfl⟩ := deskPay_ok hd
    obtain ⟨es, zs, hm, hr, hp, hBl⟩ := capF_ok h.good hy
    have hM := move_moveOk h.good hm
    exact (post_moved hp hBl).within ((release_ok' hr).1.within hw) (by have := hM.len; omega) (move_small hn hm)
  split at hd
  · obtain ⟨⟨a0, a1⟩, rfl, q, hq, hy, rfl⟩ := deskPay_ok hd
    exact ((release_ok' hy).1.within hw).mono (by omega)
  split at hd
  · obtain ⟨⟨a0, a1⟩, rfl, q, hq, hy, rfl⟩ := deskPay_ok hd
    unfold refF at hy
    cases hb : backE xs (rd ps r.a) r.amt with
    | error c => rw [hb] at hy; cases hy
    | ok es =>
      rw [hb] at hy
      simp only at hy
      have hBl := backE_bal h.good hb
      obtain ⟨fs, hf, rfl⟩ := backE_ok hb
      have hM := move_moveOk h.good hf
      exact (post_moved hy hBl).within hw (by rw [back_len]; have := hM.len; omega) (back_small (move_small hn hf))
  split at hd
  · obtain ⟨⟨a0, a1⟩, rfl, q, hq, hy, rfl⟩ := deskPay_ok hd
    have hpk := h.pays.2 r.a a0 a1
    unfold chargeF at hy
    cases hb : backE xs (rd ps r.a) r.amt with
    | error c => rw [hb] at hy; cases hy
    | ok es =>
      rw [hb] at hy
      simp only at hy
      have hBl := chgEs_bal h.good hpk.2.2 hb
      have hh := back_head h.good hb
      have hcl := h.good.client _ hpk.2.2.1 hpk.2.2.2
      obtain ⟨fs, hf, rfl⟩ := backE_ok hb
      have hM := move_moveOk h.good hf
      have hsm := back_small (move_small hn hf)
      refine (post_moved hy hBl).within hw ?_ ?_
      · unfold chgEs
        split
        · unfold lossy
          simp only [List.length_append, List.length_set, List.length_singleton]
          have := hh.1
          omega
        · have := hh.1
          omega
      · unfold chgEs
        split
        · rename_i hpos
          intro e he
          have h0 := hsm _ (rd_mem (back fs) 0 (Int.le_refl _) (by have := hh.1; omega))
          have hla : lacks xs (rd ps r.a) (back fs) ≤ -(rd (back fs) 0).amt := by unfold lacks; omega
          unfold lossy at he
          rcases List.mem_append.1 he with he | he
          · rcases List.mem_or_eq_of_mem_set he with he | rfl
            · exact hsm e he
            · simp only
              omega
          · rw [List.mem_singleton] at he
            subst he
            simp only
            omega
        · exact hsm
  · cases hd
/-- What cannot be held cannot be moved. -/
theorem reserve_err {s : St} {r : Req} {c B : Int} (hG : Good s.accs) (hw : Within B s.accs) (hB : B ≤ 562949953421312) (hop : r.op = 2) (h : reserveA s.accs r = .error c) : opsDo s r = (s, ⟨c, 0⟩) := by
  have hR : opsR s.now s.accs s.pays r = deskTransfer s.accs s.pays r := by
    unfold opsR
    rw [if_neg (by omega), if_neg (by omega), if_pos hop]
  unfold reserveA at h
  split at h
  · rename_i hcl
    injection h with h
    subst h
    unfold opsDo
    rw [hR]
    unfold deskTransfer
    rw [if_neg (by rw [hcl]; simp)]
  rename_i hcl
  have hcl : (isCl s.accs r.a && isCl s.accs r.b) = true := by simpa using hcl
  have hT : deskTransfer s.accs s.pays r = deskPost s.accs s.pays r.a r.b r.amt := by unfold deskTransfer; rw [if_pos hcl]
  have hcl' : (9 ≤ r.a ∧ r.a < s.accs.length) ∧ (9 ≤ r.b ∧ r.b < s.accs.length) := by simpa [isCl] using hcl
  unfold opsDo
  rw [hR, hT]
  unfold deskPost
  cases hm : move s.accs r.a r.b r.amt with
  | error d =>
    rw [hm] at h
    injection h with h
    subst h
    rfl
  | ok es =>
    rw [hm] at h
    have h : hold s.accs r.a r.amt = .error c := h
    have hs := move_same hm
    have hM := move_moveOk hG hm
    have hBl := hM.bal hG
    unfold hold at h
    rw [if_neg (by omega), if_neg (by omega)] at h
    split at h
    · rename_i hfree
      injection h with h
      subst h
      obtain ⟨ys, hys⟩ := fold_small 1099511627776 (by decide) es s.accs B hw (fun e he => ⟨hBl.mem e he, (hM.all e he).2⟩) (by
        have h4 := hM.len.2
        have : (es.length : Int) * 1099511627776 ≤ 4 * 1099511627776 := Int.mul_le_mul_of_nonneg_right (by omega) (by decide)
        omega)
      have hmv := fold_moved _ _ _ hys hBl.mem
      have hl := hmv.len
      have hsol : solvB ys = false := by
        cases hb : solvB ys with
        | false => rfl
        | true =>
          have := solv_at hb r.a hcl'.1.1 (by omega)
          rw [hmv.held r.a (by omega) hcl'.1.2, hmv.bal r.a (by omega) hcl'.1.2, move_asum hG hcl'.1.1 hm] at this
          omega
      simp only
      unfold post
      rw [hys]
      simp only
      rw [hsol]
      rfl
    · cases h
end Go.Proofs.YthjmficglpfgpaaDoor
