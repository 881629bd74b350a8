/- What requests make of a state, and what stays right: in plain Lean. -/
import Derived.Test.YthjmficglpfgpaaDoorDefs
import Derived.Test.YthjmficglpfgpaaDoorChg
import Derived.Test.YthjmficglpfgpaaDoorPlain1
namespace Go.Proofs.YthjmficglpfgpaaDoor
set_option linter.unusedVariables false
set_option linter.unusedSimpArgs false
open Go Go.RowKit Enc
set_option maxRecDepth 100000

/-- What a request makes of accounts and payments. -/
def opsR (now : Int) (xs : List Acc) (ps : List Pay) (r : Req) : Except Int (List Acc × List Pay × Int) :=
  if r.op = 0 then deskOpen xs ps r
  else if r.op = 1 then deskDeposit xs ps r
  else if r.op = 2 then deskTransfer xs ps r
  else if r.op = 3 then deskAuth now xs ps r
  else if r.op = 4 then deskPay (capF xs r.amt) ps r
  else if r.op = 5 then deskPay (fun p => release xs p.frm (left p)) ps r
  else if r.op = 6 then deskPay (refF xs r.amt) ps r
  else if r.op = 7 then deskPay (chargeF xs r.amt) ps r
  else .error 1
def opsDo (s : St) (r : Req) : St × Rep :=
  match opsR s.now s.accs s.pays r with
  | .error c => (s, ⟨c, 0⟩)
  | .ok (xs, ps, id) => ({ s with accs := xs, pays := ps }, ⟨0, id⟩)

/-- What is right of accounts and payments, where G holds besides. -/
structure Ok (G : Int → Int) (xs : List Acc) (ps : List Pay) : Prop where
  good : Good xs
  pays : PaysOk xs ps
  sums : ∀ c : Int, 0 ≤ c → c < 3 → csum c xs = 0
  held : ∀ k : Int, 9 ≤ k → k < xs.length → (rd xs k).held = hsum k ps + G k
  open_ : ∀ k : Int, 0 ≤ k → k < ps.length → (rd ps k).stage = 0 → (rd ps k).capt < (rd ps k).auth
  apart : ∀ k : Int, 0 ≤ k → k < ps.length → (rd ps k).frm ≠ (rd ps k).to
  gpos : ∀ k : Int, 0 ≤ G k
  gout : ∀ k : Int, xs.length ≤ k → G k = 0
/-- A request that can be done to a right state. -/
def Fit (r : Req) : Prop := (r.op = 0 → 0 ≤ r.a ∧ r.a < 3) ∧ (r.op = 3 → r.til ≤ 1073741824)

theorem move_same {xs : List Acc} {a b n : Int} {es : List Ent} (h : move xs a b n = .ok es) : a ≠ b ∧ 1 ≤ n ∧ n ≤ 1099511627776 ∧ (0 ≤ a ∧ a < xs.length) ∧ (0 ≤ b ∧ b < xs.length) := by
  unfold move at h
  split at h
  · cases h
  rename_i h1
  split at h
  · cases h
  rename_i h2
  split at h
  · cases h
  rename_i h3
  have h1' : 0 ≤ a ∧ a < xs.length := Decidable.not_not.1 h1
  have h2' : 0 ≤ b ∧ b < xs.length := Decidable.not_not.1 h2
  have hn : 1 ≤ n ∧ n ≤ 1099511627776 := by
    rcases Decidable.em (1 ≤ n ∧ n ≤ 1099511627776) with h | h
    · exact h
    · exact absurd (.inr h) h3
  exact ⟨fun h => h3 (.inl h), hn.1, hn.2, h1', h2'⟩

/-- Accounts that were moved, payments as they were. -/
theorem Ok.moved {G : Int → Int} {xs ys : List Acc} {ps : List Pay} {es : List Ent} (h : Ok G xs ps) (hB : Bal xs es) (hp : post xs es = .ok ys) : Ok G ys ps := by
  have hm := post_moved hp hB
  have hl := hm.len
  refine ⟨h.good.post hB hp, ⟨h.pays.1, fun k h0 hk => ?_⟩, fun c h0 h3 => by rw [post_sums hB hp c h0 h3]; exact h.sums c h0 h3, fun k h9 hk => ?_, h.open_, h.apart, h.gpos, fun k hk => h.gout k (by omega)⟩
  · have := h.pays.2 k h0 hk
    rw [hl]; exact this
  · rw [hm.held k (by omega) (by omega)]; exact h.held k h9 (by omega)
theorem deskPost_ok {G : Int → Int} {xs ys : List Acc} {ps qs : List Pay} {a b n id : Int} (h : Ok G xs ps) (hd : deskPost xs ps a b n = .ok (ys, qs, id)) : Ok G ys qs ∧ qs = ps ∧ id = 0 ∧ ys.length = xs.length ∧ ∃ es, move xs a b n = .ok es ∧ post xs es = .ok ys := by
  unfold deskPost at hd
  cases hm : move xs a b n with
  | error c => rw [hm] at hd; cases hd
  | ok es =>
    rw [hm] at hd
    simp only at hd
    cases hp : post xs es with
    | error c => rw [hp] at hd; cases hd
    | ok zs =>
      rw [hp] at hd
      injection hd with hd
      injection hd with e1 hd
      injection hd with e2 e3
      subst e1 e2 e3
      have hB := (move_moveOk h.good hm).bal h.good
      exact ⟨h.moved hB hp, rfl, rfl, (post_moved hp hB).len, es, rfl, hp⟩

/-- What payDo makes of a payment. -/
structure Paydone (p q : Pay) (op n : Int) : Prop where
  ok : PayOk q
  open_ : q.stage = 0 → q.capt < q.auth
  frm : q.frm = p.frm
  to : q.to = p.to
  auth : q.auth = p.auth
  til : q.til = p.til
  cap : op = 4 → left q = left p - n
  void : op = 5 → left q = 0 ∧ p.stage = 0 ∧ q = { p with stage := 1 }
  ref : op = 6 → left q = left p ∧ q = { p with refd := p.refd + n }
  chg : op = 7 → left q = left p ∧ q = { p with chgd := p.chgd + n } ∧ n ≤ gave p
  opr : 4 ≤ op ∧ op ≤ 7
  amt : op ≠ 5 → 1 ≤ n
theorem payDo_done {p q : Pay} {op n : Int} (hp : PayOk p) (ho : p.stage = 0 → p.capt < p.auth) (h : payDo p op n = .ok q) : Paydone p q op n := by
  obtain ⟨⟨a1, a2⟩, ⟨b1, b2⟩, c1, d1, g1, t1, s1⟩ := hp
  unfold payDo at h
  split at h
  · cases h
  rename_i h1
  have h1' : 4 ≤ op ∧ op ≤ 7 := Decidable.not_not.1 h1
  split at h
  · cases h
  rename_i h2
  have h2' : op ≠ 5 → 1 ≤ n := fun h5 => by
    rcases Int.lt_or_le n 1 with hlt | hge
    · exact absurd ⟨h5, hlt⟩ h2
    · exact hge
  split at h
  · rename_i h4
    split at h
    · rename_i hn
      injection h with h
      subst h
      have hn1 := h2' (by omega)
      have hst : p.stage = 0 := by
        rcases s1 with s1 | s1
        · exact s1
        · unfold left at hn; rw [if_neg (by omega)] at hn; omega
      have hl : left p = p.auth - p.capt := by unfold left; rw [if_pos hst]
      have := ho hst
      by_cases e : p.capt + n = p.auth
      · rw [if_pos e]
        refine ⟨⟨⟨a1, a2⟩, ⟨by simp only; omega, by simp only; omega⟩, c1, d1, by simp only; omega, t1, .inr rfl⟩, fun h => by simp at h, rfl, rfl, rfl, rfl, fun _ => ?_, fun h => by omega, fun h => by omega, fun h => by omega, h1', h2'⟩
        rw [hl]
        simp only [left]
        rw [if_neg (by decide)]
        omega
      · rw [if_neg e]
        refine ⟨⟨⟨a1, a2⟩, ⟨by simp only; omega, by simp only; omega⟩, c1, d1, by simp only; omega, t1, s1⟩, fun h => by simp only; omega, rfl, rfl, rfl, rfl, fun _ => ?_, fun h => by omega, fun h => by omega, fun h => by omega, h1', h2'⟩
        rw [hl]
        simp only [left]
        rw [if_pos hst]
        omega
    · cases h
  rename_i h4
  split at h
  · rename_i h5
    split at h
    · rename_i hs
      injection h with h
      subst h
      refine ⟨⟨⟨a1, a2⟩, ⟨b1, b2⟩, c1, d1, g1, t1, .inr rfl⟩, fun h => by simp at h, rfl, rfl, rfl, rfl, fun h => by omega, fun _ => ⟨?_, hs, rfl⟩, fun h => by omega, fun h => by omega, h1', h2'⟩
      simp [left]
    · cases h
  rename_i h5
  split at h
  · rename_i h6
    split at h
    · rename_i hn
      injection h with h
      subst h
      have hn1 := h2' (by omega)
      unfold gave at hn
      exact ⟨⟨⟨a1, a2⟩, ⟨b1, b2⟩, by simp only; omega, d1, by simp only; omega, t1, s1⟩, ho, rfl, rfl, rfl, rfl, fun h => by omega, fun h => by omega, fun _ => ⟨rfl, rfl⟩, fun h => by omega, h1', h2'⟩
    · cases h
  · rename_i h6
    split at h
    · rename_i hn
      injection h with h
      subst h
      have hn1 := h2' (by omega)
      have hn' := hn
      unfold gave at hn
      exact ⟨⟨⟨a1, a2⟩, ⟨b1, b2⟩, c1, by simp only; omega, by simp only; omega, t1, s1⟩, ho, rfl, rfl, rfl, rfl, fun h => by omega, fun h => by omega, fun h => by omega, fun _ => ⟨rfl, rfl, hn'⟩, h1', h2'⟩
    · cases h

theorem deskPay_ok {f : Pay → Except Int (List Acc)} {ps qs : List Pay} {r : Req} {ys : List Acc} {id : Int} (h : deskPay f ps r = .ok (ys, qs, id)) :
    (0 ≤ r.a ∧ r.a < ps.length) ∧ id = 0 ∧ ∃ q, payDo (rd ps r.a) r.op r.amt = .ok q ∧ f (rd ps r.a) = .ok ys ∧ qs = ps.set r.a.toNat q := by
  unfold deskPay at h
  split at h
  · cases h
  rename_i h1
  have h1' : 0 ≤ r.a ∧ r.a < ps.length := Decidable.not_not.1 h1
  cases hp : payDo (rd ps r.a) r.op r.amt with
  | error c => rw [hp] at h; cases h
  | ok q =>
    rw [hp] at h
    simp only at h
    cases hf : f (rd ps r.a) with
    | error c => rw [hf] at h; cases h
    | ok zs =>
      rw [hf] at h
      injection h with h
      injection h with e1 h
      injection h with e2 e3
      subst e1 e2 e3
      exact ⟨h1', rfl, q, rfl, rfl, rfl⟩
/-- Accounts and a payment that were turned together. -/
theorem Ok.paid {G : Int → Int} {xs ys : List Acc} {ps : List Pay} {i : Int} {q : Pay} {op n : Int} (h : Ok G xs ps) (h0 : 0 ≤ i) (hi : i < ps.length) (hd : Paydone (rd ps i) q op n) (hG : Good ys) (hl : ys.length = xs.length)
    (hs : ∀ c : Int, 0 ≤ c → c < 3 → csum c ys = csum c xs) (hh : ∀ j : Int, 9 ≤ j → j < xs.length → (rd ys j).held = (rd xs j).held + if (rd ps i).frm = j then left q - left (rd ps i) else 0) : Ok G ys (ps.set i.toNat q) := by
  have hlen : (ps.set i.toNat q).length = ps.length := by simp
  have hrd := fun (j : Int) (j0 : 0 ≤ j) (hj : j < ps.length) => rd_set ps i.toNat j q j0 hj
  have hi' : ((i.toNat : Nat) : Int) = i := by omega
  rw [hi'] at hrd
  refine ⟨hG, ⟨by rw [hlen]; exact h.pays.1, fun k k0 hk => ?_⟩, fun c c0 c3 => by rw [hs c c0 c3]; exact h.sums c c0 c3, fun j j9 hj => ?_, fun k k0 hk => ?_, fun k k0 hk => ?_, h.gpos, fun k hk => h.gout k (by omega)⟩
  · rw [hlen] at hk
    rw [hrd k k0 hk, hl]
    have hk1 := h.pays.2 k k0 hk
    split
    · rename_i e
      subst e
      rw [hd.frm, hd.to]
      exact ⟨hd.ok, hk1.2⟩
    · exact hk1
  · rw [hh j j9 (by omega), h.held j j9 (by omega), hsum_upd j h0 hi hd.frm]
    omega
  · rw [hlen] at hk
    rw [hrd k k0 hk]
    split
    · exact hd.open_
    · exact h.open_ k k0 hk
  · rw [hlen] at hk
    rw [hrd k k0 hk]
    split
    · rename_i e
      subst e
      rw [hd.frm, hd.to]
      exact h.apart k k0 hk
    · exact h.apart k k0 hk
theorem move_head {xs : List Acc} {a b n : Int} {es : List Ent} (h : move xs a b n = .ok es) : rd es 0 = ⟨a, -n⟩ ∧ es.length ≠ 0 := by
  unfold move at h
  split at h
  · cases h
  split at h
  · cases h
  split at h
  · cases h
  split at h
  · injection h with h
    subst h
    exact ⟨rfl, by simp⟩
  split at h
  · cases h
  split at h
  · cases h
  injection h with h
  subst h
  exact ⟨rfl, by simp⟩
theorem capF_ok {xs ys : List Acc} {p : Pay} {n : Int} (hG : Good xs) (h : capF xs n p = .ok ys) : ∃ es zs, move xs p.frm p.to n = .ok es ∧ release xs p.frm n = .ok zs ∧ post zs es = .ok ys ∧ Bal zs es := by
  unfold capF at h
  cases hm : move xs p.frm p.to n with
  | error c => rw [hm] at h; cases h
  | ok es =>
    rw [hm] at h
    simp only at h
    obtain ⟨h0, hl⟩ := move_head hm
    unfold spend at h
    rw [if_neg hl, h0] at h
    simp only at h
    cases hr : release xs p.frm n with
    | error c => rw [hr] at h; cases h
    | ok zs =>
      rw [hr] at h
      have h : post zs es = .ok ys := h
      obtain ⟨_, hzl, hzc⟩ := release_ok hG.abs hr
      exact ⟨es, zs, rfl, rfl, h, ((move_moveOk hG hm).bal hG).congr hzl hzc⟩
theorem ops_ok {G : Int → Int} {now : Int} {xs ys : List Acc} {ps qs : List Pay} {r : Req} {id : Int} (h : Ok G xs ps) (hn : 0 ≤ now) (hf : Fit r) (hd : opsR now xs ps r = .ok (ys, qs, id)) : Ok G ys qs ∧ xs.length ≤ ys.length := by
  unfold opsR at hd
  split at hd
  · rename_i hop
    unfold deskOpen at hd
    split at hd
    · cases hd
    rename_i h64
    injection hd with hd
    injection hd with e1 hd
    injection hd with e2 e3
    subst e1 e2 e3
    have hc := hf.1 hop
    have hlen : (xs ++ [Acc.mk r.a 0 0]).length = xs.length + 1 := by simp
    have h9 := h.good.len9
    have hL := fun (j : Int) (j0 : 0 ≤ j) (hj : j < xs.length) => rd_left xs [Acc.mk r.a 0 0] j j0 hj
    have hS : rd (xs ++ [Acc.mk r.a 0 0]) (xs.length : Int) = Acc.mk r.a 0 0 := rd_snoc xs _
    have hcase : ∀ j : Int, j < (xs ++ [Acc.mk r.a 0 0]).length → j < xs.length ∨ j = xs.length := fun j hj => by rw [hlen] at hj; omega
    refine ⟨⟨⟨by omega, by omega, fun j j0 hj => ?_, fun j j0 hj => ?_, fun j j0 hj => ?_, fun j j0 hj => ?_⟩, ⟨h.pays.1, fun k k0 hk => ?_⟩, fun c c0 c3 => ?_, fun j j9 hj => ?_, h.open_, h.apart, h.gpos, fun k hk => h.gout k (by omega)⟩, by omega⟩
    · rcases hcase j hj with hj | rfl
      · rw [hL j j0 hj]; exact h.good.cur j j0 hj
      · rw [hS]; exact hc
    · rcases hcase j hj with hj | rfl
      · rw [hL j j0 hj]; exact h.good.bal j j0 hj
      · rw [hS]; simp
    · rw [hL j j0 (by omega)]; exact h.good.house j j0 hj
    · rcases hcase j hj with hj | rfl
      · rw [hL j (by omega) hj]; exact h.good.client j j0 hj
      · rw [hS]; simp
    · have := h.pays.2 k k0 hk
      exact ⟨this.1, ⟨this.2.1.1, by omega⟩, ⟨this.2.2.1, by omega⟩⟩
    · rw [csum_append, h.sums c c0 c3]; simp [csum]
    · rcases hcase j hj with hj | rfl
      · rw [hL j (by omega) hj]; exact h.held j j9 hj
      · rw [hS, h.gout _ (Int.le_refl _), hsum_zero]
        · rfl
        · intro p hp
          obtain ⟨k, k0, hk, rfl⟩ := mem_rd hp
          have := (h.pays.2 k k0 hk).2.1.2
          omega
  rename_i hop0
  split at hd
  · unfold deskDeposit at hd
    split at hd
    · have := deskPost_ok h hd
      exact ⟨this.1, by omega⟩
    · cases hd
  split at hd
  · unfold deskTransfer at hd
    split at hd
    · have := deskPost_ok h hd
      exact ⟨this.1, by omega⟩
    · cases hd
  split at hd
  · rename_i hop3
    unfold deskAuth at hd
    split at hd
    · cases hd
    rename_i hcl
    split at hd
    · cases hd
    rename_i hbad
    split at hd
    · cases hd
    rename_i h64
    cases hh : hold xs r.a r.amt with
    | error c => rw [hh] at hd; cases hd
    | ok zs =>
      rw [hh] at hd
      injection hd with hd
      injection hd with e1 hd
      injection hd with e2 e3
      subst e1 e2 e3
      obtain ⟨ht, ha, hfree, _⟩ := hold_ok hh
      have hlen : (ps ++ [Pay.mk r.a r.b r.amt 0 0 0 r.til 0]).length = ps.length + 1 := by simp
      have hL := fun (j : Int) (j0 : 0 ≤ j) (hj : j < ps.length) => rd_left ps [Pay.mk r.a r.b r.amt 0 0 0 r.til 0] j j0 hj
      have hS : rd (ps ++ [Pay.mk r.a r.b r.amt 0 0 0 r.til 0]) (ps.length : Int) = Pay.mk r.a r.b r.amt 0 0 0 r.til 0 := rd_snoc ps _
      have hcase : ∀ j : Int, j < (ps ++ [Pay.mk r.a r.b r.amt 0 0 0 r.til 0]).length → j < ps.length ∨ j = ps.length := fun j hj => by rw [hlen] at hj; omega
      have hcl' : (9 ≤ r.a ∧ r.a < xs.length) ∧ (9 ≤ r.b ∧ r.b < xs.length) := by simp [isCl] at hcl; omega
      have hbad' : r.a ≠ r.b ∧ now < r.til := ⟨fun e => hbad (.inl e), by rcases Int.lt_or_le now r.til with h | h; exact h; exact absurd (.inr h) hbad⟩
      have htil := hf.2 hop3
      have hl := ht.len
      refine ⟨⟨h.good.hold hh, ⟨by rw [hlen]; omega, fun k k0 hk => ?_⟩, fun c c0 c3 => by rw [ht.sums c]; exact h.sums c c0 c3, fun j j9 hj => ?_, fun k k0 hk => ?_, fun k k0 hk => ?_, h.gpos, fun k hk => h.gout k (by omega)⟩, by omega⟩
      · rw [hl]
        rcases hcase k hk with hk | rfl
        · rw [hL k k0 hk]; exact h.pays.2 k k0 hk
        · rw [hS]
          exact ⟨⟨ha, ⟨by simp, by simp only; omega⟩, by simp, by simp, by simp, ⟨by simp only; omega, htil⟩, .inl rfl⟩, hcl'⟩
      · rw [ht.held j (by omega) (by omega), h.held j j9 (by omega), hsum_append]
        simp only [hsum, left]
        by_cases e : j = r.a
        · subst e
          rw [if_pos rfl, if_pos rfl]
          simp
          omega
        · rw [if_neg e, if_neg (Ne.symm e)]
          omega
      · rcases hcase k hk with hk | rfl
        · rw [hL k k0 hk]; exact h.open_ k k0 hk
        · rw [hS]; intro _; simp only; omega
      · rcases hcase k hk with hk | rfl
        · rw [hL k k0 hk]; exact h.apart k k0 hk
        · rw [hS]; exact hbad'.1
  split at hd
  · rename_i hop4
    obtain ⟨⟨a0, a1⟩, rfl, q, hq, hy, rfl⟩ := deskPay_ok hd
    have hpk := h.pays.2 r.a a0 a1
    have hdn := payDo_done hpk.1 (h.open_ r.a a0 a1) hq
    obtain ⟨es, zs, hm, hr, hp, hB⟩ := capF_ok h.good hy
    obtain ⟨ht, ha, hfree, _⟩ := release_ok' hr
    have hmv := post_moved hp hB
    have hl1 := ht.len
    have hl2 := hmv.len
    refine ⟨h.paid a0 a1 hdn ((h.good.release hr).post hB hp) (by omega) (fun c c0 c3 => by rw [post_sums hB hp c c0 c3, ht.sums c]) (fun j j9 hj => ?_), by omega⟩
    rw [hmv.held j (by omega) (by omega), ht.held j (by omega) (by omega), hdn.cap hop4]
    by_cases e : (rd ps r.a).frm = j
    · rw [if_pos e, if_pos e.symm]; omega
    · rw [if_neg e, if_neg (Ne.symm e)]
  split at hd
  · rename_i hop5
    obtain ⟨⟨a0, a1⟩, rfl, q, hq, hy, rfl⟩ := deskPay_ok hd
    have hpk := h.pays.2 r.a a0 a1
    have hdn := payDo_done hpk.1 (h.open_ r.a a0 a1) hq
    obtain ⟨ht, ha, hfree, _⟩ := release_ok' hy
    have hl1 := ht.len
    refine ⟨h.paid a0 a1 hdn (h.good.release hy) (by omega) (fun c c0 c3 => ht.sums c) (fun j j9 hj => ?_), by omega⟩
    rw [ht.held j (by omega) (by omega), (hdn.void hop5).1]
    by_cases e : (rd ps r.a).frm = j
    · rw [if_pos e, if_pos e.symm]; omega
    · rw [if_neg e, if_neg (Ne.symm e)]
  split at hd
  · rename_i hop6
    obtain ⟨⟨a0, a1⟩, rfl, q, hq, hy, rfl⟩ := deskPay_ok hd
    have hpk := h.pays.2 r.a a0 a1
    have hdn := payDo_done hpk.1 (h.open_ r.a a0 a1) hq
    unfold refF at hy
    cases hb : backE xs (rd ps r.a) r.amt with
    | error c => rw [hb] at hy; cases hy
    | ok es =>
      rw [hb] at hy
      simp only at hy
      have hB := backE_bal h.good hb
      have hmv := post_moved hy hB
      have hl2 := hmv.len
      refine ⟨h.paid a0 a1 hdn (h.good.post hB hy) (by omega) (fun c c0 c3 => post_sums hB hy c c0 c3) (fun j j9 hj => ?_), by omega⟩
      rw [hmv.held j (by omega) (by omega), (hdn.ref hop6).1]
      split <;> omega
  split at hd
  · rename_i hop7
    obtain ⟨⟨a0, a1⟩, rfl, q, hq, hy, rfl⟩ := deskPay_ok hd
    have hpk := h.pays.2 r.a a0 a1
    have hdn := payDo_done hpk.1 (h.open_ r.a a0 a1) hq
    unfold chargeF at hy
    cases hb : backE xs (rd ps r.a) r.amt with
    | error c => rw [hb] at hy; cases hy
    | ok es =>
      rw [hb] at hy
      simp only at hy
      have hB := chgEs_bal h.good hpk.2.2 hb
      have hmv := post_moved hy hB
      have hl2 := hmv.len
      refine ⟨h.paid a0 a1 hdn (h.good.post hB hy) (by omega) (fun c c0 c3 => post_sums hB hy c c0 c3) (fun j j9 hj => ?_), by omega⟩
      rw [hmv.held j (by omega) (by omega), (hdn.chg hop7).1]
      split <;> omega
  · cases hd
/-! ### Errors are numbers above 0 -/
def EPos {α : Type} (r : Except Int α) : Prop := ∀ c, r = .error c → 1 ≤ c ∧ c ≤ 13
theorem EPos.ok {α : Type} (a : α) : EPos (.ok a : Except Int α) := fun c h => by cases h
theorem EPos.err {α : Type} (c : Int) (h : 1 ≤ c ∧ c ≤ 13) : EPos (.error c : Except Int α) := fun d hd => by injection hd with hd; omega
theorem EPos.ite {α : Type} {P : Prop} [Decidable P] {a b : Except Int α} (ha : EPos a) (hb : EPos b) : EPos (if P then a else b) := by split <;> assumption
theorem move_pos (xs : List Acc) (a b n : Int) : EPos (move xs a b n) := by
  unfold move
  repeat' first | exact EPos.ok _ | exact EPos.err _ (by decide) | refine EPos.ite ?_ ?_
theorem fold_pos : ∀ (es : List Ent) (xs : List Acc), EPos (es.foldlM post1 xs)
  | [], xs => EPos.ok xs
  | e :: es, xs => by
    rw [List.foldlM_cons]
    unfold post1
    split
    · exact fold_pos es _
    · intro c h
      injection h with h
      omega
theorem post_pos (xs : List Acc) (es : List Ent) : EPos (post xs es) := by
  unfold post
  have := fold_pos es xs
  cases hf : es.foldlM post1 xs with
  | error c => rw [hf] at this; exact this
  | ok ys => exact EPos.ite (EPos.ok _) (EPos.err _ (by decide))
theorem hold_pos (xs : List Acc) (k n : Int) : EPos (hold xs k n) := by
  unfold hold
  repeat' first | exact EPos.ok _ | exact EPos.err _ (by decide) | refine EPos.ite ?_ ?_
theorem release_pos (xs : List Acc) (k n : Int) : EPos (release xs k n) := by
  unfold release
  repeat' first | exact EPos.ok _ | exact EPos.err _ (by decide) | refine EPos.ite ?_ ?_
theorem payDo_pos (p : Pay) (op n : Int) : EPos (payDo p op n) := by
  unfold payDo
  repeat' first | exact EPos.ok _ | exact EPos.err _ (by decide) | refine EPos.ite ?_ ?_
theorem spend_pos (xs : List Acc) (n : Int) (es : List Ent) : EPos (spend xs n es) := by
  unfold spend
  refine EPos.ite (EPos.err _ (by decide)) ?_
  have := release_pos xs (rd es 0).acct n
  cases hr : release xs (rd es 0).acct n with
  | error c => rw [hr] at this; exact fun d hd => this d (by injection hd with hd; rw [hd])
  | ok ys => exact post_pos ys es
theorem deskPost_pos (xs : List Acc) (ps : List Pay) (a b n : Int) : EPos (deskPost xs ps a b n) := by
  unfold deskPost
  have := move_pos xs a b n
  cases hm : move xs a b n with
  | error c => rw [hm] at this; exact fun d hd => this d (by injection hd with hd; rw [hd])
  | ok es =>
    simp only
    have := post_pos xs es
    cases hp : post xs es with
    | error c => rw [hp] at this; exact fun d hd => this d (by injection hd with hd; rw [hd])
    | ok ys => exact EPos.ok _
theorem deskPay_pos (f : Pay → Except Int (List Acc)) (hf : ∀ p, EPos (f p)) (ps : List Pay) (r : Req) : EPos (deskPay f ps r) := by
  unfold deskPay
  refine EPos.ite (EPos.err _ (by decide)) ?_
  have := payDo_pos (rd ps r.a) r.op r.amt
  cases hm : payDo (rd ps r.a) r.op r.amt with
  | error c => rw [hm] at this; exact fun d hd => this d (by injection hd with hd; rw [hd])
  | ok q =>
    simp only
    have := hf (rd ps r.a)
    cases hp : f (rd ps r.a) with
    | error c => rw [hp] at this; exact fun d hd => this d (by injection hd with hd; rw [hd])
    | ok ys => exact EPos.ok _
theorem backE_pos (xs : List Acc) (p : Pay) (n : Int) : EPos (backE xs p n) := by
  unfold backE
  have := move_pos xs p.frm p.to n
  cases hm : move xs p.frm p.to n with
  | error c => rw [hm] at this; exact fun d hd => this d (by injection hd with hd; rw [hd])
  | ok es => exact EPos.ok _
theorem opsR_pos (now : Int) (xs : List Acc) (ps : List Pay) (r : Req) : EPos (opsR now xs ps r) := by
  unfold opsR
  refine EPos.ite ?_ (EPos.ite ?_ (EPos.ite ?_ (EPos.ite ?_ (EPos.ite ?_ (EPos.ite ?_ (EPos.ite ?_ (EPos.ite ?_ ?_)))))))
  · unfold deskOpen
    exact EPos.ite (EPos.err _ (by decide)) (EPos.ok _)
  · unfold deskDeposit
    exact EPos.ite (deskPost_pos _ _ _ _ _) (EPos.err _ (by decide))
  · unfold deskTransfer
    exact EPos.ite (deskPost_pos _ _ _ _ _) (EPos.err _ (by decide))
  · unfold deskAuth
    refine EPos.ite (EPos.err _ (by decide)) (EPos.ite (EPos.err _ (by decide)) (EPos.ite (EPos.err _ (by decide)) ?_))
    have := hold_pos xs r.a r.amt
    cases hh : hold xs r.a r.amt with
    | error c => rw [hh] at this; exact fun d hd => this d (by injection hd with hd; rw [hd])
    | ok ys => exact EPos.ok _
  · refine deskPay_pos _ (fun p => ?_) ps r
    unfold capF
    have := move_pos xs p.frm p.to r.amt
    cases hm : move xs p.frm p.to r.amt with
    | error c => rw [hm] at this; exact fun d hd => this d (by injection hd with hd; rw [hd])
    | ok es => exact spend_pos _ _ _
  · exact deskPay_pos _ (fun p => release_pos _ _ _) ps r
  · refine deskPay_pos _ (fun p => ?_) ps r
    unfold refF
    have := backE_pos xs p r.amt
    cases hm : backE xs p r.amt with
    | error c => rw [hm] at this; exact fun d hd => this d (by injection hd with hd; rw [hd])
    | ok es => exact post_pos _ _
  · refine deskPay_pos _ (fun p => ?_) ps r
    unfold chargeF
    have := backE_pos xs p r.amt
    cases hm : backE xs p r.amt with
    | error c => rw [hm] at this; exact fun d hd => this d (by injection hd with hd; rw [hd])
    | ok es => exact post_pos _ _
  · exact EPos.err _ (by decide)
theorem opsDo_err {s : St} {r : Req} {c : Int} (h : opsR s.now s.accs s.pays r = .error c) : opsDo s r = (s, ⟨c, 0⟩) ∧ 1 ≤ c ∧ c ≤ 13 := ⟨by unfold opsDo; rw [h], opsR_pos _ _ _ _ c h⟩
theorem opsDo_yes {s : St} {r : Req} {t : List Acc × List Pay × Int} (h : opsR s.now s.accs s.pays r = .ok t) : opsDo s r = ({ s with accs := t.1, pays := t.2.1 }, ⟨0, t.2.2⟩) := by unfold opsDo; rw [h]
end Go.Proofs.YthjmficglpfgpaaDoor
