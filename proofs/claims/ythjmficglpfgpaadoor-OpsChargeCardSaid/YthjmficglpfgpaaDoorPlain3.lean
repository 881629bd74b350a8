/- What a tick makes of a state: in plain Lean. -/
import Derived.Test.YthjmficglpfgpaaDoorPlain2
namespace Go.Proofs.YthjmficglpfgpaaDoor
set_option linter.unusedVariables false
set_option linter.unusedSimpArgs false
open Go Go.RowKit Enc
set_option maxRecDepth 100000

def shut (p : Pay) : Pay := { p with stage := 1 }
def dueB (now : Int) (p : Pay) : Bool := decide (p.stage = 0 ∧ p.til ≤ now)
def closeP (now : Int) (ps : List Pay) : List Pay := ps.map fun p => if dueB now p then shut p else p
def closeA (now : Int) (xs : List Acc) (ps : List Pay) : List Acc := xs.mapIdx fun i a => { a with held := a.held - (hsum (i : Int) ps - hsum (i : Int) (closeP now ps)) }
/-- A state behind a tick. -/
def tickSt (s : St) : St :=
  if s.now ≥ 1073741824 then s else { s with now := s.now + 1, accs := closeA (s.now + 1) s.accs s.pays, pays := closeP (s.now + 1) s.pays }
/-- The request that a tick makes for a payment. -/
def voidReq (k : Int) : Req := ⟨0, 5, k, 0, 0, 0, 0⟩
def voids (ks : List Int) (s : St) : St := ks.foldl (fun s k => (opsDo s (voidReq k)).1) s

/-- Accounts alike but for what is held. -/
structure Alike (xs ys : List Acc) : Prop where
  len : ys.length = xs.length
  cur : ∀ j : Int, 0 ≤ j → j < xs.length → (rd ys j).cur = (rd xs j).cur
  bal : ∀ j : Int, 0 ≤ j → j < xs.length → (rd ys j).bal = (rd xs j).bal
theorem Alike.refl (xs : List Acc) : Alike xs xs := ⟨rfl, fun _ _ _ => rfl, fun _ _ _ => rfl⟩
theorem Alike.trans {xs ys zs : List Acc} (h : Alike xs ys) (k : Alike ys zs) : Alike xs zs := by
  have := h.len
  exact ⟨k.len.trans h.len, fun j h0 hj => (k.cur j h0 (by omega)).trans (h.cur j h0 hj), fun j h0 hj => (k.bal j h0 (by omega)).trans (h.bal j h0 hj)⟩
theorem Turned.alike {xs ys : List Acc} {k n : Int} (h : Turned xs ys k n) : Alike xs ys := ⟨h.len, h.cur, h.bal⟩
theorem Acc.eq {a b : Acc} (h1 : a.cur = b.cur) (h2 : a.bal = b.bal) (h3 : a.held = b.held) : a = b := by
  cases a; cases b; simp_all
/-- What is held is told by the payments. -/
theorem Ok.same {G : Int → Int} {xs ys zs : List Acc} {ps : List Pay} (h : Ok G ys ps) (k : Ok G zs ps) (ha : Alike xs ys) (hb : Alike xs zs) : ys = zs := by
  have l1 := ha.len
  have l2 := hb.len
  refine rd_ext (l1.trans l2.symm) fun j j0 hj => Acc.eq ?_ ?_ ?_
  · rw [ha.cur j j0 (by omega), hb.cur j j0 (by omega)]
  · rw [ha.bal j j0 (by omega), hb.bal j j0 (by omega)]
  · by_cases h9 : j < 9
    · rw [(h.good.house j j0 h9).2, (k.good.house j j0 h9).2]
    · rw [h.held j (by omega) hj, k.held j (by omega) (by omega)]

theorem Ok.left0 {G : Int → Int} {xs : List Acc} {ps : List Pay} (h : Ok G xs ps) : ∀ p ∈ ps, 0 ≤ left p := fun p hp => by
  obtain ⟨k, k0, hk, rfl⟩ := mem_rd hp
  exact (left_bd (h.pays.2 k k0 hk).1).1
theorem void_one {G : Int → Int} {now : Int} {xs : List Acc} {ps : List Pay} {k : Int} (h : Ok G xs ps) (h0 : 0 ≤ k) (hk : k < ps.length) (hs : (rd ps k).stage = 0) :
    ∃ ys, opsR now xs ps (voidReq k) = .ok (ys, ps.set k.toNat (shut (rd ps k)), 0) ∧ Alike xs ys := by
  have hp := h.pays.2 k h0 hk
  have ho := h.open_ k h0 hk hs
  have hl : left (rd ps k) = (rd ps k).auth - (rd ps k).capt := by unfold left; rw [if_pos hs]
  have ha := hp.1.auth
  have hc := hp.1.capt
  have hheld := h.held (rd ps k).frm hp.2.1.1 hp.2.1.2
  have hge := hsum_ge (rd ps k).frm ps (rd ps k) (rd_mem ps k h0 hk) rfl h.left0
  have hgp := h.gpos (rd ps k).frm
  have hrel : release xs (rd ps k).frm (left (rd ps k)) = .ok (upd xs (rd ps k).frm { rd xs (rd ps k).frm with held := (rd xs (rd ps k).frm).held - left (rd ps k) }) := by
    unfold release
    rw [if_neg (by have := hp.2.1; omega), if_neg (by omega), if_neg (by omega)]
  have hpd : payDo (rd ps k) 5 0 = .ok (shut (rd ps k)) := by
    unfold payDo
    rw [if_neg (by omega), if_neg (by omega), if_neg (by omega), if_pos rfl, if_pos hs]
    rfl
  refine ⟨_, ?_, (release_ok' hrel).1.alike⟩
  have hR : opsR now xs ps (voidReq k) = deskPay (fun p => release xs p.frm (left p)) ps (voidReq k) := by simp [opsR, voidReq]
  rw [hR]
  unfold deskPay voidReq
  simp only
  rw [if_neg (by omega), hpd]
  simp only
  rw [hrel]

/-- What is done by voids of payments that are open. -/
structure Voided (G : Int → Int) (s t : St) (ks : List Int) : Prop where
  ok : Ok G t.accs t.pays
  alike : Alike s.accs t.accs
  len : t.pays.length = s.pays.length
  pay : ∀ j : Int, 0 ≤ j → j < s.pays.length → rd t.pays j = if j ∈ ks then shut (rd s.pays j) else rd s.pays j
  sagas : t.sagas = s.sagas
  known : t.known = s.known
  now : t.now = s.now
theorem voids_ok {G : Int → Int} : ∀ (ks : List Int) (s : St), Ok G s.accs s.pays → 0 ≤ s.now → ks.Nodup → (∀ k ∈ ks, (0 ≤ k ∧ k < s.pays.length) ∧ (rd s.pays k).stage = 0) → Voided G s (voids ks s) ks
  | [], s, h, _, _, _ => ⟨h, Alike.refl _, rfl, fun j _ _ => by simp [voids], rfl, rfl, rfl⟩
  | k :: ks, s, h, hn, hnd, hall => by
    obtain ⟨⟨k0, hk⟩, hs⟩ := hall k (List.mem_cons_self ..)
    rw [List.nodup_cons] at hnd
    obtain ⟨ys, hys, hal⟩ := void_one (now := s.now) h k0 hk hs
    have hok := (ops_ok h hn ⟨fun h => by simp [voidReq] at h, fun h => by simp [voidReq] at h⟩ hys).1
    have hone : (opsDo s (voidReq k)).1 = { s with accs := ys, pays := s.pays.set k.toNat (shut (rd s.pays k)) } := by
      unfold opsDo; rw [hys]
    have hrd := fun (j : Int) (j0 : 0 ≤ j) (hj : j < s.pays.length) => rd_set s.pays k.toNat j (shut (rd s.pays k)) j0 hj
    rw [show ((k.toNat : Nat) : Int) = k by omega] at hrd
    have hlen : (s.pays.set k.toNat (shut (rd s.pays k))).length = s.pays.length := by simp
    have hv : voids (k :: ks) s = voids ks { s with accs := ys, pays := s.pays.set k.toNat (shut (rd s.pays k)) } := by
      show voids ks (opsDo s (voidReq k)).1 = _
      rw [hone]
    rw [hv]
    have ih := voids_ok (G := G) ks { s with accs := ys, pays := s.pays.set k.toNat (shut (rd s.pays k)) } hok hn hnd.2 (fun j hj => by
      have hj' := hall j (List.mem_cons_of_mem _ hj)
      have hne : j ≠ k := fun e => hnd.1 (e ▸ hj)
      simp only
      rw [hlen, hrd j hj'.1.1 hj'.1.2, if_neg hne]
      exact hj')
    refine ⟨ih.ok, hal.trans ih.alike, ih.len.trans hlen, fun j j0 hj => ?_, ih.sagas, ih.known, ih.now⟩
    rw [ih.pay j j0 (by simp only; omega)]
    simp only
    rw [hrd j j0 hj]
    by_cases e : j = k
    · subst e
      rw [if_neg hnd.1, if_pos rfl, if_pos (List.mem_cons_self ..)]
    · rw [if_neg e]
      by_cases hm : j ∈ ks
      · rw [if_pos hm, if_pos (List.mem_cons_of_mem _ hm)]
      · rw [if_neg hm, if_neg (fun h => by rcases List.mem_cons.1 h with h | h; exact e h; exact hm h)]

/-- The payments whose time is over, each once. -/
structure Due (ps : List Pay) (now : Int) (ks : List Int) : Prop where
  nodup : ks.Nodup
  mem : ∀ k, k ∈ ks ↔ (0 ≤ k ∧ k < ps.length) ∧ dueB now (rd ps k) = true
theorem closeP_len (now : Int) (ps : List Pay) : (closeP now ps).length = ps.length := by simp [closeP]
theorem rd_closeP (now : Int) (ps : List Pay) (j : Int) (j0 : 0 ≤ j) (hj : j < ps.length) : rd (closeP now ps) j = if dueB now (rd ps j) then shut (rd ps j) else rd ps j := by
  obtain ⟨n, rfl⟩ := Int.eq_ofNat_of_zero_le j0
  rw [rd_nat _ n (by rw [closeP_len]; omega), rd_nat ps n (by omega)]
  simp [closeP]
theorem closeA_len (now : Int) (xs : List Acc) (ps : List Pay) : (closeA now xs ps).length = xs.length := by simp [closeA]
theorem rd_closeA (now : Int) (xs : List Acc) (ps : List Pay) (j : Int) (j0 : 0 ≤ j) (hj : j < xs.length) : rd (closeA now xs ps) j = { rd xs j with held := (rd xs j).held - (hsum j ps - hsum j (closeP now ps)) } := by
  obtain ⟨n, rfl⟩ := Int.eq_ofNat_of_zero_le j0
  rw [rd_nat _ n (by rw [closeA_len]; omega), rd_nat xs n (by omega)]
  simp [closeA]
theorem Voided.closed {G : Int → Int} {s t : St} {ks : List Int} {now : Int} (h : Ok G s.accs s.pays) (hv : Voided G s t ks) (hd : Due s.pays now ks) : t.pays = closeP now s.pays ∧ t.accs = closeA now s.accs s.pays := by
  have hp : t.pays = closeP now s.pays := by
    refine rd_ext (by rw [hv.len, closeP_len]) fun j j0 hj => ?_
    have hj' : j < s.pays.length := by rw [hv.len] at hj; exact hj
    rw [hv.pay j j0 hj', rd_closeP now s.pays j j0 hj']
    by_cases hm : j ∈ ks
    · rw [if_pos hm, if_pos ((hd.mem j).1 hm).2]
    · rw [if_neg hm, if_neg (fun e => hm ((hd.mem j).2 ⟨⟨j0, hj'⟩, e⟩))]
  refine ⟨hp, ?_⟩
  have hl := hv.alike.len
  refine rd_ext (by rw [closeA_len]; exact hl) fun j j0 hj => ?_
  rw [rd_closeA now s.accs s.pays j j0 (by omega)]
  refine Acc.eq (hv.alike.cur j j0 (by omega)) (hv.alike.bal j j0 (by omega)) ?_
  simp only
  by_cases h9 : j < 9
  · rw [(hv.ok.good.house j j0 h9).2, (h.good.house j j0 h9).2, ← hp, hsum_zero, hsum_zero]
    · rfl
    · intro p hm
      obtain ⟨k, k0, hk, rfl⟩ := mem_rd hm
      have := (hv.ok.pays.2 k k0 hk).2.1.1
      omega
    · intro p hm
      obtain ⟨k, k0, hk, rfl⟩ := mem_rd hm
      have := (h.pays.2 k k0 hk).2.1.1
      omega
  · rw [hv.ok.held j (by omega) hj, h.held j (by omega) (by omega), hp]
    omega
/-- What a tick leaves is right. -/
theorem tick_eq {G : Int → Int} {s : St} {ks : List Int} (h : Ok G s.accs s.pays) (hn : 0 ≤ s.now) (hlt : s.now < 1073741824) (hd : Due s.pays (s.now + 1) ks) :
    voids ks { s with now := s.now + 1 } = tickSt s ∧ Ok G (tickSt s).accs (tickSt s).pays := by
  have hv := voids_ok (G := G) ks { s with now := s.now + 1 } h (by simp only; omega) hd.nodup (fun k hk => by
    obtain ⟨h1, h2⟩ := (hd.mem k).1 hk
    refine ⟨h1, ?_⟩
    unfold dueB at h2
    exact (of_decide_eq_true h2).1)
  have hc := Voided.closed (s := { s with now := s.now + 1 }) (now := s.now + 1) h hv hd
  have he : voids ks { s with now := s.now + 1 } = tickSt s := by
    unfold tickSt
    rw [if_neg (by omega)]
    have e1 := hc.1
    have e2 := hc.2
    have e3 := hv.sagas
    have e4 := hv.known
    have e5 := hv.now
    revert e1 e2 e3 e4 e5
    generalize voids ks { s with now := s.now + 1 } = t
    intro e1 e2 e3 e4 e5
    cases t
    simp only at e1 e2 e3 e4 e5
    subst e1 e2 e3 e4 e5
    rfl
  exact ⟨he, he ▸ hv.ok⟩
theorem Due.none {ps : List Pay} {now : Int} {ks : List Int} (h : Due (closeP now ps) now ks) : ks = [] := by
  cases ks with
  | nil => rfl
  | cons k ks =>
    have := (h.mem k).1 (List.mem_cons_self ..)
    obtain ⟨⟨k0, hk⟩, hd⟩ := this
    rw [closeP_len] at hk
    rw [rd_closeP now ps k k0 hk] at hd
    split at hd
    · simp [dueB, shut] at hd
    · rename_i hn; exact absurd hd hn
end Go.Proofs.YthjmficglpfgpaaDoor
