/- The laws of a bank: in plain Lean. -/
import Derived.Test.YthjmficglpfgpaaDoorPlain6
namespace Go.Proofs.YthjmficglpfgpaaDoor
set_option linter.unusedVariables false
set_option linter.unusedSimpArgs false
open Go Go.RowKit Enc
set_option maxRecDepth 100000

/-! ### Legs -/
/-- How many answers a saga still takes, at most. -/
def restG (g : Saga) : Int := if g.phase = 0 then (g.req.legs - g.leg) * 4 - g.tries else 0
/-- A saga on its way: forward, or back for a leg. -/
structure WayG (r : Req) (g : Saga) : Prop where
  req : g.req = r
  leg : 0 ≤ g.leg ∧ g.leg ≤ r.legs
  tries : 0 ≤ g.tries ∧ g.tries ≤ 4
  phase : (g.phase = 0 ∧ g.why = 0 ∧ g.tries ≤ 3 ∧ (g.tries = 0 ∨ g.leg < r.legs)) ∨ (g.phase = 1 ∧ g.why = 9)
theorem beginG_way {r : Req} (h : 0 ≤ r.legs) : WayG r (beginG r) := ⟨rfl, ⟨by simp [beginG], h⟩, by simp [beginG], .inl ⟨rfl, rfl, by simp [beginG], .inl rfl⟩⟩
theorem legG_way {r : Req} {g : Saga} (h : WayG r g) (hp : g.phase = 0) (hr : readyB g = false) (ok : Bool) : WayG r (legG g ok) ∧ restG (legG g ok) + 1 ≤ restG g := by
  have hr' : g.leg < g.req.legs := by
    unfold readyB at hr
    have := of_decide_eq_false hr
    rcases Int.lt_or_le g.leg g.req.legs with h | h
    · exact h
    · exact absurd ⟨hp, h⟩ this
  obtain ⟨h1, h2, h3, h4⟩ := h
  rw [h1] at hr'
  unfold legG
  rw [if_neg (by rintro (h | h); exact h hp; rw [hr] at h; cases h)]
  have h4' : g.why = 0 ∧ g.tries ≤ 3 := by
    rcases h4 with h | h
    · exact ⟨h.2.1, h.2.2.1⟩
    · omega
  have hrest : restG g = (r.legs - g.leg) * 4 - g.tries := by unfold restG; rw [if_pos hp, h1]
  cases ok with
  | true =>
    simp only [if_true, agreeG]
    refine ⟨⟨h1, ⟨by simp only; omega, by simp only; omega⟩, ⟨by simp only; omega, by simp only; omega⟩, .inl ⟨hp, h4'.1, by simp, .inl rfl⟩⟩, ?_⟩
    rw [hrest]
    simp only [restG, hp, if_true, h1]
    omega
  | false =>
    simp only [refuseG]
    rw [if_neg (by decide)]
    by_cases ht : 3 < g.tries + 1
    · rw [if_pos ht]
      refine ⟨⟨h1, h2, ⟨by simp only; omega, by simp only; omega⟩, .inr ⟨rfl, rfl⟩⟩, ?_⟩
      rw [hrest]
      simp only [restG]
      rw [if_neg (by decide)]
      omega
    · rw [if_neg ht]
      refine ⟨⟨h1, h2, ⟨by simp only; omega, by simp only; omega⟩, .inl ⟨hp, h4'.1, by simp only; omega, .inr hr'⟩⟩, ?_⟩
      rw [hrest]
      simp only [restG, hp, if_true, h1]
      omega
theorem restG_nonneg {r : Req} {g : Saga} (h : WayG r g) : 0 ≤ restG g := by
  obtain ⟨h1, h2, h3, h4⟩ := h
  unfold restG
  rw [h1]
  split <;> omega
theorem legsGo_end {r : Req} : ∀ (f : Nat) (g : Saga) (a : Int) (ls : List Bool), WayG r g → restG g ≤ f → WayG r (legsGo f g a ls).1 ∧ ¬((legsGo f g a ls).1.phase = 0 ∧ readyB (legsGo f g a ls).1 = false) ∧ a ≤ (legsGo f g a ls).2
  | 0, g, a, ls, h, hf => by
    refine ⟨h, ?_, Int.le_refl _⟩
    rintro ⟨hp, hr⟩
    have := (legG_way h hp hr true)
    have h0 := restG_nonneg this.1
    omega
  | f + 1, g, a, ls, h, hf => by
    unfold legsGo
    by_cases hc : g.phase = 0 ∧ readyB g = false
    · rw [if_pos hc]
      have := legG_way h hc.1 hc.2 (ls.headD true)
      have ih := legsGo_end f (legG g (ls.headD true)) (a + 1) ls.tail this.1 (by omega)
      exact ⟨ih.1, ih.2.1, by omega⟩
    · rw [if_neg hc]
      exact ⟨h, hc, Int.le_refl _⟩
/-- Where all agree a saga gets ready. -/
theorem legsGo_nil {r : Req} : ∀ (f : Nat) (g : Saga) (a : Int), WayG r g → g.phase = 0 → (legsGo f g a []).1.phase = 0
  | 0, g, a, _, hp => hp
  | f + 1, g, a, h, hp => by
    unfold legsGo
    by_cases hc : g.phase = 0 ∧ readyB g = false
    · rw [if_pos hc]
      have := legG_way h hc.1 hc.2 true
      refine legsGo_nil f _ _ this.1 ?_
      unfold legG
      rw [if_neg (by rintro (h | h); exact h hp; rw [hc.2] at h; cases h)]
      exact hp
    · rw [if_neg hc]
      exact hp

/-! ### What a bank does -/
theorem opsDo_known (s : St) (r : Req) : (opsDo s r).1.known = s.known ∧ (opsDo s r).1.sagas = s.sagas ∧ (opsDo s r).1.now = s.now := by
  unfold opsDo
  split <;> exact ⟨rfl, rfl, rfl⟩
theorem opsDo_same {s : St} {r : Req} (h : (opsDo s r).2.err ≠ 0) : (opsDo s r).1 = s := by
  unfold opsDo at h ⊢
  split
  · rfl
  · rename_i h1
    rw [h1] at h
    exact absurd rfl h
theorem reqOk_fit {r : Req} (h : ReqOk r) : Fit r := ⟨h.cur, fun _ => h.til.2⟩
theorem opsDo_ok {G : Int → Int} {s : St} {r : Req} (h : Ok G s.accs s.pays) (hn : 0 ≤ s.now) (hf : Fit r) : Ok G (opsDo s r).1.accs (opsDo s r).1.pays ∧ s.accs.length ≤ (opsDo s r).1.accs.length := by
  unfold opsDo
  split
  · exact ⟨h, Nat.le_refl _⟩
  · rename_i h1
    exact ops_ok h hn hf h1
/-- What comes of a request that is done first. -/
def firstDo (s : St) (r : Req) (ls : List Bool) : St × Rep × Int := if longB r = true then wholeB s r ls else ((opsDo s r).1, (opsDo s r).2, 0)
structure First (s : St) (x : St × Rep × Int) (ls : List Bool) : Prop where
  ok : Ok (fun _ => 0) x.1.accs x.1.pays
  len : s.accs.length ≤ x.1.accs.length
  known : x.1.known = s.known
  sagas : x.1.sagas = s.sagas
  now : x.1.now = s.now
  same : x.2.1.err ≠ 0 → x.1 = s
  n : 0 ≤ x.2.2 ∧ x.2.2 ≤ ls.length
theorem firstDo_ok {s : St} {r : Req} {ls : List Bool} (h : Ok (fun _ => 0) s.accs s.pays) (hn : 0 ≤ s.now) (hr : ReqOk r) : First s (firstDo s r ls) ls := by
  have hd := opsDo_ok h hn (reqOk_fit hr)
  obtain ⟨k1, k2, k3⟩ := opsDo_known s r
  unfold firstDo
  split
  · rename_i hl
    have hop : 0 < r.legs ∧ r.op = 2 := by unfold longB at hl; exact of_decide_eq_true hl
    rw [whole_eq h.good hop.2]
    cases hres : reserveA s.accs r with
    | error c => exact ⟨h, Nat.le_refl _, rfl, rfl, rfl, fun _ => rfl, ⟨Int.le_refl _, by simp only; omega⟩⟩
    | ok t =>
      have hw := legsGo_end 20 (beginG r) 0 ls (beginG_way hr.legs.1) (by
        have := hr.legs
        unfold restG beginG
        simp only
        rw [if_pos trivial]
        omega)
      simp only
      split
      · exact ⟨hd.1, hd.2, k1, k2, k3, fun he => opsDo_same he, ⟨by simp only; omega, by simp only; omega⟩⟩
      · exact ⟨h, Nat.le_refl _, rfl, rfl, rfl, fun _ => rfl, ⟨by simp only; omega, by simp only; omega⟩⟩
  · exact ⟨hd.1, hd.2, k1, k2, k3, fun he => opsDo_same he, ⟨Int.le_refl _, by simp only; omega⟩⟩
theorem bankDo_eq (s : St) (r : Req) (ls : List Bool) : bankDo s r ls =
    if ¬ ReqOk r then (s, ⟨1, 0⟩, 0)
    else match askK s.known r with
    | some out => (s, out, 0)
    | none => if s.known.length ≥ 256 then (s, ⟨7, 0⟩, 0)
      else ({ (firstDo s r ls).1 with known := s.known ++ [⟨r, (firstDo s r ls).2.1, true⟩] }, (firstDo s r ls).2.1, (firstDo s r ls).2.2) := rfl

theorem nodup_below : ∀ (N : Nat) (l : List Int), l.Nodup → (∀ x ∈ l, 0 ≤ x ∧ x < N) → l.length ≤ N
  | 0, l, _, h => by
    cases l with
    | nil => exact Nat.le_refl _
    | cons x l => have := h x (List.mem_cons_self ..); omega
  | N + 1, l, hn, h => by
    by_cases hm : (N : Int) ∈ l
    · have := nodup_below N (l.erase (N : Int)) (hn.erase _) fun x hx => by
        have h1 := (hn.mem_erase_iff).1 hx
        have := h x h1.2
        have := h1.1
        omega
      rw [List.length_erase_of_mem hm] at this
      omega
    · have := nodup_below N l hn fun x hx => by
        have h1 := h x hx
        have : x ≠ N := fun e => hm (e ▸ hx)
        omega
      omega
def keysOf (ks : List Kn) : List Int := ks.map fun k => k.req.key
theorem find_none_iff (ks : List Kn) (key : Int) : findK key ks < 0 ↔ key ∉ keysOf ks := by
  have hp := findK_place key ks
  constructor
  · intro h hm
    obtain ⟨k, hk, rfl⟩ := List.mem_map.1 hm
    obtain ⟨i, i0, hi, rfl⟩ := mem_rd hk
    exact (hp.none h).2 i i0 hi rfl
  · intro h
    rcases Int.lt_or_le (findK key ks) 0 with h1 | h1
    · exact h1
    · obtain ⟨a, b⟩ := hp.at_ h1
      exact absurd (List.mem_map.2 ⟨_, rd_mem ks _ h1 a, b⟩) h
theorem ask_none {ks : List Kn} {r : Req} (h : askK ks r = none) : findK r.key ks < 0 := by
  unfold askK at h
  split at h
  · assumption
  · split at h
    · cases h
    · split at h <;> cases h
/-- A bank's state whose requests have small numbers. -/
structure BA (s : St) : Prop where
  ok : Ok (fun _ => 0) s.accs s.pays
  now : 0 ≤ s.now
  nodup : (keysOf s.known).Nodup
  each : ∀ k ∈ s.known, k.told = true ∧ k.req.b ≤ 14 ∧ 0 ≤ k.req.key ∧ k.req.key < 256
def otherR (r : Req) : Req := { r with b := r.b + 1000 }
theorem again_law {s : St} {r : Req} {ls : List Bool} (h : BA s) (hr : ReqOk r) (hb : 9 ≤ r.b ∧ r.b ≤ 14) (hk : r.key < 256) :
    BA (bankDo s r ls).1 ∧ (0 ≤ (bankDo s r ls).2.2 ∧ (bankDo s r ls).2.2 ≤ ls.length) ∧ (∀ l, bankDo (bankDo s r ls).1 r l = ((bankDo s r ls).1, (bankDo s r ls).2.1, 0)) ∧ ∀ l, bankDo (bankDo s r ls).1 (otherR r) l = ((bankDo s r ls).1, ⟨5, 0⟩, 0) := by
  have hro : ReqOk (otherR r) := ⟨hr.key, hr.legs, hr.til, hr.long, hr.op, hr.cur, hr.amt⟩
  cases ha : askK s.known r with
  | some out =>
    have hd : ∀ l, bankDo s r l = (s, out, 0) := fun l => by
      rw [bankDo_eq, if_neg (by simpa using hr), ha]
    rw [hd ls]
    refine ⟨h, ⟨Int.le_refl _, by simp only; omega⟩, hd, fun l => ?_⟩
    have hi : ¬ findK r.key s.known < 0 := fun hc => by
      unfold askK at ha
      rw [if_pos hc] at ha
      cases ha
    have hp := (findK_place r.key s.known).at_ (by omega)
    have he := h.each _ (rd_mem s.known _ (by omega) hp.1)
    have hao : askK s.known (otherR r) = some ⟨5, 0⟩ := by
      unfold askK
      show (if findK r.key s.known < 0 then none else if (rd s.known (findK r.key s.known)).req ≠ otherR r then _ else _) = _
      rw [if_neg hi, if_pos]
      intro e
      have := congrArg Req.b e
      simp only [otherR] at this
      omega
    rw [bankDo_eq, if_neg (by simpa using hro)]
    simp only [hao]
  | none =>
    have hf := ask_none ha
    have hnk := (find_none_iff s.known r.key).1 hf
    have hlen : s.known.length < 256 := by
      have := nodup_below 256 (r.key :: keysOf s.known) (List.nodup_cons.2 ⟨hnk, h.nodup⟩) fun x hx => by
        rcases List.mem_cons.1 hx with rfl | hx
        · exact ⟨hr.key.1, by omega⟩
        · obtain ⟨k, hk, rfl⟩ := List.mem_map.1 hx
          have := h.each k hk
          exact ⟨this.2.2.1, by omega⟩
      simp [keysOf] at this
      omega
    have hF := firstDo_ok (ls := ls) h.ok h.now hr
    have hd : bankDo s r ls = ({ (firstDo s r ls).1 with known := s.known ++ [⟨r, (firstDo s r ls).2.1, true⟩] }, (firstDo s r ls).2.1, (firstDo s r ls).2.2) := by
      rw [bankDo_eq, if_neg (by simpa using hr), ha]
      simp only
      rw [if_neg (by omega)]
    rw [hd]
    generalize firstDo s r ls = x at *
    have hnew := find_new hf (x.2.1) true
    refine ⟨⟨hF.ok, by rw [show (St.mk x.1.accs x.1.pays x.1.sagas (s.known ++ [Kn.mk r x.2.1 true]) x.1.now).now = x.1.now from rfl, hF.now]; exact h.now, ?_, fun k hk' => ?_⟩, hF.n, fun l => ?_, fun l => ?_⟩
    · show (keysOf (s.known ++ [⟨r, x.2.1, true⟩])).Nodup
      unfold keysOf
      rw [List.map_append, List.nodup_append]
      refine ⟨h.nodup, by simp, fun a ha' b hb' => ?_⟩
      simp only [List.map_cons, List.map_nil, List.mem_singleton] at hb'
      subst hb'
      intro e
      exact hnk (e ▸ ha')
    · have hk' : k ∈ s.known ++ [⟨r, x.2.1, true⟩] := hk'
      rcases List.mem_append.1 hk' with hk' | hk'
      · exact h.each k hk'
      · rw [List.mem_singleton] at hk'
        subst hk'
        exact ⟨rfl, hb.2, hr.key.1, hk⟩
    · rw [bankDo_eq, if_neg (by simpa using hr)]
      simp only
      rw [ask_new hf x.2.1]
    · have hao : askK (s.known ++ [⟨r, x.2.1, true⟩]) (otherR r) = some ⟨5, 0⟩ := by
        unfold askK
        show (if findK r.key (s.known ++ [Kn.mk r x.2.1 true]) < 0 then none else if (rd (s.known ++ [Kn.mk r x.2.1 true]) (findK r.key (s.known ++ [Kn.mk r x.2.1 true]))).req ≠ otherR r then _ else _) = _
        rw [hnew, if_neg (by omega), rd_snoc, if_pos]
        intro e
        have := congrArg Req.b e
        simp only [otherR] at this
        omega
      rw [bankDo_eq, if_neg (by simpa using hro)]
      simp only [hao]
theorem bankRun_append (s : St) (a b : List Req) : bankRun s (a ++ b) [] = ((bankRun (bankRun s a []).1 b []).1, (bankRun s a []).2 ++ (bankRun (bankRun s a []).1 b []).2) := by
  induction a generalizing s with
  | nil => simp [bankRun]
  | cons r a ih =>
    simp only [List.cons_append, bankRun, List.drop_nil, ih]
theorem bankRun_len (s : St) (rs : List Req) (ls : List Bool) : (bankRun s rs ls).2.length = rs.length := by
  induction rs generalizing s ls with
  | nil => rfl
  | cons r rs ih => simp only [bankRun, List.length_cons, ih]
end Go.Proofs.YthjmficglpfgpaaDoor
