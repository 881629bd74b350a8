/- Keys, sagas, and a bank: in plain Lean. -/
import Derived.Test.YthjmficglpfgpaaDoorPlain4
namespace Go.Proofs.YthjmficglpfgpaaDoor
set_option linter.unusedVariables false
set_option linter.unusedSimpArgs false
open Go Go.RowKit Enc
set_option maxRecDepth 100000

/-! ### Keys -/
/-- A key's place; -1: there is none. -/
def findK (key : Int) : List Kn → Int
  | [] => -1
  | k :: ks => if k.req.key = key then 0 else if findK key ks < 0 then -1 else findK key ks + 1
/-- What is known of a key's place. -/
structure Place (ks : List Kn) (key i : Int) : Prop where
  low : ∀ j : Int, 0 ≤ j → j < i → (rd ks j).req.key ≠ key
  at_ : 0 ≤ i → i < ks.length ∧ (rd ks i).req.key = key
  none : i < 0 → i = -1 ∧ ∀ j : Int, 0 ≤ j → j < ks.length → (rd ks j).req.key ≠ key
theorem findK_place (key : Int) : ∀ ks : List Kn, Place ks key (findK key ks)
  | [] => ⟨fun j h0 h => by simp [findK] at h; omega, fun h => by simp [findK] at h, fun _ => ⟨rfl, fun j h0 h => by simp at h; omega⟩⟩
  | k :: ks => by
    have ih := findK_place key ks
    unfold findK
    by_cases hk : k.req.key = key
    · rw [if_pos hk]
      exact ⟨fun j h0 h => by omega, fun _ => ⟨by simp only [List.length_cons]; omega, by rw [rd_zero]; exact hk⟩, fun h => by omega⟩
    · rw [if_neg hk]
      have hz : ∀ j : Int, 0 ≤ j → (P : Int → Prop) → (P 0) → (∀ i : Int, 0 ≤ i → P (i + 1)) → P j := fun j h0 P p0 ps => by
        rcases Int.lt_or_le 0 j with h | h
        · have := ps (j - 1) (by omega)
          rwa [show j - 1 + 1 = j by omega] at this
        · rwa [show j = 0 by omega]
      by_cases hn : findK key ks < 0
      · rw [if_pos hn]
        obtain ⟨_, h2⟩ := ih.none hn
        refine ⟨fun j h0 h => by omega, fun h => by omega, fun _ => ⟨rfl, fun j h0 hj => ?_⟩⟩
        rcases Int.lt_or_le 0 j with h | h
        · have := h2 (j - 1) (by omega) (by simp only [List.length_cons] at hj; omega)
          have e := rd_succ k ks (j - 1) (by omega)
          rw [show j - 1 + 1 = j by omega] at e
          rwa [e]
        · rw [show j = 0 by omega, rd_zero]; exact hk
      · rw [if_neg hn]
        obtain ⟨a1, a2⟩ := ih.at_ (by omega)
        refine ⟨fun j h0 hj => ?_, fun _ => ⟨by simp only [List.length_cons]; omega, by rw [rd_succ _ _ _ (by omega)]; exact a2⟩, fun h => by omega⟩
        rcases Int.lt_or_le 0 j with h | h
        · have := ih.low (j - 1) (by omega) (by omega)
          have e := rd_succ k ks (j - 1) (by omega)
          rw [show j - 1 + 1 = j by omega] at e
          rwa [e]
        · rw [show j = 0 by omega, rd_zero]; exact hk
theorem Place.eq {ks : List Kn} {key i j : Int} (h : Place ks key i) (k : Place ks key j) : i = j := by
  rcases Int.lt_or_le i 0 with hi | hi
  · obtain ⟨rfl, hn⟩ := h.none hi
    rcases Int.lt_or_le j 0 with hj | hj
    · exact (k.none hj).1.symm
    · obtain ⟨a, b⟩ := k.at_ hj
      exact absurd b (hn j hj a)
  · obtain ⟨a, b⟩ := h.at_ hi
    rcases Int.lt_or_le j 0 with hj | hj
    · exact absurd b ((k.none hj).2 i hi a)
    · obtain ⟨c, d⟩ := k.at_ hj
      rcases Int.lt_trichotomy i j with hl | hl | hl
      · exact absurd b (k.low i hi hl)
      · exact hl
      · exact absurd d (h.low j hj hl)
theorem findK_eq {ks : List Kn} {key i : Int} (h : Place ks key i) : findK key ks = i := (findK_place key ks).eq h
def askK (ks : List Kn) (r : Req) : Option Rep :=
  if findK r.key ks < 0 then none
  else if (rd ks (findK r.key ks)).req ≠ r then some ⟨5, 0⟩
  else if (rd ks (findK r.key ks)).told = false then some ⟨10, 0⟩
  else some (rd ks (findK r.key ks)).rep
def putK (ks : List Kn) (r : Req) : Except Int (List Kn) :=
  if 0 ≤ findK r.key ks then .error 5
  else if ks.length ≥ 256 then .error 7
  else .ok (ks ++ [⟨r, ⟨0, 0⟩, false⟩])
def tellK (ks : List Kn) (key : Int) (p : Rep) : Except Int (List Kn) :=
  if findK key ks < 0 then .error 2
  else if (rd ks (findK key ks)).told = true then .error 6
  else .ok (ks.set (findK key ks).toNat { rd ks (findK key ks) with rep := p, told := true })
/-- The list that Tell hands back, where the error is thrown away. -/
def tellL (ks : List Kn) (key : Int) (p : Rep) : List Kn := match tellK ks key p with | .error _ => [] | .ok l => l
theorem find_new {ks : List Kn} {r : Req} (h : findK r.key ks < 0) (p : Rep) (b : Bool) : findK r.key (ks ++ [⟨r, p, b⟩]) = ks.length := by
  obtain ⟨_, hn⟩ := (findK_place r.key ks).none h
  refine findK_eq ⟨fun j h0 hj => ?_, fun _ => ⟨by simp only [List.length_append, List.length_singleton]; omega, by rw [rd_snoc]⟩, fun h => by omega⟩
  rw [rd_left _ _ _ h0 hj]
  exact hn j h0 hj
theorem set_last {α : Type} (xs : List α) (x y : α) : (xs ++ [x]).set xs.length y = xs ++ [y] := by
  rw [List.set_append_right _ _ (Nat.le_refl _)]
  simp
/-- A request that was put is told. -/
theorem tell_put {ks : List Kn} {r : Req} (h : findK r.key ks < 0) (p : Rep) : tellL (ks ++ [⟨r, ⟨0, 0⟩, false⟩]) r.key p = ks ++ [⟨r, p, true⟩] := by
  unfold tellL tellK
  rw [find_new h, if_neg (by omega), rd_snoc, if_neg (by simp), Int.toNat_natCast, set_last]
theorem ask_new {ks : List Kn} {r : Req} (h : findK r.key ks < 0) (p : Rep) : askK (ks ++ [⟨r, p, true⟩]) r = some p := by
  unfold askK
  rw [find_new h, if_neg (by omega), rd_snoc, if_neg (by simp), if_neg (by simp)]

/-! ### Sagas -/
def beginG (r : Req) : Saga := ⟨r, 0, 0, 0, 0⟩
def readyB (g : Saga) : Bool := decide (g.phase = 0 ∧ g.req.legs ≤ g.leg)
def agreeG (g : Saga) : Saga := { g with leg := g.leg + 1, tries := 0 }
def refuseG (g : Saga) : Saga := if 3 < g.tries + 1 then { g with tries := g.tries + 1, phase := 1, why := 9 } else { g with tries := g.tries + 1 }
def legG (g : Saga) (ok : Bool) : Saga := if g.phase ≠ 0 ∨ readyB g = true then g else if ok then agreeG g else refuseG g
def turnG (g : Saga) (c : Int) : Saga := if g.phase = 0 then { g with phase := 1, why := c } else g
def mostG (g : Saga) : Int := if g.phase = 0 then max 0 (g.req.legs - g.leg) * 4 - g.tries + 2 else if g.phase = 1 then 1 else 0
/-- A saga that may be. -/
structure SagaOk (g : Saga) : Prop where
  leg : 0 ≤ g.leg ∧ g.leg ≤ g.req.legs
  tries : 0 ≤ g.tries ∧ g.tries ≤ 4
  legs : 0 ≤ g.req.legs ∧ g.req.legs ≤ 4
  phase : (g.phase = 0 ∧ g.why = 0 ∧ g.tries ≤ 3 ∧ (g.tries = 0 ∨ g.leg < g.req.legs)) ∨ (g.phase = 1 ∧ g.why ≠ 0)

/-! ### A transfer of several legs -/
def reserveA (xs : List Acc) (r : Req) : Except Int (List Acc) :=
  if (isCl xs r.a && isCl xs r.b) = false then .error 2
  else match move xs r.a r.b r.amt with
    | .error c => .error c
    | .ok _ => hold xs r.a r.amt
def settleA (xs : List Acc) (r : Req) : Except Int (List Acc) :=
  match move xs r.a r.b r.amt with
  | .error c => .error c
  | .ok es => spend xs r.amt es
def undoA (xs : List Acc) (r : Req) : Except Int (List Acc) := release xs r.a r.amt
def undoL (xs : List Acc) (r : Req) : List Acc := match undoA xs r with | .error _ => xs | .ok ys => ys
def legsGo : Nat → Saga → Int → List Bool → Saga × Int
  | 0, g, a, _ => (g, a)
  | f + 1, g, a, ls => if g.phase = 0 ∧ readyB g = false then legsGo f (legG g (ls.headD true)) (a + 1) ls.tail else (g, a)
def wholeB (s : St) (r : Req) (ls : List Bool) : St × Rep × Int :=
  match reserveA s.accs r with
  | .error c => (s, ⟨c, 0⟩, 0)
  | .ok t =>
    let ga := legsGo 20 (beginG r) 0 ls
    if ga.1.phase = 0 then
      match settleA t r with
      | .ok u => ({ s with accs := u }, ⟨0, 0⟩, min ga.2 ls.length)
      | .error c => ({ s with accs := undoL t r }, ⟨c, 0⟩, min ga.2 ls.length)
    else ({ s with accs := undoL t r }, ⟨ga.1.why, 0⟩, min ga.2 ls.length)
def bankDo (s : St) (r : Req) (ls : List Bool) : St × Rep × Int :=
  if ¬ ReqOk r then (s, ⟨1, 0⟩, 0)
  else match askK s.known r with
    | some out => (s, out, 0)
    | none => if s.known.length ≥ 256 then (s, ⟨7, 0⟩, 0)
      else
        let x := if longB r = true then wholeB s r ls else ((opsDo s r).1, (opsDo s r).2, 0)
        ({ x.1 with known := s.known ++ [⟨r, x.2.1, true⟩] }, x.2.1, x.2.2)
def bankRun : St → List Req → List Bool → St × List Rep
  | s, [], _ => (s, [])
  | s, r :: rs, ls =>
    let x := bankDo s r ls
    let y := bankRun x.1 rs (ls.drop x.2.2.toNat)
    (y.1, x.2.1 :: y.2)

theorem Acc.eta (a : Acc) : a = ⟨a.cur, a.bal, a.held⟩ := rfl
theorem upd_upd (xs : List Acc) (k : Int) (x y : Acc) : upd (upd xs k x) k y = upd xs k y := by simp [upd]
theorem upd_self {xs : List Acc} {k : Int} (h0 : 0 ≤ k) (hk : k < xs.length) : upd xs k (rd xs k) = xs := by
  refine rd_ext (upd_len _ _ _) fun j j0 hj => ?_
  rw [upd_len] at hj
  rw [rd_upd xs k j _ j0 hj h0]
  split
  · rename_i e; rw [e]
  · rfl
/-- What was held is let go. -/
theorem release_hold {xs t : List Acc} {k n : Int} (hG : Good xs) (h : hold xs k n = .ok t) : release t k n = .ok xs := by
  obtain ⟨ht, hn, hfree, rfl⟩ := hold_ok h
  have hk := ht.at_
  have hl := ht.len
  have hc := hG.client k hk.1 hk.2
  have hr := rd_upd xs k k { rd xs k with held := (rd xs k).held + n } (by omega) hk.2 (by omega)
  rw [if_pos rfl] at hr
  unfold release
  rw [if_neg (by omega), if_neg (by omega), hr, if_neg (by simp only; omega), upd_upd]
  simp only
  rw [show (rd xs k).held + n - n = (rd xs k).held by omega]
  exact congrArg Except.ok (upd_self (by omega) hk.2)
theorem move_alike {xs t : List Acc} (h : Alike xs t) (a b n : Int) : move t a b n = move xs a b n := by
  unfold move
  rw [h.len]
  split
  · rfl
  rename_i h1
  split
  · rfl
  rename_i h2
  have h1' : 0 ≤ a ∧ a < xs.length := Decidable.not_not.1 h1
  have h2' : 0 ≤ b ∧ b < xs.length := Decidable.not_not.1 h2
  rw [h.cur a h1'.1 h1'.2, h.cur b h2'.1 h2'.2]
theorem reserve_ok {xs t : List Acc} {r : Req} (hG : Good xs) (h : reserveA xs r = .ok t) : ∃ es, move xs r.a r.b r.amt = .ok es ∧ hold xs r.a r.amt = .ok t ∧ (isCl xs r.a && isCl xs r.b) = true ∧ undoA t r = .ok xs ∧ settleA t r = post xs es := by
  unfold reserveA at h
  split at h
  · cases h
  rename_i hcl
  cases hm : move xs r.a r.b r.amt with
  | error c => rw [hm] at h; cases h
  | ok es =>
    rw [hm] at h
    have h : hold xs r.a r.amt = .ok t := h
    have hr := release_hold hG h
    obtain ⟨hh, hl⟩ := move_head hm
    refine ⟨es, rfl, h, by simpa using hcl, hr, ?_⟩
    unfold settleA
    rw [move_alike (hold_ok h).1.alike, hm]
    simp only
    unfold spend
    rw [if_neg hl, hh]
    simp only
    rw [hr]
    rfl
/-- A transfer of several legs is one of none, or nothing. -/
theorem whole_eq {s : St} {r : Req} {ls : List Bool} (hG : Good s.accs) (hop : r.op = 2) : wholeB s r ls =
    match reserveA s.accs r with
    | .error c => (s, ⟨c, 0⟩, 0)
    | .ok _ =>
      let ga := legsGo 20 (beginG r) 0 ls
      if ga.1.phase = 0 then ((opsDo s r).1, (opsDo s r).2, min ga.2 ls.length) else (s, ⟨ga.1.why, 0⟩, min ga.2 ls.length) := by
  unfold wholeB
  cases hr : reserveA s.accs r with
  | error c => rfl
  | ok t =>
    obtain ⟨es, hm, hh, hcl, hu, hs⟩ := reserve_ok hG hr
    have hul : undoL t r = s.accs := by unfold undoL; rw [hu]
    simp only [hul, hs]
    have hR : opsR s.now s.accs s.pays r = deskPost s.accs s.pays r.a r.b r.amt := by
      unfold opsR
      rw [if_neg (by omega), if_neg (by omega), if_pos hop]
      unfold deskTransfer
      rw [if_pos hcl]
    split
    · unfold opsDo
      rw [hR]
      unfold deskPost
      rw [hm]
      simp only
      cases post s.accs es with
      | error c => rfl
      | ok ys => rfl
    · rfl
end Go.Proofs.YthjmficglpfgpaaDoor
