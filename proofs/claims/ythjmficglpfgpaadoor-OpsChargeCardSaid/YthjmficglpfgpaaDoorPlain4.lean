/- States by numbers: in plain Lean. -/
import Derived.Test.YthjmficglpfgpaaDoorPlain3
namespace Go.Proofs.YthjmficglpfgpaaDoor
set_option linter.unusedVariables false
set_option linter.unusedSimpArgs false
open Go Go.RowKit Enc
set_option maxRecDepth 100000

/-- The currencies of the six accounts. -/
def six (cs : List Int) : List Int := (cs.take 6 ++ [0, 1, 2, 0, 1, 0]).take 6
def hasAt (has : List Int) (k : Int) : Int := if k < has.length then rd has k % 100000 else 0
def bookStep (has : List Int) (az : List Acc) (k c : Int) : List Acc :=
  upd az (3 * (c % 3)) { rd az (3 * (c % 3)) with bal := (rd az (3 * (c % 3))).bal - hasAt has k } ++ [⟨c % 3, hasAt has k, 0⟩]
def house : List Acc := [⟨0, 0, 0⟩, ⟨0, 0, 0⟩, ⟨0, 0, 0⟩, ⟨1, 0, 0⟩, ⟨1, 0, 0⟩, ⟨1, 0, 0⟩, ⟨2, 0, 0⟩, ⟨2, 0, 0⟩, ⟨2, 0, 0⟩]
def bookFrom (has : List Int) : List Acc → Int → List Int → List Acc
  | az, _, [] => az
  | az, k, c :: cs => bookFrom has (bookStep has az k c) (k + 1) cs
def book (cs has : List Int) : List Acc := bookFrom has house 0 cs
def payOf (p : Paid) : Pay :=
  let auth := 1 + p.auth
  let capt := p.capt % (auth + 1)
  let refd := p.refd % (capt + 1)
  let chgd := p.chgd % (capt - refd + 1)
  ⟨9 + p.frm % 6, 9 + p.to % 6, auth, capt, refd, chgd, p.til % 20, if p.closed = true ∨ capt = auth then 1 else 0⟩
def payStep (s : List Acc × List Pay) (p : Paid) : List Acc × List Pay :=
  let x := payOf p
  if x.frm = x.to then s
  else if 0 < left x then
    match hold s.1 x.frm (left x) with
    | .error _ => s
    | .ok az => (az, s.2 ++ [x])
  else (s.1, s.2 ++ [x])
def stOf (cs has : List Int) (ps : List Paid) (now : Int) : St :=
  let r := (ps.take 6).foldl payStep (book (six cs) has, [])
  ⟨r.1, r.2, [], [], now % 12⟩

/-- Accounts by numbers: n clients. -/
structure Bk (az : List Acc) (n : Int) : Prop where
  len : (az.length : Int) = 9 + n
  cur : ∀ k : Int, 0 ≤ k → k < az.length → 0 ≤ (rd az k).cur ∧ (rd az k).cur < 3
  house : ∀ k : Int, 0 ≤ k → k < 9 → (rd az k).cur = k / 3 ∧ -(n * 99999) ≤ (rd az k).bal ∧ (rd az k).bal ≤ 0
  client : ∀ k : Int, 9 ≤ k → k < az.length → 0 ≤ (rd az k).bal ∧ (rd az k).bal ≤ 99999
  held : ∀ k : Int, 0 ≤ k → k < az.length → (rd az k).held = 0
  sums : ∀ c : Int, csum c az = 0
theorem house_bk : Bk house 0 := by
  refine ⟨by decide, fun k h0 hk => ?_, fun k h0 hk => ?_, fun k h9 hk => ?_, fun k h0 hk => ?_, fun c => ?_⟩
  · have : k = 0 ∨ k = 1 ∨ k = 2 ∨ k = 3 ∨ k = 4 ∨ k = 5 ∨ k = 6 ∨ k = 7 ∨ k = 8 := by simp [house] at hk; omega
    rcases this with rfl | rfl | rfl | rfl | rfl | rfl | rfl | rfl | rfl <;> decide
  · have : k = 0 ∨ k = 1 ∨ k = 2 ∨ k = 3 ∨ k = 4 ∨ k = 5 ∨ k = 6 ∨ k = 7 ∨ k = 8 := by omega
    rcases this with rfl | rfl | rfl | rfl | rfl | rfl | rfl | rfl | rfl <;> decide
  · simp [house] at hk; omega
  · have : k = 0 ∨ k = 1 ∨ k = 2 ∨ k = 3 ∨ k = 4 ∨ k = 5 ∨ k = 6 ∨ k = 7 ∨ k = 8 := by simp [house] at hk; omega
    rcases this with rfl | rfl | rfl | rfl | rfl | rfl | rfl | rfl | rfl <;> decide
  · simp only [house, csum]
    (repeat' split) <;> rfl
theorem hasAt_bd (has : List Int) (k : Int) : 0 ≤ hasAt has k ∧ hasAt has k ≤ 99999 := by
  unfold hasAt
  split <;> omega
theorem bookStep_bk (has : List Int) {az : List Acc} {n : Int} (h : Bk az n) (hn : 0 ≤ n) (k c : Int) : Bk (bookStep has az k c) (n + 1) := by
  have hb := hasAt_bd has k
  unfold bookStep
  generalize hasAt has k = b at *
  have hc : 0 ≤ c % 3 ∧ c % 3 < 3 := by omega
  generalize c % 3 = d at *
  have hl := h.len
  have hh := h.house (3 * d) (by omega) (by omega)
  have hcur : (rd az (3 * d)).cur = d := by rw [hh.1]; omega
  have hrd := fun (j : Int) (h0 : 0 ≤ j) (hj : j < az.length) => rd_upd az (3 * d) j { rd az (3 * d) with bal := (rd az (3 * d)).bal - b } h0 hj (by omega)
  have hcs := fun c' => csum_upd c' (xs := az) (k := 3 * d) (by omega) (by omega) (x := { rd az (3 * d) with bal := (rd az (3 * d)).bal - b }) rfl
  have hul := upd_len az (3 * d) { rd az (3 * d) with bal := (rd az (3 * d)).bal - b }
  have hheld := h.held (3 * d) (by omega) (by omega)
  have hcu := h.cur (3 * d) (by omega) (by omega)
  generalize upd az (3 * d) { rd az (3 * d) with bal := (rd az (3 * d)).bal - b } = us at *
  have hL := fun (j : Int) (j0 : 0 ≤ j) (hj : j < us.length) => rd_left us [Acc.mk d b 0] j j0 hj
  have hS : rd (us ++ [Acc.mk d b 0]) (us.length : Int) = Acc.mk d b 0 := rd_snoc us _
  have hlen : (us ++ [Acc.mk d b 0]).length = us.length + 1 := by simp
  have hcase : ∀ j : Int, j < (us ++ [Acc.mk d b 0]).length → j < us.length ∨ j = us.length := fun j hj => by rw [hlen] at hj; omega
  refine ⟨by rw [hlen, hul]; omega, fun j j0 hj => ?_, fun j j0 hj => ?_, fun j j9 hj => ?_, fun j j0 hj => ?_, fun c' => ?_⟩
  · rcases hcase j hj with hj | rfl
    · rw [hL j j0 hj, hrd j j0 (by omega)]
      split
      · exact hcu
      · exact h.cur j j0 (by omega)
    · rw [hS]; exact hc
  · rw [hL j j0 (by omega), hrd j j0 (by omega)]
    have := h.house j j0 hj
    split
    · rename_i e; subst e
      exact ⟨this.1, by simp only; omega, by simp only; omega⟩
    · exact ⟨this.1, by omega, by omega⟩
  · rcases hcase j hj with hj | rfl
    · rw [hL j (by omega) hj, hrd j (by omega) (by omega), if_neg (by omega)]
      exact h.client j j9 (by omega)
    · rw [hS]; exact hb
  · rcases hcase j hj with hj | rfl
    · rw [hL j j0 hj, hrd j j0 (by omega)]
      split
      · exact hheld
      · exact h.held j j0 (by omega)
    · rw [hS]
  · rw [csum_append, hcs c', h.sums c', hcur]
    simp only [csum]
    split <;> omega
theorem bookFrom_bk (has : List Int) : ∀ (cs : List Int) (az : List Acc) (n k : Int), Bk az n → 0 ≤ n → Bk (bookFrom has az k cs) (n + cs.length)
  | [], az, n, k, h, _ => by simpa [bookFrom] using h
  | c :: cs, az, n, k, h, hn => by
    have := bookFrom_bk has cs (bookStep has az k c) (n + 1) (k + 1) (bookStep_bk has h hn k c) (by omega)
    simp only [bookFrom, List.length_cons]
    rwa [show n + ((cs.length + 1 : Nat) : Int) = n + 1 + cs.length by omega]
theorem six_len (cs : List Int) : (six cs).length = 6 := by
  simp [six]
theorem book_bk (cs has : List Int) : Bk (book (six cs) has) 6 := by
  have := bookFrom_bk has (six cs) house 0 0 house_bk (by decide)
  rw [six_len] at this
  simpa [book] using this
theorem Bk.good {az : List Acc} (h : Bk az 6) : Good az := by
  have hl := h.len
  refine ⟨by omega, by omega, h.cur, fun k h0 hk => ?_, fun k h0 hk => ⟨(h.house k h0 hk).1, h.held k h0 (by omega)⟩, fun k h9 hk => ?_⟩
  · by_cases h9 : k < 9
    · have := h.house k h0 h9; omega
    · have := h.client k (by omega) hk; omega
  · rw [h.held k (by omega) hk]
    have := h.client k h9 hk; omega
theorem Bk.ok {az : List Acc} (h : Bk az 6) : Ok (fun _ => 0) az [] :=
  ⟨h.good, ⟨by simp, fun k h0 hk => by simp at hk; omega⟩, fun c _ _ => h.sums c, fun k h9 hk => by rw [h.held k (by omega) hk]; rfl, fun k h0 hk => by simp at hk; omega, fun k h0 hk => by simp at hk; omega, fun _ => Int.le_refl _, fun _ _ => rfl⟩
/-- A payment by numbers. -/
structure PaidOk (p : Paid) : Prop where
  frm : 0 ≤ p.frm ∧ p.frm < 256
  to : 0 ≤ p.to ∧ p.to < 256
  auth : 0 ≤ p.auth ∧ p.auth < 256
  capt : 0 ≤ p.capt ∧ p.capt < 256
  refd : 0 ≤ p.refd ∧ p.refd < 256
  chgd : 0 ≤ p.chgd ∧ p.chgd < 256
  til : 0 ≤ p.til ∧ p.til < 256
theorem payOf_ok {p : Paid} (h : PaidOk p) : PayOk (payOf p) ∧ ((payOf p).stage = 0 → (payOf p).capt < (payOf p).auth) ∧ (9 ≤ (payOf p).frm ∧ (payOf p).frm < 15) ∧ (9 ≤ (payOf p).to ∧ (payOf p).to < 15) ∧ (payOf p).auth ≤ 256 := by
  obtain ⟨h1, h2, h3, h4, h5, h6, h7⟩ := h
  unfold payOf
  simp only
  have c0 := Int.emod_nonneg p.capt (show (1 + p.auth + 1) ≠ 0 by omega)
  have c1 := Int.emod_lt_of_pos p.capt (show 0 < (1 + p.auth + 1) by omega)
  generalize p.capt % (1 + p.auth + 1) = c at *
  have r0 := Int.emod_nonneg p.refd (show (c + 1) ≠ 0 by omega)
  have r1 := Int.emod_lt_of_pos p.refd (show 0 < (c + 1) by omega)
  generalize p.refd % (c + 1) = r at *
  have g0 := Int.emod_nonneg p.chgd (show (c - r + 1) ≠ 0 by omega)
  have g1 := Int.emod_lt_of_pos p.chgd (show 0 < (c - r + 1) by omega)
  generalize p.chgd % (c - r + 1) = g at *
  refine ⟨⟨⟨by simp only; omega, by simp only; omega⟩, ⟨by simp only; omega, by simp only; omega⟩, by simp only; omega, by simp only; omega, by simp only; omega, ⟨by simp only; omega, by simp only; omega⟩, ?_⟩, ?_, ⟨by omega, by omega⟩, ⟨by omega, by omega⟩, by omega⟩
  · simp only
    split
    · exact .inr rfl
    · exact .inl rfl
  · split
    · intro h; simp at h
    · rename_i hn
      intro _
      have : c ≠ 1 + p.auth := fun e => hn (.inr e)
      omega
/-- States by numbers, on the way. -/
structure Num0 (b az : List Acc) (ps : List Pay) (n : Nat) : Prop where
  ok : Ok (fun _ => 0) az ps
  alike : Alike b az
  len : (az.length : Int) = 15
  pays : ps.length ≤ n
  small : ∀ k : Int, 0 ≤ k → k < ps.length → (rd ps k).auth ≤ 256
theorem payStep_num {b az : List Acc} {ps : List Pay} {n : Nat} (hn : n < 6) (h : Num0 b az ps n) {p : Paid} (hp : PaidOk p) : Num0 b (payStep (az, ps) p).1 (payStep (az, ps) p).2 (n + 1) := by
  obtain ⟨o1, o2, o3, o4, o5⟩ := payOf_ok hp
  have hl := h.len
  have hpl := h.pays
  unfold payStep
  simp only
  generalize payOf p = x at *
  split
  · exact ⟨h.ok, h.alike, h.len, by simp only; omega, h.small⟩
  rename_i hne
  have hlen : (ps ++ [x]).length = ps.length + 1 := by simp
  have hL := fun (j : Int) (j0 : 0 ≤ j) (hj : j < ps.length) => rd_left ps [x] j j0 hj
  have hS : rd (ps ++ [x]) (ps.length : Int) = x := rd_snoc ps _
  have hcase : ∀ j : Int, j < (ps ++ [x]).length → j < ps.length ∨ j = ps.length := fun j hj => by rw [hlen] at hj; omega
  have hone : ∀ j, hsum j [x] = if x.frm = j then left x else 0 := fun j => by simp [hsum]
  split
  · rename_i hpos
    cases hh : hold az x.frm (left x) with
    | error c => exact ⟨h.ok, h.alike, h.len, by simp only; omega, h.small⟩
    | ok ys =>
      obtain ⟨ht, ha, hfree, _⟩ := hold_ok hh
      have htl := ht.len
      refine ⟨⟨h.ok.good.hold hh, ⟨by simp only [hlen]; omega, fun k k0 hk => ?_⟩, fun c c0 c3 => by simp only; rw [ht.sums c]; exact h.ok.sums c c0 c3, fun j j9 hj => ?_, fun k k0 hk => ?_, fun k k0 hk => ?_, h.ok.gpos, fun k _ => rfl⟩, h.alike.trans ht.alike, by simp only; omega, by simp only [hlen]; omega, fun k k0 hk => ?_⟩
      · simp only at hk ⊢
        rcases hcase k hk with hk | rfl
        · rw [hL k k0 hk, htl]; exact h.ok.pays.2 k k0 hk
        · rw [hS]; exact ⟨o1, ⟨o3.1, by omega⟩, ⟨o4.1, by omega⟩⟩
      · simp only at hj ⊢
        rw [ht.held j (by omega) (by omega), h.ok.held j j9 (by omega), hsum_append, hone]
        by_cases e : j = x.frm
        · rw [if_pos e, if_pos e.symm]
          omega
        · rw [if_neg e, if_neg (Ne.symm e)] <;> omega
      · simp only at hk ⊢
        rcases hcase k hk with hk | rfl
        · rw [hL k k0 hk]; exact h.ok.open_ k k0 hk
        · rw [hS]; exact o2
      · simp only at hk ⊢
        rcases hcase k hk with hk | rfl
        · rw [hL k k0 hk]; exact h.ok.apart k k0 hk
        · rw [hS]; exact hne
      · simp only at hk ⊢
        rcases hcase k hk with hk | rfl
        · rw [hL k k0 hk]; exact h.small k k0 hk
        · rw [hS]; exact o5
  · rename_i hpos
    have hl0 := (left_bd o1).1
    have hz : left x = 0 := by omega
    refine ⟨⟨h.ok.good, ⟨by simp only [hlen]; omega, fun k k0 hk => ?_⟩, h.ok.sums, fun j j9 hj => ?_, fun k k0 hk => ?_, fun k k0 hk => ?_, h.ok.gpos, fun k _ => rfl⟩, h.alike, h.len, by simp only [hlen]; omega, fun k k0 hk => ?_⟩
    · simp only at hk ⊢
      rcases hcase k hk with hk | rfl
      · rw [hL k k0 hk]; exact h.ok.pays.2 k k0 hk
      · rw [hS]; exact ⟨o1, ⟨o3.1, by omega⟩, ⟨o4.1, by omega⟩⟩
    · simp only at hj ⊢
      rw [h.ok.held j j9 (by omega), hsum_append, hone, hz]
      split <;> omega
    · simp only at hk ⊢
      rcases hcase k hk with hk | rfl
      · rw [hL k k0 hk]; exact h.ok.open_ k k0 hk
      · rw [hS]; exact o2
    · simp only at hk ⊢
      rcases hcase k hk with hk | rfl
      · rw [hL k k0 hk]; exact h.ok.apart k k0 hk
      · rw [hS]; exact hne
    · simp only at hk ⊢
      rcases hcase k hk with hk | rfl
      · rw [hL k k0 hk]; exact h.small k k0 hk
      · rw [hS]; exact o5
theorem payFold_num {b : List Acc} : ∀ (l : List Paid) (az : List Acc) (ps : List Pay) (n : Nat), n + l.length ≤ 6 → Num0 b az ps n → (∀ p ∈ l, PaidOk p) → Num0 b (l.foldl payStep (az, ps)).1 (l.foldl payStep (az, ps)).2 (n + l.length)
  | [], az, ps, n, _, h, _ => h
  | p :: l, az, ps, n, hn, h, hall => by
    simp only [List.length_cons] at hn
    have h1 := payStep_num (by omega) h (hall p (List.mem_cons_self ..))
    have := payFold_num l _ _ (n + 1) (by omega) h1 fun x hx => hall x (List.mem_cons_of_mem _ hx)
    simp only [List.foldl_cons, List.length_cons]
    rwa [show n + (l.length + 1) = n + 1 + l.length by omega]
/-- A state by numbers is right. -/
structure StNum (s : St) : Prop where
  ok : Ok (fun _ => 0) s.accs s.pays
  len : (s.accs.length : Int) = 15
  pays : s.pays.length ≤ 6
  small : ∀ k : Int, 0 ≤ k → k < s.pays.length → (rd s.pays k).auth ≤ 256
  houseBal : ∀ k : Int, 0 ≤ k → k < 9 → -600000 ≤ (rd s.accs k).bal ∧ (rd s.accs k).bal ≤ 0
  clientBal : ∀ k : Int, 9 ≤ k → k < s.accs.length → 0 ≤ (rd s.accs k).bal ∧ (rd s.accs k).bal ≤ 99999
  sagas : s.sagas = []
  known : s.known = []
  now : 0 ≤ s.now ∧ s.now < 12
theorem stOf_num (cs has : List Int) (ps : List Paid) (now : Int) (hp : ∀ p ∈ ps, PaidOk p) : StNum (stOf cs has ps now) := by
  have hb := book_bk cs has
  have hl := hb.len
  have h0 : Num0 (book (six cs) has) (book (six cs) has) [] 0 := ⟨hb.ok, Alike.refl _, by omega, Nat.le_refl _, fun k h0 hk => by simp at hk; omega⟩
  have h := payFold_num (ps.take 6) _ _ 0 (by simp; omega) h0 fun p hx => hp p (List.mem_of_mem_take hx)
  have hal := h.alike
  refine ⟨h.ok, h.len, Nat.le_trans h.pays (by simp; omega), h.small, fun k k0 hk => ?_, fun k k9 hk => ?_, rfl, rfl, ?_⟩
  · show -600000 ≤ (rd ((ps.take 6).foldl payStep (book (six cs) has, [])).1 k).bal ∧ (rd ((ps.take 6).foldl payStep (book (six cs) has, [])).1 k).bal ≤ 0
    rw [hal.bal k k0 (by omega)]
    have := hb.house k k0 hk
    omega
  · have hk : k < ((ps.take 6).foldl payStep (book (six cs) has, [])).1.length := hk
    have hl2 := hal.len
    show 0 ≤ (rd ((ps.take 6).foldl payStep (book (six cs) has, [])).1 k).bal ∧ (rd ((ps.take 6).foldl payStep (book (six cs) has, [])).1 k).bal ≤ 99999
    rw [hal.bal k (by omega) (by omega)]
    exact hb.client k k9 (by omega)
  · show 0 ≤ now % 12 ∧ now % 12 < 12
    omega
end Go.Proofs.YthjmficglpfgpaaDoor
