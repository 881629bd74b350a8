/- Money, accounts, entries and the ledger: what the functions come to, and that they come to it. -/
import Derived.Test.YthjmficglpfgpaaDoorBase
import Derived.Deep.QuietTactic
import Derived.BigQuiet
import Derived.Deep.RegionHeld3
import Derived.Deep.LoopGhost
import Derived.Lib.Hide
namespace Go.Proofs.YthjmficglpfgpaaDoor
set_option linter.unusedVariables false
set_option linter.unusedSimpArgs false
open Go Go.RowKit Enc
set_option maxRecDepth 100000

theorem sT_acc : SlT Tryd.prog 31 50 Acc 24 := ⟨Tryd.underlying31, by obtain ⟨i, h1, h2, h3, h4⟩ := info_parts (show (Tryd.prog.info? 50).map (fun i => (i.zero, i.size, i.bytes)) = some (some (.agg #[.int .i64 0, .int .i64 0, .int .i64 0]), 3, 24) by kernel_rfl); exact ⟨i, _, h1, h2, h3, h4, rfl⟩⟩
theorem sT_ent : SlT Tryd.prog 99 109 Ent 16 := ⟨Tryd.underlying99, by obtain ⟨i, h1, h2, h3, h4⟩ := info_parts (show (Tryd.prog.info? 109).map (fun i => (i.zero, i.size, i.bytes)) = some (some (.agg #[.int .i64 0, .int .i64 0]), 2, 16) by kernel_rfl); exact ⟨i, _, h1, h2, h3, h4, rfl⟩⟩

theorem clone_any (x : Value) (xs : List Acc) (w : World) (h : Row w x xs) (hn : xs.length ≤ 1000000000000) :
   Calls Tryd.prog 58 #[x] w fun e w' => ∃ v, e = .returned v ∧ Own w' w.heap.size 50 v xs ∧ Below w.heap.size w w' := by
  obtain ⟨A, c, rfl⟩ := h.slice
  go_enter Tryd.func58, Tryd.ntmps58
  go_wp2_with (at_builtin; refine wp_append sT_acc rfl rfl (.slice none 0 0) _ rfl rfl (Own.nil w w.heap.size _) h (by simp; omega) (by decide) (Nat.le_refl _) ?_; intro v1 w1 hown1 hg1 hat1)
  go_ret
  exact ⟨_, rfl, by simpa using hown1, (Below.refl _ _).grown hg1 (Nat.le_refl _) (by simp [Value.ownBlock])⟩

/-- Is an account a client's? -/
def isCl (xs : List Acc) (k : Int) : Bool := decide (9 ≤ k ∧ k < xs.length)
theorem isCl_yes {xs : List Acc} {k : Int} (h1 : 9 ≤ k) (h2 : k < xs.length) : isCl xs k = true := by unfold isCl; simp; omega
theorem isCl_no {xs : List Acc} {k : Int} (h : ¬(9 ≤ k ∧ k < xs.length)) : isCl xs k = false := by unfold isCl; simp; omega
theorem isClient_any (x : Value) (xs : List Acc) (k : Int) (w : World) (h : Row w x xs) :
   Calls Tryd.prog 57 #[x, .int .i64 k] w fun e w' => w = w' ∧ e = .returned (.bool (isCl xs k)) := by
  obtain ⟨A, c, rfl⟩ := h.slice
  by_cases h1 : k < 0
  · rw [isCl_no (by omega)]
    go_enter Tryd.func57, Tryd.ntmps57
    go_wp2
    go_ret
    exact ⟨rfl, rfl⟩
  by_cases h2 : k ≥ xs.length
  · rw [isCl_no (by omega)]
    go_enter Tryd.func57, Tryd.ntmps57
    go_wp2
    go_ret
    exact ⟨rfl, rfl⟩
  by_cases h3 : k < 9
  · rw [isCl_no (by omega)]
    have h4 : (k % 3 == 3) = false := beq_eq_false_iff_ne.2 (by omega)
    go_enter Tryd.func57, Tryd.ntmps57
    go_wp2
    go_ret
    exact ⟨rfl, rfl⟩
  · rw [isCl_yes (by omega) (by omega)]
    go_enter Tryd.func57, Tryd.ntmps57
    go_wp2
    go_ret
    exact ⟨rfl, rfl⟩

/-- May an amount be asked for? -/
def amtB (n : Int) : Bool := decide (1 ≤ n ∧ n ≤ 1099511627776)
theorem amt_yes {n : Int} (h1 : 1 ≤ n) (h2 : n ≤ 1099511627776) : amtB n = true := by unfold amtB; simp; omega
theorem amt_no {n : Int} (h : ¬(1 ≤ n ∧ n ≤ 1099511627776)) : amtB n = false := by unfold amtB; simp; omega
theorem amount_any (n : Int) (w : World) : Calls Tryd.prog 54 #[.int .i64 n] w fun e w' => w = w' ∧ e = .returned (.bool (amtB n)) := by
  by_cases h1 : 1 ≤ n
  · by_cases h2 : n ≤ 1099511627776
    · rw [amt_yes h1 h2]
      go_enter Tryd.func54, Tryd.ntmps54
      go_wp2
      go_ret
      exact ⟨rfl, rfl⟩
    · rw [amt_no (by omega)]
      go_enter Tryd.func54, Tryd.ntmps54
      go_wp2
      go_ret
      exact ⟨rfl, by simp⟩
  · rw [amt_no (by omega)]
    go_enter Tryd.func54, Tryd.ntmps54
    go_wp2
    go_ret
    exact ⟨rfl, by simp⟩

theorem free_any (a : Acc) (w : World) (h1 : -1125899906842624 ≤ a.bal ∧ a.bal ≤ 1125899906842624) (h2 : -1125899906842624 ≤ a.held ∧ a.held ≤ 1125899906842624) :
   Calls Tryd.prog 18 #[a.val] w fun e w' => e = .returned (.int .i64 (a.bal - a.held)) ∧ Below w.heap.size w w' := by
  go_enter Tryd.func18, Tryd.ntmps18
  go_wp2
  go_ret
  exact ⟨rfl, below_alloc (Below.refl _ _) _⟩

/-- The state's accounts are within bounds. -/
def AB (a : Acc) : Prop := (-1125899906842624 ≤ a.bal ∧ a.bal ≤ 1125899906842624) ∧ (-1125899906842624 ≤ a.held ∧ a.held ≤ 1125899906842624)
def ABs (xs : List Acc) : Prop := xs.length ≤ 1000000 ∧ ∀ k : Int, 0 ≤ k → k < xs.length → AB (rd xs k)
def upd (xs : List Acc) (k : Int) (x : Acc) : List Acc := xs.set k.toNat x

theorem Own.acc {w : World} {B e : Nat} {v : Value} {xs : List Acc} (h : Own w B e v xs) (k : Int) (h0 : 0 ≤ k) (hk : k < xs.length) : ∃ b o c, v = .slice (some ⟨b, o, none⟩) xs.length c ∧
    w.cell? ⟨b, o + k.toNat * 3, none⟩ = some (.int .i64 (rd xs k).cur) ∧ w.cell? ⟨b, o + k.toNat * 3 + 1, none⟩ = some (.int .i64 (rd xs k).bal) ∧ w.cell? ⟨b, o + k.toNat * 3 + 2, none⟩ = some (.int .i64 (rd xs k).held) ∧
    w.frozen? ⟨b, o + k.toNat * 3 + 1, none⟩ = false ∧ w.frozen? ⟨b, o + k.toNat * 3 + 2, none⟩ = false ∧ B ≤ b ∧ b < w.heap.size ∧
    Hid (∀ z, Own (w.setCell ⟨b, o + k.toNat * 3 + 1, none⟩ (.int .i64 z)) B e v (upd xs k { rd xs k with bal := z })) ∧
    Hid (∀ z, Own (w.setCell ⟨b, o + k.toNat * 3 + 2, none⟩ (.int .i64 z)) B e v (upd xs k { rd xs k with held := z })) := by
  obtain ⟨b, o, c, hv, c1, c2, c3, hl⟩ := h.row.accI k h0 hk
  have hk' : k.toNat < xs.length := by omega
  have hrd : rd xs k = xs[k.toNat] := by rw [← rd_nat xs k.toNat hk', show ((k.toNat : Nat) : Int) = k by omega]
  have s1 := fun z => h.set k.toNat hk' 1 (by decide) (.int .i64 z) { rd xs k with bal := z } (by rw [hrd]; rfl) hv
  have s2 := fun z => h.set k.toNat hk' 2 (by decide) (.int .i64 z) { rd xs k with held := z } (by rw [hrd]; rfl) hv
  exact ⟨b, o, c, hv, c1, c2, c3, (s1 0).2.1, (s2 0).2.1, (s1 0).2.2, hl, fun z => (s1 z).1, fun z => (s2 z).1⟩

theorem Own.setBal {w : World} {B e : Nat} {b o n c : Nat} {xs : List Acc} (h : Own w B e (.slice (some ⟨b, o, none⟩) n c) xs) (k : Int) (h0 : 0 ≤ k) (hk : k < xs.length) (z : Int) :
    Own (w.setCell ⟨b, o + k.toNat * 3 + 1, none⟩ (.int .i64 z)) B e (.slice (some ⟨b, o, none⟩) n c) (upd xs k { rd xs k with bal := z }) := by
  obtain ⟨b', o', c', hv, _, _, _, _, _, _, _, s1, _⟩ := h.acc k h0 hk
  injection hv with e1 e2 e3
  injection e1 with e1
  injection e1 with e4 e5
  subst e4 e5
  exact s1.out z
theorem Own.setHeld {w : World} {B e : Nat} {b o n c : Nat} {xs : List Acc} (h : Own w B e (.slice (some ⟨b, o, none⟩) n c) xs) (k : Int) (h0 : 0 ≤ k) (hk : k < xs.length) (z : Int) :
    Own (w.setCell ⟨b, o + k.toNat * 3 + 2, none⟩ (.int .i64 z)) B e (.slice (some ⟨b, o, none⟩) n c) (upd xs k { rd xs k with held := z }) := by
  obtain ⟨b', o', c', hv, _, _, _, _, _, _, _, _, s2⟩ := h.acc k h0 hk
  injection hv with e1 e2 e3
  injection e1 with e1
  injection e1 with e4 e5
  subst e4 e5
  exact s2.out z

def hold (xs : List Acc) (k n : Int) : Except Int (List Acc) :=
  if ¬(9 ≤ k ∧ k < xs.length) then .error 2 else if ¬(1 ≤ n ∧ n ≤ 1099511627776) then .error 1 else if (rd xs k).bal - (rd xs k).held < n then .error 3
  else .ok (upd xs k { rd xs k with held := (rd xs k).held + n })
def release (xs : List Acc) (k n : Int) : Except Int (List Acc) :=
  if ¬(9 ≤ k ∧ k < xs.length) then .error 2 else if ¬(1 ≤ n ∧ n ≤ 1099511627776) then .error 1 else if (rd xs k).held < n then .error 6
  else .ok (upd xs k { rd xs k with held := (rd xs k).held - n })

def errI (c : Int) : Value := .iface 38 (.int .i64 c)
/-- What a function of accounts hands back. -/
def AccRes (w w' : World) (r : Except Int (List Acc)) (e : Ending) : Prop :=
  Below w.heap.size w w' ∧ match r with
  | .error c => e = .returned (.tuple #[.slice none 0 0, .iface 38 (.int .i64 c)])
  | .ok out => ∃ v, e = .returned (.tuple #[v, .nilIface]) ∧ Own w' w.heap.size 50 v out

theorem hold_any (x : Value) (xs : List Acc) (k n : Int) (w : World) (h : Row w x xs) (hA : ABs xs) :
   Calls Tryd.prog 36 #[x, .int .i64 k, .int .i64 n] w fun e w' => AccRes w w' (hold xs k n) e := by
  have hm := h.max
  by_cases h1 : 9 ≤ k ∧ k < xs.length
  rotate_left
  · have hd := Lib.hid (isCl_no h1)
    have hr : hold xs k n = .error 2 := by unfold hold; rw [if_pos h1]
    rw [hr]
    obtain ⟨A, c, rfl⟩ := h.slice
    clear hr
    go_enter Tryd.func36, Tryd.ntmps36
    go_wp2_with (go_at_call 57; refine (isClient_any _ _ _ _ h).mono ?_; rintro e w' ⟨rfl, rfl⟩; rw [hd.out])
    go_ret2
    exact ⟨Below.refl _ _, rfl⟩
  have hd := Lib.hid (isCl_yes h1.1 h1.2)
  obtain ⟨h1a, h1b⟩ := h1
  by_cases h2 : 1 ≤ n ∧ n ≤ 1099511627776
  rotate_left
  · have hr : hold xs k n = .error 1 := by unfold hold; rw [if_neg (by simp; omega), if_pos h2]
    have hf := Lib.hid (amt_no h2)
    rw [hr]
    obtain ⟨A, c, rfl⟩ := h.slice
    clear hr h2
    go_enter Tryd.func36, Tryd.ntmps36
    go_wp2_with (first | (go_at_call 57; refine (isClient_any _ _ _ _ h).mono ?_; rintro e w' ⟨rfl, rfl⟩; rw [hd.out]) | (go_at_call 54; refine (amount_any _ _).mono ?_; rintro e w' ⟨rfl, rfl⟩; rw [hf.out]))
    go_ret2
    exact ⟨Below.refl _ _, rfl⟩
  have hf := Lib.hid (amt_yes h2.1 h2.2)
  obtain ⟨b, o, c, rfl, c1, c2, c3, hl⟩ := h.accI k (by omega) h1b
  obtain ⟨hb1, hb2⟩ := hA.2 k (by omega) h1b
  by_cases h3 : (rd xs k).bal - (rd xs k).held < n
  · have hr : hold xs k n = .error 3 := by unfold hold; rw [if_neg (by simp; omega), if_neg (by simp; omega), if_pos h3]
    rw [hr]
    clear hr
    go_enter Tryd.func36, Tryd.ntmps36
    go_wp2_with (first | (go_at_call 57; refine (isClient_any _ _ _ _ h).mono ?_; rintro e w' ⟨rfl, rfl⟩; rw [hd.out]) | (go_at_call 54; refine (amount_any _ _).mono ?_; rintro e w' ⟨rfl, rfl⟩; rw [hf.out]) | (go_at_call 18; refine (free_any (rd xs k) _ hb1 hb2).mono ?_; rintro e w' ⟨rfl, hz⟩))
    go_ret2
    exact ⟨hz, rfl⟩
  have hr : hold xs k n = .ok (upd xs k { rd xs k with held := (rd xs k).held + n }) := by unfold hold; rw [if_neg (by simp; omega), if_neg (by simp; omega), if_neg h3]
  rw [hr]
  clear hr
  go_enter Tryd.func36, Tryd.ntmps36
  go_wp2_with (first
    | (go_at_call 57; refine (isClient_any _ _ _ _ h).mono ?_; rintro e w' ⟨rfl, rfl⟩; rw [hd.out])
    | (go_at_call 54; refine (amount_any _ _).mono ?_; rintro e w' ⟨rfl, rfl⟩; rw [hf.out])
    | (go_at_call 18; refine (free_any (rd xs k) _ hb1 hb2).mono ?_; rintro e w' ⟨rfl, hz⟩)
    | (go_at_call 58; refine (clone_any _ xs _ (h.below hz) (by have := hA.1; omega)).mono ?_; rintro e w' ⟨v1, rfl, ho1, hz1⟩; obtain ⟨b', o', c', rfl, d1, d2, d3, f1, f2, hB, hl2, os1, os2⟩ := ho1.acc k (by omega) h1b))
  go_ret2
  have hbz := hz.size
  exact ⟨(below_next hz hz1).setCell (by simp; omega) _, _, rfl, (os2.out _).lower hbz⟩
theorem release_any (x : Value) (xs : List Acc) (k n : Int) (w : World) (h : Row w x xs) (hA : ABs xs) :
   Calls Tryd.prog 43 #[x, .int .i64 k, .int .i64 n] w fun e w' => AccRes w w' (release xs k n) e := by
  have hm := h.max
  by_cases h1 : 9 ≤ k ∧ k < xs.length
  rotate_left
  · have hd := Lib.hid (isCl_no h1)
    have hr : release xs k n = .error 2 := by unfold release; rw [if_pos h1]
    rw [hr]
    obtain ⟨A, c, rfl⟩ := h.slice
    clear hr
    go_enter Tryd.func43, Tryd.ntmps43
    go_wp2_with (go_at_call 57; refine (isClient_any _ _ _ _ h).mono ?_; rintro e w' ⟨rfl, rfl⟩; rw [hd.out])
    go_ret2
    exact ⟨Below.refl _ _, rfl⟩
  have hd := Lib.hid (isCl_yes h1.1 h1.2)
  obtain ⟨h1a, h1b⟩ := h1
  by_cases h2 : 1 ≤ n ∧ n ≤ 1099511627776
  rotate_left
  · have hr : release xs k n = .error 1 := by unfold release; rw [if_neg (by simp; omega), if_pos h2]
    have hf := Lib.hid (amt_no h2)
    rw [hr]
    obtain ⟨A, c, rfl⟩ := h.slice
    clear hr h2
    go_enter Tryd.func43, Tryd.ntmps43
    go_wp2_with (first | (go_at_call 57; refine (isClient_any _ _ _ _ h).mono ?_; rintro e w' ⟨rfl, rfl⟩; rw [hd.out]) | (go_at_call 54; refine (amount_any _ _).mono ?_; rintro e w' ⟨rfl, rfl⟩; rw [hf.out]))
    go_ret2
    exact ⟨Below.refl _ _, rfl⟩
  have hf := Lib.hid (amt_yes h2.1 h2.2)
  obtain ⟨b, o, c, rfl, c1, c2, c3, hl⟩ := h.accI k (by omega) h1b
  obtain ⟨hb1, hb2⟩ := hA.2 k (by omega) h1b
  by_cases h3 : (rd xs k).held < n
  · have hr : release xs k n = .error 6 := by unfold release; rw [if_neg (by simp; omega), if_neg (by simp; omega), if_pos h3]
    rw [hr]
    clear hr
    go_enter Tryd.func43, Tryd.ntmps43
    go_wp2_with (first | (go_at_call 57; refine (isClient_any _ _ _ _ h).mono ?_; rintro e w' ⟨rfl, rfl⟩; rw [hd.out]) | (go_at_call 54; refine (amount_any _ _).mono ?_; rintro e w' ⟨rfl, rfl⟩; rw [hf.out]))
    go_ret2
    exact ⟨Below.refl _ _, rfl⟩
  have hr : release xs k n = .ok (upd xs k { rd xs k with held := (rd xs k).held - n }) := by unfold release; rw [if_neg (by simp; omega), if_neg (by simp; omega), if_neg h3]
  rw [hr]
  clear hr
  go_enter Tryd.func43, Tryd.ntmps43
  go_wp2_with (first
    | (go_at_call 57; refine (isClient_any _ _ _ _ h).mono ?_; rintro e w' ⟨rfl, rfl⟩; rw [hd.out])
    | (go_at_call 54; refine (amount_any _ _).mono ?_; rintro e w' ⟨rfl, rfl⟩; rw [hf.out])
   
    | (go_at_call 58; refine (clone_any _ xs _ (h) (by have := hA.1; omega)).mono ?_; rintro e w' ⟨v1, rfl, ho1, hz1⟩; obtain ⟨b', o', c', rfl, d1, d2, d3, f1, f2, hB, hl2, os1, os2⟩ := ho1.acc k (by omega) h1b))
  go_ret2
  exact ⟨hz1.setCell (by simpa using hB) _, _, rfl, os2.out _⟩

/-! ### Entries -/
def mayP (n : Int) : Prop := -1125899906842624 ≤ n ∧ n ≤ 1125899906842624
instance (n : Int) : Decidable (mayP n) := by unfold mayP; infer_instance
/-- What entries bring to a currency. -/
def psum (xs : List Acc) (c : Int) : List Ent → Int
  | [] => 0
  | e :: es => psum xs c es + (if (rd xs e.acct).cur = c then e.amt else 0)
theorem psum_append (xs : List Acc) (c : Int) (es fs : List Ent) : psum xs c (es ++ fs) = psum xs c es + psum xs c fs := by
  induction es with
  | nil => simp [psum]
  | cons e es ih => simp only [List.cons_append, psum, ih]; omega
theorem take_rd (es : List Ent) (k : Nat) (h : k < es.length) : es.take (k + 1) = es.take k ++ [rd es k] := by
  rw [List.take_succ_eq_append_getElem h, rd_nat es k h]
theorem psum_take (xs : List Acc) (c : Int) (es : List Ent) (k : Nat) (h : k < es.length) : psum xs c (es.take (k + 1)) = psum xs c (es.take k) + (if (rd xs (rd es k).acct).cur = c then (rd es k).amt else 0) := by
  rw [take_rd es k h, psum_append]; simp [psum]
/-- Entries that are of accounts there are, and come to nothing. -/
structure Bal (xs : List Acc) (es : List Ent) : Prop where
  acct : ∀ k : Nat, k < es.length → 0 ≤ (rd es k).acct ∧ (rd es k).acct < xs.length
  amt : ∀ k : Nat, k < es.length → mayP (rd es k).amt
  cur : ∀ k : Nat, k < es.length → 0 ≤ (rd xs (rd es k).acct).cur ∧ (rd xs (rd es k).acct).cur < 3
  sums : ∀ (c : Int) (k : Nat), 0 ≤ c → c < 3 → k ≤ es.length → mayP (psum xs c (es.take k))
  zero : ∀ c : Int, 0 ≤ c → c < 3 → psum xs c es = 0

def kindOf (k : Int) : Int := if k < 9 then k % 3 else 3
theorem of_any (x : Value) (xs : List Acc) (k : Int) (w : World) (h : Row w x xs) (h0 : 0 ≤ k) (hk : k < xs.length) :
    Calls Tryd.prog 67 #[x, .int .i64 k] w fun e w' => w = w' ∧ e = .returned (.tuple #[.int .i64 (kindOf k), .bool true]) := by
  obtain ⟨A, c, rfl⟩ := h.slice
  unfold kindOf
  by_cases h3 : k < 9
  all_goals
    go_enter Tryd.func67, Tryd.ntmps67
    go_wp2
    go_ret2
    exact ⟨rfl, rfl⟩
theorem of_none (x : Value) (xs : List Acc) (k : Int) (w : World) (h : Row w x xs) (h0 : ¬(0 ≤ k ∧ k < xs.length)) :
    Calls Tryd.prog 67 #[x, .int .i64 k] w fun e w' => w = w' ∧ e = .returned (.tuple #[.int .i64 0, .bool false]) := by
  obtain ⟨A, c, rfl⟩ := h.slice
  by_cases h3 : k < 0
  · go_enter Tryd.func67, Tryd.ntmps67
    go_wp2
    go_ret2
    exact ⟨rfl, rfl⟩
  · have h4 : (xs.length : Int) ≤ k := by omega
    go_enter Tryd.func67, Tryd.ntmps67
    go_wp2
    go_ret2
    exact ⟨rfl, rfl⟩
theorem may_yes (n : Int) (w : World) (h1 : -1125899906842624 ≤ n) (h2 : n ≤ 1125899906842624) :
    Calls Tryd.prog 94 #[.int .i64 n] w fun e w' => w = w' ∧ e = .returned (.bool true) := by
  go_enter Tryd.func94, Tryd.ntmps94
  go_wp2
  go_ret
  exact ⟨rfl, rfl⟩
theorem may_no (n : Int) (w : World) (h : ¬ mayP n) :
    Calls Tryd.prog 94 #[.int .i64 n] w fun e w' => w = w' ∧ e = .returned (.bool false) := by
  unfold mayP at h
  by_cases h1 : -1125899906842624 ≤ n
  · have h2 : ¬ n ≤ 1125899906842624 := by omega
    clear h
    go_enter Tryd.func94, Tryd.ntmps94
    go_wp2
    go_ret
    exact ⟨rfl, by simp⟩
  · clear h
    go_enter Tryd.func94, Tryd.ntmps94
    go_wp2
    go_ret
    exact ⟨rfl, by simp⟩
def mayB (n : Int) : Bool := decide (mayP n)
theorem may_any (n : Int) (w : World) : Calls Tryd.prog 94 #[.int .i64 n] w fun e w' => w = w' ∧ e = .returned (.bool (mayB n)) := by
  by_cases h : mayP n
  · have : mayB n = true := by simp [mayB, h]
    rw [this]
    exact may_yes n w h.1 h.2
  · have : mayB n = false := by simp [mayB, h]
    rw [this]
    exact may_no n w h
theorem mayB_yes {n : Int} (h : mayP n) : mayB n = true := by simp [mayB, h]
theorem mayB_no {n : Int} (h : ¬ mayP n) : mayB n = false := by simp [mayB, h]
theorem add_yes (a b : Int) (w : World) (h1 : mayP a) (h2 : mayP b) (h3 : mayP (a + b)) :
    Calls Tryd.prog 72 #[.int .i64 a, .int .i64 b] w fun e w' => w = w' ∧ e = .returned (.tuple #[.int .i64 (a + b), .nilIface]) := by
  obtain ⟨a1, a2⟩ := h1
  obtain ⟨b1, b2⟩ := h2
  obtain ⟨c1, c2⟩ := h3
  go_enter Tryd.func72, Tryd.ntmps72
  go_wp2_with (go_at_call 94; refine (may_yes _ _ (by omega) (by omega)).mono ?_; rintro e w' ⟨rfl, rfl⟩)
  go_ret2
  exact ⟨rfl, rfl⟩
theorem add_no (a b : Int) (w : World) (h1 : mayP a) (h2 : mayP b) (h3 : ¬ mayP (a + b)) :
    Calls Tryd.prog 72 #[.int .i64 a, .int .i64 b] w fun e w' => w = w' ∧ e = .returned (.tuple #[.int .i64 0, .iface 38 (.int .i64 4)]) := by
  obtain ⟨a1, a2⟩ := h1
  obtain ⟨b1, b2⟩ := h2
  have H1 := Lib.hid (mayB_yes ⟨a1, a2⟩)
  have H2 := Lib.hid (mayB_yes ⟨b1, b2⟩)
  have H3 := Lib.hid (mayB_no h3)
  clear h3
  go_enter Tryd.func72, Tryd.ntmps72
  go_wp2_with (go_at_call 94; refine (may_any _ _).mono ?_; rintro e w' ⟨rfl, rfl⟩; first | rw [H1.out] | rw [H2.out] | rw [H3.out])
  go_ret2
  exact ⟨rfl, rfl⟩
theorem add_quiet (a b : Int) (w : World) (h1 : mayP a) (h2 : mayP b) (h3 : mayP (a + b)) :
    Calls Tryd.prog 72 #[.int .i64 a, .int .i64 b] w fun e w' => e = .returned (.tuple #[.int .i64 (a + b), .nilIface]) ∧ w' = w :=
  (add_yes a b w h1 h2 h3).mono fun e w' h => ⟨h.2, h.1.symm⟩
theorem add_noq (a b : Int) (w : World) (h1 : mayP a) (h2 : mayP b) (h3 : ¬ mayP (a + b)) :
    Calls Tryd.prog 72 #[.int .i64 a, .int .i64 b] w fun e w' => e = .returned (.tuple #[.int .i64 0, .iface 38 (.int .i64 4)]) ∧ w' = w :=
  (add_no a b w h1 h2 h3).mono fun e w' h => ⟨h.2, h.1.symm⟩
end Go.Proofs.YthjmficglpfgpaaDoor
