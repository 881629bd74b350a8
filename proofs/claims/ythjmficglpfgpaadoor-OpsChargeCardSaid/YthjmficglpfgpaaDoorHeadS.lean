/- A region that draws its order, whose last operations have one order: the first ones in whatever order, with a condition on the world; the last ones as they stand. -/
import Derived.Test.YthjmficglpfgpaaDoorBase
import Derived.StillTail
import Derived.OrdersHeld
import Derived.Deep.RegionHeld
namespace Go.Proofs.YthjmficglpfgpaaDoor
set_option linter.unusedVariables false
set_option linter.unusedSimpArgs false
open Go Go.RowKit

section
variable {P : Program} {ops : Array Oper} {Q : Exit → Act → World → Prop} {md : Region.Mode} {S : World → Prop} {n g : Nat} {R : Act → World → Prop}

def wpHead (P : Program) (md : Region.Mode) (ops : Array Oper) (Q : Exit → Act → World → Prop) (S : World → Prop) (n g : Nat) (R : Act → World → Prop) : Nat → Array Bool → Act → World → Prop
  | 0, listed, a, w => Region.seqB md ops g n listed = true ∧ R a w
  | f + 1, listed, a, w => HeadInv md ops n listed → Region.ready md ops listed ≠ [] ∧ ∀ i ∈ Region.ready md ops listed, i < n ∧ wpOp P ops Q i (fun a' w' => S w' ∧ wpHead P md ops Q S n g R f (listed.setIfInBounds i true) a' w') a w

theorem wpHead_sound (hR : ∀ listed a w, Region.seqB md ops g n listed = true → R a w → wpAny P md ops Q g listed a w) :
    ∀ (f : Nat) (listed : Array Bool) (a : Act) (w : World), HeadInv md ops n listed → wpHead P md ops Q S n g R f listed a w → wpAny P md ops Q (f + g) listed a w
  | 0, listed, a, w, _, h => by rw [Nat.zero_add]; exact hR _ _ _ h.1 h.2
  | f + 1, listed, a, w, inv, h => by
    rw [show f + 1 + g = (f + g) + 1 by omega]
    have h' := h inv
    exact ⟨fun h0 => absurd h0 h'.1, fun i hi => wpOp_mono (fun a' w' h2 => wpHead_sound hR f _ a' w' (inv.set hi (h'.2 i hi).1) h2.2) (h'.2 i hi).2⟩

theorem wpHead_first {i : Nat} {oi : Oper} {v : Value} (hi : ops[i]? = some oi) (hsel : ∀ (j : Nat) (o : Oper) cs b, ops[j]? = some o → o.op ≠ .select cs b)
    (hs : Region.sinkB md ops n = true) (hc : Region.chainB md ops n = true) (hn : n < ops.size) (hin : i < n)
    (hQ : ∀ c a w, Q (.panic c) (a.put oi.dst v) w → Q (.panic c) a w) :
    ∀ (f : Nat) (listed : Array Bool) (a : Act) (w : World),
      (∀ j oj, ops[j]? = some oj → j ≠ i → listed.getD j true = false → (∀ e ∈ oj.after, Region.binds md e = true → e.on ≠ i) → oi.apart ops oj = true) →
      i ∈ Region.ready md ops listed → YieldsIf P ops S oi v a → S w →
      wpHead P md ops Q S n g R f (listed.setIfInBounds i true) (a.put oi.dst v) w → wpHead P md ops Q S n g R (f + 1) listed a w := by
  intro f
  induction f with
  | zero =>
    intro listed a w _ hr hy hS H inv
    have hun := (mem_ready.1 hr).1
    refine ⟨fun h => (by rw [h] at hr; cases hr), fun j hj => ?_⟩
    have hjn : j < n := by
      rcases Nat.lt_or_ge j n with h | h
      · exact h
      · exact absurd hj (tail_waits hs hc hn inv _ i rfl hin hun j h)
    refine ⟨hjn, ?_⟩
    by_cases hji : j = i
    · subst hji; exact hy.wpOp hi hS ⟨hS, H⟩
    · have := seqB_ready H.1 j (ready_mono hj hji)
      omega
  | succ f ih =>
    intro listed a w hfree hr hy hS H inv
    have hun := (mem_ready.1 hr).1
    refine ⟨fun h => (by rw [h] at hr; cases hr), fun j hj => ?_⟩
    have hjn : j < n := by
      rcases Nat.lt_or_ge j n with h | h
      · exact h
      · exact absurd hj (tail_waits hs hc hn inv _ i rfl hin hun j h)
    refine ⟨hjn, ?_⟩
    by_cases hji : j = i
    · subst hji; exact hy.wpOp hi hS ⟨hS, H⟩
    · have h1 := ((H (inv.set hr hin)).2 j (ready_mono hj hji)).2
      obtain ⟨hjun, oj, hoj, hall⟩ := mem_ready.1 hj
      have hnot : ∀ e ∈ oj.after, Region.binds md e = true → e.on ≠ i := fun e he hb heq => by
        have h1 := hall e he hb
        rw [heq, getD_both hun] at h1
        cases h1
      have h2 := wpOp_putIf hoj (hfree j oj hoj hji hjun hnot) (fun cs b => hsel i oi cs b hi) (fun cs b => hsel j oj cs b hoj) hQ hy h1
      have hfree' : ∀ k ok, ops[k]? = some ok → k ≠ i → (listed.setIfInBounds j true).getD k true = false →
          (∀ e ∈ ok.after, Region.binds md e = true → e.on ≠ i) → oi.apart ops ok = true := fun k ok hk hki hun hno => by
        refine hfree k ok hk hki ?_ hno
        by_cases hjk : j = k
        · subst hjk; exact hjun
        · rw [getD_set_ne true hjk] at hun; exact hun
      refine wpOp_mono (fun a' w' h3 => ⟨h3.2.1, ih (listed.setIfInBounds j true) a' w' hfree' (ready_mono hr (Ne.symm hji)) h3.1 h3.2.1 ?_⟩) h2
      rw [Array.setIfInBounds_comm _ _ hji]
      exact h3.2.2

/-- The last ones have one order, behind all the others. -/
def headB (md : Region.Mode) (ops : Array Oper) (n : Nat) : Bool := Region.noSelect ops && decide (n < ops.size) && Region.sinkB md ops n && Region.chainB md ops n

theorem wp_region_head {id : Nat} {a : Act} {w : World} {l : List Oper} (n : Nat) (S : World → Prop) (hm : P.follows .mixedOrders = true) (hB : headB .any l.toArray n = true) (hS : S w.drew)
    (h : S w.drew → wpHead P .any l.toArray Q S n (l.length - n) (fun a w => wpList P l.toArray Q (l.drop n) a w) n (Array.replicate l.length false) a w.drew) : (Code.region id l.toArray true).wp P Q a w := by
  unfold headB at hB
  simp only [Bool.and_eq_true, decide_eq_true_eq] at hB
  obtain ⟨⟨⟨hsel, hn⟩, hs⟩, hc⟩ := hB
  have hn' : n < l.length := by simpa using hn
  have inv0 : HeadInv .any l.toArray n (Array.replicate l.length false) :=
    ⟨by simp, fun j oj _ hl => (by rw [getD_replicate_false] at hl; cases hl), fun t _ ht => getD_in (by simpa using ht) (getD_replicate_false _ _)⟩
  have hdl : (l.drop n).length = l.length - n := by simp
  have H := wpHead_sound (Q := Q) (S := S) (g := l.length - n) (fun listed a w hb hr => by
    have := wpAny_of_seq (P := P) (md := .any) (ops := l.toArray) (Q' := Q) (l.drop n) n listed a w (fun j => by simp) (by rw [hdl]; exact hb) hr
    rwa [hdl] at this) n _ a w.drew inv0 (h hS)
  refine wp_region_any hm ?_
  have e : n + (l.length - n) = l.toArray.size := by simp; omega
  rw [e] at H
  simpa using H

theorem wpHead_take {l : List Oper} {i : Nat} {oi : Oper} {v : Value} {f : Nat} {listed : Array Bool} {a : Act} {w : World} (hi : l[i]? = some oi)
    (hB : headB md l.toArray n = true) (hin : decide (i < n) = true) (hf : Region.free md l.toArray listed i = true) (hr : (Region.ready md l.toArray listed).contains i = true)
    (hQ : ∀ c a w, Q (.panic c) (a.put oi.dst v) w → Q (.panic c) a w) (hy : YieldsIf P l.toArray S oi v a) (hS : S w)
    (h : wpHead P md l.toArray Q S n g R f (listed.setIfInBounds i true) (a.put oi.dst v) w) : wpHead P md l.toArray Q S n g R (f + 1) listed a w := by
  unfold headB at hB
  simp only [Bool.and_eq_true, decide_eq_true_eq] at hB hin
  obtain ⟨⟨⟨hsel, hn⟩, hs⟩, hc⟩ := hB
  have hi' : l.toArray[i]? = some oi := by simpa using hi
  exact wpHead_first hi' (Region.noSelect_spec hsel) hs hc hn hin hQ f listed a w (Region.free_spec hi' hf) (by simpa using hr) hy hS h

def AllHead (P : Program) (md : Region.Mode) (ops : Array Oper) (Q : Exit → Act → World → Prop) (S : World → Prop) (n g : Nat) (R : Act → World → Prop) (f : Nat) (listed : Array Bool) (a : Act) (w : World) (rs : List Nat) : Prop :=
  ∀ i ∈ rs, i < n ∧ wpOp P ops Q i (fun a' w' => S w' ∧ wpHead P md ops Q S n g R f (listed.setIfInBounds i true) a' w') a w
theorem AllHead.nil {f : Nat} {listed : Array Bool} {a : Act} {w : World} : AllHead P md ops Q S n g R f listed a w [] := fun _ h => by cases h
theorem AllHead.cons {l : List Oper} {f : Nat} {listed : Array Bool} {a : Act} {w : World} {i : Nat} {o : Oper} {rs : List Nat} (ho : l[i]? = some o) (hin : decide (i < n) = true)
    (h : ∀ K' : Act → World → Prop, Shut (∀ a w, S w → (S w → wpHead P md l.toArray Q S n g R f (listed.setIfInBounds i true) a w) → K' a w) → if Region.wanted o (yielded l.toArray a.tmps) = true then Oper.wp P o a w K' Q else K' (a.put o.dst undef) w)
    (hs : AllHead P md l.toArray Q S n g R f listed a w rs) : AllHead P md l.toArray Q S n g R f listed a w (i :: rs) := fun j hj => by
  rcases List.mem_cons.1 hj with rfl | hj
  · exact ⟨by simpa using hin, wpOp_step (by simpa using ho) (fun K' hK => h K' (fun a w hS hW => hK a w ⟨hS, hW hS⟩))⟩
  · exact hs j hj
theorem wpHead_ready {rs : List Nat} {f : Nat} {listed : Array Bool} {a : Act} {w : World} (hr : Region.ready md ops listed = rs) (hne : rs ≠ [])
    (h : AllHead P md ops Q S n g R f listed a w rs) : wpHead P md ops Q S n g R (f + 1) listed a w := fun _ => ⟨by rw [hr]; exact hne, by rw [hr]; exact h⟩
theorem wpHead_done {listed : Array Bool} {a : Act} {w : World} (hr : Region.seqB md ops g n listed = true) (h : R a w) : wpHead P md ops Q S n g R 0 listed a w := ⟨hr, h⟩
end
end Go.Proofs.YthjmficglpfgpaaDoor
