/- What a charge makes of accounts: in plain Lean. -/
import Derived.Test.YthjmficglpfgpaaDoorOps10
namespace Go.Proofs.YthjmficglpfgpaaDoor
set_option linter.unusedVariables false
set_option linter.unusedSimpArgs false
open Go Go.RowKit Enc
set_option maxRecDepth 100000

/-- What the seller lacks. -/
def lacks (xs : List Acc) (p : Pay) (es : List Ent) : Int := -(rd es 0).amt - ((rd xs p.to).bal - (rd xs p.to).held)
def chgEs (xs : List Acc) (p : Pay) (es : List Ent) : List Ent := if 0 < lacks xs p es then lossy xs p.to (lacks xs p es) es else es
def chargeF (xs : List Acc) (n : Int) (p : Pay) : Except Int (List Acc) :=
  match backE xs p n with
  | .error c => .error c
  | .ok es => post xs (chgEs xs p es)
theorem backE_ok {xs : List Acc} {p : Pay} {n : Int} {es : List Ent} (h : backE xs p n = .ok es) : ∃ fs, move xs p.frm p.to n = .ok fs ∧ es = back fs := by
  unfold backE at h
  cases hm : move xs p.frm p.to n with
  | error c => rw [hm] at h; cases h
  | ok fs =>
    rw [hm] at h
    injection h with h
    exact ⟨fs, rfl, h.symm⟩
theorem back_head {xs : List Acc} {p : Pay} {n : Int} {es : List Ent} (hG : Good xs) (h : backE xs p n = .ok es) : (0 < es.length ∧ es.length ≤ 4) ∧ (rd es 0).acct = p.to ∧ -1099511627776 ≤ (rd es 0).amt ∧ (rd es 0).amt < 0 := by
  obtain ⟨fs, hf, rfl⟩ := backE_ok h
  have hM := move_moveOk hG hf
  rw [back_len]
  exact ⟨⟨by have := hM.len; omega, hM.len.2⟩, hM.last⟩
theorem lacks_bd {xs : List Acc} {p : Pay} {n : Int} {es : List Ent} (hG : Good xs) (hp : 9 ≤ p.to ∧ p.to < xs.length) (h : backE xs p n = .ok es) : -1125899906842624 ≤ lacks xs p es ∧ lacks xs p es ≤ 1099511627776 := by
  obtain ⟨_, _, h2, h3⟩ := back_head hG h
  have hc := hG.client p.to hp.1 hp.2
  have hb := hG.bal p.to (by omega) hp.2
  unfold lacks
  omega
theorem chgEs_bal {xs : List Acc} {p : Pay} {n : Int} {es : List Ent} (hG : Good xs) (hp : 9 ≤ p.to ∧ p.to < xs.length) (h : backE xs p n = .ok es) : Bal xs (chgEs xs p es) := by
  have hl := lacks_bd hG hp h
  obtain ⟨fs, hf, rfl⟩ := backE_ok h
  have hM := move_moveOk hG hf
  unfold chgEs
  split
  · exact lossy_bal hG hM ⟨by omega, hp.2⟩ hl (by omega)
  · exact hM.backBal hG
end Go.Proofs.YthjmficglpfgpaaDoor
