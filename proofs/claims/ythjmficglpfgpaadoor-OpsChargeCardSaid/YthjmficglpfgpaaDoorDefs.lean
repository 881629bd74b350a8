/- What an authorisation makes of accounts and payments. -/
import Derived.Test.YthjmficglpfgpaaDoorOps10
namespace Go.Proofs.YthjmficglpfgpaaDoor
set_option linter.unusedVariables false
set_option linter.unusedSimpArgs false
open Go Go.RowKit Enc
def deskAuth (now : Int) (xs : List Acc) (ps : List Pay) (r : Req) : Except Int (List Acc × List Pay × Int) :=
  if (isCl xs r.a && isCl xs r.b) = false then .error 2
  else if r.a = r.b ∨ r.til ≤ now then .error 1
  else if ps.length ≥ 64 then .error 7
  else match hold xs r.a r.amt with
    | .error c => .error c
    | .ok ys => .ok (ys, ps ++ [⟨r.a, r.b, r.amt, 0, 0, 0, r.til, 0⟩], ps.length)
end Go.Proofs.YthjmficglpfgpaaDoor
