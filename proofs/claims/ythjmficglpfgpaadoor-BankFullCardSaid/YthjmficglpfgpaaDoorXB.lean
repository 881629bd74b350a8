/- A request by numbers. -/
import Derived.Test.YthjmficglpfgpaaDoorX9
namespace Go.Proofs.YthjmficglpfgpaaDoor
set_option linter.unusedVariables false
set_option linter.unusedSimpArgs false
open Go Go.RowKit Enc
set_option maxRecDepth 100000
set_option maxHeartbeats 3200000

def askA (o a : Int) : Int := if o = 0 then a % 3 else if 4 ≤ o then a % 5 else 9 + a % 6
def askR (x : Ask) : Req := ⟨x.key, x.op % 8, askA (x.op % 8) x.a, 9 + x.b % 6, 1 + x.amt % 2000, if x.op % 8 = 2 then x.legs % 5 else 0, if x.op % 8 = 3 then x.til % 12 else 0⟩
theorem agg_req : AggT Tryd.prog 29 7 := ⟨⟨_, Tryd.underlying29, rfl⟩, by kernel_rfl⟩
theorem askR_ok {x : Ask} (h : AskIn x) : ReqOk (askR x) ∧ (9 ≤ (askR x).b ∧ (askR x).b ≤ 14) ∧ (askR x).key < 256 ∧ (askR x).amt ≤ 2000 := by
  obtain ⟨⟨k0, k1⟩, ⟨o0, o1⟩, ⟨a0, a1⟩, ⟨b0, b1⟩, ⟨m0, m1⟩, ⟨l0, l1⟩, ⟨t0, t1⟩⟩ := h
  refine ⟨⟨?_, ?_, ?_, ?_, ?_, ?_, ?_⟩, ?_, ?_, ?_⟩ <;> simp only [askR, askA] <;> (try split) <;> (try split) <;> omega
theorem askReq_any (x : Ask) (w : World) (h : AskIn x) : Calls Tryd.prog 21 #[x.val] w fun e w' => e = .returned (askR x).val ∧ Below w.heap.size w w' := by
  obtain ⟨key, op, ra, rb, amt, legs, til⟩ := x
  obtain ⟨⟨k0, k1⟩, ⟨o0, o1⟩, ⟨a0, a1⟩, ⟨b0, b1⟩, ⟨m0, m1⟩, ⟨l0, l1⟩, ⟨t0, t1⟩⟩ := h
  simp only at *
  have hx : ∃ o, op % 8 = o := ⟨_, rfl⟩
  have HA := Lib.hid (show askR ⟨key, op, ra, rb, amt, legs, til⟩ = ⟨key, op % 8, askA (op % 8) ra, 9 + rb % 6, 1 + amt % 2000, if op % 8 = 2 then legs % 5 else 0, if op % 8 = 3 then til % 12 else 0⟩ from rfl)
  obtain ⟨o, ho⟩ := hx
  have hr : o = 0 ∨ o = 1 ∨ o = 2 ∨ o = 3 ∨ o = 4 ∨ o = 5 ∨ o = 6 ∨ o = 7 := by omega
  rcases hr with rfl | rfl | rfl | rfl | rfl | rfl | rfl | rfl
  all_goals
    have HO := Lib.hid ho
    go_enter Tryd.func21, Tryd.ntmps21
    go_wp2
    refine bodyPost_ret (res_cell rfl _ rfl agg_req rfl ((Blk.new1 _ _ _ _).alloc _)) rfl ⟨?_, by (repeat (first | (with_reducible refine below_drew ?_) | (with_reducible refine below_drewN ?_ _) | (with_reducible refine below_alloc ?_ _) | ((with_reducible refine Below.setCell ?_ ?_ _); rotate_left; (focus (first | (simp; done) | (simp; omega)))))); exact Below.refl _ _⟩
    rw [HA.out, HO.out]
    rfl
end Go.Proofs.YthjmficglpfgpaaDoor
