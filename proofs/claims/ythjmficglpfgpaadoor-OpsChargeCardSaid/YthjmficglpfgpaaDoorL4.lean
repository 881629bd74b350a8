/- Payments by numbers. -/
import Derived.Test.YthjmficglpfgpaaDoorStW
import Derived.Test.YthjmficglpfgpaaDoorPlain4
namespace Go.Proofs.YthjmficglpfgpaaDoor
set_option linter.unusedVariables false
set_option linter.unusedSimpArgs false
open Go Go.RowKit Enc
set_option maxRecDepth 100000
set_option maxHeartbeats 1600000

theorem paid_any (p : Paid) (w : World) (hp : PaidOk p) : Calls Tryd.prog 34 #[p.val] w fun e w' => e = .returned (payOf p).val ∧ Below w.heap.size w w' := by
  obtain ⟨h1, h2, h3, h4, h5, h6, h7⟩ := hp
  obtain ⟨frm, to, auth, capt, refd, chgd, til, closed⟩ := p
  simp only at *
  have c0 := Int.emod_nonneg capt (show (1 + auth + 1) ≠ 0 by omega)
  have c1 := Int.emod_lt_of_pos capt (show 0 < (1 + auth + 1) by omega)
  have r0 := Int.emod_nonneg refd (show (capt % (1 + auth + 1) + 1) ≠ 0 by omega)
  have r1 := Int.emod_lt_of_pos refd (show 0 < (capt % (1 + auth + 1) + 1) by omega)
  have g0 := Int.emod_nonneg chgd (show (capt % (1 + auth + 1) - refd % (capt % (1 + auth + 1) + 1) + 1) ≠ 0 by omega)
  have g1 := Int.emod_lt_of_pos chgd (show 0 < (capt % (1 + auth + 1) - refd % (capt % (1 + auth + 1) + 1) + 1) by omega)
  obtain ⟨f0, f1⟩ := h1
  obtain ⟨t0, t1⟩ := h2
  obtain ⟨a0, a1⟩ := h3
  obtain ⟨k0, k1⟩ := h4
  obtain ⟨m0, m1⟩ := h5
  obtain ⟨n0, n1⟩ := h6
  obtain ⟨u0, u1⟩ := h7
  cases closed with
  | true =>
    go_enter Tryd.func34, Tryd.ntmps34
    go_wp2
    refine bodyPost_ret (res_cell rfl _ rfl agg_pay rfl ((Blk.new1 _ _ _ _).alloc _)) rfl ⟨by simp [payOf], ?_⟩
    (repeat (first | (with_reducible refine below_drew ?_) | (with_reducible refine below_drewN ?_ _) | (with_reducible refine below_alloc ?_ _) | ((with_reducible refine Below.setCell ?_ ?_ _); rotate_left; (focus (first | (simp; done) | (simp; omega))))))
    exact Below.refl _ _
  | false =>
    by_cases hc : capt % (1 + auth + 1) = 1 + auth
    · have hb : (capt % (1 + auth + 1) == 1 + auth) = true := by simpa using hc
      have HC := Lib.hid hc
      clear hc
      go_enter Tryd.func34, Tryd.ntmps34
      go_wp2
      refine bodyPost_ret (res_cell rfl _ rfl agg_pay rfl ((Blk.new1 _ _ _ _).alloc _)) rfl ⟨by simp [payOf, HC.out], ?_⟩
      (repeat (first | (with_reducible refine below_drew ?_) | (with_reducible refine below_drewN ?_ _) | (with_reducible refine below_alloc ?_ _) | ((with_reducible refine Below.setCell ?_ ?_ _); rotate_left; (focus (first | (simp; done) | (simp; omega))))))
      exact Below.refl _ _
    · have hb : (capt % (1 + auth + 1) == 1 + auth) = false := by simpa using hc
      have HC := Lib.hid hc
      clear hc
      go_enter Tryd.func34, Tryd.ntmps34
      go_wp2
      refine bodyPost_ret (res_cell rfl _ rfl agg_pay rfl ((Blk.new1 _ _ _ _).alloc _)) rfl ⟨by simp [payOf, HC.out], ?_⟩
      (repeat (first | (with_reducible refine below_drew ?_) | (with_reducible refine below_drewN ?_ _) | (with_reducible refine below_alloc ?_ _) | ((with_reducible refine Below.setCell ?_ ?_ _); rotate_left; (focus (first | (simp; done) | (simp; omega))))))
      exact Below.refl _ _
end Go.Proofs.YthjmficglpfgpaaDoor
