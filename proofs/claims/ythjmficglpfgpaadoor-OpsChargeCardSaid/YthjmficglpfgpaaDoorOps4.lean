/- The entries by which an amount of a payment goes back; moving an amount at the desk. -/
import Derived.Test.YthjmficglpfgpaaDoorOps3
namespace Go.Proofs.YthjmficglpfgpaaDoor
set_option linter.unusedVariables false
set_option linter.unusedSimpArgs false
open Go Go.RowKit Enc
set_option maxRecDepth 100000
set_option maxHeartbeats 800000

theorem move_ok_len {xs : List Acc} {frm to n : Int} {es : List Ent} (h : move xs frm to n = .ok es) : es.length ≤ 4 ∧ (∀ k : Nat, k < es.length → mayP (rd es k).amt) := by
  unfold move at h
  split at h
  · cases h
  split at h
  · cases h
  split at h
  · cases h
  rename_i h3
  have hn : 1 ≤ n ∧ n ≤ 1099511627776 := by
    rcases Decidable.em (1 ≤ n ∧ n ≤ 1099511627776) with h | h
    · exact h
    · exact absurd (.inr h) h3
  split at h
  · injection h with h
    subst h
    refine ⟨by simp, fun k hk => ?_⟩
    have : k = 0 ∨ k = 1 := by simp at hk; omega
    rcases this with rfl | rfl <;> simp [rd, mayP] <;> omega
  split at h
  · cases h
  rename_i h5
  split at h
  · cases h
  injection h with h
  subst h
  have hq : n * (rate (rd xs frm).cur (rd xs to).cur).1 / (rate (rd xs frm).cur (rd xs to).cur).2 ≤ 1099511627776 := by simpa using h5
  obtain ⟨⟨r1, r2⟩, r3, r4⟩ := rate_bd (rd xs frm).cur (rd xs to).cur
  have hx0 : 0 ≤ n * (rate (rd xs frm).cur (rd xs to).cur).1 := Int.mul_nonneg (by omega) (by omega)
  have hq0 : 0 ≤ n * (rate (rd xs frm).cur (rd xs to).cur).1 / (rate (rd xs frm).cur (rd xs to).cur).2 := Int.ediv_nonneg hx0 (by omega)
  generalize n * (rate (rd xs frm).cur (rd xs to).cur).1 / (rate (rd xs frm).cur (rd xs to).cur).2 = q at *
  refine ⟨by simp, fun k hk => ?_⟩
  have : k = 0 ∨ k = 1 ∨ k = 2 ∨ k = 3 := by simp at hk; omega
  rcases this with rfl | rfl | rfl | rfl <;> simp [rd, mayP] <;> omega

def backE (xs : List Acc) (p : Pay) (n : Int) : Except Int (List Ent) := (move xs p.frm p.to n).map back
theorem back_desk (g : Nat) (a pp s kn : Value) (now : Int) (p : Pay) (n : Int) (xs : List Acc) (w : World) (hd : DeskAt w g a pp s kn now) (ha : Row w a xs) (hC : CurOk xs) :
    Calls Tryd.prog 92 #[.pointer (some ⟨g, 0, none⟩), p.val, .int .i64 n] w fun e w' => (∃ c, backE xs p n = .error c ∧ Below w.heap.size w w' ∧ ∃ v, e = .returned (.tuple #[v, .iface 38 (.int .i64 c)])) ∨ (∃ es, backE xs p n = .ok es ∧ EntRes w w' (.ok es) e) := by
  obtain ⟨p0, p1, p2, p3, p4, p5, p6, p7⟩ := p
  obtain ⟨g0, g1, g2, g3, g4⟩ := hd.c5
  have gl := hd.lt
  have hlb : w.heap.size < (w.alloc (.cells #[.int .i64 p0, .int .i64 p1, .int .i64 p2, .int .i64 p3, .int .i64 p4, .int .i64 p5, .int .i64 p6, .int .i64 p7] 47)).drew.heap.size := by simp
  have glb : g < (w.alloc (.cells #[.int .i64 p0, .int .i64 p1, .int .i64 p2, .int .i64 p3, .int .i64 p4, .int .i64 p5, .int .i64 p6, .int .i64 p7] 47)).drew.heap.size := by simp; omega
  have hra := (ha.alloc (.cells #[.int .i64 p0, .int .i64 p1, .int .i64 p2, .int .i64 p3, .int .i64 p4, .int .i64 p5, .int .i64 p6, .int .i64 p7] 47)).drew
  have hbb : Below w.heap.size w (w.alloc (.cells #[.int .i64 p0, .int .i64 p1, .int .i64 p2, .int .i64 p3, .int .i64 p4, .int .i64 p5, .int .i64 p6, .int .i64 p7] 47)).drew := below_drew (below_alloc (Below.refl _ _) _)
  have HM := Lib.hid (move_any a xs p0 p1 n _ hra hC)
  cases hmv : move xs p0 p1 n with
  | error c =>
    have hr := Lib.hid (show backE xs ⟨p0, p1, p2, p3, p4, p5, p6, p7⟩ n = .error c by simp [backE, hmv, Except.map])
    have hm := Lib.hid hmv
    clear hmv
    go_enter Tryd.func92, Tryd.ntmps92
    go_wp2_with fail
    go_region_held3 (fun w' => w'.cell? ⟨g, 0, none⟩ = some a ∧ w'.cell? ⟨w.heap.size, 0, none⟩ = some (.int .i64 p0) ∧ w'.cell? ⟨w.heap.size, 1, none⟩ = some (.int .i64 p1)) (first | go_keep | (go_split_ands; refine ⟨?_, ?_, ?_⟩ <;> exact cell_below hz (by assumption)))
      ((go_at_call 39; refine HM.out.mono ?_; intro e w' hres; rw [hm.out] at hres; obtain ⟨hz, rfl⟩ := hres))
    go_wp2_with fail
    refine (back_any (.slice none 0 0) [] _ (Row.nil _) (by simp) (by simp)).mono ?_
    rintro e w2 ⟨v, rfl, hown, hz2⟩
    go_wp2_with fail
    go_ret2
    exact .inl ⟨c, hr.out, below_next (below_next hbb hz) hz2, _, rfl⟩
  | ok es =>
    have hr := Lib.hid (show backE xs ⟨p0, p1, p2, p3, p4, p5, p6, p7⟩ n = .ok (back es) by simp [backE, hmv, Except.map])
    have hm := Lib.hid hmv
    obtain ⟨hl, hall⟩ := move_ok_len hmv
    clear hmv
    go_enter Tryd.func92, Tryd.ntmps92
    go_wp2_with fail
    go_region_held3 (fun w' => w'.cell? ⟨g, 0, none⟩ = some a ∧ w'.cell? ⟨w.heap.size, 0, none⟩ = some (.int .i64 p0) ∧ w'.cell? ⟨w.heap.size, 1, none⟩ = some (.int .i64 p1)) (first | go_keep | (go_split_ands; refine ⟨?_, ?_, ?_⟩ <;> exact cell_below hz (by assumption)))
      ((go_at_call 39; refine HM.out.mono ?_; intro e w' hres; rw [hm.out] at hres; obtain ⟨hz, v1, rfl, ho1⟩ := hres))
    go_wp2_with fail
    refine (back_any _ es _ ho1.row (by omega) hall).mono ?_
    rintro e w2 ⟨v, rfl, hown, hz2⟩
    go_wp2_with fail
    go_ret2
    exact .inr ⟨_, hr.out, below_next (below_next hbb hz) hz2, _, rfl, hown.lower (below_next hbb hz).size⟩
end Go.Proofs.YthjmficglpfgpaaDoor
