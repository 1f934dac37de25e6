/- Walks of history: flush, proper, answers. -/
import Derived.Test.YtcgbnlhloopnfaaParseSpec
import Derived.Deep.QuietTactic
import Derived.BigQuiet
import Derived.StillTailTactics
import Derived.Outline
namespace Go.Proofs.Ytcgbnlhloopnfaa
open Go.RowKit

set_option maxHeartbeats 400000 in
theorem flush_any (e : Ev) (w : World) : Calls Try.prog 36 #[e.agg] w fun r w' => r = .returned (.bool (flushB e)) ∧ Below w.heap.size w w' := by
  unfold Ev.agg
  go_enter Try.func36, Try.ntmps36
  go_wp2
  all_goals
    go_ret
    exact ⟨ret_bool (by simp_all [flushB]), (Below.refl _ _).alloc (Nat.le_refl _) _⟩

set_option maxHeartbeats 400000 in
theorem proper_any (e : Ev) (w : World) : Calls Try.prog 61 #[e.agg] w fun r w' => r = .returned (.bool (properB e)) ∧ Below w.heap.size w w' := by
  by_cases h0 : e.op < 0 ∨ e.reg < 0 ∨ e.val < 0
  · have HV : Hid (properB e = false) := by unfold properB; rw [if_pos h0]; rfl
    unfold Ev.agg
    go_enter Try.func61, Try.ntmps61
    go_wp2_with fail
    all_goals first
      | (go_ret; exact ⟨ret_bool HV.out.symm, (Below.refl _ _).alloc (Nat.le_refl _) _⟩)
      | (exfalso; omega)
  · have HV : Hid (properB e = if flushB e then e.reg == 0 && e.val == 0 else e.write || e.val == 0) := by unfold properB; rw [if_neg h0]; rfl
    have h1 : 0 ≤ e.op := by omega
    have h2 : 0 ≤ e.reg := by omega
    have h3 : 0 ≤ e.val := by omega
    clear h0
    have HF := Lib.hid (fun w => flush_any e w)
    generalize flushB e = fb at *
    unfold Ev.agg
    go_enter Try.func61, Try.ntmps61
    go_wp2_with fail
    refine (HF.out _).mono ?_
    rintro r w1 ⟨rfl, hb1⟩
    obtain ⟨hc1, hf1⟩ := bcell hb1
    have hb : Below w.heap.size w w1 := ((Below.refl _ _).alloc (Nat.le_refl _) _).trans (hb1.mono (by simp))
    cases fb
    · go_wp2
      all_goals
        go_ret
        exact ⟨ret_bool (by rw [HV.out]; simp_all), hb⟩
    · go_wp2
      all_goals
        go_ret
        exact ⟨ret_bool (by rw [HV.out]; simp_all), hb⟩



set_option maxHeartbeats 1000000 in
theorem answers_any (e c : Ev) (w : World) : Calls Try.prog 62 #[e.agg, c.agg] w fun r w' => r = .returned (.bool (ansOk e c)) ∧ Below w.heap.size w w' := by
  by_cases h0 : e.write = false ∧ e.barrier = false
  · obtain ⟨h1, h2⟩ := h0
    unfold Ev.agg
    go_enter Try.func62, Try.ntmps62
    go_wp2
    all_goals
      go_ret
      exact ⟨ret_bool (by simp_all [ansOk]), below_two _ _ _⟩
  · by_cases h1 : e.write = true
    · clear h0
      unfold Ev.agg
      go_enter Try.func62, Try.ntmps62
      go_wp2
      all_goals
        go_ret
        exact ⟨ret_bool (by simp_all [ansOk]), below_two _ _ _⟩
    · have h2 : e.write = false := by simpa using h1
      have h3 : e.barrier = true := by simpa [h2] using h0
      clear h0 h1
      unfold Ev.agg
      go_enter Try.func62, Try.ntmps62
      go_wp2
      all_goals
        go_ret
        exact ⟨ret_bool (by simp_all [ansOk]), below_two _ _ _⟩
end Go.Proofs.Ytcgbnlhloopnfaa
