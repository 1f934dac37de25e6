/- Walk of tegulalaw47's awake: the document's example holds. -/
import Derived.Test.YtcgbnlhloopnfaaLawA
import Derived.Test.YtcgbnlhloopnfaaDurI
namespace Go.Proofs.Ytcgbnlhloopnfaa
open Go.RowKit

theorem ex_chk2 : checkD (exE 2) = some [⟨3, 3, 0⟩] := by decide
theorem ex_chk0 : checkD (exE 0) = some [] := by decide
theorem ex_sur2 : survD (exE 2) = some [0, 1] := by decide
theorem ex_wf2 : WfE (exE 2) := by unfold WfE; decide
theorem ex_wf0 : WfE (exE 0) := by unfold WfE; decide

set_option maxHeartbeats 2000000 in
set_option maxRecDepth 100000 in
theorem awake_any (w : World) : Calls Try.prog 20 #[] w fun e w' => e = .returned (.bool true) ∧ Below w.heap.size w w' := by
  have HE2 := Lib.hid (fun W => example_any 2 W)
  have HE0 := Lib.hid (fun W => example_any 0 W)
  have HC2 := Lib.hid (fun A c W (h : EvS W W.heap.size A (exE 2)) => by have := check_any (exE 2) A c W.heap.size W h (Nat.le_refl _) (by decide) ex_wf2; unfold ChkPost at this; rw [ex_chk2] at this; exact this)
  have HC0 := Lib.hid (fun A c W (h : EvS W W.heap.size A (exE 0)) => by have := check_any (exE 0) A c W.heap.size W h (Nat.le_refl _) (by decide) ex_wf0; unfold ChkPost at this; rw [ex_chk0] at this; exact this)
  have HS2 := Lib.hid (fun A c W (h : EvS W W.heap.size A (exE 2)) => by have := survivors_any (exE 2) A c W.heap.size W h (Nat.le_refl _) (by decide) ex_wf2; unfold SurPost at this; rw [ex_sur2] at this; exact this)
  go_enter Try.func20, Try.ntmps20
  go_wp2_with fail
  refine (HE2.out _).mono ?_
  rintro r w1 ⟨v1, rfl, hown1, hb1⟩
  have hz1 := hb1.size
  obtain ⟨A1, c1, rfl, -, -⟩ := hown1.form
  have hr1 := hown1.reads
  clear hown1
  go_wp2_with fail
  refine (HC2.out _ _ _ hr1).mono ?_
  rintro r w2 ⟨va, rfl, howna, hb2⟩
  have hb12 := hb1.trans (hb2.mono hz1)
  have hz2 := hb12.size
  clear hb1 hb2 hr1
  go_wp2_with fail
  refine (HE0.out _).mono ?_
  rintro r w3 ⟨v3, rfl, hown3, hb3⟩
  have howna := howna.below hb3
  have hb13 := hb12.trans (hb3.mono hz2)
  have hz3 := hb13.size
  obtain ⟨A3, c3, rfl, -, -⟩ := hown3.form
  have hr3 := hown3.reads
  clear hown3 hb12 hb3
  go_wp2_with fail
  refine (HC0.out _ _ _ hr3).mono ?_
  rintro r w4 ⟨vb, rfl, hownb, hb4⟩
  have howna := howna.below hb4
  have hb14 := hb13.trans (hb4.mono hz3)
  have hz4 := hb14.size
  clear hb13 hb4 hr3
  obtain ⟨Ab, cb, rfl, -, -⟩ := hownb.form
  clear hownb
  go_wp2_with fail
  refine (HE2.out _).mono ?_
  rintro r w5 ⟨v5, rfl, hown5, hb5⟩
  have howna := howna.below hb5
  have hb15 := hb14.trans (hb5.mono hz4)
  have hz5 := hb15.size
  obtain ⟨A5, c5, rfl, -, -⟩ := hown5.form
  have hr5 := hown5.reads
  clear hown5 hb14 hb5
  go_wp2_with fail
  refine (HS2.out _ _ _ hr5).mono ?_
  rintro r w6 ⟨vs, rfl, howns, hb6⟩
  have howna := howna.below hb6
  have hb16 := hb15.trans (hb6.mono hz5)
  clear hb15 hb6 hr5
  obtain ⟨ga, ca, rfl, -, hga⟩ := howna.pos (by decide)
  obtain ⟨gs, cs, rfl, -, hgs⟩ := howns.pos (by decide)
  have a0 := howna.cell (k := 0) (j := 0) rfl rfl
  have a1 := howna.cell (k := 0) (j := 1) rfl rfl
  have a2 := howna.cell (k := 0) (j := 2) rfl rfl
  have s0 := howns.cell (k := 0) (j := 0) rfl rfl
  have s1 := howns.cell (k := 1) (j := 0) rfl rfl
  simp only [Nat.zero_mul, Nat.zero_add, Nat.one_mul, Nat.add_zero] at a0 a1 a2 s0 s1
  clear howna howns
  go_wp2
  go_ret
  exact ⟨rfl, hb16⟩
end Go.Proofs.Ytcgbnlhloopnfaa
