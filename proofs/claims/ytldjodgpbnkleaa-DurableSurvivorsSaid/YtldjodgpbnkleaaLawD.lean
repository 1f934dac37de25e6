/- Walk of tegulalaw47's DurableSurvivors: it answers true, whatever the list. -/
import Derived.Test.YtldjodgpbnkleaaLawB
import Derived.Test.YtldjodgpbnkleaaRefK
namespace Go.Proofs.Ytldjodgpbnkleaa
open Go.RowKit

set_option maxHeartbeats 2000000 in
set_option maxRecDepth 100000 in
theorem durablesurvivors_any (l : List Ev) (A : Option Addr) (c : Nat) (w : World) (h : EvS w w.heap.size A l) (hwf : WfE l) :
    Calls Try.prog 8 #[.slice A l.length c] w fun e w' => e = .returned (.bool true) ∧ Below w.heap.size w w' := by
  have HA := Lib.hid (awake_any w)
  by_cases hl : 60 < l.length
  · have hl' : (60 : Int) < (l.length : Int) := by omega
    go_enter Try.func8, Try.ntmps8
    go_wp2_with fail
    refine HA.out.mono ?_
    rintro r w1 ⟨rfl, hb1⟩
    go_wp2
    go_ret
    exact ⟨rfl, hb1⟩
  have hl' : ¬ (60 : Int) < (l.length : Int) := by omega
  have hln : l.length ≤ 1000000 := by omega
  have HC := Lib.hid (fun w1 (hb : Below w.heap.size w w1) => survivors_any l A c w.heap.size w1 (h.below' hb (Nat.le_refl _)) hb.size hln hwf)
  have HR := Lib.hid (fun w1 (hb : Below w.heap.size w w1) => rsurvivors_any l A c w.heap.size w1 (h.below' hb (Nat.le_refl _)) hb.size hln)
  have HT := Lib.hid (fun w1 (hb : Below w.heap.size w w1) => traceable_any l A c w.heap.size w1 (h.below' hb (Nat.le_refl _)) hb.size hln hwf)
  have HU := Lib.hid (fun w1 (hb : Below w.heap.size w w1) => rtrace_any l A c w.heap.size w1 (h.below' hb (Nat.le_refl _)) hb.size hln)
  rw [trace_eq] at HU
  generalize traceD l = tb at *
  unfold RSurPost SurPost at *
  rw [surv_eq] at HR
  rcases hd : survD l with _ | fs
  · rw [hd] at HC HR
    clear hd hl h
    go_enter Try.func8, Try.ntmps8
    go_wp2_with fail
    refine HA.out.mono ?_
    rintro r w1 ⟨rfl, hb1⟩
    have hz1 := hb1.size
    go_wp2_with fail
    refine (HC.out _ hb1).mono ?_
    rintro r w2 ⟨rfl, hb2⟩
    have hb12 := hb1.trans (hb2.mono hz1)
    have hz2 := hb12.size
    go_wp2_with fail
    refine (HR.out _ hb12).mono ?_
    rintro r w3 ⟨rfl, hb3⟩
    have hb13 := hb12.trans (hb3.mono hz2)
    have hz3 := hb13.size
    go_wp2_with fail
    refine (HT.out _ hb13).mono ?_
    rintro r w4 ⟨rfl, hb4⟩
    have hb14 := hb13.trans (hb4.mono hz3)
    have hz4 := hb14.size
    go_wp2_with fail
    refine (HU.out _ hb14).mono ?_
    rintro r w5 ⟨rfl, hb5⟩
    have hb15 := hb14.trans (hb5.mono hz4)
    clear HT HU
    cases tb
    all_goals
      go_wp2
      refine wp_loop_rounds 1 ?_
      rw [rounds_succ]
      go_wp2
      go_ret
      exact ⟨rfl, hb15⟩
  · rw [hd] at HC HR
    have hfl : fs.length ≤ 1000000 := by
      unfold survD at hd
      rw [parse_eq] at hd
      have := rawOps_len l
      cases hv : validL l
      · rw [hv] at hd; cases hd
      · rw [hv] at hd
        simp only [if_true] at hd
        split at hd
        · cases hd
          unfold survO
          rw [List.length_map]
          exact Nat.le_trans (List.length_filter_le _ _) (by omega)
        · cases hd
    clear hd hl h
    go_enter Try.func8, Try.ntmps8
    go_wp2_with fail
    refine HA.out.mono ?_
    rintro r w1 ⟨rfl, hb1⟩
    have hz1 := hb1.size
    go_wp2_with fail
    refine (HC.out _ hb1).mono ?_
    rintro r w2 ⟨va, rfl, howna, hb2⟩
    have hb12 := hb1.trans (hb2.mono hz1)
    have hz2 := hb12.size
    go_wp2_with fail
    refine (HR.out _ hb12).mono ?_
    rintro r w3 ⟨vb, rfl, hownb, hb3⟩
    have hb13 := hb12.trans (hb3.mono hz2)
    have howna := howna.below hb3
    have hz3 := hb13.size
    obtain ⟨Aa, ca, rfl, -, -⟩ := howna.form
    obtain ⟨Ab, cb, rfl, -, -⟩ := hownb.form
    rw [List.length_map] at *
    clear hb12 hb3 hb2 hb1
    go_wp2_with fail
    refine (HT.out _ hb13).mono ?_
    rintro r w4 ⟨rfl, hb4⟩
    have hb14 := hb13.trans (hb4.mono hz3)
    have hz4 := hb14.size
    go_wp2_with fail
    refine (HU.out _ hb14).mono ?_
    rintro r w5 ⟨rfl, hb5⟩
    have hb15 := hb14.trans (hb5.mono hz4)
    have howna := (howna.below hb4).below hb5
    have hownb := (hownb.below hb4).below hb5
    have hz5 := hb15.size
    clear HT HU hb13 hb14 hb4 hb5
    cases tb
    all_goals
      go_wp2
      go_loopw [7] (fun i wr => ∃ k : Nat, k ≤ fs.length ∧ i = .int .i64 k ∧ Below w5.heap.size w5 wr) (fun i _ => fs.length - (intOf i).toNat)
      case atStart => exact ⟨0, by omega, rfl, Below.refl _ _⟩
      case round =>
        obtain ⟨k, hk, rfl, hb⟩ := hrel
        by_cases hlt : k < fs.length
        · have oa := howna.below hb
          have ob := hownb.below hb
          obtain ⟨ga, ca', hva, -, hga⟩ := oa.pos (by rw [List.length_map]; omega)
          obtain ⟨gb, cb', hvb, -, hgb⟩ := ob.pos (by rw [List.length_map]; omega)
          injection hva with hA1 hA2 hA3
          injection hvb with hB1 hB2 hB3
          subst hA1 hB1
          clear hA2 hA3 hB2 hB3
          obtain ⟨f, hf⟩ : ∃ f, fs[k]? = some f := ⟨fs[k], List.getElem?_eq_getElem hlt⟩
          have hrow : (fs.map icell)[k]? = some (icell f) := by rw [List.getElem?_map, hf]; rfl
          have a0 := oa.cell hrow (j := 0) rfl
          have b0 := ob.cell hrow (j := 0) rfl
          simp only [Nat.add_zero, Nat.mul_one] at a0 b0
          have hkl : (k : Int) < (fs.length : Int) := by omega
          clear oa ob hrow hf
          go_wp2
          go_quiet (fail)
          go_wp2
          go_roundw
          case rel => exact ⟨k + 1, by omega, by go_num, below_drewN hb _⟩
          case measure => simp [intOf]; omega
        · obtain rfl : k = fs.length := by omega
          go_wp2
          go_ret
          exact ⟨rfl, hb15.trans (hb.mono hz5)⟩
end Go.Proofs.Ytldjodgpbnkleaa
