/- Walk of tegulalaw45's HistoryOps: it answers true, whatever the list. -/
import Derived.Test.YtldjodgpbnkleaaHAwake
import Derived.Test.YtldjodgpbnkleaaRefC
namespace Go.Proofs.Ytldjodgpbnkleaa
open Go.RowKit

set_option maxHeartbeats 2000000 in
set_option maxRecDepth 100000 in
theorem historyops_any (l : List Ev) (A : Option Addr) (c : Nat) (w : World) (h : EvS w w.heap.size A l) (hwf : WfOp l) :
    Calls Try.prog 10 #[.slice A l.length c] w fun e w' => e = .returned (.bool true) ∧ Below w.heap.size w w' := by
  have HA := Lib.hid (hawake_any w)
  by_cases hl : 60 < l.length
  · have hl' : (60 : Int) < (l.length : Int) := by omega
    go_enter Try.func10, Try.ntmps10
    go_wp2_with fail
    refine HA.out.mono ?_
    rintro r w1 ⟨rfl, hb1⟩
    go_wp2
    go_ret
    exact ⟨rfl, hb1⟩
  have hl' : ¬ (60 : Int) < (l.length : Int) := by omega
  have hln : l.length ≤ 1000000 := by omega
  have hpe := parse_eq l
  cases hv : validL l
  · rw [hv] at hpe
    have HC := Lib.hid (fun w1 (hb : Below w.heap.size w w1) => ops_none l A c w.heap.size w1 (h.below' hb (Nat.le_refl _)) hb.size hln hwf (by rw [hpe]; rfl))
    have HR := Lib.hid (fun w1 (hb : Below w.heap.size w w1) => refops_not l A c w.heap.size w1 (h.below' hb (Nat.le_refl _)) hb.size hln hv)
    clear hv hpe hl h
    go_enter Try.func10, Try.ntmps10
    go_wp2_with fail
    refine HA.out.mono ?_
    rintro r w1 ⟨rfl, hb1⟩
    have hz1 := hb1.size
    go_wp2_with fail
    refine (HC.out _ hb1).mono ?_
    rintro r w2 ⟨rfl, hb2⟩
    have hb12 := hb1.trans (hb2.mono hz1)
    have hz2 := hb12.size
    go_wp2_with fail
    refine (HR.out _ hb12).mono ?_
    rintro r w3 ⟨rfl, hb3⟩
    have hb13 := hb12.trans (hb3.mono hz2)
    go_wp2
    refine wp_loop_rounds 1 ?_
    rw [rounds_succ]
    go_wp2
    go_ret
    exact ⟨rfl, hb13⟩
  · rw [hv, if_pos rfl] at hpe
    have HC := Lib.hid (fun w1 (hb : Below w.heap.size w w1) => ops_some l A c w.heap.size w1 (h.below' hb (Nat.le_refl _)) hb.size hln hwf _ hpe)
    have HR := Lib.hid (fun w1 (hb : Below w.heap.size w w1) => refops_valid l A c w.heap.size w1 (h.below' hb (Nat.le_refl _)) hb.size hln hv)
    have hfl : (rawOps l).length ≤ 60 := by have := (rawTo_bd l l.length).1; unfold rawOps; omega
    clear hv hpe hl h
    generalize rawOps l = fs at *
    go_enter Try.func10, Try.ntmps10
    go_wp2_with fail
    refine HA.out.mono ?_
    rintro r w1 ⟨rfl, hb1⟩
    have hz1 := hb1.size
    go_wp2_with fail
    refine (HC.out _ hb1).mono ?_
    rintro r w2 ⟨va, rfl, howna, hb2⟩
    have hb12 := hb1.trans (hb2.mono hz1)
    have hz2 := hb12.size
    go_wp2_with fail
    refine (HR.out _ hb12).mono ?_
    rintro r w3 ⟨vb, rfl, hownb, hb3⟩
    have hb13 := hb12.trans (hb3.mono hz2)
    have howna := howna.below hb3
    have hz3 := hb13.size
    obtain ⟨Aa, ca, rfl, -, -⟩ := howna.form
    obtain ⟨Ab, cb, rfl, -, -⟩ := hownb.form
    rw [List.length_map] at *
    clear hb12 hb3 hb2 hb1
    go_wp2
    go_loopw [7] (fun i wr => ∃ k : Nat, k ≤ fs.length ∧ i = .int .i64 k ∧ Below w3.heap.size w3 wr) (fun i _ => fs.length - (intOf i).toNat)
    case atStart => exact ⟨0, by omega, rfl, Below.refl _ _⟩
    case round =>
      obtain ⟨k, hk, rfl, hb⟩ := hrel
      by_cases hlt : k < fs.length
      · have oa := howna.below hb
        have ob := hownb.below hb
        obtain ⟨ga, ca', hva, -, hga⟩ := oa.pos (by rw [List.length_map]; omega)
        obtain ⟨gb, cb', hvb, -, hgb⟩ := ob.pos (by rw [List.length_map]; omega)
        injection hva with hA1 hA2 hA3
        injection hvb with hB1 hB2 hB3
        subst hA1 hB1
        clear hA2 hA3 hB2 hB3
        obtain ⟨f, hf⟩ : ∃ f, fs[k]? = some f := ⟨fs[k], List.getElem?_eq_getElem hlt⟩
        have hrow : (fs.map Opr.cells)[k]? = some f.cells := by rw [List.getElem?_map, hf]; rfl
        have a0 := oa.cell hrow (j := 0) rfl
        have a1 := oa.cell hrow (j := 1) rfl
        have a2 := oa.cell hrow (j := 2) rfl
        have a3 := oa.cell hrow (j := 3) rfl
        have a4 := oa.cell hrow (j := 4) rfl
        have a5 := oa.cell hrow (j := 5) rfl
        have a6 := oa.cell hrow (j := 6) rfl
        have a7 := oa.cell hrow (j := 7) rfl
        have b0 := ob.cell hrow (j := 0) rfl
        have b1 := ob.cell hrow (j := 1) rfl
        have b2 := ob.cell hrow (j := 2) rfl
        have b3 := ob.cell hrow (j := 3) rfl
        have b4 := ob.cell hrow (j := 4) rfl
        have b5 := ob.cell hrow (j := 5) rfl
        have b6 := ob.cell hrow (j := 6) rfl
        have b7 := ob.cell hrow (j := 7) rfl
        simp only [Nat.add_zero] at a0 b0
        have hkl : (k : Int) < (fs.length : Int) := by omega
        obtain ⟨f0, f1, f2, f3, f4, f5, f6, f7⟩ := f
        simp only at a0 a1 a2 a3 a4 a5 a6 a7 b0 b1 b2 b3 b4 b5 b6 b7
        clear oa ob hrow hf
        go_wp2
        go_quiet (fail)
        go_wp2
        go_roundw
        case rel => exact ⟨k + 1, by omega, by go_num, below_drewN hb _⟩
        case measure => simp [intOf]; omega
      · obtain rfl : k = fs.length := by omega
        go_wp2
        go_ret
        exact ⟨rfl, hb13.trans (hb.mono hz3)⟩
end Go.Proofs.Ytldjodgpbnkleaa
