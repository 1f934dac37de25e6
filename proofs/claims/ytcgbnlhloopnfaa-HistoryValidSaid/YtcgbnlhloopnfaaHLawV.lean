/- Walk of tegulalaw45's HistoryValid: it answers true, whatever the list. -/
import Derived.Test.YtcgbnlhloopnfaaHAwake
import Derived.Test.YtcgbnlhloopnfaaHValC
namespace Go.Proofs.Ytcgbnlhloopnfaa
open Go.RowKit

set_option maxHeartbeats 2000000 in
set_option maxRecDepth 100000 in
theorem historyvalid_any (l : List Ev) (A : Option Addr) (c : Nat) (w : World) (h : EvS w w.heap.size A l) (hwf : WfOp l) (hwr : WfReg l) :
    Calls Try.prog 4 #[.slice A l.length c] w fun e w' => e = .returned (.bool true) ∧ Below w.heap.size w w' := by
  have HA := Lib.hid (hawake_any w)
  by_cases hl : 60 < l.length
  · have hl' : (60 : Int) < (l.length : Int) := by omega
    go_enter Try.func4, Try.ntmps4
    go_wp2_with fail
    refine HA.out.mono ?_
    rintro r w1 ⟨rfl, hb1⟩
    go_wp2
    go_ret
    exact ⟨rfl, hb1⟩
  have hl' : ¬ (60 : Int) < (l.length : Int) := by omega
  have hln : l.length ≤ 1000000 := by omega
  have HV := Lib.hid (fun w1 (hb : Below w.heap.size w w1) => hvalid_any l A c w.heap.size w1 (h.below' hb (Nat.le_refl _)) hb.size hln hwf)
  have HRV := Lib.hid (fun w1 (hb : Below w.heap.size w w1) => refvalid_any l A c w.heap.size w1 (h.below' hb (Nat.le_refl _)) hb.size hln)
  have HG := Lib.hid (fun w1 (hb : Below w.heap.size w w1) => registers_any l A c w.heap.size w1 (h.below' hb (Nat.le_refl _)) hb.size hln hwf hwr)
  have HRG := Lib.hid (fun w1 (hb : Below w.heap.size w w1) => refregs_any l A c w.heap.size w1 (h.below' hb (Nat.le_refl _)) hb.size (by omega))
  have HP := Lib.hid (fun w1 (hb : Below w.heap.size w w1) => pend_any l A c w.heap.size w1 (h.below' hb (Nat.le_refl _)) hb.size hln hwf)
  have HRP := Lib.hid (fun w1 (hb : Below w.heap.size w w1) => refpend_any l A c w.heap.size w1 (h.below' hb (Nat.le_refl _)) hb.size (by omega))
  have hgl : (insAll (regsO (opsOr l))).length ≤ 60 := by
    have h1 := insAll_len (regsO (opsOr l))
    have h2 := regsO_len (opsOr l)
    have h3 := opsOr_len l
    omega
  have hpl : (insAll (pendTo l (opsOr l))).length ≤ 60 := by
    have h1 := insAll_len (pendTo l (opsOr l))
    have h2 := pendTo_len l (opsOr l)
    have h3 := opsOr_len l
    omega
  have hpe : (parseL l).isSome = validL l := by rw [parse_eq l]; cases validL l <;> rfl
  rw [hpe] at HV
  generalize insAll (regsO (opsOr l)) = gs at *
  generalize insAll (pendTo l (opsOr l)) = ps at *
  generalize validL l = vl at *
  have HI : Hid (∀ (xs : List Int) (A A' : Option Addr) (c c' : Nat) (W : World), xs.length ≤ 60 → OwS W w.heap.size 3 1 (.slice A xs.length c) (xs.map icell) → OwS W w.heap.size 3 1 (.slice A' xs.length c') (xs.map icell) →
      Calls Try.prog 13 #[.slice A xs.length c, .slice A' xs.length c'] W fun e w' => e = .returned (.bool true) ∧ Below W.heap.size W w') :=
    fun xs A A' c c' W hx h1 h2 => ints_any xs A A' c c' W.heap.size W h1.reads h2.reads (Nat.le_refl _) (by omega)
  clear h hl hln hpe
  go_enter Try.func4, Try.ntmps4
  go_wp2_with fail
  refine HA.out.mono ?_
  rintro r w1 ⟨rfl, hb1⟩
  have hz1 := hb1.size
  go_wp2_with fail
  refine (HV.out _ hb1).mono ?_
  rintro r w2 ⟨rfl, hb2⟩
  have hb12 := hb1.trans (hb2.mono hz1)
  have hz2 := hb12.size
  go_wp2_with fail
  refine (HRV.out _ hb12).mono ?_
  rintro r w3 ⟨rfl, hb3⟩
  have hb13 := hb12.trans (hb3.mono hz2)
  have hz3 := hb13.size
  clear hb3 hb2 hb12 hb1 HV HRV HA
  go_wp2_with fail
  refine (HG.out _ hb13).mono ?_
  rintro r w4 ⟨va, rfl, howna, hb4⟩
  have hb14 := hb13.trans (hb4.mono hz3)
  have hz4 := hb14.size
  go_wp2_with fail
  refine (HRG.out _ hb14).mono ?_
  rintro r w5 ⟨vb, rfl, hownb, hb5⟩
  have hb15 := hb14.trans (hb5.mono hz4)
  have hz5 := hb15.size
  have howna := (howna.below hb5).mono hz3
  have hownb := hownb.mono hz4
  obtain ⟨Aa, ca, rfl, -, -⟩ := howna.form
  obtain ⟨Ab, cb, rfl, -, -⟩ := hownb.form
  rw [List.length_map] at *
  have HI1 := Lib.hid (HI.out gs Aa Ab ca cb w5 hgl howna hownb)
  clear howna hownb hb4 hb5 hb13 hb14
  go_wp2_with fail
  refine HI1.out.mono ?_
  rintro r w6 ⟨rfl, hb6⟩
  have hb16 := hb15.trans (hb6.mono hz5)
  have hz6 := hb16.size
  clear hb15 hb6 HI1
  go_wp2_with fail
  refine (HP.out _ hb16).mono ?_
  rintro r w7 ⟨va, rfl, howna, hb7⟩
  have hb17 := hb16.trans (hb7.mono hz6)
  have hz7 := hb17.size
  go_wp2_with fail
  refine (HRP.out _ hb17).mono ?_
  rintro r w8 ⟨vb, rfl, hownb, hb8⟩
  have hb18 := hb17.trans (hb8.mono hz7)
  have hz8 := hb18.size
  have howna := (howna.below hb8).mono hz6
  have hownb := hownb.mono hz7
  obtain ⟨Aa, ca, rfl, -, -⟩ := howna.form
  obtain ⟨Ab, cb, rfl, -, -⟩ := hownb.form
  rw [List.length_map] at *
  have HI1 := Lib.hid (HI.out ps Aa Ab ca cb w8 hpl howna hownb)
  clear howna hownb hb7 hb8 hb16 hb17
  go_wp2_with fail
  refine HI1.out.mono ?_
  rintro r w9 ⟨rfl, hb9⟩
  have hb19 := hb18.trans (hb9.mono hz8)
  go_wp2
  go_ret
  exact ⟨rfl, hb19⟩
end Go.Proofs.Ytcgbnlhloopnfaa
