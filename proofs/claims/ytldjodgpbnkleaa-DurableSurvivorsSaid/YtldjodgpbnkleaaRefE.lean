/- Walk of tegularef47's seen. -/
import Derived.Test.YtldjodgpbnkleaaRefD
import Derived.BigQuiet
import Derived.Outline
namespace Go.Proofs.Ytldjodgpbnkleaa
open Go.RowKit

def seenB (os : List Opr) (v : Nat) (ev : Int) (o : Opr) : Bool := ansB o && decide (ev < o.era) && decide (idxN (srcO os o.reg o.val) = (v : Int))

set_option maxHeartbeats 2000000 in
set_option maxRecDepth 100000 in
theorem seen_any (os : List Opr) (A : Option Addr) (c B : Nat) (v : Nat) (ov : Opr) (w : World) (h : OpS w B A os) (hB : B ≤ w.heap.size) (hlen : os.length ≤ 1000000) (hv : os[v]? = some ov) :
    Calls Try.prog 66 #[.slice A os.length c, .int .i64 v] w fun e w' => e = .returned (.bool (os.any (seenB os v ov.era))) ∧ Below w.heap.size w w' := by
  have hvl : v < os.length := (List.getElem?_eq_some_iff.1 hv).1
  have HOV := Lib.hid hv
  clear hv
  have hvl' : (v : Int) < (os.length : Int) := by omega
  go_enter Try.func66, Try.ntmps66
  go_wp2
  go_loopw [5] (fun i wr => ∃ k : Nat, k ≤ os.length ∧ i = .int .i64 k ∧ (∀ j o, j < k → os[j]? = some o → seenB os v ov.era o = false) ∧ Below w.heap.size w wr) (fun i _ => os.length - (intOf i).toNat)
  case atStart => exact ⟨0, by omega, rfl, fun j _ hj => absurd hj (by omega), Below.refl _ _⟩
  case round =>
    obtain ⟨k, hk, rfl, hno, hb⟩ := hrel
    have HN := Lib.hid hno
    clear hno
    have hz := hb.size
    by_cases hlt : k < os.length
    · have hops := h.below' hb hB
      obtain ⟨b, off, o, rfl, hbB, ho, -⟩ := OpS.at_ hops hlt
      have HOPS := Lib.hid (hops.more (show B ≤ wr.heap.size by omega))
      have R := fun d xs => OpS.cells ((HOPS.out.below (below_regrown wr d xs))) ho
      have RV := fun d xs => OpS.cells ((HOPS.out.below (below_regrown wr d xs))) HOV.out
      have HA := Lib.hid (fun w => rread_any o w)
      have HS := Lib.hid (fun d xs => rsource_any os (some ⟨b, off, none⟩) c wr.heap.size o (Sort.grow (redrawn wr d) xs) (HOPS.out.below (below_regrown wr d xs)) (below_regrown wr d xs).size hlen)
      have HO := Lib.hid ho
      have HV : Hid (seenB os v ov.era o = (ansB o && decide (ov.era < o.era) && decide (idxN (srcO os o.reg o.val) = (v : Int)))) := rfl
      clear ho hops
      have hkl : (k : Int) < (os.length : Int) := by omega
      obtain ⟨oid, oreg, oval, owr, oba, oera, oca, odo⟩ := o
      obtain ⟨vid, vreg, vval, vwr, vba, vera, vca, vdo⟩ := ov
      unfold Opr.agg at HA HS
      simp only at R RV HA HS HV HN
      generalize ansB ⟨oid, oreg, oval, owr, oba, oera, oca, odo⟩ = ab at *
      generalize idxN (srcO os oreg oval) = si at *
      cases ab
      · have HP : Hid (seenB os v vera ⟨oid, oreg, oval, owr, oba, oera, oca, odo⟩ = false) := HV.out
        go_wp2_with fail
        refine quiet_below (by kernel_rfl) (by kernel_rfl) ?_
        repeat (go_big_quiet_step ((go_at_call 42; exact Calls.regrown_of (HA.out _))))
        refine wpQuiet_nil ?_
        intro W2 hb2
        go_wp2
        go_roundw
        case rel => exact ⟨k + 1, by omega, by go_num, no_succ HO.out HP.out HN.out, hb.trans (hb2.mono hz)⟩
        case measure => simp [intOf]; omega
      · by_cases hera : vera < oera
        · have hera' : decide (oera > vera) = true := by simpa using hera
          by_cases hsi : si = (v : Int)
          · subst hsi
            have HP : Hid (seenB os v vera ⟨oid, oreg, oval, owr, oba, oera, oca, odo⟩ = true) := by unfold Hid; rw [HV.out]; simp [hera]
            go_wp2_with fail
            refine quiet_below (by kernel_rfl) (by kernel_rfl) ?_
            repeat (go_big_quiet_step (first | (go_at_call 42; exact Calls.regrown_of (HA.out _)) | (go_at_call 43; exact Calls.regrown_of (HS.out _ _))))
            refine wpQuiet_nil ?_
            intro W2 hb2
            go_wp2
            go_ret
            exact ⟨ret_bool (any_stop HO.out HP.out).symm, hb.trans (hb2.mono hz)⟩
          · have hsi' : (si == (v : Int)) = false := by simp [hsi]
            have HP : Hid (seenB os v vera ⟨oid, oreg, oval, owr, oba, oera, oca, odo⟩ = false) := by unfold Hid; rw [HV.out]; simp [hsi]
            clear hsi
            go_wp2_with fail
            refine quiet_below (by kernel_rfl) (by kernel_rfl) ?_
            repeat (go_big_quiet_step (first | (go_at_call 42; exact Calls.regrown_of (HA.out _)) | (go_at_call 43; exact Calls.regrown_of (HS.out _ _))))
            refine wpQuiet_nil ?_
            intro W2 hb2
            go_wp2
            go_roundw
            case rel => exact ⟨k + 1, by omega, by go_num, no_succ HO.out HP.out HN.out, hb.trans (hb2.mono hz)⟩
            case measure => simp [intOf]; omega
        · have hera' : decide (vera < oera) = false := by simpa using hera
          have HP : Hid (seenB os v vera ⟨oid, oreg, oval, owr, oba, oera, oca, odo⟩ = false) := by unfold Hid; rw [HV.out, hera']; simp
          go_wp2_with fail
          refine quiet_below (by kernel_rfl) (by kernel_rfl) ?_
          repeat (go_big_quiet_step ((go_at_call 42; exact Calls.regrown_of (HA.out _))))
          refine wpQuiet_nil ?_
          intro W2 hb2
          go_wp2
          go_roundw
          case rel => exact ⟨k + 1, by omega, by go_num, no_succ HO.out HP.out HN.out, hb.trans (hb2.mono hz)⟩
          case measure => simp [intOf]; omega
    · obtain rfl : k = os.length := by omega
      go_wp2
      go_ret
      exact ⟨ret_bool (any_none HN.out).symm, hb⟩
end Go.Proofs.Ytldjodgpbnkleaa
