/- Walks of tegularef27.Short, tegulalaw50.few. -/
import Derived.Test.YtopoefcklipaeaaGreatDoorGRo
namespace Go.Proofs.YtopoefcklipaeaaGreatDoor
open Go.RowKit
def shortB (r : Rcd) : Bool := decide (r.ws.length ≤ 70) && decide (r.ms.length ≤ 70) && decide (r.nt.length ≤ 300)
set_option maxHeartbeats 4000000 in
set_option maxRecDepth 100000 in
theorem r27short {B : Nat} {rv : Value} {r : Rcd} (w : World) (hr : RcdV w B rv r) :
  Calls Tryz.prog 8 #[rv] w fun e w' => e = .returned (.bool (shortB r)) ∧ Below w.heap.size w w' := by
 obtain ⟨Aw, cw, Am, cm, An, cn, rfl, -⟩ := hr
 obtain ⟨gen, seq, ws, ms, nt⟩ := r
 by_cases h1 : ws.length ≤ 70
 ·have f1 : decide ((ws.length : Int) ≤ 70) = true := by rw [decide_eq_true_iff]; omega
  have g1 : (ws.length : Int) ≤ 70 := by omega
  by_cases h2 : ms.length ≤ 70
  ·have f2 : decide ((ms.length : Int) ≤ 70) = true := by rw [decide_eq_true_iff]; omega
   have g2 : (ms.length : Int) ≤ 70 := by omega
   by_cases h3 : nt.length ≤ 300
   ·have f3 : decide ((nt.length : Int) ≤ 300) = true := by rw [decide_eq_true_iff]; omega
    have g3 : (nt.length : Int) ≤ 300 := by omega
    have HR : Hid (shortB ⟨gen, seq, ws, ms, nt⟩ = true) := by simp [Hid, shortB, h1, h2, h3]
    go_enter Tryz.func8, Tryz.ntmps8
    go_wp2
    go_ret
    exact ⟨ret_bool (by rw [HR.out]), below_laid⟩
   ·have f3 : decide ((nt.length : Int) ≤ 300) = false := by rw [decide_eq_false_iff_not]; omega
    have g3 : ¬ (nt.length : Int) ≤ 300 := by omega
    have HR : Hid (shortB ⟨gen, seq, ws, ms, nt⟩ = false) := by simp [Hid, shortB, h3]
    go_enter Tryz.func8, Tryz.ntmps8
    go_wp2
    go_ret
    exact ⟨ret_bool (by rw [HR.out]), below_laid⟩
  ·have f2 : decide ((ms.length : Int) ≤ 70) = false := by rw [decide_eq_false_iff_not]; omega
   have g2 : ¬ (ms.length : Int) ≤ 70 := by omega
   have HR : Hid (shortB ⟨gen, seq, ws, ms, nt⟩ = false) := by simp [Hid, shortB, h2]
   go_enter Tryz.func8, Tryz.ntmps8
   go_wp2
   go_ret
   exact ⟨ret_bool (by rw [HR.out]), below_laid⟩
 ·have f1 : decide ((ws.length : Int) ≤ 70) = false := by rw [decide_eq_false_iff_not]; omega
  have g1 : ¬ (ws.length : Int) ≤ 70 := by omega
  have HR : Hid (shortB ⟨gen, seq, ws, ms, nt⟩ = false) := by simp [Hid, shortB, h1]
  go_enter Tryz.func8, Tryz.ntmps8
  go_wp2
  go_ret
  exact ⟨ret_bool (by rw [HR.out]), below_laid⟩
end Go.Proofs.YtopoefcklipaeaaGreatDoor
