/- Walk of tegularef02.SameInts. -/
import Derived.Test.YtkjjojmidhjjdaaGreatGTab
namespace Go.Proofs.YtkjjojmidhjjdaaGreat
open Go.RowKit

set_option maxHeartbeats 2000000 in
set_option maxRecDepth 100000 in
theorem sameints_any {A1 A2 : Option Addr} {B1 B2 c1 c2 : Nat} {a b : List Int} (w : World) (h1 : IntS w B1 A1 a) (h2 : IntS w B2 A2 b) (hl1 : a.length ≤ 1000000) (_hl2 : b.length ≤ 1000000) (hB1 : B1 ≤ w.heap.size) (hB2 : B2 ≤ w.heap.size) :
    Calls Tryz.prog 11 #[.slice A1 a.length c1, .slice A2 b.length c2] w fun r w' => r = .returned (.bool (decide (a = b))) ∧ Below w.heap.size w w' := by
  have H1 := Lib.hid h1
  have H2 := Lib.hid h2
  clear h1 h2
  by_cases hl : a.length = b.length
  · have HLE := Lib.hid hl
    rw [← hl]
    have hlI : ((a.length : Int) != (a.length : Int)) = false := by simp
    clear hl
    go_enter Tryz.func11, Tryz.ntmps11
    go_wp2
    go_loopw [5] (fun s5 wr => ∃ k : Nat, k ≤ a.length ∧ s5 = .int .i64 k ∧ (∀ j : Nat, j < k → a[j]? = b[j]?) ∧ Below w.heap.size w wr) (fun s5 _ => a.length - (intOf s5).toNat)
    case atStart => exact ⟨0, by omega, rfl, fun j hj => absurd hj (by omega), Below.refl _ _⟩
    case round =>
      obtain ⟨k, hk, rfl, heq, hb⟩ := hrel
      have HEQ := Lib.hid heq
      have HB := Lib.hid hb
      clear heq
      by_cases hka : k < a.length
      · have hkI : (k : Int) < (a.length : Int) := by omega
        obtain ⟨b1, o1, x, rfl, -, hx, x0⟩ := IntS.at_ (RdS.below' H1.out hb hB1) hka
        obtain ⟨b2, o2, y, rfl, -, hy, y0⟩ := IntS.at_ (RdS.below' H2.out hb hB2) (k := k) (by have := HLE.out; omega)
        have HNE : Hid (x ≠ y → decide (a = b) = false) := fun h => by
          rw [decide_eq_false_iff_not]
          intro e
          subst e
          rw [hx] at hy
          cases hy
          exact h rfl
        have HNX : Hid (x = y → ∀ j : Nat, j < k + 1 → a[j]? = b[j]?) := fun h j hj => by
          rcases Nat.lt_or_eq_of_le (Nat.le_of_lt_succ hj) with hj | rfl
          · exact HEQ.out j hj
          · rw [hx, hy, h]
        clear hx hy hb
        by_cases e1 : x = y
        · have HR := Lib.hid (HNX.out e1)
          subst e1
          go_wp2_with fail
          go_quiet (fail)
          go_wp2
          go_roundw
          case rel => exact ⟨k + 1, by omega, by go_num, HR.out, below_drewN HB.out _⟩
          case measure => simp [intOf] <;> omega
        · have HR := Lib.hid (HNE.out (by simp [e1]))
          have f4 : (x == y) = false := by simpa using e1
          clear e1
          go_wp2_with fail
          go_quiet (fail)
          go_wp2
          go_ret
          exact ⟨ret_bool (by rw [HR.out]), below_drewN HB.out _⟩
      · have hkI : ¬ (k : Int) < (a.length : Int) := by omega
        have HR : Hid (decide (a = b) = true) := by
          rw [Hid, decide_eq_true_iff]
          apply List.ext_getElem?
          intro j
          by_cases hj : j < k
          · exact HEQ.out j hj
          · rw [List.getElem?_eq_none (by omega), List.getElem?_eq_none (by have := HLE.out; omega)]
        clear hb
        go_wp2
        go_ret
        exact ⟨ret_bool (by rw [HR.out]), HB.out⟩
  · have hlI : ((a.length : Int) == (b.length : Int)) = false := by simp; omega
    have HR : Hid (decide (a = b) = false) := by rw [Hid, decide_eq_false_iff_not]; intro e; exact hl (by rw [e])
    clear hl
    go_enter Tryz.func11, Tryz.ntmps11
    go_wp2
    go_ret
    exact ⟨ret_bool (by rw [HR.out]), Below.refl _ _⟩
end Go.Proofs.YtkjjojmidhjjdaaGreat
