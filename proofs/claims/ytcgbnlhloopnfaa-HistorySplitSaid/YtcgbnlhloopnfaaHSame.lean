/- Walk of tegularef45's Same: two lists that are one. -/
import Derived.Test.YtcgbnlhloopnfaaHAwake
namespace Go.Proofs.Ytcgbnlhloopnfaa
open Go.RowKit

set_option maxHeartbeats 2000000 in
set_option maxRecDepth 100000 in
theorem same_any (l : List Ev) (A A' : Option Addr) (c c' B : Nat) (w : World) (h : EvS w B A l) (h' : EvS w B A' l) (hB : B ≤ w.heap.size) (hlen : l.length ≤ 1000000) :
    Calls Try.prog 8 #[.slice A l.length c, .slice A' l.length c'] w fun e w' => e = .returned (.bool true) ∧ Below w.heap.size w w' := by
  go_enter Try.func8, Try.ntmps8
  go_wp2
  go_loopw [5] (fun i wr => ∃ k : Nat, k ≤ l.length ∧ i = .int .i64 k ∧ Below w.heap.size w wr) (fun i _ => l.length - (intOf i).toNat)
  case atStart => exact ⟨0, by omega, rfl, Below.refl _ _⟩
  case round =>
    obtain ⟨k, hk, rfl, hb⟩ := hrel
    have hz := hb.size
    by_cases hlt : k < l.length
    · obtain ⟨b, off, e, rfl, hbB, he, c0, c1, c2, c3, c4, c5⟩ := EvS.at_ (h.below' hb hB) (k := k) hlt
      obtain ⟨b', off', e', rfl, hbB', he', d0, d1, d2, d3, d4, d5⟩ := EvS.at_ (h'.below' hb hB) (k := k) hlt
      rw [he] at he'
      obtain rfl := Option.some.inj he'
      have hbl : b < wr.heap.size := by omega
      have hbl' : b' < wr.heap.size := by omega
      have hkl : (k : Int) < (l.length : Int) := by omega
      obtain ⟨ek, eo, ew, er, ev, eb⟩ := e
      simp only at c0 c1 c2 c3 c4 c5 d0 d1 d2 d3 d4 d5
      clear he he'
      go_wp2
      go_quiet (fail)
      go_wp2
      go_roundw
      case rel => exact ⟨k + 1, by omega, by go_num, below_drewN hb _⟩
      case measure => simp [intOf]; omega
    · obtain rfl : k = l.length := by omega
      go_wp2
      go_ret
      exact ⟨rfl, hb⟩
end Go.Proofs.Ytcgbnlhloopnfaa
