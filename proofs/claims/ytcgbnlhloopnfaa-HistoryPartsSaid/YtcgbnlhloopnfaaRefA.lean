/- Walks of tegularef45: find, cut, call. -/
import Derived.Test.YtcgbnlhloopnfaaSpec
import Derived.Deep.QuietTactic
import Derived.BigQuiet
import Derived.Outline
namespace Go.Proofs.Ytcgbnlhloopnfaa
open Go.RowKit

set_option maxHeartbeats 400000 in
theorem find_any (l : List Ev) (A : Option Addr) (c B : Nat) (kind op : Int) (before : Nat) (w : World) (h : EvS w B A l) (hb : before ≤ l.length) (hlen : l.length ≤ 1000000) :
    Calls Try.prog 63 #[.slice A l.length c, .int .i64 kind, .int .i64 op, .int .i64 before] w fun e w' => e = .returned (.int .i64 (findE l kind op before)) ∧ w = w' := by
  go_enter Try.func63, Try.ntmps63
  go_wp2
  go_loop [9] (fun i => ∃ k : Nat, k ≤ before ∧ i = .int .i64 k ∧ ∀ j e', j < k → l[j]? = some e' → hitE kind op e' = false) (fun i => before - (intOf i).toNat)
  case atStart => exact ⟨0, by omega, rfl, fun j _ hj => absurd hj (by omega)⟩
  case round =>
    obtain ⟨k, hk1, rfl, hno⟩ := hrel
    by_cases hlt : k < before
    · obtain ⟨b, off, e, rfl, hbB, he, c0, c1, -⟩ := h.at_ (k := k) (by omega)
      have HE := Lib.hid he
      have HN := Lib.hid hno
      clear he hno
      by_cases hh : hitE kind op e = true
      · have h1 : (e.kind == kind) = true := by simp [hitE] at hh; simp [hh.1]
        have h2 : (e.op == op) = true := by simp [hitE] at hh; simp [hh.2]
        have HH := Lib.hid hh
        clear hh
        go_wp2
        go_ret
        exact ⟨ret_int (find_stop hb hlt HE.out HH.out HN.out).symm, rfl⟩
      · have hf : hitE kind op e = false := by simpa using hh
        have HF := Lib.hid hf
        clear hh hf
        go_wp2
        all_goals first
          | (go_round
             case rel => exact ⟨k + 1, by omega, by go_num, fun j e' hj hje => by
               rcases Nat.lt_or_eq_of_le (Nat.le_of_lt_succ hj) with hj' | rfl
               · exact HN.out j e' hj' hje
               · have := HE.out; rw [this] at hje; cases hje; exact HF.out⟩
             case measure => simp [intOf]; omega)
          | (exfalso; have := HF.out; simp_all [hitE])
    · obtain rfl : k = before := by omega
      have HN := Lib.hid hno
      clear hno
      go_wp2
      go_ret
      exact ⟨ret_int (find_none HN.out).symm, rfl⟩

set_option maxHeartbeats 400000 in
theorem cut_any (l : List Ev) (A : Option Addr) (c B : Nat) (i n : Nat) (w : World) (h : EvS w B A l) (hi : i ≤ n) (hb : n ≤ l.length) (hlen : l.length ≤ 1000000) :
    Calls Try.prog 45 #[.slice A l.length c, .int .i64 i, .int .i64 n] w fun e w' => e = .returned (.bool (cutE l i n)) ∧ w = w' := by
  go_enter Try.func45, Try.ntmps45
  go_wp2
  go_loop [7] (fun x => ∃ k : Nat, i ≤ k ∧ k ≤ n ∧ x = .int .i64 k ∧ ∀ j e', i ≤ j → j < k → l[j]? = some e' → e'.kind ≠ 3) (fun x => n - (intOf x).toNat)
  case atStart => exact ⟨i, by omega, hi, rfl, fun j _ hj hj' => absurd hj (by omega)⟩
  case round =>
    obtain ⟨k, hk0, hk1, rfl, hno⟩ := hrel
    by_cases hlt : k < n
    · obtain ⟨b, off, e, rfl, hbB, he, c0, -⟩ := h.at_ (k := k) (by omega)
      have HE := Lib.hid he
      have HN := Lib.hid hno
      clear he hno
      by_cases hh : e.kind = 3
      · have h1 : (e.kind == 3) = true := by simp [hh]
        have HH := Lib.hid hh
        clear hh
        go_wp2
        go_ret
        exact ⟨ret_bool (cut_stop hlt hk0 HE.out HH.out).symm, rfl⟩
      · have h1 : (e.kind == 3) = false := by simp [hh]
        have HH := Lib.hid hh
        clear hh
        go_wp2
        go_round
        case rel => exact ⟨k + 1, by omega, by omega, by go_num, fun j e' hj0 hj hje => by
               rcases Nat.lt_or_eq_of_le (Nat.le_of_lt_succ hj) with hj' | rfl
               · exact HN.out j e' hj0 hj' hje
               · have := HE.out; rw [this] at hje; cases hje; exact HH.out⟩
        case measure => simp [intOf]; omega
    · obtain rfl : k = n := by omega
      have HN := Lib.hid hno
      clear hno
      go_wp2
      go_ret
      exact ⟨ret_bool (cut_none HN.out).symm, rfl⟩

set_option maxHeartbeats 400000 in
theorem call_any (e : Ev) (w : World) :
    Calls Try.prog 47 #[e.agg] w fun r w' => r = .returned (.bool (callOk e)) ∧ Below w.heap.size w w' := by
  unfold Ev.agg
  go_enter Try.func47, Try.ntmps47
  go_wp2
  all_goals
    go_ret
    exact ⟨ret_bool (by simp_all [callOk]; try omega), (Below.refl _ _).alloc (Nat.le_refl _) _⟩
end Go.Proofs.Ytcgbnlhloopnfaa
