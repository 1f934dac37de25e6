/- A table of pairs in memory; walk of tegularef06.Has. -/
import Derived.Test.YtjgjofepedcfnaaGreatSpS
namespace Go.Proofs.YtjgjofepedcfnaaGreat
open Go.RowKit
theorem prodTo_len (l : List Nat) (i k : Nat) (_hi : i ≤ l.length) (hk : k ≤ l.length) : (prodTo l i k).length ≤ (i + 1) * l.length := by
 unfold prodTo
 rw [List.length_append, List.length_map, List.length_take, List.length_flatMap]
 have : ∀ m, ((l.take m).map fun x => (l.map fun y => (x, y)).length).sum ≤ m * l.length := by
  intro m
  have e : ((l.take m).map fun x => (l.map fun y => (x, y)).length) = (l.take m).map fun _ => l.length := by simp
  rw [e, List.map_const', List.sum_replicate_nat]
  exact Nat.mul_le_mul_right _ (by simp; omega)
 have h1 := this i
 rw [Nat.succ_mul]
 omega
theorem fold_bd {l : List Nat} {i k : Nat} (f : Nat → Nat → Nat) (a b : Nat) (hi : i ≤ l.length) (hk : k ≤ l.length) : (prodTo l i k).foldl incF f a b ≤ f a b + (i + 1) * l.length := by
 rw [fold_inc]
 have := List.count_le_length (l := prodTo l i k) (a := (a, b))
 have := prodTo_len l i k hi hk
 omega
def PairV (w : World) (D : Nat) (t : TypeId) (f : Nat → Nat → Nat) : Prop := ∃ cs : Array Value, w.heap[D]? = some (.cells cs t) ∧ cs.size = 3600 ∧ ∀ a b, a < 60 → b < 60 → cs[a * 60 + b]? = some (.int .i64 (f a b : Nat))
section
variable {w w' : World} {D : Nat} {t : TypeId} {f : Nat → Nat → Nat}
theorem PairV.cell (h : PairV w D t f) {a b : Nat} (ha : a < 60) (hb : b < 60) : w.cell? ⟨D, a * 60 + b, none⟩ = some (.int .i64 (f a b : Nat)) ∧ w.frozen? ⟨D, a * 60 + b, none⟩ = false := by
 obtain ⟨cs, h1, h2, h3⟩ := h
 exact ⟨by rw [cell_of_row _ _ _ _ _ _ h1]; exact h3 a b ha hb, frozen_of_row _ _ _ _ _ h1⟩
theorem PairV.inc (h : PairV w D t f) {a b : Nat} (ha : a < 60) (hb : b < 60) : PairV (w.setCell ⟨D, a * 60 + b, none⟩ (.int .i64 ((f a b + 1 : Nat) : Int))) D t (incF f (a, b)) := by
 obtain ⟨cs, h1, h2, h3⟩ := h
 refine ⟨_, heap_setCell_same w D _ cs t _ h1, by simp [h2], fun x y hx hy => ?_⟩
 rw [Array.getElem?_setIfInBounds]
 unfold incF
 by_cases e : a * 60 + b = x * 60 + y
 ·obtain ⟨rfl, rfl⟩ : x = a ∧ y = b := by omega
  rw [if_pos rfl, if_pos (by omega), if_pos ⟨rfl, rfl⟩]
 ·rw [if_neg e, if_neg (by intro ⟨e1, e2⟩; exact e (by rw [e1, e2])), h3 x y hx hy]
end
set_option maxHeartbeats 2000000 in
theorem has7_any {l : List Nat} {x B c : Nat} {A : Option Addr} (w : World) (h : IntS w B A (nInts l)) (hl : l.length ≤ 1000000) :
  Calls Tryz.prog 152 #[.slice A l.length c, .int .i64 (x : Int)] w fun r w' => r = .returned (.bool (l.contains x)) ∧ w' = w := by
 have HI := Lib.hid h
 clear h
 go_enter Tryz.func152, Tryz.ntmps152
 go_wp2
 go_loopw [5] (fun s wr => ∃ k : Nat, k ≤ l.length ∧ s = .int .i64 k ∧ (∀ j : Nat, j < k → l[j]? ≠ some x) ∧ wr = w) (fun s _ => l.length - (intOf s).toNat)
 case atStart => exact ⟨0, by omega, rfl, fun j hj => absurd hj (by omega), rfl⟩
 case round =>
  obtain ⟨k, hk, rfl, hno, rfl⟩ := hrel
  by_cases hlt : k < l.length
  ·have hkl : (k : Int) < (l.length : Int) := by omega
   obtain ⟨y, hy⟩ : ∃ y, l[k]? = some y := ⟨l[k], List.getElem?_eq_getElem hlt⟩
   obtain ⟨b, off, rfl, -, c0⟩ := nints_at HI.out hy
   by_cases hyx : y = x
   ·have hI : ((y : Int) == (x : Int)) = true := by simp [hyx]
    have HF : Hid (l.contains x = true) := by
     unfold Hid
     subst hyx
     simpa using List.mem_of_getElem? hy
    clear hno hy hyx
    go_wp2
    go_ret
    exact ⟨ret_bool (by rw [HF.out]), rfl⟩
   ·have hI : ((y : Int) == (x : Int)) = false := by simp; omega
    have HN : Hid (∀ j : Nat, j < k + 1 → l[j]? ≠ some x) := by
     intro j hj
     rcases Nat.lt_or_eq_of_le (Nat.le_of_lt_succ hj) with h | rfl
     ·exact hno j h
     ·rw [hy]; intro e; cases e; exact hyx rfl
    clear hno hy hyx
    go_wp2
    go_roundw
    case rel => exact ⟨k + 1, by omega, by go_num, HN.out, trivial⟩
    case measure => simp [intOf] <;> omega
  ·obtain rfl : k = l.length := by omega
   have HF : Hid (l.contains x = false) := by
    unfold Hid
    rw [Bool.eq_false_iff]
    intro hc
    obtain ⟨j, hj, he⟩ := List.mem_iff_getElem.1 (by simpa using hc)
    exact hno j hj (by rw [List.getElem?_eq_getElem hj, he])
   clear hno
   go_wp2
   go_ret
   exact ⟨ret_bool (by rw [HF.out]), rfl⟩
end Go.Proofs.YtjgjofepedcfnaaGreat
