/- The library's sort on a slice of the call's own, and Pending without premise. -/
import Derived.Test.YtcgbnlhloopnfaaPendB
import Derived.Test.YtcgbnlhloopnfaaShelf
import Derived.Sort.OwnSortedInts
namespace Go.Proofs.Ytcgbnlhloopnfaa
open Go.RowKit Go.Sort

theorem sort_ok : SortOk := by
  intro ks v base w h hn
  rcases h.2.2 with ⟨rfl, h0⟩ | ⟨g, cap, cur, rfl, hb, hh, hnc, hcm, hsz, ht⟩
  · have hk : ks = [] := by cases ks with | nil => rfl | cons => simp at h0
    subst hk
    refine (Try.slices_Sort_int_none none 0 w).mono ?_
    rintro e w' ⟨rfl, rfl⟩
    exact ⟨rfl, [], List.Perm.refl _, List.Pairwise.nil, h, World.grownBy.refl _ _⟩
  · rw [List.length_map] at hnc ⊢
    have hfl : (ks.map icell).flatten = ks.map (Value.int .i64) := by
      clear h ht hnc hsz hn
      induction ks with
      | nil => rfl
      | cons x xs ih => simp [icell] at ih ⊢; exact ih
    rw [hfl, List.length_map, Nat.mul_one] at ht
    have hgl : g < w.heap.size := (Array.getElem?_eq_some_iff.1 hh).1
    refine (Try.slices_Sort_int g 0 cap ks w (holds_of_blockI hh ht) hgl (by omega)).mono ?_
    rintro e w' ⟨rfl, n, os, rfl⟩
    have hp := List.mergeSort_perm ks (fun x y => decide (x ≤ y))
    have hpw := List.pairwise_mergeSort (le := fun x y : Int => decide (x ≤ y)) (fun a b c h1 h2 => by simp at *; omega) (fun a b => by simp; omega) ks
    refine ⟨rfl, _, hp, hpw.imp fun h => by simpa using h, ?_, grownBy_sortedI _⟩
    have := ownsRow_sortedI (w := w) (n := n) (os := os) (base := base) (cap := cap) (ss := ks) (ts := ks.mergeSort fun x y => decide (x ≤ y)) hp.length_eq hb hh hnc hcm hsz
    generalize (ks.mergeSort fun x y => decide (x ≤ y)) = ts at *
    have hfl2 : (ts.map icell).flatten = ts.map (Value.int .i64) := by
      clear this hp hpw
      induction ts with
      | nil => rfl
      | cons x xs ih => simp [icell] at ih ⊢; exact ih
    refine ⟨fun r hr => ?_, ?_⟩
    · obtain ⟨x, _, rfl⟩ := List.mem_map.1 hr
      rfl
    · rw [hfl2, List.length_map, hp.length_eq]
      exact this

theorem pending_any (l : List Ev) (A : Option Addr) (c B : Nat) (w : World) (h : EvS w B A l) (hB : B ≤ w.heap.size) (hlen : l.length ≤ 1000000) (hwf : WfOp l) (os : List Opr) (hos : parseL l = some os) :
    Calls Try.prog 16 #[.slice A l.length c] w (PendSome w (pendI os (cutsN l l.length))) := pending_some sort_ok l A c B w h hB hlen hwf os hos
end Go.Proofs.Ytcgbnlhloopnfaa
