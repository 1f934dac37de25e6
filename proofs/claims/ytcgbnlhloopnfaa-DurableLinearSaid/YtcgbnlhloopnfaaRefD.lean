/- Walks of tegularef47: read, precedes, source. -/
import Derived.Test.YtcgbnlhloopnfaaDurSpec
import Derived.Test.YtcgbnlhloopnfaaGMem
import Derived.BigQuiet
import Derived.Outline
namespace Go.Proofs.Ytcgbnlhloopnfaa
open Go.RowKit

theorem OpS.cells {w : World} {B b off k : Nat} {l : List Opr} {e : Opr} (h : OpS w B (some ⟨b, off, none⟩) l) (hk : l[k]? = some e) :
    w.cell? ⟨b, off + k * 8, none⟩ = some (.int .i64 e.id) ∧ w.cell? ⟨b, off + k * 8 + 1, none⟩ = some (.int .i64 e.reg) ∧ w.cell? ⟨b, off + k * 8 + 2, none⟩ = some (.int .i64 e.val) ∧
    w.cell? ⟨b, off + k * 8 + 3, none⟩ = some (.bool e.write) ∧ w.cell? ⟨b, off + k * 8 + 4, none⟩ = some (.bool e.barrier) ∧ w.cell? ⟨b, off + k * 8 + 5, none⟩ = some (.int .i64 e.era) ∧
    w.cell? ⟨b, off + k * 8 + 6, none⟩ = some (.int .i64 e.call) ∧ w.cell? ⟨b, off + k * 8 + 7, none⟩ = some (.int .i64 e.done) := by
  obtain ⟨b', off', e', hA, _, he', h0⟩ := OpS.at_ h (List.getElem?_eq_some_iff.1 hk).1
  cases hA
  rw [hk] at he'
  cases he'
  exact h0
def idxN : Option Nat → Int
  | some i => i
  | none => -1
theorem idxN_stop {α : Type} {p : α → Bool} {l : List α} {k : Nat} {x : α} (hx : l[k]? = some x) (hp : p x = true) (hno : ∀ j y, j < k → l[j]? = some y → p y = false) : l.findIdx? p = some k := by
  rw [List.findIdx?_eq_some_iff_getElem]
  have hk : k < l.length := (List.getElem?_eq_some_iff.1 hx).1
  have hel : l[k] = x := by rw [List.getElem?_eq_getElem hk] at hx; exact Option.some.inj hx
  exact ⟨hk, by rw [hel]; exact hp, fun j hj => by rw [hno j l[j] hj (List.getElem?_eq_getElem (by omega))]; simp⟩
theorem idxN_none {α : Type} {p : α → Bool} {l : List α} (hno : ∀ j y, j < l.length → l[j]? = some y → p y = false) : l.findIdx? p = none := by
  rw [List.findIdx?_eq_none_iff]
  intro o ho
  obtain ⟨j, hj, rfl⟩ := List.getElem_of_mem ho
  exact hno j _ hj (List.getElem?_eq_getElem hj)
theorem any_stop {α : Type} {p : α → Bool} {l : List α} {k : Nat} {x : α} (hx : l[k]? = some x) (hp : p x = true) : l.any p = true := List.any_eq_true.2 ⟨x, List.mem_of_getElem? hx, hp⟩
theorem any_none {α : Type} {p : α → Bool} {l : List α} (hno : ∀ j y, j < l.length → l[j]? = some y → p y = false) : l.any p = false := by
  rw [List.any_eq_false]
  intro o ho
  obtain ⟨j, hj, rfl⟩ := List.getElem_of_mem ho
  rw [hno j _ hj (List.getElem?_eq_getElem hj)]
  simp
theorem no_succ {α : Type} {p : α → Bool} {l : List α} {k : Nat} {x : α} (hx : l[k]? = some x) (hp : p x = false) (hno : ∀ j y, j < k → l[j]? = some y → p y = false) : ∀ j y, j < k + 1 → l[j]? = some y → p y = false := by
  intro j y hj hy
  rcases Nat.lt_or_eq_of_le (Nat.le_of_lt_succ hj) with hj' | rfl
  · exact hno j y hj' hy
  · rw [hx] at hy; cases hy; exact hp

end Go.Proofs.Ytcgbnlhloopnfaa
