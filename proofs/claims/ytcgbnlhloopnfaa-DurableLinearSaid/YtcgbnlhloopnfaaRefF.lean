/- Walk of tegularef47's survives. -/
import Derived.Test.YtcgbnlhloopnfaaRefE
import Derived.Test.YtcgbnlhloopnfaaDurB
namespace Go.Proofs.Ytcgbnlhloopnfaa
open Go.RowKit

theorem boxR {w : World} {x : Nat} {o : Opr} (h : w.heap[x]? = some (.cells o.cells.toArray 72)) :
    w.cell? ⟨x, 0, none⟩ = some (.int .i64 o.id) ∧ w.cell? ⟨x, 1, none⟩ = some (.int .i64 o.reg) ∧ w.cell? ⟨x, 2, none⟩ = some (.int .i64 o.val) ∧ w.cell? ⟨x, 3, none⟩ = some (.bool o.write) ∧
    w.cell? ⟨x, 4, none⟩ = some (.bool o.barrier) ∧ w.cell? ⟨x, 5, none⟩ = some (.int .i64 o.era) ∧ w.cell? ⟨x, 6, none⟩ = some (.int .i64 o.call) ∧ w.cell? ⟨x, 7, none⟩ = some (.int .i64 o.done) := by
  refine ⟨?_, ?_, ?_, ?_, ?_, ?_, ?_, ?_⟩ <;> rw [cell_of_row _ _ _ _ _ _ h] <;> rfl
theorem zany_stop {α : Type} {p : α → Nat → Bool} {l : List α} {k : Nat} {x : α} (hx : l[k]? = some x) (hp : p x k = true) : (l.zipIdx.any fun q => p q.1 q.2) = true :=
  List.any_eq_true.2 ⟨(x, k), List.mem_of_getElem? (i := k) (by rw [List.getElem?_zipIdx, hx]; simp), hp⟩
theorem zany_none {α : Type} {p : α → Nat → Bool} {l : List α} (hno : ∀ j y, j < l.length → l[j]? = some y → p y j = false) : (l.zipIdx.any fun q => p q.1 q.2) = false := by
  rw [List.any_eq_false]
  intro o ho
  obtain ⟨j, hj, rfl⟩ := List.getElem_of_mem ho
  rw [List.length_zipIdx] at hj
  rw [List.getElem_zipIdx]
  rw [show p (l[j], 0 + j).1 (l[j], 0 + j).2 = false by simpa using hno j l[j] hj (List.getElem?_eq_getElem hj)]
  simp
theorem zno_succ {α : Type} {p : α → Nat → Bool} {l : List α} {k : Nat} {x : α} (hx : l[k]? = some x) (hp : p x k = false) (hno : ∀ j y, j < k → l[j]? = some y → p y j = false) : ∀ j y, j < k + 1 → l[j]? = some y → p y j = false := by
  intro j y hj hy
  rcases Nat.lt_or_eq_of_le (Nat.le_of_lt_succ hj) with hj' | rfl
  · exact hno j y hj' hy
  · rw [hx] at hy; cases hy; exact hp

def seenA (os : List Opr) (v : Nat) (era : Int) : Bool := os.any (seenB os v era)
def survI (os : List Opr) (v o : Opr) (k : Nat) : Bool := o.era == v.era && precB v o && ((o.barrier && decide (0 ≤ o.done)) || (o.write && seenA os k o.era))
def survR (os : List Opr) (v : Nat) (ov : Opr) : Bool := decide (0 ≤ ov.done) && (ov.barrier || seenA os v ov.era || os.zipIdx.any fun q => survI os ov q.1 q.2)

end Go.Proofs.Ytcgbnlhloopnfaa
