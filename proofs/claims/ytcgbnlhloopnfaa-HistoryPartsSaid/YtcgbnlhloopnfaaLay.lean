/- What a call that lays a list of events answers; slices that a literal lays. Nothing of the program is walked here. -/
import Derived.Test.YtcgbnlhloopnfaaMem
import Derived.Test.YtcgbnlhloopnfaaSpec
namespace Go.Proofs.Ytcgbnlhloopnfaa
open Go.RowKit

theorem OwS.lit {w : World} {base size g n : Nat} {e : TypeId} {rows : List (List Value)} {cs : Array Value} (hs : ∀ r ∈ rows, r.length = size) (hh : w.heap[g]? = some (.cells cs e)) (hcs : cs.toList = rows.flatten) (hn : n = rows.length) (hm : n ≤ maxLen) (hb : base ≤ g) :
    OwS w base e size (.slice (some ⟨g, 0, none⟩) n n) rows := by
  subst hn
  have hl : rows.flatten.length = rows.length * size := flatten_length hs
  refine ⟨hs, hl, .inr ⟨g, rows.length, cs, rfl, hb, hh, Nat.le_refl _, hm, by rw [← Array.length_toList, hcs, hl], ?_⟩⟩
  rw [hcs, ← hl, List.take_length]

/-- what a helper that lays events answers -/
def LayE (w : World) (l : List Ev) (e : Ending) (w' : World) : Prop := ∃ v, e = .returned v ∧ OwS w' w.heap.size 56 6 v (l.map Ev.cells) ∧ Below w.heap.size w w'

theorem below_laid {w : World} {o : Obj} : Below w.heap.size w (w.alloc o) := (Below.refl _ _).alloc (Nat.le_refl _) _

theorem heap_third (w : World) (A B C : Obj) : (((w.alloc A).alloc B).alloc C).heap[w.heap.size + 1 + 1]? = some C := by
  have := heap_alloc_new ((w.alloc A).alloc B) C
  simpa using this
end Go.Proofs.Ytcgbnlhloopnfaa
