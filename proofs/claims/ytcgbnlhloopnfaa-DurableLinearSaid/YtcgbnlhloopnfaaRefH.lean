/- Walk of tegularef47's stale. -/
import Derived.Test.YtcgbnlhloopnfaaRefG
import Derived.Test.YtcgbnlhloopnfaaDurE
namespace Go.Proofs.Ytcgbnlhloopnfaa
open Go.RowKit

def zfind {α : Type} (p : α → Nat → Bool) (l : List α) : Option Nat := l.zipIdx.findIdx? fun q => p q.1 q.2
theorem zfind_stop {α : Type} {p : α → Nat → Bool} {l : List α} {k : Nat} {x : α} (hx : l[k]? = some x) (hp : p x k = true) (hno : ∀ j y, j < k → l[j]? = some y → p y j = false) : zfind p l = some k := by
  refine idxN_stop (x := (x, k)) (by rw [List.getElem?_zipIdx, hx]; simp) hp ?_
  intro j y hj hy
  rw [List.getElem?_zipIdx] at hy
  rcases hl : l[j]? with _ | z
  · rw [hl] at hy; cases hy
  · rw [hl] at hy
    cases hy
    simpa using hno j z hj hl
theorem zfind_none {α : Type} {p : α → Nat → Bool} {l : List α} (hno : ∀ j y, j < l.length → l[j]? = some y → p y j = false) : zfind p l = none := by
  refine idxN_none ?_
  intro j y hj hy
  rw [List.length_zipIdx] at hj
  rw [List.getElem?_zipIdx] at hy
  rcases hl : l[j]? with _ | z
  · rw [hl] at hy; cases hy
  · rw [hl] at hy
    cases hy
    simpa using hno j z hj hl

/-- what makes a write stale, but for the source's part `tl` -/
def staB (os : List Opr) (r : Opr) (si : Int) (tl : Opr → Bool) (o : Opr) (k : Nat) : Bool := o.write && o.reg == r.reg && !((k : Int) == si) && finR os k o r && tl o
/-- the source's part -/
def SrcT (os : List Opr) (si : Int) (tl : Opr → Bool) : Prop := (si = -1 ∧ tl = fun _ => true) ∨ ∃ (i : Nat) (so : Opr), si = i ∧ os[i]? = some so ∧ tl = fun o => precB so o || decide (so.era < o.era)

end Go.Proofs.Ytcgbnlhloopnfaa
