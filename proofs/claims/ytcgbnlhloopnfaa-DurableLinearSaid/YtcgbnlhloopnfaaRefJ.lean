/- Walk of tegularef47's Check. -/
import Derived.Test.YtcgbnlhloopnfaaRefI
import Derived.Test.YtcgbnlhloopnfaaDurH
import Derived.Test.YtcgbnlhloopnfaaGMem
namespace Go.Proofs.Ytcgbnlhloopnfaa
open Go.RowKit

theorem zfind_get {α : Type} {p : α → Nat → Bool} {l : List α} {k : Nat} (h : zfind p l = some k) : ∃ x, l[k]? = some x := by
  unfold zfind at h
  rw [List.findIdx?_eq_some_iff_getElem] at h
  obtain ⟨hk, -⟩ := h
  rw [List.length_zipIdx] at hk
  exact ⟨l[k], List.getElem?_eq_getElem hk⟩
theorem srcO_get {os : List Opr} {r v : Int} {k : Nat} (h : srcO os r v = some k) : ∃ x, os[k]? = some x := by
  unfold srcO at h
  rw [List.findIdx?_eq_some_iff_getElem] at h
  obtain ⟨hk, -⟩ := h
  exact ⟨os[k], List.getElem?_eq_getElem hk⟩
def staleF (os : List Opr) (r : Opr) (si : Int) (tl : Opr → Bool) : Option Flt := (zfind (staB os r si tl) os).bind fun k => (os[k]?).map fun o => ⟨3, r.id, o.id⟩
def rjudge (os : List Opr) (r : Opr) : Option Flt :=
  match srcO os r.reg r.val with
  | none => if r.val ≠ 0 then some ⟨1, r.id, -1⟩ else staleF os r (-1) (fun _ => true)
  | some i => match os[i]? with
    | none => none
    | some so => if r.done < so.call then some ⟨2, r.id, so.id⟩ else staleF os r i (fun o => precB so o || decide (so.era < o.era))
def rfltOf (os : List Opr) (r : Opr) : Option Flt := if ansB r then rjudge os r else none
def rcheckD (l : List Ev) : Option (List Flt) := if rtraceD l then some ((rawOps l).filterMap (rfltOf (rawOps l))) else none
def RNone (w : World) (e : Ending) (w' : World) : Prop := e = .returned (.tuple #[.slice none 0 0, .int .i64 1]) ∧ Below w.heap.size w w'
end Go.Proofs.Ytcgbnlhloopnfaa
