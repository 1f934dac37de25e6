/- The operations of a valid history, on lists. -/
import Derived.Test.YtcgbnlhloopnfaaSpec
namespace Go.Proofs.Ytcgbnlhloopnfaa

/-! ### the operations of a valid history -/
def Opr.of (e : Ev) (era : Int) (i : Nat) : Opr := ⟨e.op, e.reg, e.val, e.write, e.barrier, era, i, -1⟩
def Opr.fin (e : Ev) (i : Nat) (o : Opr) : Opr := if o.id = e.op then { o with val := e.val, done := i } else o
def rawStep (i : Nat) (st : List Opr × Int) (e : Ev) : List Opr × Int :=
  if e.kind = 3 then (st.1, st.2 + 1)
  else if e.kind = 1 then (st.1 ++ [Opr.of e st.2 i], st.2)
  else (st.1.map (Opr.fin e i), st.2)
def rawTo (l : List Ev) : Nat → List Opr × Int
  | 0 => ([], 0)
  | k + 1 => match l[k]? with | some e => rawStep k (rawTo l k) e | none => rawTo l k
def rawOps (l : List Ev) : List Opr := (rawTo l l.length).1
theorem rawTo_succ {l : List Ev} {k : Nat} {e : Ev} (h : l[k]? = some e) : rawTo l (k + 1) = rawStep k (rawTo l k) e := by
  simp only [rawTo, h]
theorem rawTo_bd (l : List Ev) (k : Nat) : (rawTo l k).1.length ≤ k ∧ 0 ≤ (rawTo l k).2 ∧ (rawTo l k).2 ≤ k := by
  induction k with
  | zero => simp [rawTo]
  | succ k ih =>
    simp only [rawTo]
    split
    · simp only [rawStep]
      split
      · simp; omega
      · split
        · simp; omega
        · simp; omega
    · omega
end Go.Proofs.Ytcgbnlhloopnfaa
