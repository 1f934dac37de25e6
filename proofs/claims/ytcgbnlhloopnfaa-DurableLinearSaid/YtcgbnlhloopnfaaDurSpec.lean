/- What the functions of layer 47 compute, on lists of operations. -/
import Derived.Test.YtcgbnlhloopnfaaGPln
namespace Go.Proofs.Ytcgbnlhloopnfaa
def ansB (o : Opr) : Bool := !o.write && !o.barrier && decide (0 ≤ o.done)
def precB (a b : Opr) : Bool := decide (0 ≤ a.done) && decide (a.done < b.call)
def isSrc (r v : Int) (w : Opr) : Bool := w.write && w.reg == r && w.val == v
def srcO (os : List Opr) (r v : Int) : Option Nat := os.findIdx? (isSrc r v)
def srcOp (os : List Opr) (o : Opr) : Option Opr := os.find? (isSrc o.reg o.val)
def rule1 (w o : Opr) : Bool := o.barrier && decide (0 ≤ o.done) && o.era == w.era && precB w o
def rule2 (os : List Opr) (w o : Opr) : Bool :=
  if ansB o then match srcOp os o with
    | none => false
    | some s => s.era == w.era && decide (s.era < o.era) && (s.id == w.id || precB w s)
  else false
def certB (os : List Opr) (w : Opr) : Bool :=
  if w.done < 0 then false else if w.barrier then true else os.any (rule1 w) || os.any (rule2 os w)
def finB (os : List Opr) (w r : Opr) : Bool := decide (0 ≤ w.done) && decide (w.done < r.call) && (w.era == r.era || certB os w)
def hides (os : List Opr) (s : Option Opr) (r w : Opr) : Bool :=
  w.write && w.reg == r.reg && (match s with | none => true | some s => precB s w || decide (s.era < w.era)) && finB os w r
structure Flt where
  kind : Int
  read : Int
  by_ : Int
  deriving DecidableEq
def Flt.cells (f : Flt) : List Value := [.int .i64 f.kind, .int .i64 f.read, .int .i64 f.by_]
def judgeO (os : List Opr) (r : Opr) : Option Flt :=
  match srcOp os r with
  | none => if r.val ≠ 0 then some ⟨1, r.id, -1⟩ else (os.find? (hides os none r)).map fun w => ⟨3, r.id, w.id⟩
  | some s => if r.done < s.call then some ⟨2, r.id, s.id⟩ else (os.find? (hides os (some s) r)).map fun w => ⟨3, r.id, w.id⟩
def checkO (os : List Opr) : List Flt := os.filterMap fun r => if ansB r then judgeO os r else none
/-- the writes up to a place have positive values, each of a register once -/
def tracTo (os : List Opr) (k : Nat) : Bool := ((os.take k).zipIdx).all fun p => !p.1.write || (decide (1 ≤ p.1.val) && !(os.take p.2).any (isSrc p.1.reg p.1.val))
def tracO (os : List Opr) : Bool := tracTo os os.length
theorem tracTo_succ {os : List Opr} {k : Nat} {o : Opr} (h : os[k]? = some o) : tracTo os (k + 1) = (tracTo os k && (!o.write || (decide (1 ≤ o.val) && !(os.take k).any (isSrc o.reg o.val)))) := by
  unfold tracTo
  have hk : k < os.length := (List.getElem?_eq_some_iff.1 h).1
  have ht : os.take (k + 1) = os.take k ++ [o] := by rw [List.take_add_one, h]; rfl
  rw [ht, List.zipIdx_append, List.all_append]
  simp [Nat.min_eq_left (Nat.le_of_lt hk)]
theorem tracTo_mono {os : List Opr} {k n : Nat} (h : tracTo os k = false) (hkn : k ≤ n) (hn : n ≤ os.length) : tracTo os n = false := by
  induction n with
  | zero => obtain rfl : k = 0 := by omega
            exact h
  | succ n ih =>
    rcases Nat.lt_or_eq_of_le hkn with h1 | rfl
    · rw [tracTo_succ (List.getElem?_eq_getElem (show n < os.length by omega)), ih (by omega) (by omega)]
      rfl
    · exact h
end Go.Proofs.Ytcgbnlhloopnfaa
