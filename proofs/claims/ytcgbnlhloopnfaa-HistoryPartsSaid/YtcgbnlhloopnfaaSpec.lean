/- What the functions of layer 45 compute, on lists. Plain: no program is walked here. -/
import Derived.Test.YtcgbnlhloopnfaaWords
namespace Go.Proofs.Ytcgbnlhloopnfaa

def hitE (kind op : Int) (e : Ev) : Bool := e.kind == kind && e.op == op
/-- find, as a number -/
def findE (l : List Ev) (kind op : Int) (before : Nat) : Int := match (l.take before).findIdx? (hitE kind op) with | some i => (i : Int) | none => -1
def cutE (l : List Ev) (i k : Nat) : Bool := ((l.take k).drop i).any fun e => e.kind == 3
def callOk (e : Ev) : Bool :=
  if e.op < 0 ∨ e.reg < 0 ∨ e.val < 0 then false else if e.write then true else e.val == 0 && (!e.barrier || e.reg == 0)
def Ev.cut : Ev := ⟨3, 0, false, 0, 0, false⟩
def doneOk (e c : Ev) : Bool := e.write == c.write && e.barrier == c.barrier && e.reg == c.reg && ((!c.write && !c.barrier) || e.val == c.val)
def doneAt (l : List Ev) (i : Nat) (e : Ev) (k1 k2 : Int) : Bool :=
  if k1 < 0 then false
  else if 0 ≤ k2 then false
  else if cutE l k1.toNat i then false
  else match l[k1.toNat]? with | some c => doneOk e c | none => false
def evOk (l : List Ev) (i : Nat) (e : Ev) : Bool :=
  if e.kind = 3 then decide (e = Ev.cut)
  else if e.kind = 1 then callOk e && decide (findE l 1 e.op i < 0)
  else if e.kind = 2 then doneAt l i e (findE l 1 e.op i) (findE l 2 e.op i)
  else false
theorem doneAt_neg {l : List Ev} {i : Nat} {e : Ev} {k1 k2 : Int} (h : k1 < 0) : doneAt l i e k1 k2 = false := by unfold doneAt; rw [if_pos h]
theorem doneAt_two {l : List Ev} {i : Nat} {e : Ev} {k1 k2 : Int} (h2 : 0 ≤ k2) : doneAt l i e k1 k2 = false := by
  unfold doneAt
  by_cases h1 : k1 < 0
  · rw [if_pos h1]
  · rw [if_neg h1, if_pos h2]
theorem doneAt_at {l : List Ev} {i : Nat} {e c : Ev} {kn : Nat} {k2 : Int} (h2 : k2 < 0) (hc : l[kn]? = some c) : doneAt l i e kn k2 = (!cutE l kn i && doneOk e c) := by
  unfold doneAt
  rw [if_neg (by omega), if_neg (by omega), Int.toNat_natCast, hc]
  cases cutE l kn i <;> simp
def validTo (l : List Ev) (n : Nat) : Bool := ((l.take n).zipIdx).all fun p => evOk l p.2 p.1
def validL (l : List Ev) : Bool := validTo l l.length

theorem find_stop {l : List Ev} {kind op : Int} {k before : Nat} (hb : before ≤ l.length) (hk : k < before) {e : Ev} (he : l[k]? = some e) (hh : hitE kind op e = true) (hno : ∀ j e', j < k → l[j]? = some e' → hitE kind op e' = false) :
    findE l kind op before = k := by
  unfold findE
  have : (l.take before).findIdx? (hitE kind op) = some k := by
    rw [List.findIdx?_eq_some_iff_getElem]
    have hkl : k < l.length := by omega
    have hek : l[k] = e := by rw [List.getElem?_eq_getElem hkl] at he; exact Option.some.inj he
    refine ⟨by simp; omega, by simp [hek, hh], fun j hj => ?_⟩
    have := hno j l[j] hj (List.getElem?_eq_getElem (by omega))
    simp [this]
  rw [this]
theorem find_none {l : List Ev} {kind op : Int} {before : Nat} (hno : ∀ j e', j < before → l[j]? = some e' → hitE kind op e' = false) : findE l kind op before = -1 := by
  unfold findE
  have : (l.take before).findIdx? (hitE kind op) = none := by
    rw [List.findIdx?_eq_none_iff]
    intro x hx
    obtain ⟨j, hj, rfl⟩ := List.getElem_of_mem hx
    simp at hj
    exact hno j _ (by omega) (by simp)
  rw [this]
theorem findE_lt (l : List Ev) (kind op : Int) (before : Nat) : -1 ≤ findE l kind op before ∧ findE l kind op before < before ∧ findE l kind op before < l.length ∨ findE l kind op before = -1 := by
  unfold findE
  split
  · rename_i i h
    have := (List.findIdx?_eq_some_iff_getElem.1 h).1
    simp at this
    omega
  · exact .inr rfl
theorem cut_stop {l : List Ev} {i k n : Nat} (hk : k < n) (hik : i ≤ k) {e : Ev} (he : l[k]? = some e) (hh : e.kind = 3) : cutE l i n = true := by
  unfold cutE
  rw [List.any_eq_true]
  refine ⟨e, ?_, by simp [hh]⟩
  rw [List.mem_iff_getElem?]
  exact ⟨k - i, by rw [List.getElem?_drop, List.getElem?_take, if_pos (by omega)]; rw [show i + (k - i) = k by omega]; exact he⟩
theorem cut_none {l : List Ev} {i n : Nat} (hno : ∀ j e', i ≤ j → j < n → l[j]? = some e' → e'.kind ≠ 3) : cutE l i n = false := by
  unfold cutE
  rw [List.any_eq_false]
  intro e he
  rw [List.mem_iff_getElem?] at he
  obtain ⟨j, hj⟩ := he
  rw [List.getElem?_drop, List.getElem?_take] at hj
  split at hj
  · simpa using hno (i + j) e (by omega) (by omega) hj
  · cases hj
end Go.Proofs.Ytcgbnlhloopnfaa
