/- What history.parse computes, on lists. -/
import Derived.Test.YtcgbnlhloopnfaaSpecB
namespace Go.Proofs.Ytcgbnlhloopnfaa
def flushB (e : Ev) : Bool := e.barrier && !e.write
def properB (e : Ev) : Bool :=
  if e.op < 0 ∨ e.reg < 0 ∨ e.val < 0 then false
  else if flushB e then e.reg == 0 && e.val == 0
  else e.write || e.val == 0
def ansOk (e c : Ev) : Bool := e.op == c.op && e.write == c.write && e.reg == c.reg && ((!e.write && !e.barrier) || e.val == c.val) && e.barrier == c.barrier
def findO (os : List Opr) (x : Int) : Option Opr := os.find? (fun o => o.id == x)
def pDone (l : List Ev) (i : Nat) (st : List Opr × Int) (e : Ev) (o : Opr) : Option (List Opr × Int) :=
  if 0 ≤ o.done then none else if o.era ≠ st.2 then none
  else match l[o.call.toNat]? with
    | some c => if ansOk e c then some (st.1.map (Opr.fin e i), st.2) else none
    | none => none
theorem pDone_done {l : List Ev} {i : Nat} {st : List Opr × Int} {e : Ev} {o : Opr} (h : 0 ≤ o.done) : pDone l i st e o = none := by unfold pDone; rw [if_pos h]
theorem pDone_era {l : List Ev} {i : Nat} {st : List Opr × Int} {e : Ev} {o : Opr} (h : o.era ≠ st.2) : pDone l i st e o = none := by
  unfold pDone
  by_cases hd : 0 ≤ o.done
  · rw [if_pos hd]
  · rw [if_neg hd, if_pos h]
theorem pDone_at {l : List Ev} {i : Nat} {st : List Opr × Int} {e c : Ev} {o : Opr} {cn : Nat} (h : ¬ 0 ≤ o.done) (h2 : o.era = st.2) (hcn : o.call = cn) (hc : l[cn]? = some c) :
    pDone l i st e o = if ansOk e c then some (st.1.map (Opr.fin e i), st.2) else none := by
  unfold pDone
  rw [if_neg h, if_neg (fun hh => hh h2), hcn, Int.toNat_natCast, hc]
def pStep (l : List Ev) (i : Nat) (st : List Opr × Int) (e : Ev) : Option (List Opr × Int) :=
  if e.kind = 1 then
    match findO st.1 e.op with
    | some _ => none
    | none => if properB e then some (st.1 ++ [Opr.of e st.2 i], st.2) else none
  else if e.kind = 2 then
    match findO st.1 e.op with
    | none => none
    | some o => pDone l i st e o
  else if e.kind = 3 then if e = Ev.cut then some (st.1, st.2 + 1) else none
  else none
def parseTo (l : List Ev) : Nat → Option (List Opr × Int)
  | 0 => some ([], 0)
  | k + 1 => match parseTo l k with
    | none => none
    | some st => match l[k]? with | some e => pStep l k st e | none => some st
def parseL (l : List Ev) : Option (List Opr) := (parseTo l l.length).map (·.1)
theorem parseTo_none {l : List Ev} {k n : Nat} (h : parseTo l k = none) (hkn : k ≤ n) : parseTo l n = none := by
  induction n with
  | zero => obtain rfl : k = 0 := by omega
            exact h
  | succ n ih =>
    rcases Nat.lt_or_eq_of_le hkn with h1 | rfl
    · simp only [parseTo, ih (by omega)]
    · exact h
theorem parseTo_at {l : List Ev} {k : Nat} {st : List Opr × Int} {e : Ev} (h : parseTo l k = some st) (he : l[k]? = some e) : parseTo l (k + 1) = pStep l k st e := by
  simp only [parseTo, h, he]
theorem parseL_none {l : List Ev} {k : Nat} {st : List Opr × Int} {e : Ev} (h : parseTo l k = some st) (he : l[k]? = some e) (hp : pStep l k st e = none) : parseL l = none := by
  have hk : k < l.length := (List.getElem?_eq_some_iff.1 he).1
  unfold parseL
  rw [parseTo_none (k := k + 1) ((parseTo_at h he).trans hp) (by omega)]
  rfl
/-- what a state of the parse satisfies -/
structure PInv (l : List Ev) (k : Nat) (st : List Opr × Int) : Prop where
  len : st.1.length ≤ k
  era0 : 0 ≤ st.2
  erak : st.2 ≤ k
  ids : (st.1.map (·.id)).Nodup
  call : ∀ o ∈ st.1, 0 ≤ o.call ∧ o.call < k
theorem fin_id (e : Ev) (i : Nat) (o : Opr) : (Opr.fin e i o).id = o.id := by unfold Opr.fin; split <;> rfl
theorem fin_call (e : Ev) (i : Nat) (o : Opr) : (Opr.fin e i o).call = o.call := by unfold Opr.fin; split <;> rfl
theorem findO_none {os : List Opr} {x : Int} (h : findO os x = none) : ∀ o ∈ os, o.id ≠ x := by
  intro o ho
  have := List.find?_eq_none.1 h o ho
  simpa using this
theorem PInv.step {l : List Ev} {k : Nat} {st st' : List Opr × Int} {e : Ev} (h : PInv l k st) (hs : pStep l k st e = some st') : PInv l (k + 1) st' := by
  obtain ⟨h1, h2, h3, h4, h5⟩ := h
  unfold pStep at hs
  split at hs
  · split at hs
    · cases hs
    · rename_i hf
      split at hs
      · cases hs
        refine ⟨by simp; omega, h2, by simp; omega, ?_, ?_⟩
        · simp only [List.map_append, List.map_cons, List.map_nil]
          rw [List.nodup_append]
          refine ⟨h4, by simp, ?_⟩
          intro a ha b hb
          simp [Opr.of] at hb
          subst hb
          obtain ⟨o, ho, rfl⟩ := List.mem_map.1 ha
          exact findO_none hf o ho
        · intro o ho
          rcases List.mem_append.1 ho with ho | ho
          · have := h5 o ho; omega
          · simp [Opr.of] at ho; subst ho; simp; omega
      · cases hs
  · split at hs
    · split at hs
      · cases hs
      · unfold pDone at hs
        split at hs
        · cases hs
        · split at hs
          · cases hs
          · split at hs
            · split at hs
              · cases hs
                refine ⟨by simp; omega, h2, by simp; omega, ?_, ?_⟩
                · rw [List.map_map]
                  have : ((fun x => x.id) ∘ Opr.fin e k) = (fun x => x.id) := by funext o; exact fin_id e k o
                  rw [this]; exact h4
                · intro o ho
                  obtain ⟨o', ho', rfl⟩ := List.mem_map.1 ho
                  rw [fin_call]
                  have := h5 o' ho'; omega
              · cases hs
            · cases hs
    · split at hs
      · split at hs
        · cases hs
          exact ⟨by simp; omega, by simp; omega, by simp; omega, h4, fun o ho => by have := h5 o ho; omega⟩
        · cases hs
      · cases hs
theorem PInv.to {l : List Ev} {k : Nat} {st : List Opr × Int} (h : parseTo l k = some st) : PInv l k st := by
  induction k generalizing st with
  | zero => simp [parseTo] at h; subst h; exact ⟨by simp, by simp, by simp, by simp, by simp⟩
  | succ k ih =>
    simp only [parseTo] at h
    split at h
    · cases h
    · rename_i st0 h0
      split at h
      · exact (ih h0).step h
      · cases h
        have := ih h0
        exact ⟨by have := this.len; omega, this.era0, by have := this.erak; omega, this.ids, fun o ho => by have := this.call o ho; omega⟩
theorem cut_of {e : Ev} (h3 : e.kind = 3) (h1 : e.op = 0) (h2 : e.write = false) (h4 : e.reg = 0) (h5 : e.val = 0) (h6 : e.barrier = false) : e = Ev.cut := by
  obtain ⟨a, b, c, d, f, g⟩ := e
  simp_all [Ev.cut]
end Go.Proofs.Ytcgbnlhloopnfaa
