/- The parse of a list that is laid event by event. Plain: no program is walked here. -/
import Derived.Test.YtcgbnlhloopnfaaParseSpec
namespace Go.Proofs.Ytcgbnlhloopnfaa

theorem findO_mem {os : List Opr} {x : Int} {o : Opr} (h : findO os x = some o) : o ∈ os ∧ o.id = x := by
  refine ⟨List.mem_of_find?_eq_some h, ?_⟩
  have := List.find?_some h
  simpa using this
theorem pStep_left {l r : List Ev} {k : Nat} {st : List Opr × Int} {e : Ev} (hk : k ≤ l.length) (h : ∀ o ∈ st.1, 0 ≤ o.call ∧ o.call < k) : pStep (l ++ r) k st e = pStep l k st e := by
  unfold pStep
  split
  · rfl
  · split
    · split
      · rfl
      · rename_i o ho
        have hm := h o (findO_mem ho).1
        unfold pDone
        rw [List.getElem?_append_left (by omega)]
    · rfl
theorem parseTo_left (l r : List Ev) (k : Nat) (hk : k ≤ l.length) : parseTo (l ++ r) k = parseTo l k := by
  induction k with
  | zero => rfl
  | succ k ih =>
    simp only [parseTo]
    rw [ih (by omega)]
    rcases hp : parseTo l k with _ | st
    · rfl
    · simp only
      rw [List.getElem?_append_left (by omega), List.getElem?_eq_getElem (by omega)]
      exact pStep_left (by omega) (PInv.to hp).call
def parseS (l : List Ev) : Option (List Opr × Int) := parseTo l l.length
theorem parseL_eq (l : List Ev) : parseL l = (parseS l).map (·.1) := rfl
theorem parseS_nil : parseS [] = some ([], 0) := rfl
theorem parseS_snoc {l : List Ev} {st : List Opr × Int} (e : Ev) (h : parseS l = some st) : parseS (l ++ [e]) = pStep l l.length st e := by
  have h1 : parseTo (l ++ [e]) l.length = some st := by rw [parseTo_left _ _ _ (Nat.le_refl _)]; exact h
  have h2 : (l ++ [e])[l.length]? = some e := by simp
  unfold parseS
  rw [show (l ++ [e]).length = l.length + 1 by simp, parseTo_at h1 h2]
  exact pStep_left (Nat.le_refl _) (PInv.to h).call
def callOf (o : Opr) : Ev := ⟨1, o.id, o.write, o.reg, o.val, o.barrier⟩
/-- an operation that was not answered lies in the list as its call -/
def PCall (l : List Ev) (os : List Opr) : Prop := ∀ o ∈ os, o.done < 0 → l[o.call.toNat]? = some (callOf o)
theorem pcall_step {l : List Ev} {k : Nat} {st st' : List Opr × Int} {e : Ev} (he : l[k]? = some e) (h : PCall l st.1) (hs : pStep l k st e = some st') : PCall l st'.1 := by
  unfold pStep at hs
  split at hs
  · rename_i h1
    split at hs
    · cases hs
    · split at hs
      · cases hs
        intro o ho hd
        rcases List.mem_append.1 ho with ho | ho
        · exact h o ho hd
        · simp only [List.mem_singleton] at ho
          subst ho
          simp only [Opr.of, Int.toNat_natCast, he, callOf]
          rw [← h1]
      · cases hs
  · split at hs
    · split at hs
      · cases hs
      · unfold pDone at hs
        split at hs
        · cases hs
        · split at hs
          · cases hs
          · split at hs
            · split at hs
              · cases hs
                intro o ho hd
                obtain ⟨o', ho', rfl⟩ := List.mem_map.1 ho
                unfold Opr.fin at hd ⊢
                split at hd
                · simp only at hd
                  omega
                · rename_i hne
                  rw [if_neg hne]
                  exact h o' ho' hd
              · cases hs
            · cases hs
    · split at hs
      · split at hs
        · cases hs
          exact h
        · cases hs
      · cases hs
theorem pcall_to {l : List Ev} {k : Nat} {st : List Opr × Int} (hk : k ≤ l.length) (h : parseTo l k = some st) : PCall l st.1 := by
  induction k generalizing st with
  | zero => simp [parseTo] at h; subst h; intro o ho; simp at ho
  | succ k ih =>
    simp only [parseTo] at h
    split at h
    · cases h
    · rename_i st0 h0
      have he : l[k]? = some l[k] := List.getElem?_eq_getElem (by omega)
      rw [he] at h
      exact pcall_step he (ih (by omega) h0) h
theorem parseS_call {l : List Ev} {st : List Opr × Int} {e : Ev} (h : parseS l = some st) (hf : findO st.1 e.op = none) (hk : e.kind = 1) (hp : properB e = true) :
    parseS (l ++ [e]) = some (st.1 ++ [Opr.of e st.2 l.length], st.2) := by
  rw [parseS_snoc e h]
  unfold pStep
  rw [if_pos hk, hf]
  simp only [hp, if_true]
theorem parseS_done {l : List Ev} {st : List Opr × Int} {e : Ev} {o : Opr} (h : parseS l = some st) (hf : findO st.1 e.op = some o) (hd : o.done < 0) (hera : o.era = st.2) (hk : e.kind = 2)
    (hw : e.write = o.write) (hr : e.reg = o.reg) (hb : e.barrier = o.barrier) (hv : (e.write = false ∧ e.barrier = false) ∨ e.val = o.val) :
    parseS (l ++ [e]) = some (st.1.map (Opr.fin e l.length), st.2) := by
  have hc := pcall_to (Nat.le_refl _) h o (findO_mem hf).1 hd
  have hid := (findO_mem hf).2
  rw [parseS_snoc e h]
  unfold pStep pDone
  rw [if_neg (by omega), if_pos hk, hf]
  simp only
  rw [if_neg (by omega), if_neg (fun hh => hh hera), hc]
  have : ansOk e (callOf o) = true := by
    unfold ansOk callOf
    rcases hv with ⟨h1, h2⟩ | h1
    · simp_all
    · simp_all
  simp only [this, if_true]
theorem parseS_cut {l : List Ev} {st : List Opr × Int} (h : parseS l = some st) : parseS (l ++ [Ev.cut]) = some (st.1, st.2 + 1) := by
  rw [parseS_snoc _ h]
  rfl
/-- what the parse leaves: the ids differ, calls lie below -/
theorem parseS_inv {l : List Ev} {st : List Opr × Int} (h : parseS l = some st) : PInv l l.length st := PInv.to h
end Go.Proofs.Ytcgbnlhloopnfaa
