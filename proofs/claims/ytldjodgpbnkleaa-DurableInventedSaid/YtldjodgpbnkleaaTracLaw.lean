/- When operations are traceable: writes of value id + 1, ids that differ. Plain. -/
import Derived.Test.YtldjodgpbnkleaaDurSpec
import Derived.Test.YtldjodgpbnkleaaSnoc
namespace Go.Proofs.Ytldjodgpbnkleaa

/-- every write has the value of its number and one -/
def ValId (os : List Opr) : Prop := ∀ o ∈ os, o.write = true → o.val = o.id + 1 ∧ 0 ≤ o.id
theorem trac_to {os : List Opr} (h : ValId os) (hn : (os.map (·.id)).Nodup) (k : Nat) (hk : k ≤ os.length) : tracTo os k = true := by
  induction k with
  | zero => rfl
  | succ k ih =>
    have ho : os[k]? = some os[k] := List.getElem?_eq_getElem (by omega)
    rw [tracTo_succ ho, ih (by omega)]
    rcases hw : os[k].write with _ | _
    · rfl
    · obtain ⟨h1, h2⟩ := h _ (List.getElem_mem (by omega)) hw
      have h3 : (os.take k).any (isSrc os[k].reg os[k].val) = false := by
        rw [List.any_eq_false]
        intro p hp hsrc
        obtain ⟨j, hj, rfl⟩ := List.getElem_of_mem hp
        simp only [List.length_take] at hj
        simp only [List.getElem_take] at hsrc
        unfold isSrc at hsrc
        simp only [Bool.and_eq_true, beq_iff_eq] at hsrc
        obtain ⟨⟨hs1, hs2⟩, hs3⟩ := hsrc
        obtain ⟨h4, h5⟩ := h _ (List.getElem_mem (by omega)) hs1
        have : j = k := by
          refine (List.getElem_inj (xs := os.map (·.id)) (h₀ := by simp; omega) (h₁ := by simp; omega) hn).1 ?_
          simp only [List.getElem_map]
          omega
        omega
      rw [h3]
      have : decide (1 ≤ os[k].val) = true := by simp; omega
      rw [this]
      rfl
theorem trac_of {os : List Opr} (h : ValId os) (hn : (os.map (·.id)).Nodup) : tracO os = true := trac_to h hn _ (Nat.le_refl _)
/-- the source is the write with the number, if its register is right -/
theorem srcOp_some {os : List Opr} {r s : Opr} (h : ValId os) (hn : (os.map (·.id)).Nodup) (hs : s ∈ os) (hw : s.write = true) (hreg : s.reg = r.reg) (hval : s.val = r.val) : srcOp os r = some s := by
  unfold srcOp
  rcases hf : os.find? (isSrc r.reg r.val) with _ | t
  · have := List.find?_eq_none.1 hf s hs
    simp [isSrc, hw, hreg, hval] at this
  · have ht := List.find?_some hf
    have htm := List.mem_of_find?_eq_some hf
    simp only [isSrc, Bool.and_eq_true, beq_iff_eq] at ht
    have e1 := h t htm ht.1.1
    have e2 := h s hs hw
    have hid : t.id = s.id := by omega
    obtain ⟨i, hi, rfl⟩ := List.getElem_of_mem htm
    obtain ⟨j, hj, rfl⟩ := List.getElem_of_mem hs
    have : i = j := by
      refine (List.getElem_inj (xs := os.map (·.id)) (h₀ := by simpa using hi) (h₁ := by simpa using hj) hn).1 ?_
      simpa using hid
    subst this
    rfl
theorem srcOp_none {os : List Opr} {r : Opr} (h : ∀ s ∈ os, s.write = true → s.reg = r.reg → s.val ≠ r.val) : srcOp os r = none := by
  unfold srcOp
  rw [List.find?_eq_none]
  intro s hs hsrc
  simp only [isSrc, Bool.and_eq_true, beq_iff_eq] at hsrc
  exact h s hs hsrc.1.1 hsrc.1.2 hsrc.2
theorem srcOp_mem {os : List Opr} {r s : Opr} (h : srcOp os r = some s) : s ∈ os ∧ s.write = true ∧ s.reg = r.reg ∧ s.val = r.val := by
  unfold srcOp at h
  have ht := List.find?_some h
  simp only [isSrc, Bool.and_eq_true, beq_iff_eq] at ht
  exact ⟨List.mem_of_find?_eq_some h, ht.1.1, ht.1.2, ht.2⟩
end Go.Proofs.Ytldjodgpbnkleaa
