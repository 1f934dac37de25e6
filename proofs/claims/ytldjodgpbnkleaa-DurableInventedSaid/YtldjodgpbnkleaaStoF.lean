/- The events of a driven storage are small. Plain. -/
import Derived.Test.YtldjodgpbnkleaaStoV
namespace Go.Proofs.Ytldjodgpbnkleaa
def Sm (x : Int) : Prop := 0 ≤ x ∧ x ≤ 100000
structure SWf (st : SSt) : Prop where
  l : ∀ e ∈ st.l, Sm e.op ∧ Sm e.reg ∧ Sm e.val
  ops : ∀ s ∈ st.ops, Sm s.call.op ∧ Sm s.call.reg ∧ Sm s.call.val ∧ Sm s.res
  ch : ∀ c ∈ st.ch, Sm c.2
theorem Sm.zero : Sm 0 := ⟨by omega, by omega⟩
theorem valC_sm {l : List (Int × Int)} (h : ∀ c ∈ l, Sm c.2) (reg : Int) : Sm (valC l reg) := by
  rcases valC_cases l reg with ⟨h1, -⟩ | ⟨j, -, h1, -⟩
  · rw [h1]; exact Sm.zero
  · exact h _ (List.mem_of_getElem? h1)
theorem callE_sm {k reg n : Nat} (hr : reg < 4) (hn : n ≤ 2000) : Sm (callE k reg n).op ∧ Sm (callE k reg n).reg ∧ Sm (callE k reg n).val := by
  unfold callE Sm
  split
  · simp only; omega
  · split
    · simp only; omega
    · split
      · simp only; omega
      · simp only; omega
theorem SWf.step {st : SSt} (h : SWf st) (hn : st.n ≤ 2000) (a : ActN) : SWf (stoStep st a) := by
  unfold stoStep
  split
  · have hc := callE_sm (k := a.kind % 8) (reg := a.reg % 4) (n := st.n) (Nat.mod_lt _ (by omega)) hn
    refine ⟨fun e he => ?_, fun s hs => ?_, h.ch⟩
    · rcases List.mem_append.1 he with he | he
      · exact h.l e he
      · simp only [List.mem_singleton] at he
        subst he
        exact hc
    · rcases List.mem_append.1 hs with hs | hs
      · exact h.ops s hs
      · simp only [List.mem_singleton] at hs
        subst hs
        exact ⟨hc.1, hc.2.1, hc.2.2, Sm.zero⟩
  · split
    · split
      · exact h
      · rename_i s hs
        have hsm := h.ops s (List.mem_of_getElem? hs)
        split
        · exact h
        · have hch : ∀ c ∈ chEx s st.ch, Sm c.2 := by
            intro c hc
            unfold chEx at hc
            split at hc
            · rcases List.mem_append.1 hc with hc | hc
              · exact h.ch c hc
              · simp only [List.mem_singleton] at hc
                subst hc
                exact hsm.2.2.1
            · exact h.ch c hc
          refine ⟨h.l, fun s' hs' => ?_, hch⟩
          rcases List.mem_or_eq_of_mem_set hs' with h1 | rfl
          · exact h.ops s' h1
          · refine ⟨hsm.1, hsm.2.1, hsm.2.2.1, ?_⟩
            unfold opEx
            simp only
            split
            · exact valC_sm hch _
            · exact hsm.2.2.2
    · split
      · split
        · exact h
        · rename_i s hs
          have hsm := h.ops s (List.mem_of_getElem? hs)
          split
          · refine ⟨fun e he => ?_, fun s' hs' => ?_, h.ch⟩
            · rcases List.mem_append.1 he with he | he
              · exact h.l e he
              · simp only [List.mem_singleton] at he
                subst he
                refine ⟨hsm.1, hsm.2.1, ?_⟩
                unfold doneE
                simp only
                split
                · exact hsm.2.2.1
                · exact hsm.2.2.2
            · rcases List.mem_or_eq_of_mem_set hs' with h1 | rfl
              · exact h.ops s' h1
              · exact hsm
          · exact h
      · refine ⟨fun e he => ?_, fun s hs => ?_, fun c hc => h.ch c (List.mem_of_mem_take hc)⟩
        · rcases List.mem_append.1 he with he | he
          · exact h.l e he
          · simp only [List.mem_singleton] at he
            subst he
            exact ⟨Sm.zero, Sm.zero, Sm.zero⟩
        · simp [stCut] at hs
theorem swf_to (acts : List ActN) (k : Nat) (hk : k ≤ acts.length) (hl : acts.length ≤ 1000) : SWf (stoTo acts k) := by
  induction k with
  | zero => constructor <;> simp [stoTo, sto0]
  | succ k ih =>
    rw [stoTo_succ (List.getElem?_eq_getElem (by omega))]
    have := (sbd_to acts k (by omega)).n
    exact (ih (by omega)).step (by omega) _
theorem sm_wf {x : Int} (h : Sm x) : (Lit.int .i64 x).wf = true := by
  unfold Sm at h
  rw [Lit.wf_int_iff, IntKind.min_i64, IntKind.max_i64]
  omega
theorem sto_wf (acts : List ActN) (hl : acts.length ≤ 1000) : WfE (stoTo acts acts.length).l := by
  intro e he
  obtain ⟨h1, h2, h3⟩ := (swf_to acts acts.length (Nat.le_refl _) hl).l e he
  exact ⟨sm_wf h1, sm_wf h2, sm_wf h3⟩
end Go.Proofs.Ytldjodgpbnkleaa
