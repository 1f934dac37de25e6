/- The history of a driven storage has no wrong reads, and exactly one if a read's result is replaced by a value that was never written. Plain: no program is walked here. -/
import Derived.Test.YtldjodgpbnkleaaStoC
import Derived.Test.YtldjodgpbnkleaaDurI
namespace Go.Proofs.Ytldjodgpbnkleaa

theorem SOK.step {st : SSt} (h : SOK st) (a : ActN) : SOK (stoStep st a) := by
  unfold stoStep
  split
  · obtain ⟨h1, h2, h3, h4, h5⟩ := callE_ok (k := a.kind % 8) (reg := a.reg % 4) (n := st.n)
    exact h.call h1 h2 h3 h4 h5
  · split
    · split
      · exact h
      · rename_i s hs
        split
        · exact h
        · rename_i hx
          exact h.exec hs (by simpa using hx)
    · split
      · split
        · exact h
        · rename_i s hs
          split
          · rename_i hx
            simp only [Bool.and_eq_true, Bool.not_eq_true'] at hx
            exact h.done hs hx.1 hx.2
          · exact h
      · have hsf : st.safe ≤ st.ch.length := by
          obtain ⟨os, era, -, -, hch, -⟩ := h
          exact hch.sf
        have := Nat.mod_lt a.which (show 0 < st.ch.length - st.safe + 1 by omega)
        exact h.cut (by omega) (by omega)
theorem sok_zero : SOK sto0 := by
  refine ⟨[], 0, rfl, ?_, ?_, by simp [sto0], by simp [sto0]⟩
  · constructor <;> simp [ValId]
  · constructor <;> simp [sto0]
theorem sok_to (acts : List ActN) (k : Nat) : SOK (stoTo acts k) := by
  unfold stoTo
  generalize acts.take k = l
  have : ∀ (l : List ActN) (st : SSt), SOK st → SOK (l.foldl stoStep st) := by
    intro l
    induction l with
    | nil => exact fun st h => h
    | cons a l ih => exact fun st h => ih _ (h.step a)
  exact this l _ sok_zero

theorem srcOp_key {os : List Opr} {r s : Opr} (h : srcOp os r = some s) : s ∈ os ∧ s.write = true ∧ key s = key r := by
  obtain ⟨h1, h2, h3, h4⟩ := srcOp_mem h
  exact ⟨h1, h2, by simp only [key, h3, h4]⟩
/-- a write of an earlier era that survives for certain is among the changes -/
theorem cert_in {os : List Opr} {era : Int} {L n safe : Nat} {ch : List (Int × Int)} (hos : OSI os era L n) (hch : CHI os era ch safe) {w : Opr} (hw : w ∈ os) (hww : w.write = true) (hc : certB os w = true) : key w ∈ ch := by
  unfold certB at hc
  split at hc
  · cases hc
  · rename_i hd
    have i5 : (w.barrier = true ∨ ∃ o ∈ os, o.barrier = true ∧ 0 ≤ o.done ∧ o.era = w.era ∧ w.done < o.call) → key w ∈ ch := by
      intro h
      obtain ⟨j, -, hj⟩ := hch.i5 w hw hww (by omega) h
      exact List.mem_of_getElem? hj
    split at hc
    · exact i5 (.inl (by assumption))
    · rw [Bool.or_eq_true] at hc
      rcases hc with hc | hc
      · obtain ⟨o, ho, hr⟩ := List.any_eq_true.1 hc
        simp only [rule1, precB, Bool.and_eq_true, decide_eq_true_eq, beq_iff_eq] at hr
        exact i5 (.inr ⟨o, ho, hr.1.1.1, hr.1.1.2, hr.1.2, hr.2.2⟩)
      · obtain ⟨o, ho, hr⟩ := List.any_eq_true.1 hc
        unfold rule2 at hr
        split at hr
        · rename_i ha
          split at hr
          · cases hr
          · rename_i s hs
            obtain ⟨h1, h2, h3⟩ := srcOp_key hs
            simp only [Bool.and_eq_true, Bool.or_eq_true, beq_iff_eq, decide_eq_true_eq, precB] at hr
            obtain ⟨⟨h4, h5⟩, h6⟩ := hr
            obtain ⟨j, -, hj⟩ := hch.i9 o ho ha s h1 h2 h3 h5
            rcases h6 with h6 | h6
            · rw [← id_inj hos.nd h1 hw h6]
              exact List.mem_of_getElem? hj
            · obtain ⟨j', -, hj'⟩ := hch.i4 j s h1 w hw h2 hww hj (by omega) h6.1 h6.2
              exact List.mem_of_getElem? hj'
        · cases hr
theorem judge_none {os os2 : List Opr} {era : Int} {L n safe : Nat} {ch : List (Int × Int)} (hos : OSI os era L n) (hch : CHI os era ch safe) (hv2 : ValId os2) (hn2 : (os2.map (·.id)).Nodup)
    (hw2 : ∀ w, w.write = true → (w ∈ os2 ↔ w ∈ os)) (hc2 : ∀ w ∈ os, w.write = true → certB os2 w = true → certB os w = true) {r : Opr} (hr : r ∈ os) (ha : ansB r = true) : judgeO os2 r = none := by
  have hfin : ∀ s : Option Opr, (∀ t, t ∈ os → t.write = true → key t = key r → s = some t) → os2.find? (hides os2 s r) = none := by
    intro s hs
    rw [List.find?_eq_none]
    intro w hw hh
    unfold hides finB at hh
    simp only [Bool.and_eq_true, Bool.or_eq_true, beq_iff_eq, decide_eq_true_eq] at hh
    obtain ⟨⟨⟨h1, h2⟩, h3⟩, ⟨h4, h5⟩, h6⟩ := hh
    have hwo := (hw2 w h1).1 hw
    obtain ⟨h7, h8⟩ := hch.i8 r hr ha w hwo h1 h2 h4 h5 (by
      intro t ht htw htk
      have := hs t ht htw htk
      subst this
      simp only [Bool.or_eq_true, precB, Bool.and_eq_true, decide_eq_true_eq] at h3
      exact h3)
    rcases h6 with h6 | h6
    · exact h7 h6
    · have h9 := hos.ord w hwo r hr h4 h5
      have h10 := hos.er r hr
      exact h8 (cert_in hos hch hwo h1 (hc2 w hwo h1 h6))
  unfold judgeO
  rcases hsr : srcOp os2 r with _ | s
  · simp only
    have hno : ∀ t, t ∈ os → t.write = true → key t = key r → False := by
      intro t ht htw htk
      have h1 : t.reg = r.reg := congrArg Prod.fst htk
      have h2 : t.val = r.val := congrArg Prod.snd htk
      rw [srcOp_some hv2 hn2 ((hw2 t htw).2 ht) htw h1 h2] at hsr
      cases hsr
    rcases hch.i8a r hr ha with h1 | ⟨t, h1, h2, h3, -⟩
    · rw [if_neg (by simp [h1]), hfin none (fun t ht htw htk => absurd (hno t ht htw htk) id)]
      rfl
    · exact absurd (hno t h1 h2 h3) id
  · simp only
    obtain ⟨h1, h2, h3⟩ := srcOp_key hsr
    have hso := (hw2 s h2).1 h1
    have huniq : ∀ t, t ∈ os → t.write = true → key t = key r → some s = some t := by
      intro t ht htw htk
      rw [hos.key_inj ht hso htw h2 (htk.trans h3.symm)]
    have hcall : s.call < r.done := by
      rcases hch.i8a r hr ha with h4 | ⟨t, h4, h5, h6, h7⟩
      · have h5 := hos.val s hso h2
        have h6 : s.val = r.val := congrArg Prod.snd h3
        omega
      · have := huniq t h4 h5 h6
        cases this
        exact h7
    rw [if_neg (by omega), hfin (some s) huniq]
    rfl

theorem sto_law {st : SSt} (h : SOK st) : checkD st.l = some [] ∧ traceD st.l = true := by
  obtain ⟨os, era, hps, hos, hch, -, -⟩ := h
  have hp : parseL st.l = some os := by rw [parseL_eq, hps]; rfl
  have ht := trac_of hos.val hos.nd
  unfold checkD traceD
  rw [hp]
  refine ⟨?_, ht⟩
  simp only
  rw [if_pos ht, checkO_eq]
  congr 1
  rw [List.filterMap_eq_nil_iff]
  intro r hr
  unfold fltOf
  split
  · exact judge_none hos hch hos.val hos.nd (fun _ _ => Iff.rfl) (fun _ _ _ h => h) hr (by assumption)
  · rfl
end Go.Proofs.Ytldjodgpbnkleaa
