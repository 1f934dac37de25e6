/- If the result of a read of a driven storage is replaced by a value that was never written, this read is the only wrong one. Plain. -/
import Derived.Test.YtldjodgpbnkleaaInvA
namespace Go.Proofs.Ytldjodgpbnkleaa

theorem inv_law {st : SSt} (h : SOK st) (hn : st.n < 1000) {i : Nat} {e : Ev} (he : st.l[i]? = some e) (hk : e.kind = 2) (hw : e.write = false) (hb : e.barrier = false) :
    checkD (st.l.set i (chgE e 1000)) = some [⟨1, e.op, -1⟩] := by
  obtain ⟨os, era, hps, hos, hch, -, -⟩ := h
  have hil : i < st.l.length := (List.getElem?_eq_some_iff.1 he).1
  obtain ⟨hpc, o0, ho0', hid, hdn, hrw, hrb⟩ := parse_changed he hk hw hb 1000 st.l.length hil (Nat.le_refl _) hps
  have ho0 : o0 ∈ os := ho0'
  clear ho0'
  have hp : parseL (st.l.set i (chgE e 1000)) = some (os.map (setV e.op 1000)) := by
    unfold parseL
    rw [List.length_set, hpc]
    rfl
  have hset : ∀ o ∈ os, o ≠ o0 → setV e.op 1000 o = o := by
    intro o ho hne
    unfold setV
    rw [if_neg]
    intro h1
    exact hne (id_inj hos.nd ho ho0 (by omega))
  have hset0 : setV e.op 1000 o0 = { o0 with val := 1000 } := by unfold setV; rw [if_pos hid]
  have hmem : ∀ o ∈ os.map (setV e.op 1000), (o ∈ os ∧ o ≠ o0) ∨ o = { o0 with val := 1000 } := by
    intro o ho
    obtain ⟨p, hp, rfl⟩ := List.mem_map.1 ho
    by_cases hpo : p = o0
    · subst hpo
      exact .inr hset0
    · rw [hset p hp hpo]
      exact .inl ⟨hp, hpo⟩
  have hids : ((os.map (setV e.op 1000)).map (·.id)) = os.map (·.id) := by
    rw [List.map_map]
    exact List.map_congr_left fun o _ => setV_id _ _ _
  have hnd : ((os.map (setV e.op 1000)).map (·.id)).Nodup := by rw [hids]; exact hos.nd
  have hw2 : ∀ w, w.write = true → (w ∈ os.map (setV e.op 1000) ↔ w ∈ os) := by
    intro w hww
    constructor
    · intro h1
      rcases hmem w h1 with h1 | rfl
      · exact h1.1
      · simp only at hww
        rw [hrw] at hww
        cases hww
    · intro h1
      have hne : w ≠ o0 := by
        rintro rfl
        rw [hrw] at hww
        cases hww
      exact List.mem_map.2 ⟨w, h1, hset w h1 hne⟩
  have hv2 : ValId (os.map (setV e.op 1000)) := fun w h1 h2 => hos.val w ((hw2 w h2).1 h1) h2
  have hno : ∀ r : Opr, r.val = 1000 → srcOp (os.map (setV e.op 1000)) r = none := by
    intro r hr
    refine srcOp_none fun s hs hsw _ => ?_
    have h1 := (hw2 s hsw).1 hs
    have h2 := hos.val s h1 hsw
    have h3 := hos.id s h1
    omega
  have hc2 : ∀ w ∈ os, w.write = true → certB (os.map (setV e.op 1000)) w = true → certB os w = true := by
    intro w hwm hww hc
    unfold certB at hc ⊢
    split at hc
    · cases hc
    · rename_i h1
      rw [if_neg h1]
      split at hc
      · rename_i h2
        rw [if_pos h2]
      · rename_i h2
        rw [if_neg h2]
        rw [Bool.or_eq_true] at hc ⊢
        rcases hc with hc | hc
        · left
          obtain ⟨o, ho, hr⟩ := List.any_eq_true.1 hc
          rcases hmem o ho with ⟨h3, -⟩ | rfl
          · exact List.any_eq_true.2 ⟨o, h3, hr⟩
          · exact List.any_eq_true.2 ⟨o0, ho0, hr⟩
        · right
          obtain ⟨o, ho, hr⟩ := List.any_eq_true.1 hc
          rcases hmem o ho with ⟨h3, -⟩ | rfl
          · refine List.any_eq_true.2 ⟨o, h3, ?_⟩
            unfold rule2 at hr ⊢
            split at hr
            · rename_i ha
              rw [if_pos ha]
              split at hr
              · cases hr
              · rename_i s hs
                obtain ⟨h4, h5, h6, h7⟩ := srcOp_mem hs
                rw [srcOp_some hos.val hos.nd ((hw2 s h5).1 h4) h5 h6 h7]
                exact hr
            · cases hr
          · unfold rule2 at hr
            rw [hno _ rfl] at hr
            split at hr <;> cases hr
  have hans : ansB { o0 with val := 1000 } = true := by
    simp only [ansB, hrw, hrb]
    simp [hdn]
  unfold checkD
  rw [hp]
  simp only
  rw [if_pos (trac_of hv2 hnd), checkO_eq]
  congr 1
  obtain ⟨X, Y, hXY⟩ := List.append_of_mem ho0
  have hndo := hos.nd
  have hXo : ∀ x ∈ X, x ≠ o0 := by
    rintro x hx rfl
    rw [hXY, List.map_append, List.nodup_append] at hndo
    exact hndo.2.2 x.id (List.mem_map.2 ⟨x, hx, rfl⟩) x.id (by simp) rfl
  have hYo : ∀ x ∈ Y, x ≠ o0 := by
    rintro x hx rfl
    rw [hXY, List.map_append, List.map_cons, List.nodup_append] at hndo
    exact (List.nodup_cons.1 hndo.2.1).1 (List.mem_map.2 ⟨x, hx, rfl⟩)
  have hnone : ∀ r ∈ os, fltOf (os.map (setV e.op 1000)) r = none := by
    intro r hr
    unfold fltOf
    split
    · rename_i ha
      exact judge_none hos hch hv2 hnd hw2 hc2 hr ha
    · rfl
  have hX : ∀ x ∈ X, x ∈ os := fun x hx => by rw [hXY]; exact List.mem_append.2 (.inl hx)
  have hY : ∀ x ∈ Y, x ∈ os := fun x hx => by rw [hXY]; exact List.mem_append.2 (.inr (List.mem_cons_of_mem _ hx))
  have hos2 : os.map (setV e.op 1000) = X ++ { o0 with val := 1000 } :: Y := by
    conv => lhs; rw [hXY]
    rw [List.map_append, List.map_cons, hset0]
    congr 1
    · conv => rhs; rw [← List.map_id X]
      exact List.map_congr_left fun x hx => hset x (hX x hx) (hXo x hx)
    · congr 1
      conv => rhs; rw [← List.map_id Y]
      exact List.map_congr_left fun x hx => hset x (hY x hx) (hYo x hx)
  have hjudge : fltOf (os.map (setV e.op 1000)) { o0 with val := 1000 } = some ⟨1, e.op, -1⟩ := by
    unfold fltOf
    rw [if_pos hans]
    unfold judgeO
    rw [hno _ rfl]
    simp only
    rw [if_pos (by decide), hid]
  have key : ∀ F : Opr → Option Flt, (∀ r ∈ os, F r = none) → F { o0 with val := 1000 } = some ⟨1, e.op, -1⟩ → (os.map (setV e.op 1000)).filterMap F = [⟨1, e.op, -1⟩] := by
    intro F hF0 hF1
    rw [hos2, List.filterMap_append, List.filterMap_cons, hF1]
    have e1 : X.filterMap F = [] := List.filterMap_eq_nil_iff.2 fun x hx => hF0 x (hX x hx)
    have e2 : Y.filterMap F = [] := List.filterMap_eq_nil_iff.2 fun x hx => hF0 x (hY x hx)
    rw [e1, e2]
    rfl
  exact key _ hnone hjudge
end Go.Proofs.Ytldjodgpbnkleaa
