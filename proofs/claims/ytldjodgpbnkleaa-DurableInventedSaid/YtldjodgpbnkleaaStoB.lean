/- The storage's invariant is kept by an execution, an answer, a cut. Plain: no program is walked here. -/
import Derived.Test.YtldjodgpbnkleaaStoA
namespace Go.Proofs.Ytldjodgpbnkleaa

theorem set_at {α : Type} {l : List α} {k i : Nat} {x y : α} (h : (l.set k x)[i]? = some y) : (i = k ∧ y = x) ∨ (i ≠ k ∧ l[i]? = some y) := by
  rw [List.getElem?_set] at h
  split at h
  · rename_i hk
    split at h
    · simp at h
      exact .inl ⟨hk.symm, h.symm⟩
    · cases h
  · rename_i hk
    exact .inr ⟨fun e => hk e.symm, h⟩
theorem map_set_same {α β : Type} {l : List α} {k : Nat} {x s : α} {f : α → β} (hs : l[k]? = some s) (hf : f x = f s) : (l.set k x).map f = l.map f := by
  rw [List.map_set, hf]
  refine List.ext_getElem? fun i => ?_
  rw [List.getElem?_set]
  split
  · rename_i hk
    subst hk
    have hkl : k < l.length := (List.getElem?_eq_some_iff.1 hs).1
    rw [if_pos (by simpa using hkl), List.getElem?_map, hs]
    rfl
  · rfl
theorem op_ne {ops : List SOp} (h : (ops.map (·.call.op)).Nodup) {i k : Nat} {a b : SOp} (ha : ops[i]? = some a) (hb : ops[k]? = some b) (hik : i ≠ k) : a.call.op ≠ b.call.op := by
  intro he
  refine hik (nodup_at (c := a.call.op) h ?_ ?_)
  · rw [List.getElem?_map, ha]; rfl
  · rw [List.getElem?_map, hb, he]; rfl

/-! ### an execution -/
theorem SOK.exec {st : SSt} (h : SOK st) {k : Nat} {s : SOp} (hs : st.ops[k]? = some s) (hx : s.ex = false) : SOK (stEx st k s) := by
  obtain ⟨os, era, hps, hos, hch, hop, hnd⟩ := h
  obtain ⟨o, ho⟩ := hop s (List.mem_of_getElem? hs)
  obtain ⟨hdn, hkn⟩ := ho.nex hx
  have hod := ho.dn hdn
  have hoera := ho.era
  rcases hw : s.call.write with _ | _
  · -- no write: the changes stay
    have hc : chEx s st.ch = st.ch := by unfold chEx; rw [hw]; rfl
    refine ⟨os, era, hps, hos, by show CHI os era (chEx s st.ch) st.safe; rw [hc]; exact hch, ?_, ?_⟩
    · intro s' hs'
      show ∃ o, OPI os era (chEx s st.ch) s' o
      rw [hc]
      obtain ⟨i, hi⟩ := List.getElem?_of_mem hs'
      rcases set_at hi with ⟨-, rfl⟩ | ⟨-, hi⟩
      · refine ⟨o, ho.mem, ho.id, ho.era, ho.wr, ho.reg, ho.ba, ho.val, ?_, ho.dn, fun h => by simp [opEx] at h, fun _ => ?_⟩
        · intro h1 h2
          have := ho.fl h1 h2
          simp only [opEx] at h2
          simp [opEx, h2, this]
        · refine ⟨by simp [opEx, hc], fun h1 => by rw [ho.wr, hw] at h1; simp at h1, ?_, ?_, ?_⟩
          · intro w hw' h1 h2 h3 _
            have := hch.i1 w hw' h1 h2 h3
            obtain ⟨j, hj⟩ := List.getElem?_of_mem this
            exact ⟨j, by simp only [opEx, hc]; exact (List.getElem?_eq_some_iff.1 hj).1, hj⟩
          · intro j w hw' h1 h2 h3
            simp only [opEx, hc]
            exact (List.getElem?_eq_some_iff.1 h2).1
          · intro h1 h2
            have h3 : s.call.barrier = false := by rw [← ho.ba]; exact h2
            simp [opEx, hc, hw, h3, ho.reg]
      · exact hop s' (List.mem_of_getElem? hi)
    · rw [show (stEx st k s).ops = st.ops.set k (opEx s (chEx s st.ch)) from rfl, map_set_same (f := fun (x : SOp) => x.call.op) (x := opEx s (chEx s st.ch)) hs rfl]
      exact hnd
  · -- a write
    have how : o.write = true := by rw [ho.wr]; exact hw
    have hc : chEx s st.ch = st.ch ++ [key o] := by
      unfold chEx
      rw [hw, if_pos rfl]
      simp only [key, ho.reg, ho.val hw]
    have hko := hkn how
    have hinj : ∀ w ∈ os, w.write = true → key w = key o → w = o := fun w h1 h2 h3 => hos.key_inj h1 ho.mem h2 how h3
    refine ⟨os, era, hps, hos, ?_, ?_, ?_⟩
    · show CHI os era (chEx s st.ch) st.safe
      rw [hc]
      refine ⟨?_, ?_, ?_, ?_, ?_, ?_, ?_, hch.i8a, ?_, ?_, ?_⟩
      · intro c h1
        rcases List.mem_append.1 h1 with h1 | h1
        · exact hch.src c h1
        · simp only [List.mem_singleton] at h1
          exact ⟨o, ho.mem, how, h1.symm⟩
      · rw [List.nodup_append]
        refine ⟨hch.nd, by simp, ?_⟩
        intro a ha b hb hab
        simp only [List.mem_singleton] at hb
        subst hb hab
        exact hko ha
      · intro w h1 h2 h3 h4
        exact List.mem_append.2 (.inl (hch.i1 w h1 h2 h3 h4))
      · intro i j s' hs' w hw' h1 h2 h3 h4 h5
        rcases snoc_at h4 with ⟨hj, h4⟩ | ⟨hj, h4⟩
        · rcases snoc_at h3 with ⟨hi, h3⟩ | ⟨hi, h3⟩
          · exact hch.i2 i j s' hs' w hw' h1 h2 h3 h4 h5
          · omega
        · have := hinj w hw' h2 h4
          subst this
          have := hos.er s' hs'
          omega
      · intro i s' hs' w hw' h1 h2 h3 h4 h5 h6
        rcases snoc_at h3 with ⟨hi, h3⟩ | ⟨hi, h3⟩
        · obtain ⟨j, hj, h7⟩ := hch.i4 i s' hs' w hw' h1 h2 h3 h4 h5 h6
          exact ⟨j, hj, at_snoc h7⟩
        · have := hinj s' hs' h1 h3
          subst this
          obtain ⟨j, hj⟩ := List.getElem?_of_mem (hch.i1 w hw' h2 (by omega) h5)
          exact ⟨j, by have := (List.getElem?_eq_some_iff.1 hj).1; omega, at_snoc hj⟩
      · intro w h1 h2 h3 h4
        obtain ⟨j, hj, h5⟩ := hch.i5 w h1 h2 h3 h4
        exact ⟨j, hj, at_snoc h5⟩
      · have := hch.sf
        simp
        omega
      · intro r hr ha w hw' h1 h2 h3 h4 h5
        obtain ⟨h6, h7⟩ := hch.i8 r hr ha w hw' h1 h2 h3 h4 h5
        refine ⟨h6, fun h8 => ?_⟩
        rcases List.mem_append.1 h8 with h8 | h8
        · exact h7 h8
        · simp only [List.mem_singleton] at h8
          have := hinj w hw' h1 h8
          subst this
          omega
      · intro r hr ha s' hs' h1 h2 h3
        obtain ⟨j, hj, h5⟩ := hch.i9 r hr ha s' hs' h1 h2 h3
        exact ⟨j, hj, at_snoc h5⟩
      · intro j w hw' h1 h2 h3
        rcases snoc_at h2 with ⟨hj, h2⟩ | ⟨hj, h2⟩
        · exact hch.i10 j w hw' h1 h2 h3
        · have := hinj w hw' h1 h2
          subst this
          omega
    · intro s' hs'
      show ∃ o, OPI os era (chEx s st.ch) s' o
      rw [hc]
      obtain ⟨i, hi⟩ := List.getElem?_of_mem hs'
      rcases set_at hi with ⟨-, rfl⟩ | ⟨hik, hi⟩
      · refine ⟨o, ho.mem, ho.id, ho.era, ho.wr, ho.reg, ho.ba, ho.val, ?_, ho.dn, fun h => by simp [opEx] at h, fun _ => ?_⟩
        · intro h1 h2
          simp only [opEx] at h1
          rw [hw] at h1
          cases h1
        · refine ⟨by simp [opEx, hc], fun _ => ⟨st.ch.length, by simp [opEx, hc], by simp⟩, ?_, ?_, ?_⟩
          · intro w hw' h1 h2 h3 _
            obtain ⟨j, hj⟩ := List.getElem?_of_mem (hch.i1 w hw' h1 h2 h3)
            exact ⟨j, by simp only [opEx, hc, List.length_append, List.length_singleton]; have := (List.getElem?_eq_some_iff.1 hj).1; omega, at_snoc hj⟩
          · intro j w hw' h1 h2 h3
            simp only [opEx, hc]
            exact (List.getElem?_eq_some_iff.1 h2).1
          · intro h1
            rw [how] at h1
            cases h1
      · obtain ⟨o', h⟩ := hop s' (List.mem_of_getElem? hi)
        have hne : o' ≠ o := by
          rintro rfl
          exact op_ne hnd hi hs hik (by rw [← h.id, ← ho.id])
        refine ⟨o', h.mem, h.id, h.era, h.wr, h.reg, h.ba, h.val, h.fl, h.dn, fun hx' => ?_, fun hx' => ?_⟩
        · obtain ⟨h1, h2⟩ := h.nex hx'
          refine ⟨h1, fun h3 h4 => ?_⟩
          rcases List.mem_append.1 h4 with h4 | h4
          · exact h2 h3 h4
          · simp only [List.mem_singleton] at h4
            exact hne (hinj o' h.mem h3 h4)
        · have hE := h.ex hx'
          refine ⟨by have := hE.le; simp; omega, fun h1 => ?_, ?_, ?_, ?_⟩
          · obtain ⟨j, hj, h2⟩ := hE.wr h1
            exact ⟨j, hj, at_snoc h2⟩
          · intro w hw' h1 h2 h3 h4
            obtain ⟨j, hj, h5⟩ := hE.pr w hw' h1 h2 h3 h4
            exact ⟨j, hj, at_snoc h5⟩
          · intro j w hw' h1 h2 h3
            rcases snoc_at h2 with ⟨hj, h2⟩ | ⟨hj, h2⟩
            · exact hE.old j w hw' h1 h2 h3
            · have := hinj w hw' h1 h2
              subst this
              omega
          · intro h1 h2
            rw [List.take_append_of_le_length hE.le]
            exact hE.res h1 h2
    · rw [show (stEx st k s).ops = st.ops.set k (opEx s (chEx s st.ch)) from rfl, map_set_same (f := fun (x : SOp) => x.call.op) (x := opEx s (chEx s st.ch)) hs rfl]
      exact hnd

/-! ### a cut -/
theorem SOK.cut {st : SSt} (h : SOK st) {m : Nat} (hm : st.safe ≤ m) (hml : m ≤ st.ch.length) : SOK (stCut st m) := by
  obtain ⟨os, era, hps, hos, hch, hop, hnd⟩ := h
  refine ⟨os, era + 1, parseS_cut hps, ?_, ?_, by simp [stCut], by simp [stCut]⟩
  · refine ⟨hos.id, hos.val, fun o h1 => ?_, fun o h1 => by have := hos.er o h1; omega, hos.ord, hos.nd⟩
    have := hos.cd o h1
    simp only [stCut, List.length_append, List.length_singleton]
    omega
  · show CHI os (era + 1) (st.ch.take m) m
    refine ⟨fun c h1 => hch.src c (List.mem_of_mem_take h1), ?_, ?_, ?_, ?_, ?_, by simp; omega, hch.i8a, ?_, ?_, ?_⟩
    · exact List.Nodup.sublist (List.take_sublist _ _) hch.nd
    · intro w h1 _ h3
      have := hos.er w h1
      omega
    · intro i j s hs w hw h1 h2 h3 h4 h5
      exact hch.i2 i j s hs w hw h1 h2 (take_at.1 h3).2 (take_at.1 h4).2 h5
    · intro i s hs w hw h1 h2 h3 h4 h5 h6
      obtain ⟨h7, h8⟩ := take_at.1 h3
      obtain ⟨j, hj, h9⟩ := hch.i4 i s hs w hw h1 h2 h8 h4 h5 h6
      exact ⟨j, hj, take_at.2 ⟨by omega, h9⟩⟩
    · intro w h1 h2 h3 h4
      obtain ⟨j, hj, h5⟩ := hch.i5 w h1 h2 h3 h4
      exact ⟨j, by omega, take_at.2 ⟨by omega, h5⟩⟩
    · intro r hr ha w hw h1 h2 h3 h4 h5
      obtain ⟨h6, h7⟩ := hch.i8 r hr ha w hw h1 h2 h3 h4 h5
      exact ⟨h6, fun h8 => h7 (List.mem_of_mem_take h8)⟩
    · intro r hr ha s hs h1 h2 h3
      obtain ⟨j, hj, h5⟩ := hch.i9 r hr ha s hs h1 h2 h3
      exact ⟨j, by omega, take_at.2 ⟨by omega, h5⟩⟩
    · intro j w _ _ h2 _
      exact (take_at.1 h2).1
end Go.Proofs.Ytldjodgpbnkleaa
