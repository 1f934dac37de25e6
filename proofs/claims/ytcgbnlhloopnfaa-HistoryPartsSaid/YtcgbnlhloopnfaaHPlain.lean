/- Laws on recorded histories: their answers, their numbers, their beginnings, repeated events. Plain: no program is walked here. -/
import Derived.Test.YtcgbnlhloopnfaaHSpec
namespace Go.Proofs.Ytcgbnlhloopnfaa

theorem recRes_get {s : List ActH} {k m : Nat} {a : ActH} (ha : s[k]? = some a) (hk : k < m) (hm : m ≤ s.length) : (recRes s m)[k]? = some (refAct (recSt s k) a).2 := by
  induction m with
  | zero => omega
  | succ m ih =>
    have h : s[m]? = some s[m] := List.getElem?_eq_getElem (by omega)
    rw [recRes_succ h]
    have hl := recRes_len (s := s) (k := m) (by omega)
    rcases Nat.lt_or_ge k m with hlt | hge
    · rw [List.getElem?_append_left (by omega)]
      exact ih hlt (by omega)
    · obtain rfl : k = m := by omega
      rw [List.getElem?_append_right (by omega), hl, Nat.sub_self]
      rw [h] at ha
      rw [Option.some.inj ha]
      rfl
theorem ref_n (st : List Ev × Nat) (a : ActH) : (refAct st a).1.2 = if a.kind % 8 < 4 ∧ 0 ≤ (refAct st a).2 then st.2 + 1 else st.2 := by
  unfold refAct
  by_cases h7 : a.kind % 8 = 7
  · rw [if_pos h7]
    simp only
    rw [if_neg (by omega)]
  · rw [if_neg h7]
    by_cases h4 : a.kind % 8 < 4
    · rw [if_pos h4]
      cases hc : callOk (actEv a st.2)
      · simp
      · simp [h4]
    · rw [if_neg h4]
      simp only
      rw [if_neg (by omega)]
theorem refAct_op {st : List Ev × Nat} (a : ActH) (h : ∀ e ∈ st.1, 0 ≤ e.op ∧ e.op ≤ st.2) : ∀ e ∈ (refAct st a).1.1, 0 ≤ e.op ∧ e.op ≤ (refAct st a).1.2 := by
  unfold refAct
  by_cases h7 : a.kind % 8 = 7
  · rw [if_pos h7]
    intro e he
    rcases List.mem_append.1 he with he | he
    · exact h e he
    · simp at he
      subst he
      simp [Ev.cut]
  · rw [if_neg h7]
    by_cases h4 : a.kind % 8 < 4
    · rw [if_pos h4]
      cases hc : callOk (actEv a st.2)
      · simpa using h
      · simp only [if_true]
        intro e he
        rcases List.mem_append.1 he with he | he
        · have := h e he
          omega
        · simp at he
          subst he
          have := (actEv_is a st.2).2
          omega
    · rw [if_neg h4]
      intro e he
      rcases List.mem_append.1 he with he | he
      · exact h e he
      · unfold refDone at he
        split at he
        · simp at he
        · split at he
          · simp at he
          · split at he
            · rename_i c hc
              simp at he
              subst he
              exact h c (List.mem_of_getElem? hc)
            · simp at he
theorem recSt_op (s : List ActH) (k : Nat) : ∀ e ∈ (recSt s k).1, 0 ≤ e.op ∧ e.op ≤ (recSt s k).2 := by
  induction k with
  | zero => simp [recSt]
  | succ k ih =>
    simp only [recSt]
    split
    · exact refAct_op _ ih
    · exact ih
theorem rec_inv (s : List ActH) (k : Nat) : ∃ r os era, RInv r (recSt s k).1 (recSt s k).2 os era := by
  induction k with
  | zero => exact ⟨_, _, _, rinv_zero⟩
  | succ k ih =>
    simp only [recSt]
    split
    · obtain ⟨r, os, era, h⟩ := ih
      obtain ⟨-, os', era', h'⟩ := rec_law h (by assumption)
      exact ⟨_, os', era', h'⟩
    · exact ih
theorem rec_parse (s : List ActH) (k : Nat) : ∃ st, parseS (recSt s k).1 = some st := by
  obtain ⟨r, os, era, h⟩ := rec_inv s k
  exact ⟨_, h.parse⟩

/-! ### beginnings -/
/-- an operation of a beginning, beside the same one of the whole -/
def Near (b a : Opr) : Prop := a.id = b.id ∧ a.call = b.call ∧ a.era = b.era ∧ (0 ≤ b.done → a = b)
def NearL (bs cs : List Opr) : Prop := bs.length ≤ cs.length ∧ ∀ (i : Nat) (b a : Opr), bs[i]? = some b → cs[i]? = some a → Near b a
theorem NearL.refl (l : List Opr) : NearL l l := ⟨Nat.le_refl _, fun i b a hb ha => by rw [hb] at ha; cases ha; exact ⟨rfl, rfl, rfl, fun _ => rfl⟩⟩
theorem near_step {l : List Ev} {k : Nat} {st st' : List Opr × Int} {e : Ev} {bs : List Opr} (h : NearL bs st.1) (hids : (st.1.map (·.id)).Nodup) (hs : pStep l k st e = some st') : NearL bs st'.1 := by
  unfold pStep at hs
  split at hs
  · split at hs
    · cases hs
    · split at hs
      · cases hs
        refine ⟨by simp; have := h.1; omega, fun i b a hb ha => ?_⟩
        have hi := (List.getElem?_eq_some_iff.1 hb).1
        rw [List.getElem?_append_left (by have := h.1; omega)] at ha
        exact h.2 i b a hb ha
      · cases hs
  · split at hs
    · split at hs
      · cases hs
      · rename_i o ho
        unfold pDone at hs
        split at hs
        · cases hs
        · rename_i hd
          split at hs
          · cases hs
          · split at hs
            · split at hs
              · cases hs
                refine ⟨by simpa using h.1, fun i b a hb ha => ?_⟩
                rw [List.getElem?_map] at ha
                rcases hp : st.1[i]? with _ | p
                · rw [hp] at ha; cases ha
                · rw [hp] at ha
                  simp at ha
                  obtain ⟨h1, h2, h3, h4⟩ := h.2 i b p hb hp
                  have hera : (Opr.fin e k p).era = p.era := by unfold Opr.fin; split <;> rfl
                  subst ha
                  refine ⟨by rw [fin_id]; exact h1, by rw [fin_call]; exact h2, by rw [hera]; exact h3, fun hbd => ?_⟩
                  have hpb := h4 hbd
                  have : Opr.fin e k p = p := by
                    unfold Opr.fin
                    rw [if_neg]
                    intro hpe
                    have hom := findO_mem ho
                    obtain ⟨j, hj⟩ := List.mem_iff_getElem?.1 hom.1
                    have hij : i = j := (List.getElem?_inj (l := st.1.map (·.id)) (by rw [List.length_map]; exact (List.getElem?_eq_some_iff.1 hp).1) hids).1 (by rw [List.getElem?_map, List.getElem?_map, hp, hj]; simp [hpe, hom.2])
                    subst hij
                    rw [hp] at hj
                    have := Option.some.inj hj
                    subst this
                    rw [hpb] at hd
                    exact hd hbd
                  rw [this]
                  exact hpb
              · cases hs
            · cases hs
    · split at hs
      · split at hs
        · cases hs
          exact h
        · cases hs
      · cases hs
theorem prefix_law {l : List Ev} {st : List Opr × Int} (h : parseS l = some st) {m : Nat} (hm : m ≤ l.length) : ∃ st0, parseS (l.take m) = some st0 ∧ NearL st0.1 st.1 := by
  have key : ∀ k, m ≤ k → k ≤ l.length → ∀ st, parseTo l k = some st → ∃ st0, parseTo l m = some st0 ∧ NearL st0.1 st.1 := by
    intro k hmk
    induction k with
    | zero =>
      intro _ st hst
      obtain rfl : m = 0 := by omega
      exact ⟨st, hst, NearL.refl _⟩
    | succ k ih =>
      intro hk st hst
      rcases Nat.lt_or_ge m (k + 1) with hlt | hge
      · rcases hp : parseTo l k with _ | st1
        · rw [parseTo_none (k := k) hp (Nat.le_succ _)] at hst
          cases hst
        · obtain ⟨st0, h0, hn⟩ := ih (by omega) (by omega) st1 hp
          have he : l[k]? = some l[k] := List.getElem?_eq_getElem (by omega)
          rw [parseTo_at hp he] at hst
          exact ⟨st0, h0, near_step hn (PInv.to hp).ids hst⟩
      · obtain rfl : m = k + 1 := by omega
        exact ⟨st, hst, NearL.refl _⟩
  obtain ⟨st0, h0, hn⟩ := key l.length hm (Nat.le_refl _) st h
  refine ⟨st0, ?_, hn⟩
  have h1 := parseTo_left (l.take m) (l.drop m) m (by rw [List.length_take]; omega)
  rw [List.take_append_drop, h0] at h1
  unfold parseS
  rw [List.length_take, Nat.min_eq_left hm]
  exact h1.symm

/-! ### repeated events -/
theorem valid_at {l : List Ev} (h : validL l = true) {i : Nat} {e : Ev} (he : l[i]? = some e) : evOk l i e = true := by
  unfold validL validTo at h
  rw [List.take_length, List.all_eq_true] at h
  have hi := (List.getElem?_eq_some_iff.1 he).1
  refine h (e, i) (List.mem_iff_getElem?.2 ⟨i, ?_⟩)
  rw [List.getElem?_zipIdx, he]
  simp
theorem valid_kind {l : List Ev} (h : validL l = true) {i : Nat} {e : Ev} (he : l[i]? = some e) : e.kind = 1 ∨ e.kind = 2 ∨ e.kind = 3 := by
  have := valid_at h he
  unfold evOk at this
  split at this
  · omega
  · split at this
    · omega
    · split at this
      · omega
      · cases this
theorem find_before {l : List Ev} {kind x : Int} {i j : Nat} {e : Ev} (he : l[i]? = some e) (hij : i < j) (hh : hitE kind x e = true) : 0 ≤ findE l kind x j := by
  unfold findE
  split
  · omega
  · rename_i hn
    rw [List.findIdx?_eq_none_iff] at hn
    have := hn e (List.mem_iff_getElem?.2 ⟨i, by rw [List.getElem?_take, if_pos hij]; exact he⟩)
    rw [hh] at this
    cases this
theorem twice_not {l : List Ev} {i j : Nat} {e e' : Ev} (he : l[i]? = some e) (he' : l[j]? = some e') (hij : i < j) (hk : e.kind = e'.kind) (ho : e.op = e'.op) (h12 : e'.kind = 1 ∨ e'.kind = 2) : validL l = false := by
  cases hv : validL l
  · rfl
  · have h1 := valid_at hv he'
    exfalso
    unfold evOk at h1
    rw [if_neg (by omega)] at h1
    rcases h12 with h | h
    · rw [if_pos h] at h1
      have h2 := find_before (kind := 1) (x := e'.op) he hij (by simp [hitE, hk, h, ho])
      simp only [Bool.and_eq_true, decide_eq_true_eq] at h1
      omega
    · rw [if_neg (by omega), if_pos h] at h1
      have h2 := find_before (kind := 2) (x := e'.op) he hij (by simp [hitE, hk, h, ho])
      rw [doneAt_two h2] at h1
      cases h1
theorem changed_law {l : List Ev} (h : validL l = true) {i k : Nat} {e : Ev} (he : l[i]? = some e) (hk : k ≤ l.length) (h3 : e.kind ≠ 3) : validL (l.take k ++ [e] ++ l.drop k) = false := by
  have hkd := valid_kind h he
  have hi := (List.getElem?_eq_some_iff.1 he).1
  have hkl : (l.take k).length = k := by rw [List.length_take]; omega
  have hat : (l.take k ++ [e] ++ l.drop k)[k]? = some e := by
    rw [List.append_assoc, List.getElem?_append_right (by omega), hkl, Nat.sub_self]
    rfl
  rcases Nat.lt_or_ge i k with hlt | hge
  · have h1 : (l.take k ++ [e] ++ l.drop k)[i]? = some e := by
      rw [List.append_assoc, List.getElem?_append_left (by omega), List.getElem?_take, if_pos hlt]
      exact he
    exact twice_not h1 hat hlt rfl rfl (by omega)
  · have h1 : (l.take k ++ [e] ++ l.drop k)[i + 1]? = some e := by
      rw [List.getElem?_append_right (by simp; omega), List.getElem?_drop]
      simp only [List.length_append, hkl, List.length_cons, List.length_nil]
      rw [show k + (i + 1 - (k + (0 + 1))) = i by omega]
      exact he
    exact twice_not hat h1 (by omega) rfl rfl (by omega)
end Go.Proofs.Ytcgbnlhloopnfaa
