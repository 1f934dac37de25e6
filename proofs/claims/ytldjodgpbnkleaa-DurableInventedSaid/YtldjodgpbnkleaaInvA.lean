/- A history in which the result of an answered read is replaced: its operations. Plain: no program is walked here. -/
import Derived.Test.YtldjodgpbnkleaaStoD
namespace Go.Proofs.Ytldjodgpbnkleaa

def setV (op v : Int) (o : Opr) : Opr := if o.id = op then { o with val := v } else o
def chgE (e : Ev) (v : Int) : Ev := { e with val := v }
theorem setV_id (op v : Int) (o : Opr) : (setV op v o).id = o.id := by unfold setV; split <;> rfl
theorem findO_setV {os : List Opr} {op v x : Int} : findO (os.map (setV op v)) x = (findO os x).map (setV op v) := by
  unfold findO
  rw [List.find?_map]
  congr 2
  funext o
  simp [setV_id]
theorem parseTo_set_low {l : List Ev} {i : Nat} (hi : i < l.length) (e' : Ev) {k : Nat} (hk : k ≤ i) : parseTo (l.set i e') k = parseTo l k := by
  have h1 : l.set i e' = l.take i ++ e' :: l.drop (i + 1) := by rw [List.set_eq_take_append_cons_drop, if_pos hi]
  have h2 : l = l.take i ++ l.drop i := (List.take_append_drop i l).symm
  have hl : (l.take i).length = i := by rw [List.length_take]; omega
  rw [h1, parseTo_left _ _ _ (by omega)]
  conv => rhs; rw [h2]
  rw [parseTo_left _ _ _ (by omega)]
theorem fin_setV {e : Ev} {k : Nat} {op v : Int} (h : e.op ≠ op) (o : Opr) : Opr.fin e k (setV op v o) = setV op v (Opr.fin e k o) := by
  unfold Opr.fin setV
  by_cases h1 : o.id = op
  · have h2 : ¬ o.id = e.op := fun h3 => h (by rw [← h3, h1])
    have h3 : ¬ op = e.op := fun h4 => h h4.symm
    simp [h1, h3]
  · by_cases h2 : o.id = e.op
    · simp [h2, h]
    · simp [h1, h2]
theorem parse_changed {l : List Ev} {i : Nat} {e : Ev} (he : l[i]? = some e) (hk2 : e.kind = 2) (hw : e.write = false) (hb : e.barrier = false) (v : Int) (k : Nat) (hik : i < k) (hk : k ≤ l.length) {st : List Opr × Int} (h : parseTo l k = some st) :
    parseTo (l.set i (chgE e v)) k = some (st.1.map (setV e.op v), st.2) ∧ ∃ o ∈ st.1, o.id = e.op ∧ 0 ≤ o.done ∧ o.write = false ∧ o.barrier = false := by
  have hil : i < l.length := (List.getElem?_eq_some_iff.1 he).1
  induction k generalizing st with
  | zero => omega
  | succ k ih =>
    rcases hp : parseTo l k with _ | st0
    · simp only [parseTo, hp] at h
      cases h
    · have hlk : l[k]? = some l[k] := List.getElem?_eq_getElem (by omega)
      have hs := (parseTo_at hp hlk).symm.trans h
      have hinv := PInv.to hp
      rcases Nat.lt_or_ge i k with hlt | hge
      · -- behind the place
        obtain ⟨h1, o1, ho1, ho2, ho3, ho4⟩ := ih hlt (by omega) hp
        have hlk' : (l.set i (chgE e v))[k]? = some l[k] := by rw [List.getElem?_set_ne (by omega)]; exact hlk
        have hpc := pcall_to (by omega) hp
        generalize l[k] = e2 at *
        have hne : ∀ o, findO st0.1 e2.op = some o → o.done < 0 → e2.op ≠ e.op := by
          intro o h2 h3 h4
          have h5 := findO_mem h2
          have := id_inj hinv.ids h5.1 ho1 (by rw [h5.2, h4, ho2])
          subst this
          omega
        have hne1 : findO st0.1 e2.op = none → e2.op ≠ e.op := by
          intro h2 h3
          exact findO_none h2 o1 ho1 (by rw [ho2, h3])
        rw [parseTo_at h1 hlk']
        unfold pStep at hs ⊢
        simp only [findO_setV] at *
        split at hs
        · rename_i hk1
          rw [if_pos hk1]
          split at hs
          · cases hs
          · rename_i hf
            split at hs
            · rename_i hpr
              cases hs
              rw [hf]
              simp only [Option.map_none, hpr, if_true]
              refine ⟨?_, o1, List.mem_append.2 (.inl ho1), ho2, ho3, ho4⟩
              rw [List.map_append]
              have : setV e.op v (Opr.of e2 st0.2 k) = Opr.of e2 st0.2 k := by
                unfold setV
                rw [if_neg]
                exact hne1 hf
              simp [this]
            · cases hs
        · rename_i hk1
          rw [if_neg hk1]
          split at hs
          · rename_i hk3
            rw [if_pos hk3]
            split at hs
            · cases hs
            · rename_i o hf
              rw [hf]
              simp only [Option.map_some]
              unfold pDone at hs ⊢
              split at hs
              · cases hs
              · rename_i hd
                split at hs
                · cases hs
                · rename_i her
                  have hop := hne o hf (by omega)
                  have hso : setV e.op v o = o := by
                    unfold setV
                    rw [if_neg]
                    rw [(findO_mem hf).2]
                    exact hop
                  rw [hso, if_neg hd, if_neg her]
                  have hcall := hpc o (findO_mem hf).1 (by omega)
                  have hci : o.call.toNat ≠ i := by
                    intro h2
                    rw [h2, he] at hcall
                    have := congrArg Ev.kind (Option.some.inj hcall)
                    simp only [callOf] at this
                    omega
                  rw [List.getElem?_set_ne (fun h2 => hci h2.symm)]
                  rw [hcall] at hs ⊢
                  simp only at hs ⊢
                  split at hs
                  · rename_i ha
                    cases hs
                    rw [if_pos ha]
                    refine ⟨?_, Opr.fin e2 k o1, List.mem_map.2 ⟨o1, ho1, rfl⟩, by rw [fin_id]; exact ho2, ?_, by unfold Opr.fin; split <;> exact ho4⟩
                    · simp only [List.map_map]
                      congr 2
                      refine List.map_congr_left fun x _ => ?_
                      exact fin_setV hop x
                    · unfold Opr.fin
                      split
                      · simp
                      · exact ho3
                  · cases hs
          · rename_i hk3
            rw [if_neg hk3]
            split at hs
            · rename_i hk4
              rw [if_pos hk4]
              split at hs
              · rename_i hcut
                cases hs
                rw [if_pos hcut]
                exact ⟨rfl, o1, ho1, ho2, ho3, ho4⟩
              · cases hs
            · cases hs
      · -- at the place
        obtain rfl : i = k := by omega
        have hei : l[i] = e := by rw [hlk] at he; exact Option.some.inj he
        rw [hei] at hs
        have hlk' : (l.set i (chgE e v))[i]? = some (chgE e v) := List.getElem?_set_self hil
        have hp' : parseTo (l.set i (chgE e v)) i = some st0 := by rw [parseTo_set_low hil _ (Nat.le_refl _)]; exact hp
        rw [parseTo_at hp' hlk']
        unfold pStep at hs ⊢
        have k1 : (chgE e v).kind = 2 := hk2
        have k2 : (chgE e v).op = e.op := rfl
        rw [if_neg (by omega), if_pos hk2] at hs
        rw [if_neg (by omega), if_pos k1, k2]
        split at hs
        · cases hs
        · rename_i o hf
          unfold pDone at hs ⊢
          split at hs
          · cases hs
          · rename_i hd
            split at hs
            · cases hs
            · rename_i her
              rw [if_neg hd, if_neg her]
              have hci := hinv.call o (findO_mem hf).1
              rw [List.getElem?_set_ne (by omega)]
              split at hs
              · rename_i c hc
                have ha' : ansOk (chgE e v) c = ansOk e c := by
                  unfold ansOk chgE
                  simp [hw, hb]
                rw [ha']
                split at hs
                · rename_i ha
                  have hrd : o.write = false ∧ o.barrier = false := by
                    have hcall := pcall_to (by omega) hp o (findO_mem hf).1 (by omega)
                    rw [hc] at hcall
                    have hcc := Option.some.inj hcall
                    subst hcc
                    simp only [ansOk, callOf, Bool.and_eq_true, beq_iff_eq] at ha
                    exact ⟨by rw [← ha.1.1.1.2]; exact hw, by rw [← ha.2]; exact hb⟩
                  cases hs
                  rw [if_pos ha]
                  refine ⟨?_, Opr.fin e i o, List.mem_map.2 ⟨o, (findO_mem hf).1, rfl⟩, by rw [fin_id]; exact (findO_mem hf).2, ?_, by unfold Opr.fin; split <;> exact hrd⟩
                  · simp only [List.map_map]
                    congr 2
                    refine List.map_congr_left fun x _ => ?_
                    unfold Opr.fin setV chgE
                    simp only [Function.comp]
                    by_cases hx : x.id = e.op
                    · simp [hx]
                    · simp [hx]
                  · unfold Opr.fin
                    rw [if_pos (findO_mem hf).2]
                    simp
                · cases hs
              · cases hs
end Go.Proofs.Ytldjodgpbnkleaa
