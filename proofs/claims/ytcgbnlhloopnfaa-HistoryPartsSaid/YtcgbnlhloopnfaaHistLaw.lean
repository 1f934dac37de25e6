/- A history is parsed by history.parse exactly if it is valid by the reference, into the same operations. -/
import Derived.Test.YtcgbnlhloopnfaaParseSpec
namespace Go.Proofs.Ytcgbnlhloopnfaa

theorem callOk_eq (e : Ev) : callOk e = properB e := by
  unfold callOk properB flushB
  by_cases h : e.op < 0 ∨ e.reg < 0 ∨ e.val < 0
  · rw [if_pos h, if_pos h]
  · rw [if_neg h, if_neg h]
    cases e.write <;> cases e.barrier <;> simp [Bool.and_comm]
theorem doneOk_eq {e c : Ev} (h : e.op = c.op) : doneOk e c = ansOk e c := by
  unfold doneOk ansOk
  rw [h]
  cases hw : e.write <;> cases hb : e.barrier <;> cases hw' : c.write <;> cases hb' : c.barrier <;> simp
theorem findE_succ {l : List Ev} {kind x : Int} {k : Nat} {e : Ev} (he : l[k]? = some e) : findE l kind x (k + 1) = if findE l kind x k < 0 then (if hitE kind x e then (k : Int) else -1) else findE l kind x k := by
  unfold findE
  have hk : k < l.length := (List.getElem?_eq_some_iff.1 he).1
  have ht : l.take (k + 1) = l.take k ++ [e] := by rw [List.take_add_one, he]; rfl
  rw [ht, List.findIdx?_append]
  rcases hf : List.findIdx? (hitE kind x) (l.take k) with _ | i
  · simp only [Option.none_or]
    by_cases hh : hitE kind x e = true
    · simp [List.findIdx?_cons, hh, Nat.min_eq_left (Nat.le_of_lt hk)]
    · simp [List.findIdx?_cons, hh]
  · simp only [Option.some_or]
    rw [if_neg (by simp)]
theorem findE_at {l : List Ev} {kind x : Int} {k : Nat} (h : 0 ≤ findE l kind x k) : ∃ (i : Nat) (c : Ev), findE l kind x k = i ∧ i < k ∧ l[i]? = some c ∧ hitE kind x c = true := by
  unfold findE at *
  split at h
  · rename_i i hi
    obtain ⟨hlt, hh, _⟩ := List.findIdx?_eq_some_iff_getElem.1 hi
    have hil : i < l.length := by simp at hlt; omega
    refine ⟨i, l[i], rfl, by simp at hlt; omega, List.getElem?_eq_getElem hil, ?_⟩
    simpa using hh
  · omega
def cutsN (l : List Ev) (k : Nat) : Int := ((l.take k).countP (fun e => e.kind == 3) : Nat)
theorem cutsN_succ {l : List Ev} {k : Nat} {e : Ev} (he : l[k]? = some e) : cutsN l (k + 1) = cutsN l k + (if e.kind = 3 then 1 else 0) := by
  unfold cutsN
  have ht : l.take (k + 1) = l.take k ++ [e] := by rw [List.take_add_one, he]; rfl
  rw [ht, List.countP_append]
  by_cases h : e.kind = 3 <;> simp [h]
theorem cutE_iff {l : List Ev} {i k : Nat} (hik : i ≤ k) : cutE l i k = true ↔ cutsN l i ≠ cutsN l k := by
  unfold cutE cutsN
  have hsplit : l.take k = (l.take k).take i ++ (l.take k).drop i := (List.take_append_drop i _).symm
  have h2 : (l.take k).take i = l.take i := by rw [List.take_take, Nat.min_eq_left hik]
  rw [h2] at hsplit
  have h3 : (l.take k).countP (fun e => e.kind == 3) = (l.take i).countP (fun e => e.kind == 3) + ((l.take k).drop i).countP (fun e => e.kind == 3) := by
    conv => lhs; rw [hsplit]
    rw [List.countP_append]
  rw [h3]
  have h4 : ((l.take k).drop i).any (fun e => e.kind == 3) = true ↔ 0 < ((l.take k).drop i).countP (fun e => e.kind == 3) := by
    rw [List.countP_pos_iff, List.any_eq_true]
  rw [h4]
  omega

theorem validTo_succ' {l : List Ev} {k : Nat} {e : Ev} (he : l[k]? = some e) : validTo l (k + 1) = (validTo l k && evOk l k e) := by
  unfold validTo
  have hk : k < l.length := (List.getElem?_eq_some_iff.1 he).1
  have ht : l.take (k + 1) = l.take k ++ [e] := by rw [List.take_add_one, he]; rfl
  rw [ht, List.zipIdx_append, List.all_append]
  simp [Nat.min_eq_left (Nat.le_of_lt hk)]

/-- what the operations of a valid beginning say of its events -/
structure OInv (l : List Ev) (k : Nat) (st : List Opr × Int) : Prop where
  era : st.2 = cutsN l k
  dn : ∀ x, 0 ≤ findE l 2 x k → 0 ≤ findE l 1 x k
  no : ∀ x, findO st.1 x = none ↔ findE l 1 x k < 0
  op : ∀ x o, findO st.1 x = some o → o.id = x ∧ o.call = findE l 1 x k ∧ o.done = findE l 2 x k ∧ ∃ (i : Nat), o.call = i ∧ i < k ∧ o.era = cutsN l i

theorem findO_map {os : List Opr} {e : Ev} {k : Nat} {x : Int} : findO (os.map (Opr.fin e k)) x = (findO os x).map (Opr.fin e k) := by
  unfold findO
  rw [List.find?_map]
  congr 2
  funext o
  simp [fin_id]
theorem hitE_kind {kind x : Int} {e : Ev} (h : e.kind ≠ kind) : hitE kind x e = false := by simp [hitE, h]

theorem find_miss {l : List Ev} {kind x : Int} {k : Nat} {e : Ev} (he : l[k]? = some e) (hh : hitE kind x e = false) : findE l kind x (k + 1) = findE l kind x k := by
  rw [findE_succ he, hh]
  have := findE_lt l kind x k
  split
  · simp; omega
  · rfl
theorem find_hit {l : List Ev} {kind x : Int} {k : Nat} {e : Ev} (he : l[k]? = some e) (hh : hitE kind x e = true) (hn : findE l kind x k < 0) : findE l kind x (k + 1) = k := by
  rw [findE_succ he, if_pos hn, hh]; rfl
theorem find_stay {l : List Ev} {kind x : Int} {k : Nat} {e : Ev} (he : l[k]? = some e) (hn : ¬ findE l kind x k < 0) : findE l kind x (k + 1) = findE l kind x k := by
  rw [findE_succ he, if_neg hn]
theorem hit_other {kind x : Int} {e : Ev} (h : e.op ≠ x) : hitE kind x e = false := by simp [hitE, h]
theorem hit_this {e : Ev} {kind : Int} (h : e.kind = kind) : hitE kind e.op e = true := by simp [hitE, h]

theorem hist_cut {l : List Ev} {k : Nat} {st : List Opr × Int} {e : Ev} (he : l[k]? = some e) (h : OInv l k st) (h3 : e.kind = 3) : OInv l (k + 1) (st.1, st.2 + 1) := by
  have m1 := fun x => find_miss he (hitE_kind (kind := 1) (x := x) (e := e) (by omega))
  have m2 := fun x => find_miss he (hitE_kind (kind := 2) (x := x) (e := e) (by omega))
  refine ⟨by rw [cutsN_succ he, if_pos h3, h.era], fun x => by rw [m1, m2]; exact h.dn x, fun x => by rw [m1]; exact h.no x, fun x o ho => ?_⟩
  obtain ⟨h4, h5, h6, i, h7, h8, h9⟩ := h.op x o ho
  exact ⟨h4, by rw [m1, h5], by rw [m2, h6], i, h7, by omega, h9⟩
theorem hist_call {l : List Ev} {k : Nat} {st : List Opr × Int} {e : Ev} (he : l[k]? = some e) (h : OInv l k st) (h1 : e.kind = 1) (hfo : findO st.1 e.op = none) : OInv l (k + 1) (st.1 ++ [Opr.of e st.2 k], st.2) := by
  have hn := (h.no e.op).1 hfo
  have hn2 : findE l 2 e.op k < 0 := by
    have := h.dn e.op
    omega
  have m2 := fun x => find_miss he (hitE_kind (kind := 2) (x := x) (e := e) (by omega))
  have m1 : ∀ x, e.op ≠ x → findE l 1 x (k + 1) = findE l 1 x k := fun x hx => find_miss he (hit_other hx)
  have m0 : findE l 1 e.op (k + 1) = k := find_hit he (hit_this h1) hn
  refine ⟨by rw [cutsN_succ he, if_neg (by omega), h.era]; simp, fun x => ?_, fun x => ?_, fun x o ho => ?_⟩
  · by_cases hx : e.op = x
    · subst hx; rw [m0]; omega
    · rw [m1 x hx, m2]; exact h.dn x
  · by_cases hx : e.op = x
    · subst hx
      rw [m0]
      unfold findO at hfo ⊢
      rw [List.find?_append, hfo]
      simp [Opr.of]
    · rw [m1 x hx, ← h.no x]
      unfold findO
      rw [List.find?_append]
      have hx' : (e.op == x) = false := by simpa using hx
      simp [Opr.of, hx']
  · by_cases hx : e.op = x
    · subst hx
      unfold findO at hfo ho
      rw [List.find?_append, hfo] at ho
      simp [Opr.of] at ho
      subst ho
      refine ⟨rfl, m0.symm, ?_, k, rfl, by omega, h.era⟩
      rw [m2]
      have := findE_lt l 2 e.op k
      simp only
      omega
    · have hx' : (e.op == x) = false := by simpa using hx
      have ho' : findO st.1 x = some o := by
        unfold findO at ho ⊢
        rw [List.find?_append] at ho
        simpa [Opr.of, hx'] using ho
      obtain ⟨h4, h5, h6, i, h7, h8, h9⟩ := h.op x o ho'
      exact ⟨h4, by rw [m1 x hx, h5], by rw [m2, h6], i, h7, by omega, h9⟩
theorem hist_done {l : List Ev} {k : Nat} {st : List Opr × Int} {e : Ev} (he : l[k]? = some e) (h : OInv l k st) (h2 : e.kind = 2) {o : Opr} (hfo : findO st.1 e.op = some o) (hn2 : findE l 2 e.op k < 0) : OInv l (k + 1) (st.1.map (Opr.fin e k), st.2) := by
  have m1 := fun x => find_miss he (hitE_kind (kind := 1) (x := x) (e := e) (by omega))
  have m2 : ∀ x, e.op ≠ x → findE l 2 x (k + 1) = findE l 2 x k := fun x hx => find_miss he (hit_other hx)
  have m0 : findE l 2 e.op (k + 1) = k := find_hit he (hit_this h2) hn2
  have hn1 : ¬ findE l 1 e.op k < 0 := by rw [← h.no e.op, hfo]; simp
  refine ⟨by rw [cutsN_succ he, if_neg (by omega), h.era]; simp, fun x => ?_, fun x => ?_, fun x o' ho => ?_⟩
  · rw [m1]
    by_cases hx : e.op = x
    · subst hx; omega
    · rw [m2 x hx]; exact h.dn x
  · rw [findO_map, m1, ← h.no x]; simp
  · rw [findO_map] at ho
    obtain ⟨o2, ho2, rfl⟩ := Option.map_eq_some_iff.1 ho
    obtain ⟨h4, h5, h6, i, h7, h8, h9⟩ := h.op x o2 ho2
    by_cases hx : e.op = x
    · subst hx
      have hid : o2.id = e.op := h4
      unfold Opr.fin
      rw [if_pos hid]
      exact ⟨h4, by rw [m1]; exact h5, m0.symm, i, h7, by omega, h9⟩
    · have hid : o2.id ≠ e.op := by rw [h4]; exact fun hh => hx hh.symm
      unfold Opr.fin
      rw [if_neg hid]
      exact ⟨h4, by rw [m1]; exact h5, by rw [m2 x hx]; exact h6, i, h7, by omega, h9⟩

theorem hist_step {l : List Ev} {k : Nat} {st : List Opr × Int} {e : Ev} (he : l[k]? = some e) (h : OInv l k st) : pStep l k st e = (if evOk l k e then some (rawStep k st e) else none) ∧ (evOk l k e = true → OInv l (k + 1) (rawStep k st e)) := by
  by_cases h3 : e.kind = 3
  · have hr : rawStep k st e = (st.1, st.2 + 1) := by unfold rawStep; rw [if_pos h3]
    have hp : pStep l k st e = if e = Ev.cut then some (st.1, st.2 + 1) else none := by unfold pStep; rw [if_neg (by omega), if_neg (by omega), if_pos h3]
    have hv : evOk l k e = decide (e = Ev.cut) := by unfold evOk; rw [if_pos h3]
    rw [hr, hp, hv]
    exact ⟨by simp, fun _ => hist_cut he h h3⟩
  by_cases h1 : e.kind = 1
  · have hr : rawStep k st e = (st.1 ++ [Opr.of e st.2 k], st.2) := by unfold rawStep; rw [if_neg h3, if_pos h1]
    have hv : evOk l k e = (properB e && decide (findE l 1 e.op k < 0)) := by unfold evOk; rw [if_neg h3, if_pos h1, callOk_eq]
    rw [hr, hv]
    unfold pStep
    rw [if_pos h1]
    rcases hfo : findO st.1 e.op with _ | o
    · have hn := (h.no e.op).1 hfo
      exact ⟨by simp [hn], fun _ => hist_call he h h1 hfo⟩
    · have hn : ¬ findE l 1 e.op k < 0 := by rw [← h.no e.op, hfo]; simp
      have hd : decide (findE l 1 e.op k < 0) = false := by simpa using hn
      rw [hd, Bool.and_false]
      exact ⟨by simp, fun hh => by cases hh⟩
  by_cases h2 : e.kind = 2
  · have hr : rawStep k st e = (st.1.map (Opr.fin e k), st.2) := by unfold rawStep; rw [if_neg h3, if_neg h1]
    have hv : evOk l k e = doneAt l k e (findE l 1 e.op k) (findE l 2 e.op k) := by unfold evOk; rw [if_neg h3, if_neg h1, if_pos h2]
    rw [hr, hv]
    unfold pStep
    rw [if_neg h1, if_pos h2]
    rcases hfo : findO st.1 e.op with _ | o
    · have hn := (h.no e.op).1 hfo
      rw [doneAt_neg hn]
      exact ⟨by simp, fun hh => by cases hh⟩
    · obtain ⟨h4, h5, h6, i, h7, h8, h9⟩ := h.op e.op o hfo
      have hn : ¬ findE l 1 e.op k < 0 := by rw [← h.no e.op, hfo]; simp
      by_cases hd : 0 ≤ o.done
      · rw [doneAt_two (by omega)]
        exact ⟨by simp [pDone_done hd], fun hh => by cases hh⟩
      · obtain ⟨i', c, hi, hik, hc, hh⟩ := findE_at (l := l) (kind := 1) (x := e.op) (k := k) (by omega)
        have hii : i = i' := by omega
        subst hii
        rw [hi, doneAt_at (by omega) hc]
        have hop : e.op = c.op := by simp [hitE] at hh; exact hh.2.symm
        rw [doneOk_eq hop]
        have hce := cutE_iff (l := l) (i := i) (k := k) (by omega)
        rw [← h9, ← h.era] at hce
        by_cases hera : o.era = st.2
        · have hcut : cutE l i k = false := by
            rcases hq : cutE l i k with _ | _
            · rfl
            · exact absurd hera (hce.1 hq)
          rw [hcut]
          refine ⟨by simp [pDone_at hd hera h7 hc], fun _ => hist_done he h h2 hfo (by omega)⟩
        · have hcut : cutE l i k = true := hce.2 hera
          rw [hcut]
          exact ⟨by simp [pDone_era hera], fun hh => by cases hh⟩
  · have hv : evOk l k e = false := by unfold evOk; rw [if_neg h3, if_neg h1, if_neg h2]
    rw [hv]
    refine ⟨?_, fun hh => by cases hh⟩
    unfold pStep
    rw [if_neg h1, if_neg h2, if_neg h3]
    rfl
theorem hist_to (l : List Ev) (k : Nat) (hk : k ≤ l.length) : parseTo l k = (if validTo l k then some (rawTo l k) else none) ∧ (validTo l k = true → OInv l k (rawTo l k)) := by
  induction k with
  | zero => exact ⟨rfl, fun _ => ⟨rfl, by simp [findE], by simp [findO, findE, rawTo], by simp [findO, rawTo]⟩⟩
  | succ k ih =>
    obtain ⟨e, he⟩ : ∃ e, l[k]? = some e := ⟨l[k], List.getElem?_eq_getElem (by omega)⟩
    obtain ⟨h1, h2⟩ := ih (by omega)
    rw [validTo_succ' he, rawTo_succ he]
    rcases hv : validTo l k with _ | _
    · rw [hv] at h1
      rw [parseTo_none (k := k) h1 (by omega)]
      exact ⟨rfl, fun hh => by simp at hh⟩
    · rw [hv] at h1
      rw [parseTo_at h1 he]
      obtain ⟨h3, h4⟩ := hist_step he (h2 hv)
      rw [h3]
      exact ⟨by simp, fun hh => h4 (by simpa using hh)⟩
theorem parse_eq (l : List Ev) : parseL l = if validL l then some (rawOps l) else none := by
  unfold parseL validL rawOps
  rw [(hist_to l l.length (Nat.le_refl _)).1]
  split <;> rfl
end Go.Proofs.Ytcgbnlhloopnfaa
