/- The reference's search on lists: what an era can leave, and the chain of eras: they decide ExpO. Plain: no program is walked here.
The reference's next and its tables, on lists. Plain: no program is walked here. -/
import Derived.Test.YtcgbnlhloopnfaaDoorGPln
import Derived.Test.YtcgbnlhloopnfaaDoorGSr
namespace Go.Proofs.YtcgbnlhloopnfaaDoor

/-- v' may be left by an era -/
def EndsV (X : List Opr) (st : Int) (sf : Nat → Bool) (v' : Int) : Prop := ∃ p m, Path X st (0, -1) p m ∧ Compl X st m ∧ covS X sf m.1 = true ∧ v' = valS X st m.2
theorem ends_step {os : List Opr} (hids : (os.map (·.id)).Nodup) {cuts k : Nat} (hk : k < cuts) {v : Int} : ExpO os cuts k v ↔ ∃ v', EndsV (eraX os k) v (safeX os k) v' ∧ ExpO os cuts (k + 1) v' := by
  rw [exp_vis hids (by omega)]
  constructor
  · rintro ⟨p, m, h1, h2, h3, -, h4⟩
    exact ⟨_, ⟨p, m, h1, h3, h2, rfl⟩, h4⟩
  · rintro ⟨v', ⟨p, m, h1, h3, h2, rfl⟩, h4⟩
    exact ⟨p, m, h1, h2, h3, fun h => by omega, h4⟩
theorem ends_last {os : List Opr} (hids : (os.map (·.id)).Nodup) {cuts : Nat} {v : Int} : ExpO os cuts cuts v ↔ ∃ v', EndsV (eraX os cuts) v (safeX os cuts) v' := by
  rw [exp_vis hids (Nat.le_refl _)]
  constructor
  · rintro ⟨p, m, h1, h2, h3, -, -⟩
    exact ⟨_, p, m, h1, h3, h2, rfl⟩
  · rintro ⟨v', p, m, h1, ⟨q, u, h3, h4⟩, -, -⟩
    refine ⟨p ++ q, u, h1.app h3, ?_, ⟨[], u, .nil _, h4⟩, fun _ => h4, exp_end _ _ _⟩
    unfold covS at h4 ⊢
    rw [List.all_eq_true] at h4 ⊢
    intro i hi
    rcases hs : safeX os cuts i with _ | _
    · rfl
    · have h5 := h4 i hi
      unfold ansQ at h5
      have h6 : 0 ≤ (opAt (eraX os cuts) i).done := durI_done hs
      rw [show decide (0 ≤ (opAt (eraX os cuts) i).done) = true by simpa using h6] at h5
      exact h5
/-- the values behind the first k eras -/
def ValsK (os : List Opr) : Nat → Int → Prop
  | 0, v => v = 0
  | k + 1, v => ∃ u, ValsK os k u ∧ EndsV (eraX os k) u (safeX os k) v
theorem vals_exp {os : List Opr} (hids : (os.map (·.id)).Nodup) {cuts : Nat} : ∀ k, k ≤ cuts → (ExpO os cuts 0 0 ↔ ∃ v, ValsK os k v ∧ ExpO os cuts k v) := by
  intro k
  induction k with
  | zero => intro _; exact ⟨fun h => ⟨0, rfl, h⟩, fun ⟨v, hv, h⟩ => by cases hv; exact h⟩
  | succ k ih =>
    intro hk
    rw [ih (by omega)]
    constructor
    · rintro ⟨u, h1, h2⟩
      obtain ⟨v, h3, h4⟩ := (ends_step hids (by omega)).1 h2
      exact ⟨v, ⟨u, h1, h3⟩, h4⟩
    · rintro ⟨v, ⟨u, h1, h3⟩, h4⟩
      exact ⟨u, h1, (ends_step hids (by omega)).2 ⟨v, h3, h4⟩⟩
/-- a history has an explanation exactly if a value is left behind the last era -/
theorem vals_all {os : List Opr} (hids : (os.map (·.id)).Nodup) {cuts : Nat} : ExpO os cuts 0 0 ↔ ∃ v, ValsK os (cuts + 1) v := by
  rw [vals_exp hids cuts (Nat.le_refl _)]
  constructor
  · rintro ⟨u, h1, h2⟩
    obtain ⟨v, h3⟩ := (ends_last hids).1 h2
    exact ⟨v, u, h1, h3⟩
  · rintro ⟨v, u, h1, h3⟩
    exact ⟨u, h1, (ends_last hids).2 ⟨v, h3⟩⟩
/-- the operations that must survive, as the reference has them -/
theorem safe_same {os : List Opr} {k i : Nat} (hi : i < (eraX os k).length) : durR (eraO os k) (opAt (eraX os k) i) = safeX os k i := by
  unfold safeX
  have hm := opAt_mem hi
  have h1 := (List.mem_filter.1 hm).1
  have h2 : (opAt (eraX os k) i).era = (k : Int) := by simpa using (List.mem_filter.1 h1).2
  rw [dur_eq, h2]
theorem ends_same {os : List Opr} {k : Nat} {st v : Int} : EndsV (eraX os k) st (fun i => durR (eraO os k) (opAt (eraX os k) i)) v ↔ EndsV (eraX os k) st (safeX os k) v := by
  have : ∀ S, covS (eraX os k) (fun i => durR (eraO os k) (opAt (eraX os k) i)) S = covS (eraX os k) (safeX os k) S := fun S => by
    unfold covS
    rw [Bool.eq_iff_iff, List.all_eq_true, List.all_eq_true]
    constructor
    · intro h i hi
      have h1 : (!durR (eraO os k) (opAt (eraX os k) i) || S.testBit i) = true := h i hi
      rwa [safe_same (by simpa using hi)] at h1
    · intro h i hi
      show (!durR (eraO os k) (opAt (eraX os k) i) || S.testBit i) = true
      rw [safe_same (by simpa using hi)]
      exact h i hi
  unfold EndsV
  constructor
  · rintro ⟨p, m, h1, h2, h3, h4⟩; exact ⟨p, m, h1, h2, (this _).symm.trans h3, h4⟩
  · rintro ⟨p, m, h1, h2, h3, h4⟩; exact ⟨p, m, h1, h2, (this _).trans h3, h4⟩

/-! ### the tables of an era -/
/-- a set and a last write (0: none) that can be reached -/
def Reach (X : List Opr) (st : Int) (S l : Nat) : Prop := ∃ p, Path X st (0, -1) p (S, (l : Int) - 1)
/-- tab holds only what can be reached, and all that follows in one step by i from (S, l) among the pairs of T -/
def TabR (X : List Opr) (st : Int) (tab : Nat → Nat → Bool) (T : Nat → Nat → Nat → Prop) : Prop :=
  (∀ S l, tab S l = true → Reach X st S l) ∧ tab 0 0 = true ∧ ∀ S l i t, T S l i → i < X.length → tab S l = true → nextS X st (S, (l : Int) - 1) i = some t → tab t.1 (t.2 + 1).toNat = true
theorem step_last {X : List Opr} {st : Int} {S : Nat} {l : Nat} {i : Nat} {t : St} (h : nextS X st (S, (l : Int) - 1) i = some t) : t.2 = ((t.2 + 1).toNat : Int) - 1 ∧ t.1 = S ||| 2 ^ i := by
  obtain ⟨-, -, -, rfl⟩ := nextS_some h
  refine ⟨?_, rfl⟩
  show (if (opAt X i).write then (i : Int) else (l : Int) - 1) = _
  split <;> omega
theorem tab_full {X : List Opr} {st : Int} {tab : Nat → Nat → Bool} (h : TabR X st tab fun _ _ _ => True) (S l : Nat) : tab S l = true ↔ Reach X st S l := by
  obtain ⟨h1, h2, h3⟩ := h
  refine ⟨h1 S l, ?_⟩
  rintro ⟨p, hp⟩
  have key : ∀ (p : List Nat) (s u : St) (l l' : Nat), Path X st s p u → s.2 = (l : Int) - 1 → u.2 = (l' : Int) - 1 → tab s.1 l = true → tab u.1 l' = true := by
    intro p
    induction p with
    | nil =>
      intro s u l l' hp hl hl' ht
      cases hp
      rw [hl] at hl'
      rwa [show l' = l by omega]
    | cons i p ih =>
      intro s u l l' hp hl hl' ht
      cases hp with
      | cons hi hn hp =>
        rename_i t
        obtain ⟨S, ls⟩ := s
        simp only at hl ht
        subst hl
        have h4 := h3 S l i t trivial hi ht hn
        exact ih t u (t.2 + 1).toNat l' hp (step_last hn).1 hl' h4
  exact key p (0, -1) (S, (l : Int) - 1) 0 l hp rfl rfl h2
end Go.Proofs.YtcgbnlhloopnfaaDoor
namespace Go.Proofs.YtcgbnlhloopnfaaDoor

theorem prec_self {X : List Opr} (hX : ∀ o ∈ X, 0 ≤ o.done → o.call ≤ o.done) {i : Nat} (hi : i < X.length) : precO (opAt X i) (opAt X i) = false := by
  unfold precO
  have := hX _ (opAt_mem hi)
  by_cases h : 0 ≤ (opAt X i).done
  · have := this h
    simp
    omega
  · simp
    intro _
    omega
theorem stop_ready {X : List Opr} (hX : ∀ o ∈ X, 0 ≤ o.done → o.call ≤ o.done) {S i : Nat} (hi : i < X.length) : (List.range X.length).any (nstopR X S i) = !readyS X S i := by
  have hs : ∀ k, nstopR X S i k = (!S.testBit k && precO (opAt X k) (opAt X i)) := fun k => by unfold nstopR precO; rw [Bool.and_assoc]
  unfold readyS
  rw [Bool.eq_iff_iff, List.any_eq_true, Bool.not_eq_true', List.all_eq_false]
  constructor
  · rintro ⟨k, hk, h⟩
    refine ⟨k, hk, ?_⟩
    rw [hs, Bool.and_eq_true] at h
    have hne : (k == i) = false := by
      rcases hq : (k == i) with _ | _
      · rfl
      · have : k = i := by simpa using hq
        subst this
        rw [prec_self hX hi] at h
        cases h.2
    rw [hne, h.2]
    simpa using h.1
  · rintro ⟨k, hk, h⟩
    refine ⟨k, hk, ?_⟩
    rw [hs]
    simp at h
    simp [h.1.2, h.2]
theorem nxt_some {X : List Opr} (hX : ∀ o ∈ X, 0 ≤ o.done → o.call ≤ o.done) {st : Int} {S l i l' : Nat} (hi : i < X.length) : nxtR X st S l i = some l' ↔ nextS X st (S, (l : Int) - 1) i = some (S ||| 2 ^ i, (l' : Int) - 1) := by
  unfold nxtR
  rw [stop_ready hX hi]
  constructor
  · intro h
    split at h
    · cases h
    · rename_i hb
      split at h
      · cases h
      · rename_i hr
        have hb' : nbadR X st S l i = false := by simpa using hb
        unfold nbadR at hb'
        rw [Bool.or_eq_false_iff] at hb'
        have hr' : readyS X S i = true := by simpa using hr
        injection h with h
        rw [nextS_of (s := (S, (l : Int) - 1)) hb'.1 hr' ?_]
        · congr 2
          show (if (opAt X i).write then (i : Int) else (l : Int) - 1) = _
          rw [← h]
          split <;> omega
        · rcases hw : (opAt X i).write with _ | _
          · have h2 := hb'.2
            rw [hw] at h2
            simp at h2
            exact .inr ⟨h2.1, by rw [← valR_eq]; exact h2.2⟩
          · exact .inl rfl
  · intro h
    obtain ⟨h1, h2, h3, h4⟩ := nextS_some h
    have hb : nbadR X st S l i = false := by
      unfold nbadR
      rw [show S.testBit i = false from h1]
      rcases h3 with h3 | ⟨h3, h3'⟩
      · simp [h3]
      · have h5 : (opAt X i).val = valR X st l := by rw [valR_eq]; exact h3'
        simp [h5]
        intro _
        omega
    rw [hb, show readyS X S i = true from h2]
    simp only [Bool.false_eq_true, if_false, Bool.not_true]
    have h5 := congrArg Prod.snd h4
    simp only at h5
    congr 1
    rcases hw : (opAt X i).write with _ | _
    · rw [hw] at h5
      simp at h5
      simp
      omega
    · rw [hw] at h5
      simp at h5
      simp
      omega
theorem reach_zero (X : List Opr) (st : Int) : Reach X st 0 0 := ⟨[], .nil _⟩
theorem reach_next {X : List Opr} (hX : ∀ o ∈ X, 0 ≤ o.done → o.call ≤ o.done) {st : Int} {S l i l' : Nat} (hi : i < X.length) (h : Reach X st S l) (hn : nxtR X st S l i = some l') : Reach X st (S ||| 2 ^ i) l' := by
  obtain ⟨p, hp⟩ := h
  exact ⟨p ++ [i], hp.snoc hi ((nxt_some hX hi).1 hn)⟩
theorem compl_iff {X : List Opr} (hX : ∀ o ∈ X, 0 ≤ o.done → o.call ≤ o.done) {st : Int} {S l : Nat} : Compl X st (S, (l : Int) - 1) ↔ covS X (ansQ X) S = true ∨ ∃ i l', i < X.length ∧ nxtR X st S l i = some l' ∧ Compl X st (S ||| 2 ^ i, (l' : Int) - 1) := by
  constructor
  · rintro ⟨p, u, hp, hc⟩
    cases hp with
    | nil => exact .inl hc
    | cons hi hn hp =>
      rename_i t i p
      have hl := step_last hn
      have ht : t = (S ||| 2 ^ i, ((t.2 + 1).toNat : Int) - 1) := Prod.ext hl.2 hl.1
      refine .inr ⟨i, (t.2 + 1).toNat, hi, (nxt_some hX hi).2 (by rw [hn, ← ht]), ?_⟩
      rw [← ht]
      exact ⟨p, u, hp, hc⟩
  · rintro (h | ⟨i, l', hi, hn, p, u, hp, hc⟩)
    · exact ⟨[], _, .nil _, h⟩
    · exact ⟨i :: p, u, .cons hi ((nxt_some hX hi).1 hn) hp, hc⟩
theorem nxt_le {X : List Opr} {st : Int} {S l i l' : Nat} (hi : i < X.length) (hl : l ≤ X.length) (h : nxtR X st S l i = some l') : l' ≤ X.length := by
  unfold nxtR at h
  split at h
  · cases h
  · split at h
    · cases h
    · injection h with h
      subst h
      split <;> omega
theorem nxt_gt {X : List Opr} {st : Int} {S l i l' : Nat} (h : nxtR X st S l i = some l') : S < S ||| 2 ^ i := by
  unfold nxtR at h
  split at h
  · cases h
  · rename_i hb
    have hb' : nbadR X st S l i = false := by simpa using hb
    unfold nbadR at hb'
    rw [Bool.or_eq_false_iff] at hb'
    have h1 : S ≤ S ||| 2 ^ i := Nat.left_le_or
    rcases Nat.lt_or_eq_of_le h1 with h2 | h2
    · exact h2
    · have h3 := testBit_set S i i
      rw [← h2, hb'.1] at h3
      simp at h3
end Go.Proofs.YtcgbnlhloopnfaaDoor
