/- A traceable history of one register that has an explanation has no wrong reads. Plain: no program is walked here. -/
import Derived.Test.YtcgbnlhloopnfaaGPln
import Derived.Test.YtcgbnlhloopnfaaDurSpec
namespace Go.Proofs.Ytcgbnlhloopnfaa

def runD (v : Int) (R : List Opr) : Int := R.foldl (fun v o => valTo o v) v
theorem runD_cons (v : Int) (o : Opr) (R : List Opr) : runD v (o :: R) = runD (valTo o v) R := rfl
theorem runD_app (v : Int) (R R' : List Opr) : runD v (R ++ R') = runD (runD v R) R' := by unfold runD; rw [List.foldl_append]
theorem valOk_at : ∀ {xs : List Opr} {v : Int} {i : Nat} {o : Opr}, valOk v xs = true → xs[i]? = some o → o.write = false → o.val = runD v (xs.take i) := by
  intro xs
  induction xs with
  | nil => intro v i o _ h; simp at h
  | cons x xs ih =>
    intro v i o hv h hw
    simp only [valOk, Bool.and_eq_true, Bool.or_eq_true] at hv
    cases i with
    | zero =>
      simp at h
      subst h
      rcases hv.1 with h1 | h1
      · rw [hw] at h1; cases h1
      · simpa [runD] using h1
    | succ i =>
      rw [List.take_succ_cons, runD_cons]
      exact ih hv.2 (by simpa using h) hw
theorem runD_none : ∀ {R : List Opr} {v : Int}, (∀ o ∈ R, o.write = false) → runD v R = v := by
  intro R
  induction R with
  | nil => intro v _; rfl
  | cons o R ih =>
    intro v h
    rw [runD_cons, show valTo o v = v by unfold valTo; rw [h o (by simp)]; rfl]
    exact ih fun x hx => h x (by simp [hx])
/-- the value behind a list: that of its last write -/
theorem runD_last (R : List Opr) : (∀ o ∈ R, o.write = false) ∨ ∃ L s M, R = L ++ s :: M ∧ s.write = true ∧ (∀ o ∈ M, o.write = false) ∧ ∀ v, runD v R = s.val := by
  induction R with
  | nil => exact .inl (by simp)
  | cons o R ih =>
    rcases ih with h | ⟨L, s, M, rfl, h1, h2, h3⟩
    · rcases hw : o.write with _ | _
      · exact .inl fun x hx => by
          rcases List.mem_cons.1 hx with rfl | hx
          · exact hw
          · exact h x hx
      · refine .inr ⟨[], o, R, rfl, hw, h, fun v => ?_⟩
        rw [runD_cons, runD_none h]
        unfold valTo
        rw [if_pos hw]
    · refine .inr ⟨o :: L, s, M, rfl, h1, h2, fun v => ?_⟩
      rw [runD_cons]
      exact h3 _
/-- what an explanation says of an era -/
structure EraD (os : List Opr) (cuts e : Nat) (X : List Opr) (N : Nat) (v : Int) : Prop where
  mem : ∀ o ∈ X, o ∈ (eraO os (e : Int)).filter effB
  nd : (X.map (·.id)).Nodup
  all : ∀ o ∈ (eraO os (e : Int)).filter effB, 0 ≤ o.done → o.id ∈ X.map (·.id)
  ord : X.Pairwise fun a b => precO b a = false
  val : valOk v X = true
  safe : e < cuts → ∀ i o, N ≤ i → X[i]? = some o → durR (eraO os (e : Int)) o = false
theorem keepOk_off' {safe : Opr → Bool} {kept : Int} : ∀ {xs : List Opr} {n : Nat}, keepOk safe kept n xs = true → ∀ i o, kept ≤ (n + i : Nat) → xs[i]? = some o → safe o = false := by
  intro xs
  induction xs with
  | nil => intro n _ i o _ h; simp at h
  | cons x xs ih =>
    intro n h i o hi ho
    simp only [keepOk, Bool.and_eq_true] at h
    cases i with
    | zero =>
      simp at ho
      subst ho
      have := h.1
      rw [show decide ((n : Int) < kept) = false by simp; omega] at this
      simpa using this
    | succ i => exact ih h.2 i o (by omega) (by simpa using ho)
theorem endAt_take {kept : Nat} : ∀ {xs : List Opr} {n : Nat} {v : Int}, n ≤ kept → endAt (kept : Int) n v v xs = runD v (xs.take (kept - n)) := by
  intro xs
  induction xs with
  | nil => intro n v _; simp [endAt, runD]
  | cons x xs ih =>
    intro n v hn
    simp only [endAt]
    by_cases h : n < kept
    · rw [if_pos (by omega), ih (by omega), show kept - n = (kept - (n + 1)) + 1 by omega, List.take_succ_cons, runD_cons]
    · obtain rfl : n = kept := by omega
      rw [if_neg (by omega)]
      have hoff : ∀ (ys : List Opr) (m : Nat) (u e : Int), n ≤ m → endAt (n : Int) m u e ys = e := by
        intro ys
        induction ys with
        | nil => intro m u e _; rfl
        | cons y ys ihy =>
          intro m u e hm
          simp only [endAt]
          rw [if_neg (by omega)]
          exact ihy _ _ _ (by omega)
      rw [hoff _ _ _ _ (by omega)]
      simp [runD]
theorem acc_parts {os : List Opr} {cuts : Nat} : ∀ (ws : List (List Int × Int)) (k : Nat) (v : Int), accR os cuts k v ws = true → ws.length + k = cuts + 1 →
    ∃ (X : Nat → List Opr) (N : Nat → Nat) (V : Nat → Int), V k = v ∧ ∀ e, k ≤ e → e ≤ cuts → EraD os cuts e (X e) (N e) (V e) ∧ V (e + 1) = runD (V e) ((X e).take (N e)) := by
  intro ws
  induction ws with
  | nil => intro k v _ h; exact ⟨fun _ => [], fun _ => 0, fun _ => v, rfl, fun e h1 h2 => by simp at h; omega⟩
  | cons w ws ih =>
    intro k v ha hl
    rw [List.length_cons] at hl
    simp only [accR] at ha
    split at ha
    · rename_i hko
      rcases hf : followR (eraO os k) (fun o => !(k == cuts) && durR (eraO os k) o) w.2 v w.1 with _ | v'
      · rw [hf] at ha; cases ha
      · rw [hf] at ha
        simp only at ha
        obtain ⟨X, N, V, h1, h2⟩ := ih (k + 1) v' ha (by omega)
        unfold followR at hf
        rcases hr : orderR (eraO os k) [] w.1 with _ | xs
        · rw [hr] at hf; cases hf
        · rw [hr] at hf
          obtain ⟨g1, g2, g3, -, g5⟩ := orderR_good w.1 [] xs List.nodup_nil hr
          obtain ⟨-, e2, e3, e4, e5⟩ := (explR_iff xs [] 0 v v v').1 hf
          have hk0 : 0 ≤ w.2 := by
            unfold keptOk at hko
            simp at hko
            omega
          obtain ⟨n, hn⟩ := Int.eq_ofNat_of_zero_le hk0
          refine ⟨fun e => if e = k then xs else X e, fun e => if e = k then n else N e, fun e => if e = k then v else V e, by simp, fun e he1 he2 => ?_⟩
          by_cases hek : e = k
          · subst hek
            simp only [if_true, if_neg (show ¬ e + 1 = e by omega)]
            refine ⟨⟨g2, by rw [g1]; simpa using g3, fun o ho hd => by rw [g1]; simpa using g5 o ho hd, e2, e3, fun hlt i o hi ho => ?_⟩, ?_⟩
            · have := keepOk_off' e4 i o (by omega) ho
              rw [show (e == cuts) = false by simp; omega] at this
              simpa using this
            · rw [h1, e5, hn]
              have := endAt_take (kept := n) (xs := xs) (n := 0) (v := v) (Nat.zero_le _)
              simpa using this
          · simp only [if_neg hek, if_neg (show ¬ e + 1 = k by omega)]
            exact h2 e (by omega) he2
    · cases ha
theorem memO_inj {os : List Opr} (h : (os.map (·.id)).Nodup) {a b : Opr} (ha : a ∈ os) (hb : b ∈ os) (hid : a.id = b.id) : a = b := by
  obtain ⟨i, hi, rfl⟩ := List.getElem_of_mem ha
  obtain ⟨j, hj, rfl⟩ := List.getElem_of_mem hb
  have : i = j := by
    refine (List.getElem_inj (xs := os.map (·.id)) (h₀ := by simpa using hi) (h₁ := by simpa using hj) h).1 ?_
    simpa using hid
  subst this
  rfl
theorem trac_uniq {os : List Opr} (h : tracO os = true) : (∀ a ∈ os, a.write = true → 1 ≤ a.val) ∧ ∀ (i j : Nat) (a b : Opr), os[i]? = some a → os[j]? = some b → i < j → a.write = true → b.write = true → a.reg = b.reg → a.val ≠ b.val := by
  have key : ∀ k, k ≤ os.length → tracTo os k = true := fun k hk => by
    rcases ht : tracTo os k with _ | _
    · have := tracTo_mono ht hk (Nat.le_refl _)
      unfold tracO at h
      rw [this] at h
      cases h
    · rfl
  refine ⟨fun a ha hw => ?_, fun i j a b hi hj hij hwa hwb hr hv => ?_⟩
  · obtain ⟨i, hi⟩ := List.mem_iff_getElem?.1 ha
    have h1 := key (i + 1) (List.getElem?_eq_some_iff.1 hi).1
    rw [tracTo_succ hi, hw] at h1
    simp at h1
    exact h1.2.1
  · have h1 := key (j + 1) (List.getElem?_eq_some_iff.1 hj).1
    rw [tracTo_succ hj, hwb] at h1
    simp only [Bool.and_eq_true, Bool.not_true, Bool.false_or, Bool.not_eq_true'] at h1
    have h2 := h1.2.2
    rw [List.any_eq_false] at h2
    have hm : a ∈ os.take j := by
      have : (os.take j)[i]? = some a := by rw [List.getElem?_take, if_pos hij]; exact hi
      exact List.mem_of_getElem? this
    exact h2 a hm (by simp [isSrc, hwa, hr, hv])
theorem drlin {os : List Opr} {cuts : Nat} {r0 : Int} (hids : (os.map (·.id)).Nodup) (haft : ∀ o ∈ os, 0 ≤ o.done → o.call ≤ o.done) (hera : ∀ a ∈ os, ∀ b ∈ os, a.call < b.call → a.era ≤ b.era) (hbd : ∀ o ∈ os, ∃ k : Nat, o.era = (k : Int) ∧ k ≤ cuts)
    (hreg : ∀ o ∈ os, effB o = true → o.reg = r0) (htr : tracO os = true) (hex : ExpO os cuts 0 0) : checkO os = [] := by
  obtain ⟨ws, hl, ha⟩ := hex
  rw [acc_eq hids] at ha
  obtain ⟨X, N, V, hV0, hE⟩ := acc_parts ws 0 0 ha (by omega)
  obtain ⟨hpos, huq⟩ := trac_uniq htr
  have huniq : ∀ a ∈ os, ∀ b ∈ os, a.write = true → b.write = true → a.val = b.val → a = b := fun a ha b hb wa wb hv => by
    have hr : a.reg = b.reg := by rw [hreg a ha (by unfold effB; rw [wa]; rfl), hreg b hb (by unfold effB; rw [wb]; rfl)]
    obtain ⟨i, hi⟩ := List.mem_iff_getElem?.1 ha
    obtain ⟨j, hj⟩ := List.mem_iff_getElem?.1 hb
    rcases Nat.lt_trichotomy i j with h | rfl | h
    · exact absurd hv (huq i j a b hi hj h wa wb hr)
    · rw [hi] at hj; exact Option.some.inj hj
    · exact absurd hv.symm (huq j i b a hj hi h wb wa hr.symm)
  have hXos : ∀ e, e ≤ cuts → ∀ o ∈ X e, o ∈ os ∧ o.era = (e : Int) ∧ effB o = true := fun e he o ho => by
    obtain ⟨h1, h2⟩ := List.mem_filter.1 ((hE e (Nat.zero_le _) he).1.mem o ho)
    unfold eraO at h1
    obtain ⟨h3, h4⟩ := List.mem_filter.1 h1
    exact ⟨h3, by simpa using h4, h2⟩
  have hin : ∀ e, e ≤ cuts → ∀ o ∈ os, o.era = (e : Int) → effB o = true → 0 ≤ o.done → o ∈ X e := fun e he o ho h1 h2 h3 => by
    have h4 := (hE e (Nat.zero_le _) he).1.all o (List.mem_filter.2 ⟨List.mem_filter.2 ⟨ho, by simpa using h1⟩, h2⟩) h3
    obtain ⟨p, hp, hpi⟩ := List.mem_map.1 h4
    rw [← memO_inj hids (hXos e he p hp).1 ho hpi]
    exact hp
  -- what precedes something in an era's order lies before it
  have hbef : ∀ e, e ≤ cuts → ∀ (i : Nat) (o w : Opr), (X e)[i]? = some o → w ∈ X e → precO w o = true → w ∈ (X e).take i ∨ w = o := fun e he i o w hi hw hp => by
    obtain ⟨j, hj⟩ := List.mem_iff_getElem?.1 hw
    rcases Nat.lt_trichotomy j i with h | rfl | h
    · exact .inl (List.mem_of_getElem? (i := j) (by rw [List.getElem?_take, if_pos h]; exact hj))
    · rw [hi] at hj; exact .inr (Option.some.inj hj).symm
    · have := (List.pairwise_iff_getElem.1 (hE e (Nat.zero_le _) he).1.ord) i j (List.getElem?_eq_some_iff.1 hi).1 (List.getElem?_eq_some_iff.1 hj).1 h
      rw [(List.getElem?_eq_some_iff.1 hi).2, (List.getElem?_eq_some_iff.1 hj).2, hp] at this
      cases this
  -- the operations that are kept up to an era
  have hS : ∃ S : Nat → List Opr, S 0 = [] ∧ ∀ e, S (e + 1) = S e ++ (X e).take (N e) := ⟨fun e => (List.range e).flatMap fun j => (X j).take (N j), rfl, fun e => by simp [List.range_succ, List.flatMap_append]⟩
  obtain ⟨S, hS0, hS1⟩ := hS
  have hVS : ∀ e, e ≤ cuts + 1 → V e = runD 0 (S e) := by
    intro e
    induction e with
    | zero => intro _; rw [hV0, hS0]; rfl
    | succ e ih =>
      intro he
      rw [(hE e (Nat.zero_le _) (by omega)).2, ih (by omega), hS1, runD_app]
  have hSm : ∀ e o, o ∈ S e ↔ ∃ j, j < e ∧ o ∈ (X j).take (N j) := by
    intro e
    induction e with
    | zero => intro o; rw [hS0]; simp
    | succ e ih =>
      intro o
      rw [hS1, List.mem_append, ih]
      constructor
      · rintro (⟨j, h1, h2⟩ | h)
        · exact ⟨j, by omega, h2⟩
        · exact ⟨e, by omega, h⟩
      · rintro ⟨j, h1, h2⟩
        rcases Nat.lt_or_ge j e with h | h
        · exact .inl ⟨j, h, h2⟩
        · obtain rfl : j = e := by omega
          exact .inr h2
  have htk : ∀ {xs : List Opr} {n : Nat} {o : Opr}, o ∈ xs.take n ↔ ∃ i, i < n ∧ xs[i]? = some o := fun {xs n o} => by
    constructor
    · intro h
      obtain ⟨i, hi⟩ := List.mem_iff_getElem?.1 h
      rw [List.getElem?_take] at hi
      split at hi
      · exact ⟨i, by assumption, hi⟩
      · cases hi
    · rintro ⟨i, h1, h2⟩
      exact List.mem_of_getElem? (i := i) (by rw [List.getElem?_take, if_pos h1]; exact h2)
  -- the order of what is kept
  have hXp : ∀ e, e ≤ cuts → ∀ n, ((X e).take n).Pairwise fun a b => a.era ≤ b.era ∧ (a.era = b.era → precO b a = false) := fun e he n => by
    refine List.Pairwise.imp_of_mem (fun {a b} hma hmb hp => ?_) (List.Pairwise.sublist (List.take_sublist n (X e)) (hE e (Nat.zero_le _) he).1.ord)
    have h1 := (hXos e he a (List.mem_of_mem_take hma)).2.1
    have h2 := (hXos e he b (List.mem_of_mem_take hmb)).2.1
    exact ⟨by omega, fun _ => hp⟩
  have hSp : ∀ e, e ≤ cuts + 1 → (S e).Pairwise fun a b => a.era ≤ b.era ∧ (a.era = b.era → precO b a = false) := by
    intro e
    induction e with
    | zero => intro _; rw [hS0]; exact List.Pairwise.nil
    | succ e ih =>
      intro he
      rw [hS1, List.pairwise_append]
      refine ⟨ih (by omega), hXp e (by omega) _, fun a ha b hb => ?_⟩
      obtain ⟨j, hj, hj2⟩ := (hSm e a).1 ha
      have h1 := (hXos j (by omega) a (List.mem_of_mem_take hj2)).2.1
      have h2 := (hXos e (by omega) b (List.mem_of_mem_take hb)).2.1
      exact ⟨by omega, fun h => by omega⟩
  have hQ : ∀ k i, k ≤ cuts → (S k ++ (X k).take i).Pairwise fun a b => a.era ≤ b.era ∧ (a.era = b.era → precO b a = false) := fun k i hk => by
    rw [List.pairwise_append]
    refine ⟨hSp k (by omega), hXp k hk i, fun a ha b hb => ?_⟩
    obtain ⟨j, hj, hj2⟩ := (hSm k a).1 ha
    have h1 := (hXos j (by omega) a (List.mem_of_mem_take hj2)).2.1
    have h2 := (hXos k hk b (List.mem_of_mem_take hb)).2.1
    exact ⟨by omega, fun h => by omega⟩
  -- an operation that must survive is kept
  have hkeep : ∀ e, e < cuts → ∀ o ∈ X e, durR (eraO os (e : Int)) o = true → o ∈ (X e).take (N e) := fun e he o ho hd => by
    obtain ⟨i, hi⟩ := List.mem_iff_getElem?.1 ho
    rcases Nat.lt_or_ge i (N e) with h | h
    · exact htk.2 ⟨i, h, hi⟩
    · have := (hE e (Nat.zero_le _) (by omega)).1.safe he i o h hi
      rw [hd] at this
      cases this
  -- a read: what lies before it, and its value
  have hread : ∀ r ∈ os, ansB r = true → ∃ (k : Nat) (i : Nat), r.era = (k : Int) ∧ k ≤ cuts ∧ (X k)[i]? = some r ∧ r.val = runD 0 (S k ++ (X k).take i) := fun r hr hans => by
    unfold ansB at hans
    simp only [Bool.and_eq_true, Bool.not_eq_true', decide_eq_true_eq] at hans
    obtain ⟨k, h1, h2⟩ := hbd r hr
    have hx := hin k h2 r hr h1 (by unfold effB; rw [hans.1.2]; simp) hans.2
    obtain ⟨i, hi⟩ := List.mem_iff_getElem?.1 hx
    refine ⟨k, i, h1, h2, hi, ?_⟩
    rw [runD_app, ← hVS k (by omega)]
    exact valOk_at (hE k (Nat.zero_le _) h2).1.val hi hans.1.1
  -- a write that is certain is kept
  have hcert : ∀ w ∈ os, w.write = true → certB os w = true → ∀ e : Nat, w.era = (e : Int) → e < cuts → w ∈ (X e).take (N e) := fun w hw hww hc e he hec => by
    have heff : effB w = true := by unfold effB; rw [hww]; rfl
    unfold certB at hc
    split at hc
    · cases hc
    · rename_i hd
      have hwx := hin e (by omega) w hw he heff (by omega)
      have hwd : decide (0 ≤ w.done) = true := by simp; omega
      split at hc
      · rename_i hb
        exact hkeep e hec w hwx (by unfold durR; rw [hwd, hww, hb]; rfl)
      · rw [Bool.or_eq_true, List.any_eq_true, List.any_eq_true] at hc
        rcases hc with ⟨o, ho, h1⟩ | ⟨o, ho, h1⟩
        · unfold rule1 precB at h1
          simp only [Bool.and_eq_true, decide_eq_true_eq, beq_iff_eq] at h1
          refine hkeep e hec w hwx ?_
          unfold durR
          rw [hwd, Bool.true_and, Bool.or_eq_true, List.any_eq_true]
          refine .inr ⟨o, List.mem_filter.2 ⟨ho, by simp; omega⟩, ?_⟩
          simp [h1.1.1.1, h1.1.1.2, h1.2.2]
        · unfold rule2 at h1
          split at h1
          · rename_i hans
            rcases hsrc : srcOp os o with _ | s
            · rw [hsrc] at h1; cases h1
            · rw [hsrc] at h1
              unfold precB at h1
              simp only [Bool.and_eq_true, Bool.or_eq_true, decide_eq_true_eq, beq_iff_eq] at h1
              unfold srcOp at hsrc
              have hs1 := List.mem_of_find?_eq_some hsrc
              have hs2 := List.find?_some hsrc
              simp only [isSrc, Bool.and_eq_true, beq_iff_eq] at hs2
              obtain ⟨k, i, hk1, hk2, hi, hval⟩ := hread o ho hans
              -- the last write in front of the read is its source
              have hsS : s ∈ S k := by
                rcases runD_last (S k ++ (X k).take i) with hno | ⟨L, t, M, hLM, ht, -, hrun⟩
                · rw [runD_none hno] at hval
                  have := hpos s hs1 hs2.1.1
                  omega
                · have htm : t ∈ S k ++ (X k).take i := by rw [hLM]; simp
                  have hto : t ∈ os := by
                    rcases List.mem_append.1 htm with h | h
                    · obtain ⟨j, hj, hj2⟩ := (hSm k t).1 h
                      exact (hXos j (by omega) t (List.mem_of_mem_take hj2)).1
                    · exact (hXos k hk2 t (List.mem_of_mem_take h)).1
                  have hst : s = t := huniq s hs1 t hto hs2.1.1 ht (by rw [hs2.2, hval, hrun])
                  subst hst
                  rcases List.mem_append.1 htm with h | h
                  · exact h
                  · have := (hXos k hk2 s (List.mem_of_mem_take h)).2.1
                    omega
              obtain ⟨j, hj, hjt⟩ := (hSm k s).1 hsS
              obtain ⟨q, hq, hqs⟩ := htk.1 hjt
              have hje : j = e := by
                have := (hXos j (by omega) s (List.mem_of_mem_take hjt)).2.1
                omega
              subst hje
              rcases h1.2 with h2 | h2
              · rw [← memO_inj hids hs1 hw h2]
                exact hjt
              · rcases hbef j (by omega) q s w hqs hwx (by unfold precO; simp; exact h2) with h3 | rfl
                · obtain ⟨q', h4, h5⟩ := htk.1 h3
                  exact htk.2 ⟨q', by omega, h5⟩
                · exact hjt
          · cases h1
  -- a final write lies before the read
  have hfin : ∀ r ∈ os, ∀ (k i : Nat), r.era = (k : Int) → k ≤ cuts → (X k)[i]? = some r → ansB r = true → ∀ w ∈ os, w.write = true → finB os w r = true → w ∈ S k ++ (X k).take i := fun r hr k i hk hkc hi hans w hw hww hf => by
    unfold finB at hf
    simp only [Bool.and_eq_true, Bool.or_eq_true, decide_eq_true_eq, beq_iff_eq] at hf
    obtain ⟨⟨hd, hdc⟩, hor⟩ := hf
    have heff : effB w = true := by unfold effB; rw [hww]; rfl
    have hle : w.era ≤ r.era := hera w hw r hr (by have := haft w hw hd; omega)
    rw [List.mem_append]
    by_cases he : w.era = r.era
    · have hwx := hin k hkc w hw (by omega) heff hd
      rcases hbef k hkc i r w hi hwx (by unfold precO; simp; exact ⟨hd, hdc⟩) with h | rfl
      · exact .inr h
      · unfold ansB at hans
        rw [hww] at hans
        simp at hans
    · have hc : certB os w = true := hor.resolve_left he
      obtain ⟨e, he1, he2⟩ := hbd w hw
      exact .inl ((hSm k w).2 ⟨e, by omega, hcert w hw hww hc e he1 (by omega)⟩)
  unfold checkO
  rw [List.filterMap_eq_nil_iff]
  intro r hr
  split
  · rename_i hans
    obtain ⟨k, i, hk, hkc, hi, hval⟩ := hread r hr hans
    have hdn : 0 ≤ r.done := by unfold ansB at hans; simp at hans; exact hans.2
    have hrr : r.write = false ∧ r.barrier = false := by unfold ansB at hans; simp at hans; exact hans.1
    have hf := hfin r hr k i hk hkc hi hans
    have hmos : ∀ t ∈ S k ++ (X k).take i, t ∈ os := fun t htm => by
      rcases List.mem_append.1 htm with h | h
      · obtain ⟨j, hj, hj2⟩ := (hSm k t).1 h
        exact (hXos j (by omega) t (List.mem_of_mem_take hj2)).1
      · exact (hXos k hkc t (List.mem_of_mem_take h)).1
    unfold judgeO
    rcases hsrc : srcOp os r with _ | s
    · simp only
      unfold srcOp at hsrc
      rw [List.find?_eq_none] at hsrc
      rcases runD_last (S k ++ (X k).take i) with hno | ⟨L, t, M, hLM, ht, -, hrun⟩
      · rw [runD_none hno] at hval
        rw [if_neg (by omega), Option.map_eq_none_iff, List.find?_eq_none]
        intro w hw hh
        unfold hides at hh
        simp only [Bool.and_eq_true] at hh
        have := hno w (hf w hw hh.1.1.1 hh.2)
        rw [hh.1.1.1] at this
        cases this
      · exfalso
        have htm : t ∈ S k ++ (X k).take i := by rw [hLM]; simp
        have hto := hmos t htm
        refine hsrc t hto ?_
        simp only [isSrc, Bool.and_eq_true, beq_iff_eq]
        refine ⟨⟨ht, ?_⟩, by rw [hval, hrun]⟩
        rw [hreg t hto (by unfold effB; rw [ht]; rfl), hreg r hr (by unfold effB; rw [hrr.2]; simp)]
    · simp only
      unfold srcOp at hsrc
      have hs1 := List.mem_of_find?_eq_some hsrc
      have hs2 := List.find?_some hsrc
      simp only [isSrc, Bool.and_eq_true, beq_iff_eq] at hs2
      rcases runD_last (S k ++ (X k).take i) with hno | ⟨L, t, M, hLM, ht, hM, hrun⟩
      · rw [runD_none hno] at hval
        have := hpos s hs1 hs2.1.1
        omega
      · have htm : t ∈ S k ++ (X k).take i := by rw [hLM]; simp
        have hst : s = t := huniq s hs1 t (hmos t htm) hs2.1.1 ht (by rw [hs2.2, hval, hrun])
        subst hst
        have hplace : ∀ w ∈ os, w.write = true → w ∈ S k ++ (X k).take i → precB s w = true ∨ s.era < w.era → False := fun w hw hww hwm hh => by
          have hsd : precB s w = true → s.call ≤ s.done ∧ s.done < w.call := fun h => by
            unfold precB at h
            simp at h
            exact ⟨haft s hs1 h.1, h.2⟩
          have hQ' := hQ k i hkc
          rw [hLM] at hwm hQ'
          rcases List.mem_append.1 hwm with hwL | hwM
          · obtain ⟨p1, p2⟩ := (List.pairwise_append.1 hQ').2.2 w hwL s (by simp)
            rcases hh with h | h
            · have h3 := hsd h
              have h4 := hera s hs1 w hw (by omega)
              have h5 := p2 (by omega)
              unfold precB at h
              unfold precO at h5
              rw [h] at h5
              cases h5
            · omega
          · rcases List.mem_cons.1 hwM with rfl | hwM
            · rcases hh with h | h
              · have h3 := hsd h
                omega
              · omega
            · rw [hM w hwM] at hww
              cases hww
        rw [if_neg, Option.map_eq_none_iff, List.find?_eq_none]
        · intro w hw hh
          unfold hides at hh
          simp only [Bool.and_eq_true, Bool.or_eq_true, decide_eq_true_eq] at hh
          exact hplace w hw hh.1.1.1 (hf w hw hh.1.1.1 hh.2) hh.1.2
        · intro hlt
          have h1 := haft r hr hdn
          have h2 := hera r hr s hs1 (by omega)
          rcases List.mem_append.1 htm with h | h
          · obtain ⟨j, hj, hj2⟩ := (hSm k s).1 h
            have := (hXos j (by omega) s (List.mem_of_mem_take hj2)).2.1
            omega
          · obtain ⟨q, hq, hqs⟩ := htk.1 h
            have := (List.pairwise_iff_getElem.1 (hE k (Nat.zero_le _) hkc).1.ord) q i (List.getElem?_eq_some_iff.1 hqs).1 (List.getElem?_eq_some_iff.1 hi).1 hq
            rw [(List.getElem?_eq_some_iff.1 hqs).2, (List.getElem?_eq_some_iff.1 hi).2] at this
            unfold precO at this
            simp at this
            have := this hdn
            omega
  · rfl
end Go.Proofs.Ytcgbnlhloopnfaa
