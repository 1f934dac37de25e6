/- What durable's Check answers on the histories of DurableTorn. Plain: no program is walked here. -/
import Derived.Test.YtldjodgpbnkleaaTracLaw
import Derived.Test.YtldjodgpbnkleaaDurH
import Derived.Test.YtldjodgpbnkleaaLawA
namespace Go.Proofs.Ytldjodgpbnkleaa

theorem map_fin_other {os : List Opr} {e : Ev} {k : Nat} (h : ∀ o ∈ os, o.id ≠ e.op) : os.map (Opr.fin e k) = os := by
  conv => rhs; rw [← List.map_id os]
  refine List.map_congr_left fun o ho => ?_
  unfold Opr.fin
  rw [if_neg (h o ho)]
  rfl
theorem findO_none_of {os : List Opr} {x : Int} (h : ∀ o ∈ os, o.id ≠ x) : findO os x = none := by
  unfold findO
  rw [List.find?_eq_none]
  intro o ho
  simpa using h o ho
theorem findO_last {os : List Opr} {x : Int} {o : Opr} (h : ∀ o ∈ os, o.id ≠ x) (ho : o.id = x) : findO (os ++ [o]) x = some o := by
  have h1 := findO_none_of h
  unfold findO at *
  rw [List.find?_append, h1]
  simp [ho]
theorem map_fin_last {os : List Opr} {e : Ev} {k : Nat} {o : Opr} (h : ∀ o ∈ os, o.id ≠ e.op) (ho : o.id = e.op) : (os ++ [o]).map (Opr.fin e k) = os ++ [{ o with val := e.val, done := k }] := by
  rw [List.map_append, map_fin_other h]
  simp [Opr.fin, ho]
/-- a read that is answered at once -/
theorem parse_rd {l : List Ev} {os : List Opr} {era op reg val : Int} (h : parseS l = some (os, era)) (hf : ∀ o ∈ os, o.id ≠ op) (h0 : 0 ≤ op) (h1 : 0 ≤ reg) :
    parseS (l ++ rdE op reg val) = some (os ++ [⟨op, reg, val, false, false, era, l.length, l.length + 1⟩], era) := by
  have e1 := parseS_call (e := ⟨1, op, false, reg, 0, false⟩) h (findO_none_of hf) rfl (by simp [properB, flushB]; omega)
  have e2 := parseS_done (e := ⟨2, op, false, reg, val, false⟩) e1 (findO_last hf rfl) (by simp [Opr.of]) rfl rfl rfl rfl rfl (.inl ⟨rfl, rfl⟩)
  rw [map_fin_last hf rfl] at e2
  rw [show l ++ rdE op reg val = l ++ [⟨1, op, false, reg, 0, false⟩] ++ [⟨2, op, false, reg, val, false⟩] by simp [rdE], e2]
  simp [Opr.of]
/-- a write that is answered at once -/
theorem parse_wr {l : List Ev} {os : List Opr} {era op reg val : Int} (h : parseS l = some (os, era)) (hf : ∀ o ∈ os, o.id ≠ op) (h0 : 0 ≤ op) (h1 : 0 ≤ reg) (h2 : 0 ≤ val) :
    parseS (l ++ wrE op reg val) = some (os ++ [⟨op, reg, val, true, false, era, l.length, l.length + 1⟩], era) := by
  have e1 := parseS_call (e := ⟨1, op, true, reg, val, false⟩) h (findO_none_of hf) rfl (by simp [properB, flushB]; omega)
  have e2 := parseS_done (e := ⟨2, op, true, reg, val, false⟩) e1 (findO_last hf rfl) (by simp [Opr.of]) rfl rfl rfl rfl rfl (.inr rfl)
  rw [map_fin_last hf rfl] at e2
  rw [show l ++ wrE op reg val = l ++ [⟨1, op, true, reg, val, false⟩] ++ [⟨2, op, true, reg, val, false⟩] by simp [wrE], e2]
  simp [Opr.of]

def wrsG (reg : Nat → Int) (n : Nat) : List Ev := (List.range n).flatMap fun (i : Nat) => wrE (i : Int) (reg i) ((i : Int) + 1)
theorem wrsG_succ (reg : Nat → Int) (n : Nat) : wrsG reg (n + 1) = wrsG reg n ++ wrE (n : Int) (reg n) ((n : Int) + 1) := by
  unfold wrsG
  rw [List.range_succ, List.flatMap_append]
  simp
theorem wrsG_len (reg : Nat → Int) (n : Nat) : (wrsG reg n).length = 2 * n := by
  induction n with
  | zero => rfl
  | succ n ih => rw [wrsG_succ, List.length_append, ih]; simp [wrE]; omega
def tOp (reg : Nat → Int) (i : Nat) : Opr := ⟨i, reg i, i + 1, true, false, 0, 2 * i, 2 * i + 1⟩
theorem wrsG_parse (reg : Nat → Int) (hreg : ∀ i, 0 ≤ reg i) (n : Nat) : parseS (wrsG reg n) = some ((List.range n).map (tOp reg), 0) := by
  induction n with
  | zero => rfl
  | succ n ih =>
    rw [wrsG_succ, parse_wr ih (by
      intro o ho
      obtain ⟨i, hi, rfl⟩ := List.mem_map.1 ho
      have := List.mem_range.1 hi
      simp [tOp]; omega) (by omega) (hreg n) (by omega), wrsG_len, List.range_succ, List.map_append]
    simp [tOp]
section
variable (reg : Nat → Int) (n k got : Nat) (other : Int)
def tornL : List Ev := wrsG reg n ++ [Ev.cut] ++ rdE n (reg k) ((k : Int) + 1) ++ rdE ((n : Int) + 1) other got
def tR1 : Opr := ⟨n, reg k, k + 1, false, false, 1, 2 * n + 1, 2 * n + 2⟩
def tR2 : Opr := ⟨n + 1, other, got, false, false, 1, 2 * n + 3, 2 * n + 4⟩
def tornO : List Opr := (List.range n).map (tOp reg) ++ [tR1 reg n k, tR2 n got other]
theorem tornL_len : (tornL reg n k got other).length = 2 * n + 5 := by
  unfold tornL
  simp [wrsG_len, rdE]
variable {reg n k got other}
theorem torn_parse (hreg : ∀ i, 0 ≤ reg i) (ho : 0 ≤ other) : parseL (tornL reg n k got other) = some (tornO reg n k got other) := by
  have hw : ∀ (x : Int), (n : Int) ≤ x → ∀ o ∈ (List.range n).map (tOp reg), o.id ≠ x := by
    intro x hx o ho
    obtain ⟨i, hi, rfl⟩ := List.mem_map.1 ho
    have := List.mem_range.1 hi
    simp only [tOp]
    omega
  have e1 := parseS_cut (wrsG_parse reg hreg n)
  have e2 := parse_rd (op := n) (reg := reg k) (val := (k : Int) + 1) e1 (hw n (by omega)) (by omega) (hreg k)
  have e3 := parse_rd (op := (n : Int) + 1) (reg := other) (val := got) e2 (by
    intro o ho
    rcases List.mem_append.1 ho with ho | ho
    · exact hw _ (by omega) o ho
    · simp only [List.mem_singleton] at ho
      subst ho
      simp only
      omega) (by omega) ho
  rw [parseL_eq]
  unfold tornL
  rw [e3]
  simp only [Option.map_some, tornO, tR1, tR2, List.length_append, wrsG_len, List.length_cons, List.length_nil, rdE, List.append_assoc, List.cons_append, List.nil_append]
  congr 3
theorem torn_mem {o : Opr} (h : o ∈ tornO reg n k got other) : (∃ i, i < n ∧ o = tOp reg i) ∨ o = tR1 reg n k ∨ o = tR2 n got other := by
  unfold tornO at h
  rcases List.mem_append.1 h with h | h
  · obtain ⟨i, hi, rfl⟩ := List.mem_map.1 h
    exact .inl ⟨i, List.mem_range.1 hi, rfl⟩
  · simp only [List.mem_cons, List.not_mem_nil, or_false] at h
    exact .inr h
theorem torn_val : ValId (tornO reg n k got other) := by
  intro o ho hw
  rcases torn_mem ho with ⟨i, hi, rfl⟩ | rfl | rfl
  · simp [tOp]
  · simp [tR1] at hw
  · simp [tR2] at hw
theorem torn_nodup : ((tornO reg n k got other).map (·.id)).Nodup := by
  unfold tornO
  rw [List.map_append, List.map_map, List.nodup_append]
  refine ⟨?_, ?_, ?_⟩
  · rw [List.nodup_iff_pairwise_ne, List.pairwise_map]
    refine List.Pairwise.imp ?_ (List.nodup_range (n := n))
    intro a b h hh
    simp [tOp] at hh
    omega
  · simp [tR1, tR2]
    omega
  · intro a ha b hb
    obtain ⟨i, hi, rfl⟩ := List.mem_map.1 ha
    have := List.mem_range.1 hi
    simp [tR1, tR2] at hb
    simp only [Function.comp, tOp]
    omega
theorem torn_src1 (hk : k < n) : srcOp (tornO reg n k got other) (tR1 reg n k) = some (tOp reg k) :=
  srcOp_some torn_val torn_nodup (List.mem_append.2 (.inl (List.mem_map.2 ⟨k, List.mem_range.2 hk, rfl⟩))) rfl rfl rfl
theorem torn_src2 (h0 : 0 < got) (hg : got ≤ n) (hr : reg (got - 1) = other) : srcOp (tornO reg n k got other) (tR2 n got other) = some (tOp reg (got - 1)) :=
  srcOp_some torn_val torn_nodup (List.mem_append.2 (.inl (List.mem_map.2 ⟨got - 1, List.mem_range.2 (by omega), rfl⟩))) rfl hr (by simp [tOp, tR2]; omega)
theorem torn_src0 (h0 : got = 0) : srcOp (tornO reg n k got other) (tR2 n got other) = none := by
  refine srcOp_none fun s hs hw _ => ?_
  have := torn_val s hs hw
  simp only [tR2]
  omega
theorem torn_any (p : Opr → Bool) : (tornO reg n k got other).any p = (((List.range n).any fun i => p (tOp reg i)) || (p (tR1 reg n k) || p (tR2 n got other))) := by
  unfold tornO
  rw [List.any_append, List.any_map]
  simp [Function.comp_def]
theorem ansB_of {o : Opr} (h1 : o.write = false) (h2 : o.barrier = false) (h3 : 0 ≤ o.done) : ansB o = true := by
  simp [ansB, h1, h2, h3]
theorem precB_iff {a b : Opr} : precB a b = true ↔ 0 ≤ a.done ∧ a.done < b.call := by
  simp [precB]
theorem ans1 : ansB (tR1 reg n k) = true := ansB_of rfl rfl (by simp only [tR1]; omega)
theorem ans2 : ansB (tR2 n got other) = true := ansB_of rfl rfl (by simp only [tR2]; omega)
theorem torn_cert (hk : k < n) (hg : got ≤ n) (hgr : 0 < got → reg (got - 1) = other) (j : Nat) : certB (tornO reg n k got other) (tOp reg j) = decide (j ≤ k ∨ j < got) := by
  unfold certB
  rw [if_neg (by simp [tOp]; omega), if_neg (by simp [tOp])]
  have h1 : (tornO reg n k got other).any (rule1 (tOp reg j)) = false := by
    rw [List.any_eq_false]
    intro o ho
    rcases torn_mem ho with ⟨i, hi, rfl⟩ | rfl | rfl <;> simp [rule1, tOp, tR1, tR2]
  have h2 : rule2 (tornO reg n k got other) (tOp reg j) (tR1 reg n k) = decide (j ≤ k) := by
    unfold rule2
    rw [if_pos ans1, torn_src1 hk]
    simp only
    rw [Bool.eq_iff_iff]
    simp only [Bool.and_eq_true, Bool.or_eq_true, beq_iff_eq, decide_eq_true_eq, precB_iff]
    simp only [tOp, tR1, true_and]
    omega
  have h3 : rule2 (tornO reg n k got other) (tOp reg j) (tR2 n got other) = decide (j < got) := by
    unfold rule2
    rw [if_pos ans2]
    by_cases h0 : got = 0
    · rw [torn_src0 h0]
      simp [h0]
    · rw [torn_src2 (by omega) hg (hgr (by omega))]
      simp only
      rw [Bool.eq_iff_iff]
      simp only [Bool.and_eq_true, Bool.or_eq_true, beq_iff_eq, decide_eq_true_eq, precB_iff]
      simp only [tOp, tR2, true_and]
      omega
  have h4 : ((List.range n).any fun i => rule2 (tornO reg n k got other) (tOp reg j) (tOp reg i)) = false := by
    rw [List.any_eq_false]
    intro i _
    simp [rule2, ansB, tOp]
  rw [h1, torn_any, h4, h2, h3, Bool.eq_iff_iff]
  simp
theorem torn_find (p : Opr → Bool) (h1 : p (tR1 reg n k) = false) (h2 : p (tR2 n got other) = false) : (tornO reg n k got other).find? p = ((List.range n).find? fun i => p (tOp reg i)).map (tOp reg) := by
  unfold tornO
  rw [List.find?_append, List.find?_map]
  have : [tR1 reg n k, tR2 n got other].find? p = none := by simp [h1, h2]
  rw [this]
  simp [Function.comp_def]
theorem hides_iff {os : List Opr} {s : Option Opr} {r w : Opr} : hides os s r w = true ↔ w.write = true ∧ w.reg = r.reg ∧ (∀ t, s = some t → precB t w = true ∨ t.era < w.era) ∧ 0 ≤ w.done ∧ w.done < r.call ∧ (w.era = r.era ∨ certB os w = true) := by
  unfold hides finB
  rcases s with _ | t
  · simp [and_assoc]
  · simp [and_assoc]
theorem find_congr_mem {α : Type} {l : List α} {p q : α → Bool} (h : ∀ a ∈ l, p a = q a) : l.find? p = l.find? q := by
  induction l with
  | nil => rfl
  | cons x xs ih =>
    rw [List.find?_cons, List.find?_cons, h x (by simp), ih (fun a ha => h a (by simp [ha]))]
theorem torn_j1 (hk : k < n) (hg : got ≤ n) (hgr : 0 < got → reg (got - 1) = other) (hne : other ≠ reg k) :
    judgeO (tornO reg n k got other) (tR1 reg n k) = ((List.range n).find? fun i => decide (reg i = reg k ∧ k < i ∧ i + 1 < got)).map fun i => ⟨3, n, i⟩ := by
  unfold judgeO
  rw [torn_src1 hk]
  simp only
  rw [if_neg (by simp only [tR1, tOp]; omega), torn_find _ (by simp [hides, tR1]) (by simp [hides, tR2]), Option.map_map]
  rw [find_congr_mem (q := fun i => decide (reg i = reg k ∧ k < i ∧ i + 1 < got))]
  · rfl
  · intro i hi
    have hin := List.mem_range.1 hi
    rw [Bool.eq_iff_iff, hides_iff, torn_cert hk hg hgr]
    simp only [decide_eq_true_eq, Option.some.injEq, precB_iff]
    constructor
    · rintro ⟨_, h2, h3, h4, h5, h6⟩
      have h3 := h3 _ rfl
      simp only [tOp, tR1] at h2 h3 h5 h6
      refine ⟨h2, by omega, ?_⟩
      rcases Nat.lt_or_ge (i + 1) got with h | h
      · exact h
      · have he : got - 1 = i := by omega
        have := hgr (by omega)
        rw [he, h2] at this
        exact absurd this.symm hne
    · rintro ⟨h1, h2, h3⟩
      refine ⟨rfl, h1, ?_, by simp only [tOp]; omega, by simp only [tOp, tR1]; omega, .inr (.inr (by omega))⟩
      rintro t rfl
      left
      simp only [tOp]
      omega
theorem torn_j2 (hk : k < n) (hg : got ≤ n) (hgr : 0 < got → reg (got - 1) = other) (hne : other ≠ reg k) :
    judgeO (tornO reg n k got other) (tR2 n got other) = ((List.range n).find? fun i => decide (reg i = other ∧ got ≤ i ∧ i < k)).map fun i => ⟨3, n + 1, i⟩ := by
  have key : ∀ i, i < n → ∀ (s : Option Opr), (got = 0 ∧ s = none ∨ 0 < got ∧ s = some (tOp reg (got - 1))) → hides (tornO reg n k got other) s (tR2 n got other) (tOp reg i) = decide (reg i = other ∧ got ≤ i ∧ i < k) := by
    intro i hin s hs
    rw [Bool.eq_iff_iff, hides_iff, torn_cert hk hg hgr]
    simp only [decide_eq_true_eq, precB_iff]
    constructor
    · rintro ⟨_, h2, h3, h4, h5, h6⟩
      simp only [tOp, tR2] at h2 h5 h6
      have hik : i ≠ k := by rintro rfl; exact hne h2.symm
      rcases hs with ⟨h0, rfl⟩ | ⟨h0, rfl⟩
      · exact ⟨h2, by omega, by omega⟩
      · have h3 := h3 _ rfl
        simp only [tOp] at h3
        exact ⟨h2, by omega, by omega⟩
    · rintro ⟨h1, h2, h3⟩
      refine ⟨rfl, h1, ?_, by simp only [tOp]; omega, by simp only [tOp, tR2]; omega, .inr (.inl (by omega))⟩
      rcases hs with ⟨h0, rfl⟩ | ⟨h0, rfl⟩
      · intro t ht; cases ht
      · rintro t ht
        cases ht
        left
        simp only [tOp]
        omega
  unfold judgeO
  by_cases h0 : got = 0
  · rw [torn_src0 h0]
    simp only
    rw [if_neg (by simp [tR2, h0]), torn_find _ (by simp [hides, tR1]) (by simp [hides, tR2]), Option.map_map]
    rw [find_congr_mem (fun i hi => key i (List.mem_range.1 hi) none (.inl ⟨h0, rfl⟩))]
    rfl
  · rw [torn_src2 (by omega) hg (hgr (by omega))]
    simp only
    rw [if_neg (by simp only [tR2, tOp]; omega), torn_find _ (by simp [hides, tR1]) (by simp [hides, tR2]), Option.map_map]
    rw [find_congr_mem (fun i hi => key i (List.mem_range.1 hi) (some _) (.inr ⟨by omega, rfl⟩))]
    rfl
theorem torn_check (hreg : ∀ i, 0 ≤ reg i) (ho : 0 ≤ other) : checkD (tornL reg n k got other) = some ((judgeO (tornO reg n k got other) (tR1 reg n k)).toList ++ (judgeO (tornO reg n k got other) (tR2 n got other)).toList) := by
  unfold checkD
  rw [torn_parse hreg ho]
  simp only
  rw [if_pos (trac_of torn_val torn_nodup), checkO_eq]
  congr 1
  conv => lhs; rw [tornO]
  rw [List.filterMap_append]
  have h1 : ((List.range n).map (tOp reg)).filterMap (fltOf ((List.range n).map (tOp reg) ++ [tR1 reg n k, tR2 n got other])) = [] := by
    rw [List.filterMap_eq_nil_iff]
    intro o ho
    obtain ⟨i, _, rfl⟩ := List.mem_map.1 ho
    simp [fltOf, ansB, tOp]
  rw [h1, List.nil_append]
  have h2 : ∀ r, ansB r = true → fltOf ((List.range n).map (tOp reg) ++ [tR1 reg n k, tR2 n got other]) r = judgeO (tornO reg n k got other) r := by
    intro r hr
    unfold fltOf
    rw [if_pos hr]
    rfl
  simp only [List.filterMap_cons, List.filterMap_nil, h2 _ ans1, h2 _ ans2]
  cases judgeO (tornO reg n k got other) (tR1 reg n k) <;> cases judgeO (tornO reg n k got other) (tR2 n got other) <;> rfl
/-- what the walk needs -/
theorem torn_law (hreg : ∀ i, 0 ≤ reg i) (ho : 0 ≤ other) (hk : k < n) (hg : got ≤ n) (hgr : 0 < got → reg (got - 1) = other) (hne : other ≠ reg k) {b : Nat} (hgb : got ≤ b) (hbn : b ≤ n) (hno : ∀ j, got ≤ j → j < b → reg j ≠ other) (hat : b < n → reg b = other) :
    ∃ fs, checkD (tornL reg n k got other) = some fs ∧ (b < k → fs = [⟨3, n + 1, b⟩]) ∧
      (k ≤ b → (∃ i, k < i ∧ i + 1 < got ∧ reg i = reg k) → ∃ x, fs = [⟨3, n, x⟩]) ∧ (k ≤ b → (∀ i, k < i → i + 1 < got → reg i ≠ reg k) → fs = []) := by
  refine ⟨_, torn_check hreg ho, ?_, ?_, ?_⟩
  all_goals rw [torn_j1 hk hg hgr hne, torn_j2 hk hg hgr hne]
  · intro hbk
    have e1 : (List.range n).find? (fun i => decide (reg i = reg k ∧ k < i ∧ i + 1 < got)) = none := by
      rw [List.find?_eq_none]
      intro i _
      simp only [decide_eq_true_eq]
      rintro ⟨_, h2, h3⟩
      omega
    have e2 : (List.range n).find? (fun i => decide (reg i = other ∧ got ≤ i ∧ i < k)) = some b := by
      rw [List.find?_range_eq_some]
      refine ⟨by simp only [decide_eq_true_eq]; exact ⟨hat (by omega), hgb, hbk⟩, List.mem_range.2 (by omega), ?_⟩
      intro j hj
      simp only [Bool.not_eq_true', decide_eq_false_iff_not]
      rintro ⟨h1, h2, h3⟩
      exact hno j h2 hj h1
    rw [e1, e2]
    rfl
  · rintro hbk ⟨i, h1, h2, h3⟩
    have e2 : (List.range n).find? (fun i => decide (reg i = other ∧ got ≤ i ∧ i < k)) = none := by
      rw [List.find?_eq_none]
      intro i _
      simp only [decide_eq_true_eq]
      rintro ⟨h2, h3, h4⟩
      exact hno i h3 (by omega) h2
    rcases e1 : (List.range n).find? (fun i => decide (reg i = reg k ∧ k < i ∧ i + 1 < got)) with _ | x
    · have := List.find?_eq_none.1 e1 i (List.mem_range.2 (by omega))
      simp [h1, h2, h3] at this
    · rw [e2]
      exact ⟨x, rfl⟩
  · intro hbk hnone
    have e1 : (List.range n).find? (fun i => decide (reg i = reg k ∧ k < i ∧ i + 1 < got)) = none := by
      rw [List.find?_eq_none]
      intro i _
      simp only [decide_eq_true_eq]
      rintro ⟨h1, h2, h3⟩
      exact hnone i h2 h3 h1
    have e2 : (List.range n).find? (fun i => decide (reg i = other ∧ got ≤ i ∧ i < k)) = none := by
      rw [List.find?_eq_none]
      intro i _
      simp only [decide_eq_true_eq]
      rintro ⟨h2, h3, h4⟩
      exact hno i h3 (by omega) h2
    rw [e1, e2]
    rfl
end
end Go.Proofs.Ytldjodgpbnkleaa
