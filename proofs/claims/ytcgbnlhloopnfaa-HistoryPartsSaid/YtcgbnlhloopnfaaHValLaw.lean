/- Increasing lists of numbers: insertion, sorting; registers and pending operations of a history. Plain: no program is walked here. -/
import Derived.Test.YtcgbnlhloopnfaaHistLaw
import Derived.Test.YtcgbnlhloopnfaaSnoc
namespace Go.Proofs.Ytcgbnlhloopnfaa

def insK (l : List Int) (n : Int) : Nat := (l.takeWhile fun x => decide (x < n)).length
def insI (l : List Int) (n : Int) : List Int := if l[insK l n]? = some n then l else l.take (insK l n) ++ [n] ++ l.drop (insK l n)
theorem insK_le (l : List Int) (n : Int) : insK l n ≤ l.length := (List.takeWhile_sublist _).length_le
theorem insK_low {l : List Int} {n : Int} {j : Nat} {x : Int} (hj : j < insK l n) (hx : l[j]? = some x) : x < n := by
  unfold insK at hj
  induction l generalizing j with
  | nil => simp at hx
  | cons a l ih =>
    rw [List.takeWhile_cons] at hj
    split at hj
    · rename_i h
      cases j with
      | zero =>
        simp at hx
        subst hx
        simpa using h
      | succ j => exact ih (by simpa using hj) (by simpa using hx)
    · simp at hj
theorem insK_at {l : List Int} {n : Int} {x : Int} (hx : l[insK l n]? = some x) : n ≤ x := by
  unfold insK at hx
  induction l with
  | nil => simp at hx
  | cons a l ih =>
    rw [List.takeWhile_cons] at hx
    split at hx
    · simp at hx
      exact ih hx
    · rename_i h
      simp at hx
      subst hx
      simpa using h
theorem insK_is {l : List Int} {n : Int} {k : Nat} (hk : k ≤ l.length) (hlow : ∀ j x, j < k → l[j]? = some x → x < n) (hat : ∀ x, l[k]? = some x → n ≤ x) : insK l n = k := by
  rcases Nat.lt_trichotomy (insK l n) k with h | h | h
  · have hx : l[insK l n]? = some (l[insK l n]'(by omega)) := List.getElem?_eq_getElem _
    have h1 := hlow _ _ h hx
    have h2 := insK_at hx
    omega
  · exact h
  · have hl := insK_le l n
    have hx : l[k]? = some (l[k]'(by omega)) := List.getElem?_eq_getElem _
    have h1 := insK_low h hx
    have h2 := hat _ hx
    omega

theorem insI_mem {l : List Int} {n x : Int} : x ∈ insI l n ↔ x = n ∨ x ∈ l := by
  unfold insI
  split
  · rename_i h
    constructor
    · exact .inr
    · rintro (rfl | h1)
      · exact List.mem_of_getElem? h
      · exact h1
  · rw [List.mem_append, List.mem_append, List.mem_singleton]
    conv => rhs; rw [← List.take_append_drop (insK l n) l, List.mem_append]
    constructor
    · rintro ((h | h) | h)
      · exact .inr (.inl h)
      · exact .inl h
      · exact .inr (.inr h)
    · rintro (h | h | h)
      · exact .inl (.inr h)
      · exact .inl (.inl h)
      · exact .inr h
theorem insI_sorted {l : List Int} (hs : l.Pairwise (· < ·)) (n : Int) : (insI l n).Pairwise (· < ·) := by
  unfold insI
  split
  · exact hs
  · rename_i hne
    have hd : ∀ y ∈ l.drop (insK l n), n < y := by
      intro y hy
      obtain ⟨j, hj⟩ := List.mem_iff_getElem?.1 hy
      rw [List.getElem?_drop] at hj
      have hlt : insK l n < l.length := by
        have := (List.getElem?_eq_some_iff.1 hj).1
        omega
      have hk : l[insK l n]? = some l[insK l n] := List.getElem?_eq_getElem hlt
      have h1 := insK_at hk
      have h2 : l[insK l n] ≠ n := fun h => hne (by rw [hk, h])
      rcases Nat.eq_zero_or_pos j with h0 | h0
      · subst h0
        rw [Nat.add_zero, hk] at hj
        have := Option.some.inj hj
        omega
      · have h3 := List.pairwise_iff_getElem.1 hs (insK l n) (insK l n + j) hlt (List.getElem?_eq_some_iff.1 hj).1 (by omega)
        have h4 := (List.getElem?_eq_some_iff.1 hj).2
        omega
    have ht : ∀ x ∈ l.take (insK l n), x < n := by
      intro x hx
      obtain ⟨j, hj⟩ := List.mem_iff_getElem?.1 hx
      rw [List.getElem?_take] at hj
      split at hj
      · exact insK_low (by assumption) hj
      · cases hj
    rw [List.append_assoc, List.pairwise_append]
    refine ⟨hs.sublist (List.take_sublist _ _), ?_, ?_⟩
    · rw [List.singleton_append, List.pairwise_cons]
      exact ⟨hd, hs.sublist (List.drop_sublist _ _)⟩
    · intro a ha b hb
      rw [List.singleton_append, List.mem_cons] at hb
      have h1 := ht a ha
      rcases hb with rfl | hb
      · exact h1
      · have := hd b hb
        omega

/-- numbers that are inserted one after the other -/
def insAll (xs : List Int) : List Int := xs.foldl insI []
theorem insAll_gen (xs acc : List Int) (h : acc.Pairwise (· < ·)) : (xs.foldl insI acc).Pairwise (· < ·) ∧ ∀ x, x ∈ xs.foldl insI acc ↔ x ∈ acc ∨ x ∈ xs := by
  induction xs generalizing acc with
  | nil => exact ⟨h, fun x => by simp⟩
  | cons a xs ih =>
    obtain ⟨h1, h2⟩ := ih (insI acc a) (insI_sorted h a)
    refine ⟨h1, fun x => ?_⟩
    rw [List.foldl_cons, h2 x, insI_mem, List.mem_cons]
    constructor
    · rintro ((h | h) | h)
      · exact .inr (.inl h)
      · exact .inl h
      · exact .inr (.inr h)
    · rintro (h | h | h)
      · exact .inl (.inr h)
      · exact .inl (.inl h)
      · exact .inr h
theorem insAll_snoc (xs : List Int) (x : Int) : insAll (xs ++ [x]) = insI (insAll xs) x := by unfold insAll; rw [List.foldl_append]; rfl
theorem insAll_is {xs ys : List Int} (hy : ys.Pairwise (· ≤ ·)) (hn : ys.Nodup) (hm : ∀ x, x ∈ ys ↔ x ∈ xs) : ys = insAll xs := by
  obtain ⟨h1, h2⟩ := insAll_gen xs [] List.Pairwise.nil
  have hle : (insAll xs).Pairwise (· ≤ ·) := h1.imp fun h => by omega
  have hnd : (insAll xs).Nodup := h1.imp fun h => by omega
  have hp : ys.Perm (insAll xs) := (List.perm_ext_iff_of_nodup hn hnd).2 fun x => by rw [hm x]; exact ((h2 x).trans (by simp)).symm
  exact List.Perm.eq_of_pairwise (fun a b _ _ h1 h2 => by omega) hy hle hp

/-- the registers of reads and writes, in the order of the calls -/
def effB (o : Opr) : Bool := o.write || !o.barrier
def regsO (os : List Opr) : List Int := (os.filter effB).map (·.reg)
def refPend (l : List Ev) (o : Opr) : Bool := decide (o.done < 0) && !cutE l o.call.toNat l.length
theorem pend_cut {l : List Ev} {os : List Opr} (h : parseL l = some os) {o : Opr} (ho : o ∈ os) : (o.era == cutsN l l.length) = !cutE l o.call.toNat l.length := by
  have h1 := hist_to l l.length (Nat.le_refl _)
  unfold parseL at h
  rw [h1.1] at h
  cases hv : validTo l l.length
  · rw [hv] at h; cases h
  · rw [hv, if_pos rfl] at h
    have hO := h1.2 hv
    have hos : (rawTo l l.length).1 = os := Option.some.inj h
    have hp : parseTo l l.length = some (rawTo l l.length) := by rw [h1.1, hv, if_pos rfl]
    have hids := (PInv.to hp).ids
    rw [hos] at hids
    have hf : findO (rawTo l l.length).1 o.id = some o := by
      rw [hos]
      rcases hf : findO os o.id with _ | o'
      · exact absurd rfl (findO_none hf o ho)
      · obtain ⟨h2, h3⟩ := findO_mem hf
        obtain ⟨i, hi⟩ := List.mem_iff_getElem?.1 ho
        obtain ⟨j, hj⟩ := List.mem_iff_getElem?.1 h2
        have hij : i = j := (List.getElem?_inj (l := os.map (·.id)) (by rw [List.length_map]; exact (List.getElem?_eq_some_iff.1 hi).1) hids).1 (by rw [List.getElem?_map, List.getElem?_map, hi, hj]; simp [h3])
        subst hij
        rw [hi] at hj
        exact hj.symm
    obtain ⟨-, -, -, i, h4, h5, h6⟩ := hO.op o.id o hf
    rw [h4, Int.toNat_natCast, h6]
    have h7 := cutE_iff (l := l) (i := i) (k := l.length) (by omega)
    cases hc : cutE l i l.length
    · have : cutsN l i = cutsN l l.length := Classical.byContradiction fun hne => by rw [h7.2 hne] at hc; cases hc
      simp [this]
    · have := h7.1 hc
      simpa using this
end Go.Proofs.Ytcgbnlhloopnfaa
