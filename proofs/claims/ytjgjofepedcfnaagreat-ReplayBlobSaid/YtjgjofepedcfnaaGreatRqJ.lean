/- tegularef50.put: plain, and its walk. -/
import Derived.Test.YtjgjofepedcfnaaGreatRqI
namespace Go.Proofs.YtjgjofepedcfnaaGreat
open Go.RowKit Go.Maps
def lateB (y x : Pw) : Bool := decide (x.g < y.g) || (y.g == x.g && decide (x.p ≤ y.p))
def sameB (y x : Pw) : Bool := y.g == x.g && y.p == x.p
def putL (x : Pw) : Bool → List Pw → List Pw
 | done, [] => if done then [] else [x]
 | done, y :: l => (if lateB y x && !done then [x] else []) ++ ((if sameB y x then [] else [y]) ++ putL x (done || lateB y x) l)
def putW (l : List Pw) (x : Pw) : List Pw := putL x false l
def gtB (x y : Pw) : Bool := decide (ltW x y)
theorem ltW_tr {x y z : Pw} (h : ltW x y) (k : ltW y z) : ltW x z := by unfold ltW at *; omega
theorem ltW_ir {x : Pw} (h : ltW x x) : False := by unfold ltW at h; omega
theorem putL_true (x : Pw) : ∀ l : List Pw, (∀ y ∈ l, ltW x y) → putL x true l = l
 | [], _ => rfl
 | y :: l, h => by
  have h1 := h y List.mem_cons_self
  have h2 : sameB y x = false := by
   unfold sameB
   unfold ltW at h1
   rw [Bool.and_eq_false_iff]
   by_cases e : y.g = x.g
   ·right; simp; omega
   ·left; simpa using e
  have ih := putL_true x l fun z hz => h z (List.mem_cons_of_mem _ hz)
  simp [putL, h2, ih]
theorem putL_eq (x : Pw) : ∀ l : List Pw, l.Pairwise ltW → putL x false l = (l.filter fun y => gtB y x) ++ x :: (l.filter fun y => gtB x y)
 | [], _ => by simp [putL]
 | y :: l, h => by
  rw [List.pairwise_cons] at h
  by_cases h1 : ltW y x
  ·have e1 : lateB y x = false := by
    unfold lateB
    unfold ltW at h1
    simp
    omega
   have e2 : sameB y x = false := by
    unfold sameB
    unfold ltW at h1
    rw [Bool.and_eq_false_iff]
    by_cases e : y.g = x.g
    ·right; simp; omega
    ·left; simpa using e
   have e3 : gtB y x = true := by simp [gtB, h1]
   have e4 : gtB x y = false := by
    simp only [gtB, decide_eq_false_iff_not]
    intro h2
    exact ltW_ir (ltW_tr h1 h2)
   have ih := putL_eq x l h.2
   simp [putL, e1, e2, e3, e4, ih]
  ·have e1 : lateB y x = true := by
    unfold lateB
    unfold ltW at h1
    simp
    omega
   have hall : ∀ z ∈ l, ltW x z := fun z hz => by
    have h2 := h.1 z hz
    unfold ltW at *
    omega
   have e3 : gtB y x = false := by simp [gtB, h1]
   have f1 : (l.filter fun y => gtB y x) = [] := by
    rw [List.filter_eq_nil_iff]
    intro z hz
    simp only [gtB, decide_eq_true_eq]
    intro h2
    exact ltW_ir (ltW_tr h2 (hall z hz))
   have f2 : (l.filter fun y => gtB x y) = l := by
    rw [List.filter_eq_self]
    intro z hz
    simpa [gtB] using hall z hz
   have hp := putL_true x l hall
   by_cases e : sameB y x = true
   ·have e4 : gtB x y = false := by
     simp only [gtB, decide_eq_false_iff_not]
     unfold sameB at e
     simp at e
     unfold ltW
     omega
    simp [putL, e1, e, e3, e4, hp, f1, f2]
   ·have e4 : gtB x y = true := by
     simp only [gtB, decide_eq_true_eq]
     unfold sameB at e
     simp at e
     unfold ltW at *
     omega
    rw [Bool.not_eq_true] at e
    simp [putL, e1, e, e3, e4, hp, f1, f2]
theorem putW_srt {ws l : List Pw} {x : Pw} (h : SrtW ws l) : SrtW (ws ++ [x]) (putW l x) := by
 unfold putW
 rw [putL_eq x l h.2]
 refine ⟨fun z => ?_, ?_⟩
 ·rw [lastW_snoc]
  simp only [List.mem_append, List.mem_filter, List.mem_cons, gtB, decide_eq_true_eq]
  by_cases e : x.g = z.g ∧ x.p = z.p
  ·rw [if_pos e]
   constructor
   ·rintro (h1 | h1 | h1)
    ·exact absurd h1.2 (by unfold ltW; omega)
    ·rw [h1]
    ·exact absurd h1.2 (by unfold ltW; omega)
   ·intro h1
    injection h1 with h1
    exact .inr (.inl h1.symm)
  ·rw [if_neg e, ← h.1 z]
   constructor
   ·rintro (h1 | h1 | h1)
    ·exact h1.1
    ·exact absurd ⟨by rw [h1], by rw [h1]⟩ e
    ·exact h1.1
   ·intro h1
    by_cases h2 : ltW z x
    ·exact .inl ⟨h1, h2⟩
    ·refine .inr (.inr ⟨h1, ?_⟩)
     unfold ltW at *
     omega
 ·rw [List.pairwise_append]
  refine ⟨h.2.filter _, ?_, ?_⟩
  ·rw [List.pairwise_cons]
   exact ⟨fun z hz => by simpa [gtB] using (List.mem_filter.1 hz).2, h.2.filter _⟩
  ·intro a ha b hb
   have h1 : ltW a x := by simpa [gtB] using (List.mem_filter.1 ha).2
   rcases List.mem_cons.1 hb with rfl | hb
   ·exact h1
   ·have h2 : ltW x b := by simpa [gtB] using (List.mem_filter.1 hb).2
    exact ltW_tr h1 h2
theorem srt_nil : SrtW [] [] := ⟨fun x => by simp [lastW], List.Pairwise.nil⟩
theorem srt_unique {ws l l' : List Pw} (h : SrtW ws l) (h' : SrtW ws l') : l = l' := by
 have key : ∀ l l' : List Pw, l.Pairwise ltW → l'.Pairwise ltW → (∀ x, x ∈ l ↔ x ∈ l') → l = l' := by
  intro l
  induction l with
  | nil =>
   intro l' _ _ hm
   cases l' with
   | nil => rfl
   | cons b m => exact absurd ((hm b).2 List.mem_cons_self) (by simp)
  | cons a l ih =>
   intro l' h1 h2 hm
   cases l' with
   | nil => exact absurd ((hm a).1 List.mem_cons_self) (by simp)
   | cons b m =>
    rw [List.pairwise_cons] at h1 h2
    have hab : a = b := by
     rcases List.mem_cons.1 ((hm a).1 List.mem_cons_self) with e | e
     ·exact e
     ·rcases List.mem_cons.1 ((hm b).2 List.mem_cons_self) with e2 | e2
      ·exact e2.symm
      ·exact absurd (ltW_tr (h1.1 _ e2) (h2.1 _ e)) ltW_ir
    subst hab
    congr 1
    refine ih m h1.2 h2.2 fun z => ⟨fun hz => ?_, fun hz => ?_⟩
    ·rcases List.mem_cons.1 ((hm z).1 (List.mem_cons_of_mem _ hz)) with e | e
     ·subst e; exact absurd (h1.1 _ hz) ltW_ir
     ·exact e
    ·rcases List.mem_cons.1 ((hm z).2 (List.mem_cons_of_mem _ hz)) with e | e
     ·subst e; exact absurd (h2.1 _ hz) ltW_ir
     ·exact e
 exact key l l' h.2 h'.2 fun x => (h.1 x).trans (h'.1 x).symm
/-! ### memory -/
section
variable {w w' : World} {X B : Nat} {m : Pw}
end
end Go.Proofs.YtjgjofepedcfnaaGreat
