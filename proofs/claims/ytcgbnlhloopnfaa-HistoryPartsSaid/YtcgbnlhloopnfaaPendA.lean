/- The operations of a history as the entries of a map: plain laws for a loop that ranges over it. -/
import Derived.Test.YtcgbnlhloopnfaaHist
import Derived.Maps.RangeWalk
import Derived.Maps.Views
namespace Go.Proofs.Ytcgbnlhloopnfaa
open Go.RowKit

theorem nodup_len {α : Type} [DecidableEq α] : ∀ {l1 l2 : List α}, l1.Nodup → (∀ x ∈ l1, x ∈ l2) → l1.length ≤ l2.length
  | [], _, _, _ => Nat.zero_le _
  | x :: l1, l2, hn, hs => by
    have hx : x ∈ l2 := hs x (by simp)
    have h1 := List.nodup_cons.1 hn
    have := nodup_len (l1 := l1) (l2 := l2.erase x) h1.2 (fun y hy => (List.mem_erase_of_ne (by rintro rfl; exact h1.1 hy)).2 (hs y (by simp [hy])))
    rw [List.length_erase_of_mem hx] at this
    have := List.length_pos_of_mem hx
    simp only [List.length_cons]
    omega
theorem pigeon {α : Type} {l1 l2 : List α} (hn : l1.Nodup) (hs : ∀ x ∈ l1, x ∈ l2) (hl : l2.length ≤ l1.length) : ∀ x ∈ l2, x ∈ l1 := by
  haveI : DecidableEq α := fun a b => Classical.propDecidable (a = b)
  intro x hx
  refine Classical.byContradiction fun hc => ?_
  have := nodup_len (l1 := l1) (l2 := l2.erase x) hn (fun y hy => (List.mem_erase_of_ne (by rintro rfl; exact hc hy)).2 (hs y hy))
  rw [List.length_erase_of_mem hx] at this
  have := List.length_pos_of_mem hx
  omega

def opKey (o : Opr) : Lit := .int .i64 o.id
/-- the entries are the operations -/
theorem HP.keys {w : World} {base mb : Nat} {os : List Opr} {ps : List Nat} (h : HP w base mb os ps) (hids : (os.map (·.id)).Nodup) :
    ∃ D, w.ownsMap Try.prog 3 ptrC.R mb os.length D ∧ (∀ kl, Maps.has D kl = true → ∃ (i : Nat) (o : Opr) (g : Nat), os[i]? = some o ∧ ps[i]? = some g ∧ kl = opKey o ∧ D.atKey kl .nil = ptrD (some (g, 0))) ∧
      (∀ o ∈ os, Maps.has D (opKey o) = true) := by
  obtain ⟨f, ⟨D, h1, h2, h3⟩, hf⟩ := h.map
  have hsz := h1.size_le
  obtain ⟨es, rfl, hpw, hkl⟩ := h1.entries keyedInt
  have hat : ∀ (i : Nat) (o : Opr) (g : Nat), os[i]? = some o → ps[i]? = some g → (DataW.map es).atKey (opKey o) .nil = ptrD (some (g, 0)) := by
    intro i o g ho hg
    have := h3 (opKey o) trivial
    rw [show f (opKey o) = some (g, 0) from (hf o.id).trans (lookI_at hids h.len ho hg)] at this
    exact this
  have hex : ∀ (i : Nat) (o : Opr), os[i]? = some o → ∃ g, ps[i]? = some g := fun i o ho => ⟨ps[i]'(by rw [h.len]; exact (List.getElem?_eq_some_iff.1 ho).1), List.getElem?_eq_getElem _⟩
  have hhas : ∀ o ∈ os, Maps.has (DataW.map es) (opKey o) = true := by
    intro o ho
    obtain ⟨i, hi⟩ := List.mem_iff_getElem?.1 ho
    obtain ⟨g, hg⟩ := hex i o hi
    have h4 := hat i o g hi hg
    cases hb : Maps.has (DataW.map es) (opKey o)
    · rw [Maps.atKey_of_not_has hb] at h4
      cases h4
    · rfl
  refine ⟨_, h1, fun kl hk => ?_, hhas⟩
  have hmem : ∀ o ∈ os, opKey o ∈ es.map (·.1) := by
    intro o ho
    have h4 := hhas o ho
    rw [Maps.has_eq, List.any_eq_true] at h4
    obtain ⟨p, hp, h5⟩ := h4
    rw [← WideAt.sameKey_eq h5]
    exact List.mem_map.2 ⟨p, hp, rfl⟩
  have hnd : (os.map opKey).Nodup := by
    have : os.map opKey = (os.map (·.id)).map (Lit.int .i64) := by rw [List.map_map]; rfl
    rw [this]
    unfold List.Nodup
    rw [List.pairwise_map]
    exact List.Pairwise.imp (fun h1 h2 => h1 (by injection h2)) hids
  have hall := pigeon (l1 := os.map opKey) (l2 := es.map (·.1)) hnd (by
    intro x hx
    obtain ⟨o, ho, rfl⟩ := List.mem_map.1 hx
    exact hmem o ho) (by rw [List.length_map, List.length_map]; exact hsz)
  rw [Maps.has_eq, List.any_eq_true] at hk
  obtain ⟨p, hp, h5⟩ := hk
  have hkl' := WideAt.sameKey_eq h5
  obtain ⟨o, ho, h6⟩ := List.mem_map.1 (hall p.1 (List.mem_map.2 ⟨p, hp, rfl⟩))
  obtain ⟨i, hi⟩ := List.mem_iff_getElem?.1 ho
  obtain ⟨g, hg⟩ := hex i o hi
  have : kl = opKey o := by rw [← hkl', h6]
  subst this
  exact ⟨i, o, g, hi, hg, rfl, hat i o g hi hg⟩
end Go.Proofs.Ytcgbnlhloopnfaa
