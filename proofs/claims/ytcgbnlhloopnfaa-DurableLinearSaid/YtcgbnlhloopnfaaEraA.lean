/- Lists of the operations of each era, in memory: tegularef46's eras. Nothing of the program is walked here. -/
import Derived.Test.YtcgbnlhloopnfaaDivA
import Derived.Test.YtcgbnlhloopnfaaGRef
namespace Go.Proofs.Ytcgbnlhloopnfaa
open Go.RowKit

theorem elemEraR : Elem Try.prog 86 69 1 24 := Elem.mk (z := .slice none 0 0) Try.underlying86 (by kernel_rfl) (by decide) rfl
/-- a slice of slices of operations: n of them, ro k the operations of the k-th -/
def ErV (w : World) (B Bi g cap n : Nat) (ro : Nat → List Opr) : Prop := ∃ vo : Nat → Value, OwS w B 69 1 (.slice (some ⟨g, 0, none⟩) n cap) ((List.range n).map fun k => [vo k]) ∧
  ∀ k, k < n → OwS w Bi 72 8 (vo k) ((ro k).map Opr.cells) ∧ ∀ k', k' < n → k' ≠ k → sepV (vo k) (vo k')
section
variable {w w' : World} {B Bi g cap n : Nat} {ro : Nat → List Opr}
theorem ErV.below (h : ErV w B Bi g cap n ro) (hb : Below w.heap.size w w') : ErV w' B Bi g cap n ro := by
  obtain ⟨vo, h1, h2⟩ := h
  exact ⟨vo, h1.below hb, fun k hk => ⟨(h2 k hk).1.below hb, (h2 k hk).2⟩⟩
theorem ErV.lt (h : ErV w B Bi g cap n ro) : B ≤ g ∧ g < w.heap.size := by obtain ⟨vo, h1, -⟩ := h; exact h1.lt rfl
theorem ErV.mono {B' Bi' : Nat} (h : ErV w B Bi g cap n ro) (hB : B' ≤ B) (hBi : Bi' ≤ Bi) : ErV w B' Bi' g cap n ro := by
  obtain ⟨vo, h1, h2⟩ := h
  exact ⟨vo, h1.mono hB, fun k hk => ⟨(h2 k hk).1.mono hBi, (h2 k hk).2⟩⟩
theorem row_at {vo : Nat → Value} {k : Nat} (hk : k < n) : ((List.range n).map fun k => [vo k])[k]? = some [vo k] := by simp [hk]
theorem upd_rows {vo : Nat → Value} {k : Nat} (_hk : k < n) (v' : Value) : ((List.range n).map fun k => [vo k]).set k ([vo k].set 0 v') = (List.range n).map fun j => [updN vo k v' j] := by
  refine List.ext_getElem? fun j => ?_
  rw [List.getElem?_set]
  by_cases hj : k = j
  · subst hj
    simp [updN, _hk]
  · rw [if_neg hj]
    by_cases hjn : j < n
    · simp [hjn, updN]
      exact fun e => absurd e.symm hj
    · simp [hjn]
/-- the operations of one era are opened for an append -/
theorem ErV.opn (h : ErV w B Bi g cap n ro) {k0 : Nat} (hk : k0 < n) : ∃ v, w.cell? ⟨g, k0, none⟩ = some v ∧ OwS w Bi 72 8 v ((ro k0).map Opr.cells) ∧
    ∀ v' w' (rows : List Opr), w.grownBy w' v.ownBlock → OwS w' Bi 72 8 v' (rows.map Opr.cells) → (v'.ownBlock = v.ownBlock ∨ ∃ q, v'.ownBlock = some q ∧ w.heap.size ≤ q) →
      ErV (w'.setCell ⟨g, k0, none⟩ v') B Bi g cap n (updN ro k0 rows) ∧ w'.cell? ⟨g, k0, none⟩ = some v ∧ w'.frozen? ⟨g, k0, none⟩ = false := by
  obtain ⟨vo, h1, h2⟩ := h
  have hr := row_at (vo := vo) hk
  have hc := h1.cell hr (j := 0) rfl
  simp only [Nat.mul_one, Nat.add_zero] at hc
  refine ⟨vo k0, hc, (h2 k0 hk).1, fun v' w' rows hg hO hl => ?_⟩
  have h1' := h1.kept hg (h1.ne (h2 k0 hk).1 (by decide))
  have hc' := h1'.cell hr (j := 0) rfl
  simp only [Nat.mul_one, Nat.add_zero] at hc'
  refine ⟨⟨updN vo k0 v', ?_, fun k hk' => ?_⟩, hc', h1'.frozen k0⟩
  · have := (h1'.set hr (j := 0) (by decide) v').1
    rw [upd_rows hk] at this
    simpa using this
  · have hfar : ∀ {v : Value} {os : List Opr}, OwS w' Bi 72 8 v (os.map Opr.cells) → OwS (w'.setCell ⟨g, k0, none⟩ v') Bi 72 8 v (os.map Opr.cells) := fun ho => by
      refine ho.far ?_ _
      rcases ho.ne h1' (by decide) with h | h
      · rw [h]; simp
      · exact h
    by_cases hkk : k = k0
    · subst hkk
      refine ⟨?_, fun k' hk'' hn => ?_⟩
      · simp only [updN, if_true]
        exact hfar hO
      · simp only [updN, if_true, if_neg hn]
        exact (sep_new (h2 k' hk'').1 ((h2 k' hk'').2 k hk' (Ne.symm hn)) hl).symm
    · refine ⟨?_, fun k' hk'' hn => ?_⟩
      · simp only [updN, if_neg hkk]
        exact hfar (sep_kept (h2 k hk').1 ((h2 k hk').2 k0 hk (Ne.symm hkk)) hg)
      · simp only [updN, if_neg hkk]
        by_cases h0 : k' = k0
        · subst h0
          simp only [if_true]
          exact sep_new (h2 k hk').1 ((h2 k hk').2 k' hk'' hn) hl
        · simp only [if_neg h0]
          exact (h2 k hk').2 k' hk'' hn
theorem updN_self {α : Type} (f : Nat → α) (k : Nat) : updN f k (f k) = f := by funext x; unfold updN; split <;> simp_all
/-- one of the lists, for reading -/
theorem ErV.at_ (h : ErV w B Bi g cap n ro) {k : Nat} (hk : k < n) : ∃ A c, ∀ W, Below w.heap.size w W → W.cell? ⟨g, k, none⟩ = some (.slice A (ro k).length c) ∧ OwS W Bi 72 8 (.slice A (ro k).length c) ((ro k).map Opr.cells) := by
  obtain ⟨vo, h1, h2⟩ := h
  obtain ⟨A, c, hv, -, -⟩ := (h2 k hk).1.form
  rw [List.length_map] at hv
  refine ⟨A, c, fun W hW => ?_⟩
  have hc := (h1.below hW).cell (row_at (vo := vo) hk) (j := 0) rfl
  simp only [Nat.mul_one, Nat.add_zero] at hc
  exact ⟨by rw [hc, hv], by have := (h2 k hk).1.below hW; rwa [hv] at this⟩
end
/-- all lists are empty -/
theorem ErV.empty {w : World} {B g cap n : Nat} (Bi : Nat) (h : OwS w B 69 1 (.slice (some ⟨g, 0, none⟩) n cap) (List.replicate n [.slice none 0 0])) : ErV w B Bi g cap n (fun _ => []) :=
  ⟨fun _ => .slice none 0 0, by have e : (List.range n).map (fun _ => [Value.slice none 0 0]) = List.replicate n [Value.slice none 0 0] := by simp [List.map_const']
                                rw [e]; exact h, fun k _ => ⟨OwS.nil _ _ _ _, fun _ _ _ => .inl rfl⟩⟩
end Go.Proofs.Ytcgbnlhloopnfaa
