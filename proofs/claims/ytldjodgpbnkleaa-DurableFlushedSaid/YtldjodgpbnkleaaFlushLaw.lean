/- What durable's Check and Survivors answer on the histories of DurableFlushed, reckoned out. -/
import Derived.Test.YtldjodgpbnkleaaLawB
import Derived.Test.YtldjodgpbnkleaaByte
namespace Go.Proofs.Ytldjodgpbnkleaa

/-- one round's events -/
def flOne (k m i : Nat) : List Ev := (if i = m then flE 100 else []) ++ (if i < k then wrE (i : Int) 3 ((i : Int) + 1) else [])
/-- the events of the first j rounds of DurableFlushed's loop -/
def flPart (k m j : Nat) : List Ev := (List.range j).flatMap (flOne k m)
theorem flPart_succ (k m j : Nat) : flPart k m (j + 1) = flPart k m j ++ flOne k m j := by
  unfold flPart
  rw [List.range_succ, List.flatMap_append]
  simp
def flL (k m v : Nat) : List Ev := flPart k m (k + 1) ++ [Ev.cut] ++ rdE k 3 v
def flF (k m v : Nat) : List Flt := if v < m then [⟨3, k, v⟩] else []
def flS (m v : Nat) : List Int := (List.range (max m v)).map Int.ofNat
theorem flush_chk : ∀ k, k < 13 → ∀ m, m < k + 1 → ∀ v, v < k + 1 → checkD (flL k m v) = some (flF k m v) := by decide +kernel
theorem flush_sur : ∀ k, k < 13 → ∀ m, m < k + 1 → ∀ v, v < k + 1 → survD (flL k m v) = some (flS m v) := by decide +kernel
theorem flOne_len (k m i : Nat) : (flOne k m i).length ≤ 4 := by
  unfold flOne
  split <;> split <;> simp [flE, wrE]
theorem flPart_len (k m j : Nat) : (flPart k m j).length ≤ 4 * j := by
  induction j with
  | zero => simp [flPart]
  | succ j ih => rw [flPart_succ, List.length_append]; have := flOne_len k m j; omega
theorem flOne_wf {k m i : Nat} (hk : k < 13) : WfE (flOne k m i) := by
  intro e he
  have h100 := small_wf 100 (by decide)
  have h0 := small_wf 0 (by decide)
  have h3 := small_wf 3 (by decide)
  unfold flOne at he
  rcases List.mem_append.1 he with he | he
  · split at he
    · simp only [flE, List.mem_cons, List.not_mem_nil, or_false] at he
      rcases he with rfl | rfl <;> exact ⟨h100, h0, h0⟩
    · simp at he
  · split at he
    · have hi := small_wf i (by omega)
      have hi1 := small_wf (i + 1) (by omega)
      simp only [wrE, List.mem_cons, List.not_mem_nil, or_false] at he
      rcases he with rfl | rfl <;> exact ⟨hi, h3, by simpa using hi1⟩
    · simp at he
theorem flPart_wf {k m j : Nat} (hk : k < 13) : WfE (flPart k m j) := by
  intro e he
  unfold flPart at he
  obtain ⟨i, _, he⟩ := List.mem_flatMap.1 he
  exact flOne_wf hk e he
theorem flL_wf {k m v : Nat} (hk : k < 13) (hv : v < 256) : WfE (flL k m v) := by
  intro e he
  unfold flL at he
  rcases List.mem_append.1 he with he | he
  · rcases List.mem_append.1 he with he | he
    · exact flPart_wf hk e he
    · have h0 := small_wf 0 (by decide)
      simp only [List.mem_singleton] at he
      subst he
      exact ⟨h0, h0, h0⟩
  · have h1 := small_wf k (by omega)
    have h2 := small_wf v (by omega)
    have h3 := small_wf 3 (by decide)
    have h0 := small_wf 0 (by decide)
    simp only [rdE, List.mem_cons, List.not_mem_nil, or_false] at he
    rcases he with rfl | rfl
    · exact ⟨h1, h3, h0⟩
    · exact ⟨h1, h3, h2⟩
theorem flL_len (k m v : Nat) (hk : k < 13) : (flL k m v).length ≤ 60 := by
  have := flPart_len k m (k + 1)
  unfold flL
  simp [rdE]
  omega
end Go.Proofs.Ytldjodgpbnkleaa
