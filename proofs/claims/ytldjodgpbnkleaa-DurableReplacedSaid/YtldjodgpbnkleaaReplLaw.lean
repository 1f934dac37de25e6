/- What durable's Check answers on the histories of DurableReplaced, reckoned out. -/
import Derived.Test.YtldjodgpbnkleaaLawB
namespace Go.Proofs.Ytldjodgpbnkleaa

/-- the writes of a history of DurableReplaced -/
def wrsL (k : Nat) : List Ev := (List.range k).flatMap fun (i : Nat) => wrE (i : Int) 3 ((i : Int) + 1)
theorem wrsL_succ (k : Nat) : wrsL (k + 1) = wrsL k ++ wrE k 3 (k + 1) := by
  unfold wrsL
  rw [List.range_succ, List.flatMap_append]
  simp
def replL (k v : Nat) : List Ev := wrsL k ++ rdE k 3 v
def replF (k v : Nat) : List Flt := if v = k then [] else if k < v then [⟨1, k, -1⟩] else [⟨3, k, v⟩]
theorem repl_chk0 : ∀ k, k < 13 → ∀ v, v < 128 → checkD (replL k v) = some (replF k v) := by decide +kernel
theorem repl_chk1 : ∀ k, k < 13 → ∀ v, v < 128 → checkD (replL k (v + 128)) = some (replF k (v + 128)) := by decide +kernel
theorem repl_chk (k v : Nat) (hk : k < 13) (hv : v < 256) : checkD (replL k v) = some (replF k v) := by
  by_cases h : v < 128
  · exact repl_chk0 k hk v h
  · have := repl_chk1 k hk (v - 128) (by omega)
    rwa [show v - 128 + 128 = v by omega] at this
theorem wr_wf {k : Nat} (hk : k < 13) : ∀ e ∈ wrE (k : Int) 3 ((k : Int) + 1), (Lit.int .i64 e.op).wf = true ∧ (Lit.int .i64 e.reg).wf = true ∧ (Lit.int .i64 e.val).wf = true := by
  revert k
  decide
end Go.Proofs.Ytldjodgpbnkleaa
