/- Bytes as small numbers: their range, their conversion to int, the range of small ints. -/
import Derived.Test.YtcgbnlhloopnfaaWords
import Derived.DataShut
namespace Go.Proofs.Ytcgbnlhloopnfaa
open Go.RowKit

theorem conv_u8 (x : Int) (h0 : 0 ≤ x) (h1 : x < 256) (W : World) : (convert 5 3 (.int .u8 x)).run Try.prog W = .ok (.int .i64 x) W := by
  rw [run_convert_int W 5 3 .u8 x (by rw [Try.underlying5]; rfl) (by kernel_rfl)]
  have hk : Try.prog.intKind 3 = .i64 := by kernel_rfl
  rw [hk]
  have : IntKind.i64.wrap x = x := by simp [IntKind.wrap, IntKind.bits, IntKind.signed]; omega
  rw [this]
theorem byte_nat {n : Int} (h : (Lit.int .u8 n).wf = true) : ∃ m : Nat, n = m ∧ m < 256 := by
  rw [Lit.wf_int_iff, IntKind.min_u8, IntKind.max_u8] at h
  exact ⟨n.toNat, by omega, by omega⟩
theorem small_wf (x : Nat) (h : x < 100000) : (Lit.int .i64 (x : Int)).wf = true := by
  rw [Lit.wf_int_iff, IntKind.min_i64, IntKind.max_i64]
  omega
end Go.Proofs.Ytcgbnlhloopnfaa
