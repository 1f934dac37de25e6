/- Signed bytes as ints, the kinds of acts. -/
import Derived.Test.YtcgbnlhloopnfaaHSpec
import Derived.DataShut
namespace Go.Proofs.Ytcgbnlhloopnfaa
open Go.RowKit

theorem conv_i8 (x : Int) (h0 : -128 ≤ x) (h1 : x ≤ 127) (W : World) : (convert 76 3 (.int .i8 x)).run Try.prog W = .ok (.int .i64 x) W := by
  rw [run_convert_int W 76 3 .i8 x (by rw [Try.underlying76]; rfl) (by kernel_rfl)]
  have hk : Try.prog.intKind 3 = .i64 := by kernel_rfl
  rw [hk]
  have : IntKind.i64.wrap x = x := by simp [IntKind.wrap, IntKind.bits, IntKind.signed]; omega
  rw [this]
def ActH.agg (a : ActH) : Value := .agg #[.int .u8 a.kind, .int .i8 a.op, .int .i8 a.val]
theorem m8 (k : Nat) : k % 8 = 0 ∨ k % 8 = 1 ∨ k % 8 = 2 ∨ k % 8 = 3 ∨ k % 8 = 4 ∨ k % 8 = 5 ∨ k % 8 = 6 ∨ k % 8 = 7 := by omega
end Go.Proofs.Ytcgbnlhloopnfaa
