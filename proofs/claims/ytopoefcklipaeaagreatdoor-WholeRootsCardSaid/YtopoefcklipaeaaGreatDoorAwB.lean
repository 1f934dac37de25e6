/- awake25 is evaluated. -/
import Derived.Test.YtopoefcklipaeaaGreatDoorAwA
namespace Go.Proofs.Aw
open Go Go.Ev Go.Proofs
set_option maxRecDepth 100000
theorem run25 (t : TypeId) : isTrue ((callF Tryz.prog K0 60 (.func 37 [] []) []).run (s0 t)) = true := by kernel_rfl
end Go.Proofs.Aw
