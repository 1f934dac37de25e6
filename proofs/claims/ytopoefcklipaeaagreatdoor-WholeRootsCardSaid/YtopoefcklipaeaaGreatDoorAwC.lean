/- awake31 is evaluated. -/
import Derived.Test.YtopoefcklipaeaaGreatDoorAwA
namespace Go.Proofs.Aw
open Go Go.Ev Go.Proofs
set_option maxRecDepth 100000
theorem run31 (t : TypeId) : isTrue ((callF Tryz.prog K1 60 (.func 15 [] []) []).run (s0 t)) = true := by kernel_rfl
end Go.Proofs.Aw
