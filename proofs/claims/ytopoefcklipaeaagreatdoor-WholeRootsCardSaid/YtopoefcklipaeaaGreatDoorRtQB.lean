/- Closed facts of the row: second part. -/
import Derived.Test.YtopoefcklipaeaaGreatDoorRows
import Derived.JoinedOf
import Derived.KernelRfl
namespace Go.Proofs.YtopoefcklipaeaaGreatDoor.wholeRootsDone
open Go Go.Proofs.YtopoefcklipaeaaGreatDoor
theorem jf11 : ((Rows.wholeRootsRow.recurses == Tryz.prog.recurses 3)) = true := by kernel_rfl
theorem jf12 : ((Rows.wholeRootsRow.named == Tryz.prog.varsNamed 3)) = true := by kernel_rfl
end Go.Proofs.YtopoefcklipaeaaGreatDoor.wholeRootsDone
