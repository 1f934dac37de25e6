/- Closed facts of the row: first part. -/
import Derived.Test.YtopoefcklipaeaaGreatDoorRows
import Derived.JoinedOf
import Derived.KernelRfl
namespace Go.Proofs.YtopoefcklipaeaaGreatDoor.wholeRootsDone
open Go Go.Proofs.YtopoefcklipaeaaGreatDoor
theorem jf9 : ((Rows.wholeRootsRow.inPlace == Tryz.prog.inPlace 3)) = true := by kernel_rfl
theorem jf10 : ((Rows.wholeRootsRow.unfollowed == Tryz.prog.unfollowed 3)) = true := by kernel_rfl
end Go.Proofs.YtopoefcklipaeaaGreatDoor.wholeRootsDone
