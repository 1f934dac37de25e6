/- The proof of 'Rows.WholeRootsSaid'. -/
import Derived.Test.YtopoefcklipaeaaGreatDoorRtR
import Derived.Test.YtopoefcklipaeaaGreatDoorRtQ
namespace Go.Proofs.YtopoefcklipaeaaGreatDoor.wholeRootsDone
open Go Go.ChangeShapes Go.WideShapes Go.ChangeAt Go.WideMaps Go.WideElems Go.RowKit Go.Proofs.YtopoefcklipaeaaGreatDoor
theorem over : Rows.WholeRootsSaid :=
 OpenClaim.holds_of_wide 3 Tryz.f3 rfl rfl rfl rfl rfl rfl rfl ⟨rfl, rfl, rfl, rfl, rfl⟩ rfl rfl rfl rfl rfl (by kernel_rfl) Tryz.func3 closed
  (of_decide_eq_true (by kernel_rfl)) (by unfold Func.isWrapper; first | (rw [if_pos (by decide +kernel)]; kernel_rfl) | (rw [if_neg (by decide +kernel)]; exact ⟨rfl, rfl⟩))
  (fun os started H enc _ => lifted os started H enc)
end Go.Proofs.YtopoefcklipaeaaGreatDoor.wholeRootsDone
