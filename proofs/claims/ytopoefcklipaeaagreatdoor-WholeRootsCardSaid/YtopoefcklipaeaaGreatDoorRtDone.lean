/- The proof of 'Rows.WholeRootsCardSaid': for every input tegulatop.WholeRoots returns true, and the arguments read as they did; the package variables are tied to the program's text. -/
import Derived.Test.YtopoefcklipaeaaGreatDoorRows
import Derived.Test.YtopoefcklipaeaaGreatDoorCards
import Derived.Test.YtopoefcklipaeaaGreatDoorTie
import Derived.Test.YtopoefcklipaeaaGreatDoorRtS
import Derived.SevenTiedAt
namespace Go.Proofs.YtopoefcklipaeaaGreatDoor.wholeRootsDone
open Go Go.ChangeShapes Go.WideShapes Go.ChangeAt Go.WideMaps Go.WideElems Go.RowKit Go.Proofs.YtopoefcklipaeaaGreatDoor
theorem wfText : Rows.wholeRootsRow.wfByText (OpenSpec.ofChange Rows.wholeRootsSpec) = true := by kernel_rfl
theorem mainName : Tryz.pinned.checked.prog.mainIs = some (true, "a69a909821e0ed5ccb73c570b7946d521293c094a6ab3ba5912787281bcf24bd".toList) := by kernel_rfl
theorem yesLooks : true = Tryz.pinned.checked.prog.looks [] := by kernel_rfl
theorem proved : Rows.WholeRootsCardSaid :=
 Claim7.holds_tied_plain_at .later [] [.data, .data, .pinned] true (true, "a69a909821e0ed5ccb73c570b7946d521293c094a6ab3ba5912787281bcf24bd") true
  over (fun _ h => by cases h) wfText (fun _ h => by cases h) wholeRoots_row_tie rfl ⟨rfl, rfl⟩ mainName rfl
  (fun f fn hf hfn => by
   obtain rfl : f = 3 := Option.some.inj ((show Tryz.prog.funcNamed "tegula/tegulatop.WholeRoots" = some 3 by kernel_rfl).symm.trans hf) |>.symm
   obtain rfl : fn = Tryz.f3 := (Option.some.inj (Tryz.func3.symm.trans hfn)).symm
   exact ⟨yesLooks, fun j t ht => by
    rw [Tryz.params3] at ht
    have hm : t ∈ [5, 22] := by simpa using Array.mem_of_getElem? ht
    have hall : ([5, 22].all fun u => !Tryz.prog.wantsStandIn u) = true := by kernel_rfl
    exact (show Tryz.prog.wantsStandIn t = false by simpa using List.all_eq_true.1 hall t hm)⟩)
  (goes_none no_goes rfl)
end Go.Proofs.YtopoefcklipaeaaGreatDoor.wholeRootsDone
