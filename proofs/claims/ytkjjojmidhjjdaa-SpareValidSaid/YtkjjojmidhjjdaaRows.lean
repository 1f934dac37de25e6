/-
  No cell of these rows narrows 'for every input' (looked for: loops, veiled, ifaces, maps, wideKeys, modest, calm, conditions, laid).
  DERIVED. THE GIVEN ROWS OF THIS SEAT. 6 by the template 'for every input the law returns true; each argument reads behind the call as it read before'; 0 by the template 'total and deterministic' (their statements: YtkjjojmidhjjdaaTotals.lean).
  GIVEN WITH THE SEED: the statements are not yours to turn. If you find one false, say at which input.
  Laid BY PROGRAM, IN A SANDBOX (cutbox-rows.mjs): the forced cells as the released guide's own fill.sh prints them over the translation 7575bd7ab9a8573b… (all of the seat's roots in one cut). By AI agents, Wed Nov 11 2026. No macro, syntax, notation, axiom, sorry.
-/
import Derived.Test.YtkjjojmidhjjdaaChecked
import GoSem.Claim
import GoSem.ClaimJoined
import GoSem.ClaimMapViews
import Derived.JoinedTies
import Derived.KernelRfl
namespace Go.Proofs.Ytkjjojmidhjjdaa
/- THE CELL 'sum', in the pinned program and in every row, IS THE sha256 OF THE DUMP (.gsa) THAT YtkjjojmidhjjdaaProg.lean LOADS. Nothing in Lean hashes anything: it is a label: what it is worth is what the hold of that sum in a sandbox is worth. -/
noncomputable def Try.pinned : Pinned := { name := "ytkjjojmidhjjdaa", sum := "7575bd7ab9a8573bcbeab31d2ebdb60ad956a778a0dfdaad4f3c9b4331ff638b", checked := Try.checked }
namespace Rows
def none {H : Type} : Left H := { results := [], args := [] }

/-- 'tegulalaw22.SpareChoose': WHATEVER THE INPUT: true; the input reads as it did. -/
def spareChooseSpec : ChangeSpec := { name := "spareChoose", fn := fun _ => fun
  | [d1, d2, d3] => { results := [.lit (.bool true)], args := [d1, d2, d3] }
  | _ => none }
def spareChooseRow : OpenClaim := { program := "ytkjjojmidhjjdaa", sum := "7575bd7ab9a8573bcbeab31d2ebdb60ad956a778a0dfdaad4f3c9b4331ff638b", func := "tegula/tegulalaw22.SpareChoose", spec := "spareChoose", inPlace := ["slices.overlaps[tegula/api.Move]"], unfollowed := true, recurses := true, plainKeys := false, apart := false }
def SpareChooseSaid : Prop := spareChooseRow.holds Try.pinned (OpenSpec.ofChange spareChooseSpec)

/-- ITS FALSE NEIGHBOUR: 'it returns false'. Refute it at one input. -/
def spareChooseWrong : ChangeSpec := { name := "spareChoose", fn := fun _ => fun
  | [d1, d2, d3] => { results := [.lit (.bool false)], args := [d1, d2, d3] }
  | _ => none }
def SpareChooseWrongFalsely : Prop := spareChooseRow.holds Try.pinned (OpenSpec.ofChange spareChooseWrong)

/-- 'tegulalaw22.SpareApply': WHATEVER THE INPUT: true; the input reads as it did. -/
def spareApplySpec : ChangeSpec := { name := "spareApply", fn := fun _ => fun
  | [d1, d2, d3] => { results := [.lit (.bool true)], args := [d1, d2, d3] }
  | _ => none }
def spareApplyRow : OpenClaim := { program := "ytkjjojmidhjjdaa", sum := "7575bd7ab9a8573bcbeab31d2ebdb60ad956a778a0dfdaad4f3c9b4331ff638b", func := "tegula/tegulalaw22.SpareApply", spec := "spareApply", inPlace := ["slices.overlaps[tegula/api.Move]"], unfollowed := true, recurses := true, plainKeys := false, apart := false }
def SpareApplySaid : Prop := spareApplyRow.holds Try.pinned (OpenSpec.ofChange spareApplySpec)

/-- ITS FALSE NEIGHBOUR: 'it returns false'. Refute it at one input. -/
def spareApplyWrong : ChangeSpec := { name := "spareApply", fn := fun _ => fun
  | [d1, d2, d3] => { results := [.lit (.bool false)], args := [d1, d2, d3] }
  | _ => none }
def SpareApplyWrongFalsely : Prop := spareApplyRow.holds Try.pinned (OpenSpec.ofChange spareApplyWrong)

/-- 'tegulalaw22.SpareWhere': WHATEVER THE INPUT: true; the input reads as it did. -/
def spareWhereSpec : ChangeSpec := { name := "spareWhere", fn := fun _ => fun
  | [d1, d2, d3] => { results := [.lit (.bool true)], args := [d1, d2, d3] }
  | _ => none }
def spareWhereRow : OpenClaim := { program := "ytkjjojmidhjjdaa", sum := "7575bd7ab9a8573bcbeab31d2ebdb60ad956a778a0dfdaad4f3c9b4331ff638b", func := "tegula/tegulalaw22.SpareWhere", spec := "spareWhere", inPlace := ["slices.overlaps[tegula/api.Move]"], unfollowed := true, recurses := true, plainKeys := false, apart := false }
def SpareWhereSaid : Prop := spareWhereRow.holds Try.pinned (OpenSpec.ofChange spareWhereSpec)

/-- ITS FALSE NEIGHBOUR: 'it returns false'. Refute it at one input. -/
def spareWhereWrong : ChangeSpec := { name := "spareWhere", fn := fun _ => fun
  | [d1, d2, d3] => { results := [.lit (.bool false)], args := [d1, d2, d3] }
  | _ => none }
def SpareWhereWrongFalsely : Prop := spareWhereRow.holds Try.pinned (OpenSpec.ofChange spareWhereWrong)

/-- 'tegulalaw22.SpareFits': WHATEVER THE INPUT: true; the input reads as it did. -/
def spareFitsSpec : ChangeSpec := { name := "spareFits", fn := fun _ => fun
  | [d1, d2, d3] => { results := [.lit (.bool true)], args := [d1, d2, d3] }
  | _ => none }
def spareFitsRow : OpenClaim := { program := "ytkjjojmidhjjdaa", sum := "7575bd7ab9a8573bcbeab31d2ebdb60ad956a778a0dfdaad4f3c9b4331ff638b", func := "tegula/tegulalaw22.SpareFits", spec := "spareFits", inPlace := ["slices.overlaps[tegula/api.Move]"], unfollowed := true, recurses := true, plainKeys := false, apart := false }
def SpareFitsSaid : Prop := spareFitsRow.holds Try.pinned (OpenSpec.ofChange spareFitsSpec)

/-- ITS FALSE NEIGHBOUR: 'it returns false'. Refute it at one input. -/
def spareFitsWrong : ChangeSpec := { name := "spareFits", fn := fun _ => fun
  | [d1, d2, d3] => { results := [.lit (.bool false)], args := [d1, d2, d3] }
  | _ => none }
def SpareFitsWrongFalsely : Prop := spareFitsRow.holds Try.pinned (OpenSpec.ofChange spareFitsWrong)

/-- 'tegulalaw22.SpareReturns': WHATEVER THE INPUT: true; the input reads as it did. -/
def spareReturnsSpec : ChangeSpec := { name := "spareReturns", fn := fun _ => fun
  | [d1, d2, d3] => { results := [.lit (.bool true)], args := [d1, d2, d3] }
  | _ => none }
def spareReturnsRow : OpenClaim := { program := "ytkjjojmidhjjdaa", sum := "7575bd7ab9a8573bcbeab31d2ebdb60ad956a778a0dfdaad4f3c9b4331ff638b", func := "tegula/tegulalaw22.SpareReturns", spec := "spareReturns", inPlace := ["slices.overlaps[tegula/api.Move]"], unfollowed := true, recurses := true, plainKeys := false, apart := false }
def SpareReturnsSaid : Prop := spareReturnsRow.holds Try.pinned (OpenSpec.ofChange spareReturnsSpec)

/-- ITS FALSE NEIGHBOUR: 'it returns false'. Refute it at one input. -/
def spareReturnsWrong : ChangeSpec := { name := "spareReturns", fn := fun _ => fun
  | [d1, d2, d3] => { results := [.lit (.bool false)], args := [d1, d2, d3] }
  | _ => none }
def SpareReturnsWrongFalsely : Prop := spareReturnsRow.holds Try.pinned (OpenSpec.ofChange spareReturnsWrong)

/-- 'tegulalaw22.SpareValid': WHATEVER THE INPUT: true; the input reads as it did. -/
def spareValidSpec : ChangeSpec := { name := "spareValid", fn := fun _ => fun
  | [d1, d2] => { results := [.lit (.bool true)], args := [d1, d2] }
  | _ => none }
def spareValidRow : OpenClaim := { program := "ytkjjojmidhjjdaa", sum := "7575bd7ab9a8573bcbeab31d2ebdb60ad956a778a0dfdaad4f3c9b4331ff638b", func := "tegula/tegulalaw22.SpareValid", spec := "spareValid", inPlace := ["slices.overlaps[tegula/api.Move]"], unfollowed := true, recurses := true, plainKeys := false, apart := false }
def SpareValidSaid : Prop := spareValidRow.holds Try.pinned (OpenSpec.ofChange spareValidSpec)

/-- ITS FALSE NEIGHBOUR: 'it returns false'. Refute it at one input. -/
def spareValidWrong : ChangeSpec := { name := "spareValid", fn := fun _ => fun
  | [d1, d2] => { results := [.lit (.bool false)], args := [d1, d2] }
  | _ => none }
def SpareValidWrongFalsely : Prop := spareValidRow.holds Try.pinned (OpenSpec.ofChange spareValidWrong)

/- THE SECOND FORM. 'bulk': how many values and letters a reading holds, each counted each time it is reached (what is shared counts as often as it is met; a slice's spare places count too). A statement '..UptoSaid' is the law's where the arguments, and the package variables that the reading takes, are together of bulk at most 1048576: NARROWER than '..Said'. Prove '..Said' where nothing that the law and all that it calls make is longer than what came in: it says more and counts as full. Else prove '..UptoSaid'. A law counts once. -/
mutual
def uptoBulk {H : Type} : DataW H → Nat
  | .lit (.string bytes) => bytes.length + 1
  | .lit _ => 1
  | .nil => 1
  | .ptr d => uptoBulk d + 1
  | .slice elems spare => uptoBulkAll elems + uptoBulkAll spare + 1
  | .agg parts => uptoBulkAll parts + 1
  | .iface _ d => uptoBulk d + 1
  | .map entries => uptoBulkEntries entries + 1
  | .held _ => 1
def uptoBulkAll {H : Type} : List (DataW H) → Nat
  | [] => 0
  | d :: r => uptoBulk d + uptoBulkAll r
def uptoBulkEntries {H : Type} : List (Lit × DataW H) → Nat
  | [] => 0
  | x :: r => uptoBulkEntry x + uptoBulkEntries r
def uptoBulkEntry {H : Type} : Lit × DataW H → Nat
  | (.string bytes, d) => bytes.length + uptoBulk d + 1
  | (_, d) => uptoBulk d + 1
 end
def uptoSmall : (H : Type) → List (DataW H) → Bool := fun _ ds => decide (uptoBulkAll ds ≤ 1048576)
def OpenSpec.upto (s : _root_.Go.ChangeSpec) : _root_.Go.OpenSpec := { _root_.Go.OpenSpec.ofChange s with cond := some uptoSmall }

/-- 'tegulalaw22.SpareChoose', WHERE WHAT IT READS IS OF BULK AT MOST 1048576: true; the input reads as it did. -/
def spareChooseUptoRow : OpenClaim := { program := "ytkjjojmidhjjdaa", sum := "7575bd7ab9a8573bcbeab31d2ebdb60ad956a778a0dfdaad4f3c9b4331ff638b", func := "tegula/tegulalaw22.SpareChoose", spec := "spareChoose", inPlace := ["slices.overlaps[tegula/api.Move]"], unfollowed := true, recurses := true, plainKeys := false, apart := false, narrowed := true }
def SpareChooseUptoSaid : Prop := spareChooseUptoRow.holds Try.pinned (OpenSpec.upto spareChooseSpec)

/-- 'tegulalaw22.SpareApply', WHERE WHAT IT READS IS OF BULK AT MOST 1048576: true; the input reads as it did. -/
def spareApplyUptoRow : OpenClaim := { program := "ytkjjojmidhjjdaa", sum := "7575bd7ab9a8573bcbeab31d2ebdb60ad956a778a0dfdaad4f3c9b4331ff638b", func := "tegula/tegulalaw22.SpareApply", spec := "spareApply", inPlace := ["slices.overlaps[tegula/api.Move]"], unfollowed := true, recurses := true, plainKeys := false, apart := false, narrowed := true }
def SpareApplyUptoSaid : Prop := spareApplyUptoRow.holds Try.pinned (OpenSpec.upto spareApplySpec)

/-- 'tegulalaw22.SpareWhere', WHERE WHAT IT READS IS OF BULK AT MOST 1048576: true; the input reads as it did. -/
def spareWhereUptoRow : OpenClaim := { program := "ytkjjojmidhjjdaa", sum := "7575bd7ab9a8573bcbeab31d2ebdb60ad956a778a0dfdaad4f3c9b4331ff638b", func := "tegula/tegulalaw22.SpareWhere", spec := "spareWhere", inPlace := ["slices.overlaps[tegula/api.Move]"], unfollowed := true, recurses := true, plainKeys := false, apart := false, narrowed := true }
def SpareWhereUptoSaid : Prop := spareWhereUptoRow.holds Try.pinned (OpenSpec.upto spareWhereSpec)

/-- 'tegulalaw22.SpareFits', WHERE WHAT IT READS IS OF BULK AT MOST 1048576: true; the input reads as it did. -/
def spareFitsUptoRow : OpenClaim := { program := "ytkjjojmidhjjdaa", sum := "7575bd7ab9a8573bcbeab31d2ebdb60ad956a778a0dfdaad4f3c9b4331ff638b", func := "tegula/tegulalaw22.SpareFits", spec := "spareFits", inPlace := ["slices.overlaps[tegula/api.Move]"], unfollowed := true, recurses := true, plainKeys := false, apart := false, narrowed := true }
def SpareFitsUptoSaid : Prop := spareFitsUptoRow.holds Try.pinned (OpenSpec.upto spareFitsSpec)

/-- 'tegulalaw22.SpareReturns', WHERE WHAT IT READS IS OF BULK AT MOST 1048576: true; the input reads as it did. -/
def spareReturnsUptoRow : OpenClaim := { program := "ytkjjojmidhjjdaa", sum := "7575bd7ab9a8573bcbeab31d2ebdb60ad956a778a0dfdaad4f3c9b4331ff638b", func := "tegula/tegulalaw22.SpareReturns", spec := "spareReturns", inPlace := ["slices.overlaps[tegula/api.Move]"], unfollowed := true, recurses := true, plainKeys := false, apart := false, narrowed := true }
def SpareReturnsUptoSaid : Prop := spareReturnsUptoRow.holds Try.pinned (OpenSpec.upto spareReturnsSpec)

/-- 'tegulalaw22.SpareValid', WHERE WHAT IT READS IS OF BULK AT MOST 1048576: true; the input reads as it did. -/
def spareValidUptoRow : OpenClaim := { program := "ytkjjojmidhjjdaa", sum := "7575bd7ab9a8573bcbeab31d2ebdb60ad956a778a0dfdaad4f3c9b4331ff638b", func := "tegula/tegulalaw22.SpareValid", spec := "spareValid", inPlace := ["slices.overlaps[tegula/api.Move]"], unfollowed := true, recurses := true, plainKeys := false, apart := false, narrowed := true }
def SpareValidUptoSaid : Prop := spareValidUptoRow.holds Try.pinned (OpenSpec.upto spareValidSpec)

end Rows
end Go.Proofs.Ytkjjojmidhjjdaa
