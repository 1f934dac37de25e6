/-
  No cell of these rows narrows 'for every input' (looked for: loops, veiled, ifaces, maps, wideKeys, modest, calm, conditions, laid).
  DERIVED. THE GIVEN ROWS OF THIS SEAT. 5 by the template 'for every input the law returns true; each argument reads behind the call as it read before'; 0 by the template 'total and deterministic' (their statements: YteglnekkkhpikaaGreatTotals.lean).
  GIVEN WITH THE SEED: the statements are not yours to turn. If you find one false, say at which input.
  Laid BY PROGRAM, IN A SANDBOX (cutbox-rows.mjs): the forced cells as the released guide's own fill.sh prints them over the translation c6b38281407e00ac… (all of the seat's roots in one cut). By AI agents, Wed Nov 11 2026. No macro, syntax, notation, axiom, sorry.
-/
import Derived.Test.YteglnekkkhpikaaGreatChecked
import GoSem.Claim
import GoSem.ClaimJoined
import GoSem.ClaimMapViews
import Derived.JoinedTies
import Derived.KernelRfl
namespace Go.Proofs.YteglnekkkhpikaaGreat
/- THE CELL 'sum', in the pinned program and in every row, IS THE sha256 OF THE DUMP (.gsa) THAT YteglnekkkhpikaaGreatProg.lean LOADS. Nothing in Lean hashes anything: it is a label: what it is worth is what the hold of that sum in a sandbox is worth. -/
noncomputable def Tryz.pinned : Pinned := { name := "yteglnekkkhpikaagreat", sum := "c6b38281407e00ace062b28b693efbef66abe96bc6df69e0cbebf879ee062deb", checked := Tryz.checked }
namespace Rows
def none {H : Type} : Left H := { results := [], args := [] }

/-- 'tegulalaw23.PlanRebuild': WHATEVER THE INPUT: true; the input reads as it did. -/
def planRebuildSpec : ChangeSpec := { name := "planRebuild", fn := fun _ => fun
  | [d1, d2, d3] => { results := [.lit (.bool true)], args := [d1, d2, d3] }
  | _ => none }
def planRebuildRow : OpenClaim := { program := "yteglnekkkhpikaagreat", sum := "c6b38281407e00ace062b28b693efbef66abe96bc6df69e0cbebf879ee062deb", func := "tegula/tegulalaw23.PlanRebuild", spec := "planRebuild", inPlace := ["slices.overlaps[tegula/api.Move]"], unfollowed := true, recurses := true, plainKeys := false, apart := false }
def PlanRebuildSaid : Prop := planRebuildRow.holds Tryz.pinned (OpenSpec.ofChange planRebuildSpec)

/-- ITS FALSE NEIGHBOUR: 'it returns false'. Refute it at one input. -/
def planRebuildWrong : ChangeSpec := { name := "planRebuild", fn := fun _ => fun
  | [d1, d2, d3] => { results := [.lit (.bool false)], args := [d1, d2, d3] }
  | _ => none }
def PlanRebuildWrongFalsely : Prop := planRebuildRow.holds Tryz.pinned (OpenSpec.ofChange planRebuildWrong)

/-- 'tegulalaw23.PlanErrors': WHATEVER THE INPUT: true; the input reads as it did. -/
def planErrorsSpec : ChangeSpec := { name := "planErrors", fn := fun _ => fun
  | [d1, d2, d3] => { results := [.lit (.bool true)], args := [d1, d2, d3] }
  | _ => none }
def planErrorsRow : OpenClaim := { program := "yteglnekkkhpikaagreat", sum := "c6b38281407e00ace062b28b693efbef66abe96bc6df69e0cbebf879ee062deb", func := "tegula/tegulalaw23.PlanErrors", spec := "planErrors", inPlace := ["slices.overlaps[tegula/api.Move]"], unfollowed := true, recurses := true, plainKeys := false, apart := false }
def PlanErrorsSaid : Prop := planErrorsRow.holds Tryz.pinned (OpenSpec.ofChange planErrorsSpec)

/-- ITS FALSE NEIGHBOUR: 'it returns false'. Refute it at one input. -/
def planErrorsWrong : ChangeSpec := { name := "planErrors", fn := fun _ => fun
  | [d1, d2, d3] => { results := [.lit (.bool false)], args := [d1, d2, d3] }
  | _ => none }
def PlanErrorsWrongFalsely : Prop := planErrorsRow.holds Tryz.pinned (OpenSpec.ofChange planErrorsWrong)

/-- 'tegulalaw23.PlanTasks': WHATEVER THE INPUT: true; the input reads as it did. -/
def planTasksSpec : ChangeSpec := { name := "planTasks", fn := fun _ => fun
  | [d1, d2, d3] => { results := [.lit (.bool true)], args := [d1, d2, d3] }
  | _ => none }
def planTasksRow : OpenClaim := { program := "yteglnekkkhpikaagreat", sum := "c6b38281407e00ace062b28b693efbef66abe96bc6df69e0cbebf879ee062deb", func := "tegula/tegulalaw23.PlanTasks", spec := "planTasks", inPlace := ["slices.overlaps[tegula/api.Move]"], unfollowed := true, recurses := true, plainKeys := false, apart := false }
def PlanTasksSaid : Prop := planTasksRow.holds Tryz.pinned (OpenSpec.ofChange planTasksSpec)

/-- ITS FALSE NEIGHBOUR: 'it returns false'. Refute it at one input. -/
def planTasksWrong : ChangeSpec := { name := "planTasks", fn := fun _ => fun
  | [d1, d2, d3] => { results := [.lit (.bool false)], args := [d1, d2, d3] }
  | _ => none }
def PlanTasksWrongFalsely : Prop := planTasksRow.holds Tryz.pinned (OpenSpec.ofChange planTasksWrong)

/-- 'tegulalaw23.PlanMoves': WHATEVER THE INPUT: true; the input reads as it did. -/
def planMovesSpec : ChangeSpec := { name := "planMoves", fn := fun _ => fun
  | [d1, d2, d3] => { results := [.lit (.bool true)], args := [d1, d2, d3] }
  | _ => none }
def planMovesRow : OpenClaim := { program := "yteglnekkkhpikaagreat", sum := "c6b38281407e00ace062b28b693efbef66abe96bc6df69e0cbebf879ee062deb", func := "tegula/tegulalaw23.PlanMoves", spec := "planMoves", inPlace := ["slices.overlaps[tegula/api.Move]"], unfollowed := true, recurses := true, plainKeys := false, apart := false }
def PlanMovesSaid : Prop := planMovesRow.holds Tryz.pinned (OpenSpec.ofChange planMovesSpec)

/-- ITS FALSE NEIGHBOUR: 'it returns false'. Refute it at one input. -/
def planMovesWrong : ChangeSpec := { name := "planMoves", fn := fun _ => fun
  | [d1, d2, d3] => { results := [.lit (.bool false)], args := [d1, d2, d3] }
  | _ => none }
def PlanMovesWrongFalsely : Prop := planMovesRow.holds Tryz.pinned (OpenSpec.ofChange planMovesWrong)

/-- 'tegulalaw23.PlanSpares': WHATEVER THE INPUT: true; the input reads as it did. -/
def planSparesSpec : ChangeSpec := { name := "planSpares", fn := fun _ => fun
  | [d1, d2] => { results := [.lit (.bool true)], args := [d1, d2] }
  | _ => none }
def planSparesRow : OpenClaim := { program := "yteglnekkkhpikaagreat", sum := "c6b38281407e00ace062b28b693efbef66abe96bc6df69e0cbebf879ee062deb", func := "tegula/tegulalaw23.PlanSpares", spec := "planSpares", inPlace := ["slices.overlaps[tegula/api.Move]"], unfollowed := true, recurses := true, plainKeys := false, apart := false }
def PlanSparesSaid : Prop := planSparesRow.holds Tryz.pinned (OpenSpec.ofChange planSparesSpec)

/-- ITS FALSE NEIGHBOUR: 'it returns false'. Refute it at one input. -/
def planSparesWrong : ChangeSpec := { name := "planSpares", fn := fun _ => fun
  | [d1, d2] => { results := [.lit (.bool false)], args := [d1, d2] }
  | _ => none }
def PlanSparesWrongFalsely : Prop := planSparesRow.holds Tryz.pinned (OpenSpec.ofChange planSparesWrong)

/- THE SECOND FORM. 'bulk': how many values and letters a reading holds, each counted each time it is reached (what is shared counts as often as it is met; a slice's spare places count too). A statement '..UptoSaid' is the law's where the arguments, and the package variables that the reading takes, are together of bulk at most 1048576: NARROWER than '..Said'. Prove '..Said' where nothing that the law and all that it calls make is longer than what came in: it says more and counts as full. Else prove '..UptoSaid'. A law counts once. -/
mutual
def uptoBulk {H : Type} : DataW H → Nat
  | .lit (.string bytes) => bytes.length + 1
  | .lit _ => 1
  | .nil => 1
  | .ptr d => uptoBulk d + 1
  | .slice elems spare => uptoBulkAll elems + uptoBulkAll spare + 1
  | .agg parts => uptoBulkAll parts + 1
  | .iface _ d => uptoBulk d + 1
  | .map entries => uptoBulkEntries entries + 1
  | .held _ => 1
def uptoBulkAll {H : Type} : List (DataW H) → Nat
  | [] => 0
  | d :: r => uptoBulk d + uptoBulkAll r
def uptoBulkEntries {H : Type} : List (Lit × DataW H) → Nat
  | [] => 0
  | x :: r => uptoBulkEntry x + uptoBulkEntries r
def uptoBulkEntry {H : Type} : Lit × DataW H → Nat
  | (.string bytes, d) => bytes.length + uptoBulk d + 1
  | (_, d) => uptoBulk d + 1
 end
def uptoSmall : (H : Type) → List (DataW H) → Bool := fun _ ds => decide (uptoBulkAll ds ≤ 1048576)
def OpenSpec.upto (s : _root_.Go.ChangeSpec) : _root_.Go.OpenSpec := { _root_.Go.OpenSpec.ofChange s with cond := some uptoSmall }

/-- 'tegulalaw23.PlanRebuild', WHERE WHAT IT READS IS OF BULK AT MOST 1048576: true; the input reads as it did. -/
def planRebuildUptoRow : OpenClaim := { program := "yteglnekkkhpikaagreat", sum := "c6b38281407e00ace062b28b693efbef66abe96bc6df69e0cbebf879ee062deb", func := "tegula/tegulalaw23.PlanRebuild", spec := "planRebuild", inPlace := ["slices.overlaps[tegula/api.Move]"], unfollowed := true, recurses := true, plainKeys := false, apart := false, narrowed := true }
def PlanRebuildUptoSaid : Prop := planRebuildUptoRow.holds Tryz.pinned (OpenSpec.upto planRebuildSpec)

/-- 'tegulalaw23.PlanErrors', WHERE WHAT IT READS IS OF BULK AT MOST 1048576: true; the input reads as it did. -/
def planErrorsUptoRow : OpenClaim := { program := "yteglnekkkhpikaagreat", sum := "c6b38281407e00ace062b28b693efbef66abe96bc6df69e0cbebf879ee062deb", func := "tegula/tegulalaw23.PlanErrors", spec := "planErrors", inPlace := ["slices.overlaps[tegula/api.Move]"], unfollowed := true, recurses := true, plainKeys := false, apart := false, narrowed := true }
def PlanErrorsUptoSaid : Prop := planErrorsUptoRow.holds Tryz.pinned (OpenSpec.upto planErrorsSpec)

/-- 'tegulalaw23.PlanTasks', WHERE WHAT IT READS IS OF BULK AT MOST 1048576: true; the input reads as it did. -/
def planTasksUptoRow : OpenClaim := { program := "yteglnekkkhpikaagreat", sum := "c6b38281407e00ace062b28b693efbef66abe96bc6df69e0cbebf879ee062deb", func := "tegula/tegulalaw23.PlanTasks", spec := "planTasks", inPlace := ["slices.overlaps[tegula/api.Move]"], unfollowed := true, recurses := true, plainKeys := false, apart := false, narrowed := true }
def PlanTasksUptoSaid : Prop := planTasksUptoRow.holds Tryz.pinned (OpenSpec.upto planTasksSpec)

/-- 'tegulalaw23.PlanMoves', WHERE WHAT IT READS IS OF BULK AT MOST 1048576: true; the input reads as it did. -/
def planMovesUptoRow : OpenClaim := { program := "yteglnekkkhpikaagreat", sum := "c6b38281407e00ace062b28b693efbef66abe96bc6df69e0cbebf879ee062deb", func := "tegula/tegulalaw23.PlanMoves", spec := "planMoves", inPlace := ["slices.overlaps[tegula/api.Move]"], unfollowed := true, recurses := true, plainKeys := false, apart := false, narrowed := true }
def PlanMovesUptoSaid : Prop := planMovesUptoRow.holds Tryz.pinned (OpenSpec.upto planMovesSpec)

/-- 'tegulalaw23.PlanSpares', WHERE WHAT IT READS IS OF BULK AT MOST 1048576: true; the input reads as it did. -/
def planSparesUptoRow : OpenClaim := { program := "yteglnekkkhpikaagreat", sum := "c6b38281407e00ace062b28b693efbef66abe96bc6df69e0cbebf879ee062deb", func := "tegula/tegulalaw23.PlanSpares", spec := "planSpares", inPlace := ["slices.overlaps[tegula/api.Move]"], unfollowed := true, recurses := true, plainKeys := false, apart := false, narrowed := true }
def PlanSparesUptoSaid : Prop := planSparesUptoRow.holds Tryz.pinned (OpenSpec.upto planSparesSpec)

end Rows
end Go.Proofs.YteglnekkkhpikaaGreat
