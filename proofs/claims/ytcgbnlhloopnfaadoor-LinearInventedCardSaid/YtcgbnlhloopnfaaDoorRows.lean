/-
  NARROWER THAN 'FOR EVERY INPUT', by the rows' own cells (each row's printed sentence says how): LinearFind: laid · LinearAccepts: laid · LinearRuns: laid · LinearPrefixes: laid · LinearInvented: laid · LinearSequential: laid · LinearForced: laid · LinearLimit: laid · LinearOrdered: laid.
  DERIVED. THE GIVEN ROWS OF THIS SEAT. 9 by the template 'for every input the law returns true; each argument reads behind the call as it read before'; 0 by the template 'total and deterministic' (their statements: YtcgbnlhloopnfaaDoorTotals.lean).
  GIVEN WITH THE SEED: the statements are not yours to turn. If you find one false, say at which input.
  Laid BY PROGRAM, IN A SANDBOX (cutbox-rows.mjs): the forced cells as the released guide's own fill.sh prints them over the translation 976a3f95a9a72a55… (all of the seat's roots in one cut). By AI agents, Wed Nov 11 2026. No macro, syntax, notation, axiom, sorry.
-/
import Derived.Test.YtcgbnlhloopnfaaDoorChecked
import GoSem.Claim
import GoSem.ClaimJoined
import GoSem.ClaimMapViews
import Derived.JoinedTies
import Derived.KernelRfl
namespace Go.Proofs.YtcgbnlhloopnfaaDoor
/- THE CELL 'sum', in the pinned program and in every row, IS THE sha256 OF THE DUMP (.gsa) THAT YtcgbnlhloopnfaaDoorProg.lean LOADS. Nothing in Lean hashes anything: it is a label: what it is worth is what the hold of that sum in a sandbox is worth. -/
noncomputable def Tryd.pinned : Pinned := { name := "ytcgbnlhloopnfaadoor", sum := "976a3f95a9a72a551824a02991126a0d08ac1e34ab0e3b505ee8cd31b4806786", checked := Tryd.checked }
namespace Rows
def none {H : Type} : Left H := { results := [], args := [] }

/- WHAT THE LISTED PACKAGE-LEVEL VARIABLES READ AS WHEN THE CALL BEGINS. Each datum BY PROGRAM (the guide's laid-datum.mjs) off the statement by which the dump's own 'gosem.cut.vars' lays the variable. In a bare row this is a premise. The card (YtcgbnlhloopnfaaDoorCards.lean) ties it to the program's text. -/
def laid_tegula_tegulalaw46_cut {H : Type} : DataW H := .agg [.lit (.int .i64 3), .lit (.int .i64 0), .lit (.bool false), .lit (.int .i64 0), .lit (.int .i64 0), .lit (.bool false)]

/-- 'tegulalaw46.LinearFind': WHATEVER THE INPUT: true; the input reads as it did. -/
def linearFindSpec : ChangeSpec := { name := "linearFind", fn := fun _ => fun
  | [d] => { results := [.lit (.bool true)], args := [d] }
  | _ => none }
def linearFindRow : OpenClaim := { program := "ytcgbnlhloopnfaadoor", sum := "976a3f95a9a72a551824a02991126a0d08ac1e34ab0e3b505ee8cd31b4806786", func := "tegula/tegulalaw46.LinearFind", spec := "linearFind", unfollowed := true, recurses := true, named := ["tegula/tegulalaw46.cut"], plainKeys := false, apart := false, laid := [("tegula/tegulalaw46.cut", laid_tegula_tegulalaw46_cut)] }
def LinearFindSaid : Prop := linearFindRow.holds Tryd.pinned (OpenSpec.ofChange linearFindSpec)

/-- ITS FALSE NEIGHBOUR: 'it returns false'. Refute it at one input. -/
def linearFindWrong : ChangeSpec := { name := "linearFind", fn := fun _ => fun
  | [d] => { results := [.lit (.bool false)], args := [d] }
  | _ => none }
def LinearFindWrongFalsely : Prop := linearFindRow.holds Tryd.pinned (OpenSpec.ofChange linearFindWrong)

/-- 'tegulalaw46.LinearAccepts': WHATEVER THE INPUT: true; the input reads as it did. -/
def linearAcceptsSpec : ChangeSpec := { name := "linearAccepts", fn := fun _ => fun
  | [d1, d2] => { results := [.lit (.bool true)], args := [d1, d2] }
  | _ => none }
def linearAcceptsRow : OpenClaim := { program := "ytcgbnlhloopnfaadoor", sum := "976a3f95a9a72a551824a02991126a0d08ac1e34ab0e3b505ee8cd31b4806786", func := "tegula/tegulalaw46.LinearAccepts", spec := "linearAccepts", unfollowed := true, recurses := true, named := ["tegula/tegulalaw46.cut"], plainKeys := false, apart := false, laid := [("tegula/tegulalaw46.cut", laid_tegula_tegulalaw46_cut)] }
def LinearAcceptsSaid : Prop := linearAcceptsRow.holds Tryd.pinned (OpenSpec.ofChange linearAcceptsSpec)

/-- ITS FALSE NEIGHBOUR: 'it returns false'. Refute it at one input. -/
def linearAcceptsWrong : ChangeSpec := { name := "linearAccepts", fn := fun _ => fun
  | [d1, d2] => { results := [.lit (.bool false)], args := [d1, d2] }
  | _ => none }
def LinearAcceptsWrongFalsely : Prop := linearAcceptsRow.holds Tryd.pinned (OpenSpec.ofChange linearAcceptsWrong)

/-- 'tegulalaw46.LinearRuns': WHATEVER THE INPUT: true; the input reads as it did. -/
def linearRunsSpec : ChangeSpec := { name := "linearRuns", fn := fun _ => fun
  | [d] => { results := [.lit (.bool true)], args := [d] }
  | _ => none }
def linearRunsRow : OpenClaim := { program := "ytcgbnlhloopnfaadoor", sum := "976a3f95a9a72a551824a02991126a0d08ac1e34ab0e3b505ee8cd31b4806786", func := "tegula/tegulalaw46.LinearRuns", spec := "linearRuns", unfollowed := true, recurses := true, named := ["tegula/tegulalaw46.cut"], plainKeys := false, apart := false, laid := [("tegula/tegulalaw46.cut", laid_tegula_tegulalaw46_cut)] }
def LinearRunsSaid : Prop := linearRunsRow.holds Tryd.pinned (OpenSpec.ofChange linearRunsSpec)

/-- ITS FALSE NEIGHBOUR: 'it returns false'. Refute it at one input. -/
def linearRunsWrong : ChangeSpec := { name := "linearRuns", fn := fun _ => fun
  | [d] => { results := [.lit (.bool false)], args := [d] }
  | _ => none }
def LinearRunsWrongFalsely : Prop := linearRunsRow.holds Tryd.pinned (OpenSpec.ofChange linearRunsWrong)

/-- 'tegulalaw46.LinearPrefixes': WHATEVER THE INPUT: true; the input reads as it did. -/
def linearPrefixesSpec : ChangeSpec := { name := "linearPrefixes", fn := fun _ => fun
  | [d1, d2] => { results := [.lit (.bool true)], args := [d1, d2] }
  | _ => none }
def linearPrefixesRow : OpenClaim := { program := "ytcgbnlhloopnfaadoor", sum := "976a3f95a9a72a551824a02991126a0d08ac1e34ab0e3b505ee8cd31b4806786", func := "tegula/tegulalaw46.LinearPrefixes", spec := "linearPrefixes", unfollowed := true, recurses := true, named := ["tegula/tegulalaw46.cut"], plainKeys := false, apart := false, laid := [("tegula/tegulalaw46.cut", laid_tegula_tegulalaw46_cut)] }
def LinearPrefixesSaid : Prop := linearPrefixesRow.holds Tryd.pinned (OpenSpec.ofChange linearPrefixesSpec)

/-- ITS FALSE NEIGHBOUR: 'it returns false'. Refute it at one input. -/
def linearPrefixesWrong : ChangeSpec := { name := "linearPrefixes", fn := fun _ => fun
  | [d1, d2] => { results := [.lit (.bool false)], args := [d1, d2] }
  | _ => none }
def LinearPrefixesWrongFalsely : Prop := linearPrefixesRow.holds Tryd.pinned (OpenSpec.ofChange linearPrefixesWrong)

/-- 'tegulalaw46.LinearInvented': WHATEVER THE INPUT: true; the input reads as it did. -/
def linearInventedSpec : ChangeSpec := { name := "linearInvented", fn := fun _ => fun
  | [d1, d2] => { results := [.lit (.bool true)], args := [d1, d2] }
  | _ => none }
def linearInventedRow : OpenClaim := { program := "ytcgbnlhloopnfaadoor", sum := "976a3f95a9a72a551824a02991126a0d08ac1e34ab0e3b505ee8cd31b4806786", func := "tegula/tegulalaw46.LinearInvented", spec := "linearInvented", unfollowed := true, recurses := true, named := ["tegula/tegulalaw46.cut"], plainKeys := false, apart := false, laid := [("tegula/tegulalaw46.cut", laid_tegula_tegulalaw46_cut)] }
def LinearInventedSaid : Prop := linearInventedRow.holds Tryd.pinned (OpenSpec.ofChange linearInventedSpec)

/-- ITS FALSE NEIGHBOUR: 'it returns false'. Refute it at one input. -/
def linearInventedWrong : ChangeSpec := { name := "linearInvented", fn := fun _ => fun
  | [d1, d2] => { results := [.lit (.bool false)], args := [d1, d2] }
  | _ => none }
def LinearInventedWrongFalsely : Prop := linearInventedRow.holds Tryd.pinned (OpenSpec.ofChange linearInventedWrong)

/-- 'tegulalaw46.LinearSequential': WHATEVER THE INPUT: true; the input reads as it did. -/
def linearSequentialSpec : ChangeSpec := { name := "linearSequential", fn := fun _ => fun
  | [d] => { results := [.lit (.bool true)], args := [d] }
  | _ => none }
def linearSequentialRow : OpenClaim := { program := "ytcgbnlhloopnfaadoor", sum := "976a3f95a9a72a551824a02991126a0d08ac1e34ab0e3b505ee8cd31b4806786", func := "tegula/tegulalaw46.LinearSequential", spec := "linearSequential", unfollowed := true, recurses := true, named := ["tegula/tegulalaw46.cut"], plainKeys := false, apart := false, laid := [("tegula/tegulalaw46.cut", laid_tegula_tegulalaw46_cut)] }
def LinearSequentialSaid : Prop := linearSequentialRow.holds Tryd.pinned (OpenSpec.ofChange linearSequentialSpec)

/-- ITS FALSE NEIGHBOUR: 'it returns false'. Refute it at one input. -/
def linearSequentialWrong : ChangeSpec := { name := "linearSequential", fn := fun _ => fun
  | [d] => { results := [.lit (.bool false)], args := [d] }
  | _ => none }
def LinearSequentialWrongFalsely : Prop := linearSequentialRow.holds Tryd.pinned (OpenSpec.ofChange linearSequentialWrong)

/-- 'tegulalaw46.LinearForced': WHATEVER THE INPUT: true; the input reads as it did. -/
def linearForcedSpec : ChangeSpec := { name := "linearForced", fn := fun _ => fun
  | [d1, d2] => { results := [.lit (.bool true)], args := [d1, d2] }
  | _ => none }
def linearForcedRow : OpenClaim := { program := "ytcgbnlhloopnfaadoor", sum := "976a3f95a9a72a551824a02991126a0d08ac1e34ab0e3b505ee8cd31b4806786", func := "tegula/tegulalaw46.LinearForced", spec := "linearForced", unfollowed := true, recurses := true, named := ["tegula/tegulalaw46.cut"], plainKeys := false, apart := false, laid := [("tegula/tegulalaw46.cut", laid_tegula_tegulalaw46_cut)] }
def LinearForcedSaid : Prop := linearForcedRow.holds Tryd.pinned (OpenSpec.ofChange linearForcedSpec)

/-- ITS FALSE NEIGHBOUR: 'it returns false'. Refute it at one input. -/
def linearForcedWrong : ChangeSpec := { name := "linearForced", fn := fun _ => fun
  | [d1, d2] => { results := [.lit (.bool false)], args := [d1, d2] }
  | _ => none }
def LinearForcedWrongFalsely : Prop := linearForcedRow.holds Tryd.pinned (OpenSpec.ofChange linearForcedWrong)

/-- 'tegulalaw46.LinearLimit': WHATEVER THE INPUT: true; the input reads as it did. -/
def linearLimitSpec : ChangeSpec := { name := "linearLimit", fn := fun _ => fun
  | [d1, d2, d3] => { results := [.lit (.bool true)], args := [d1, d2, d3] }
  | _ => none }
def linearLimitRow : OpenClaim := { program := "ytcgbnlhloopnfaadoor", sum := "976a3f95a9a72a551824a02991126a0d08ac1e34ab0e3b505ee8cd31b4806786", func := "tegula/tegulalaw46.LinearLimit", spec := "linearLimit", unfollowed := true, recurses := true, named := ["tegula/tegulalaw46.cut"], plainKeys := false, apart := false, laid := [("tegula/tegulalaw46.cut", laid_tegula_tegulalaw46_cut)] }
def LinearLimitSaid : Prop := linearLimitRow.holds Tryd.pinned (OpenSpec.ofChange linearLimitSpec)

/-- ITS FALSE NEIGHBOUR: 'it returns false'. Refute it at one input. -/
def linearLimitWrong : ChangeSpec := { name := "linearLimit", fn := fun _ => fun
  | [d1, d2, d3] => { results := [.lit (.bool false)], args := [d1, d2, d3] }
  | _ => none }
def LinearLimitWrongFalsely : Prop := linearLimitRow.holds Tryd.pinned (OpenSpec.ofChange linearLimitWrong)

/-- 'tegulalaw46.LinearOrdered': WHATEVER THE INPUT: true; the input reads as it did. -/
def linearOrderedSpec : ChangeSpec := { name := "linearOrdered", fn := fun _ => fun
  | [d1, d2] => { results := [.lit (.bool true)], args := [d1, d2] }
  | _ => none }
def linearOrderedRow : OpenClaim := { program := "ytcgbnlhloopnfaadoor", sum := "976a3f95a9a72a551824a02991126a0d08ac1e34ab0e3b505ee8cd31b4806786", func := "tegula/tegulalaw46.LinearOrdered", spec := "linearOrdered", unfollowed := true, recurses := true, named := ["tegula/tegulalaw46.cut"], plainKeys := false, apart := false, laid := [("tegula/tegulalaw46.cut", laid_tegula_tegulalaw46_cut)] }
def LinearOrderedSaid : Prop := linearOrderedRow.holds Tryd.pinned (OpenSpec.ofChange linearOrderedSpec)

/-- ITS FALSE NEIGHBOUR: 'it returns false'. Refute it at one input. -/
def linearOrderedWrong : ChangeSpec := { name := "linearOrdered", fn := fun _ => fun
  | [d1, d2] => { results := [.lit (.bool false)], args := [d1, d2] }
  | _ => none }
def LinearOrderedWrongFalsely : Prop := linearOrderedRow.holds Tryd.pinned (OpenSpec.ofChange linearOrderedWrong)

/- THE SECOND FORM. 'bulk': how many values and letters a reading holds, each counted each time it is reached (what is shared counts as often as it is met; a slice's spare places count too). A statement '..UptoSaid' is the law's where the arguments, and the package variables that the reading takes, are together of bulk at most 1048576: NARROWER than '..Said'. Prove '..Said' where nothing that the law and all that it calls make is longer than what came in: it says more and counts as full. Else prove '..UptoSaid'. A law counts once. -/
mutual
def uptoBulk {H : Type} : DataW H → Nat
  | .lit (.string bytes) => bytes.length + 1
  | .lit _ => 1
  | .nil => 1
  | .ptr d => uptoBulk d + 1
  | .slice elems spare => uptoBulkAll elems + uptoBulkAll spare + 1
  | .agg parts => uptoBulkAll parts + 1
  | .iface _ d => uptoBulk d + 1
  | .map entries => uptoBulkEntries entries + 1
  | .held _ => 1
def uptoBulkAll {H : Type} : List (DataW H) → Nat
  | [] => 0
  | d :: r => uptoBulk d + uptoBulkAll r
def uptoBulkEntries {H : Type} : List (Lit × DataW H) → Nat
  | [] => 0
  | x :: r => uptoBulkEntry x + uptoBulkEntries r
def uptoBulkEntry {H : Type} : Lit × DataW H → Nat
  | (.string bytes, d) => bytes.length + uptoBulk d + 1
  | (_, d) => uptoBulk d + 1
 end
def uptoSmall : (H : Type) → List (DataW H) → Bool := fun _ ds => decide (uptoBulkAll ds ≤ 1048576)
def OpenSpec.upto (s : _root_.Go.ChangeSpec) : _root_.Go.OpenSpec := { _root_.Go.OpenSpec.ofChange s with cond := some uptoSmall }

/-- 'tegulalaw46.LinearFind', WHERE WHAT IT READS IS OF BULK AT MOST 1048576: true; the input reads as it did. -/
def linearFindUptoRow : OpenClaim := { program := "ytcgbnlhloopnfaadoor", sum := "976a3f95a9a72a551824a02991126a0d08ac1e34ab0e3b505ee8cd31b4806786", func := "tegula/tegulalaw46.LinearFind", spec := "linearFind", unfollowed := true, recurses := true, named := ["tegula/tegulalaw46.cut"], plainKeys := false, apart := false, laid := [("tegula/tegulalaw46.cut", laid_tegula_tegulalaw46_cut)], narrowed := true }
def LinearFindUptoSaid : Prop := linearFindUptoRow.holds Tryd.pinned (OpenSpec.upto linearFindSpec)

/-- 'tegulalaw46.LinearAccepts', WHERE WHAT IT READS IS OF BULK AT MOST 1048576: true; the input reads as it did. -/
def linearAcceptsUptoRow : OpenClaim := { program := "ytcgbnlhloopnfaadoor", sum := "976a3f95a9a72a551824a02991126a0d08ac1e34ab0e3b505ee8cd31b4806786", func := "tegula/tegulalaw46.LinearAccepts", spec := "linearAccepts", unfollowed := true, recurses := true, named := ["tegula/tegulalaw46.cut"], plainKeys := false, apart := false, laid := [("tegula/tegulalaw46.cut", laid_tegula_tegulalaw46_cut)], narrowed := true }
def LinearAcceptsUptoSaid : Prop := linearAcceptsUptoRow.holds Tryd.pinned (OpenSpec.upto linearAcceptsSpec)

/-- 'tegulalaw46.LinearRuns', WHERE WHAT IT READS IS OF BULK AT MOST 1048576: true; the input reads as it did. -/
def linearRunsUptoRow : OpenClaim := { program := "ytcgbnlhloopnfaadoor", sum := "976a3f95a9a72a551824a02991126a0d08ac1e34ab0e3b505ee8cd31b4806786", func := "tegula/tegulalaw46.LinearRuns", spec := "linearRuns", unfollowed := true, recurses := true, named := ["tegula/tegulalaw46.cut"], plainKeys := false, apart := false, laid := [("tegula/tegulalaw46.cut", laid_tegula_tegulalaw46_cut)], narrowed := true }
def LinearRunsUptoSaid : Prop := linearRunsUptoRow.holds Tryd.pinned (OpenSpec.upto linearRunsSpec)

/-- 'tegulalaw46.LinearPrefixes', WHERE WHAT IT READS IS OF BULK AT MOST 1048576: true; the input reads as it did. -/
def linearPrefixesUptoRow : OpenClaim := { program := "ytcgbnlhloopnfaadoor", sum := "976a3f95a9a72a551824a02991126a0d08ac1e34ab0e3b505ee8cd31b4806786", func := "tegula/tegulalaw46.LinearPrefixes", spec := "linearPrefixes", unfollowed := true, recurses := true, named := ["tegula/tegulalaw46.cut"], plainKeys := false, apart := false, laid := [("tegula/tegulalaw46.cut", laid_tegula_tegulalaw46_cut)], narrowed := true }
def LinearPrefixesUptoSaid : Prop := linearPrefixesUptoRow.holds Tryd.pinned (OpenSpec.upto linearPrefixesSpec)

/-- 'tegulalaw46.LinearInvented', WHERE WHAT IT READS IS OF BULK AT MOST 1048576: true; the input reads as it did. -/
def linearInventedUptoRow : OpenClaim := { program := "ytcgbnlhloopnfaadoor", sum := "976a3f95a9a72a551824a02991126a0d08ac1e34ab0e3b505ee8cd31b4806786", func := "tegula/tegulalaw46.LinearInvented", spec := "linearInvented", unfollowed := true, recurses := true, named := ["tegula/tegulalaw46.cut"], plainKeys := false, apart := false, laid := [("tegula/tegulalaw46.cut", laid_tegula_tegulalaw46_cut)], narrowed := true }
def LinearInventedUptoSaid : Prop := linearInventedUptoRow.holds Tryd.pinned (OpenSpec.upto linearInventedSpec)

/-- 'tegulalaw46.LinearSequential', WHERE WHAT IT READS IS OF BULK AT MOST 1048576: true; the input reads as it did. -/
def linearSequentialUptoRow : OpenClaim := { program := "ytcgbnlhloopnfaadoor", sum := "976a3f95a9a72a551824a02991126a0d08ac1e34ab0e3b505ee8cd31b4806786", func := "tegula/tegulalaw46.LinearSequential", spec := "linearSequential", unfollowed := true, recurses := true, named := ["tegula/tegulalaw46.cut"], plainKeys := false, apart := false, laid := [("tegula/tegulalaw46.cut", laid_tegula_tegulalaw46_cut)], narrowed := true }
def LinearSequentialUptoSaid : Prop := linearSequentialUptoRow.holds Tryd.pinned (OpenSpec.upto linearSequentialSpec)

/-- 'tegulalaw46.LinearForced', WHERE WHAT IT READS IS OF BULK AT MOST 1048576: true; the input reads as it did. -/
def linearForcedUptoRow : OpenClaim := { program := "ytcgbnlhloopnfaadoor", sum := "976a3f95a9a72a551824a02991126a0d08ac1e34ab0e3b505ee8cd31b4806786", func := "tegula/tegulalaw46.LinearForced", spec := "linearForced", unfollowed := true, recurses := true, named := ["tegula/tegulalaw46.cut"], plainKeys := false, apart := false, laid := [("tegula/tegulalaw46.cut", laid_tegula_tegulalaw46_cut)], narrowed := true }
def LinearForcedUptoSaid : Prop := linearForcedUptoRow.holds Tryd.pinned (OpenSpec.upto linearForcedSpec)

/-- 'tegulalaw46.LinearLimit', WHERE WHAT IT READS IS OF BULK AT MOST 1048576: true; the input reads as it did. -/
def linearLimitUptoRow : OpenClaim := { program := "ytcgbnlhloopnfaadoor", sum := "976a3f95a9a72a551824a02991126a0d08ac1e34ab0e3b505ee8cd31b4806786", func := "tegula/tegulalaw46.LinearLimit", spec := "linearLimit", unfollowed := true, recurses := true, named := ["tegula/tegulalaw46.cut"], plainKeys := false, apart := false, laid := [("tegula/tegulalaw46.cut", laid_tegula_tegulalaw46_cut)], narrowed := true }
def LinearLimitUptoSaid : Prop := linearLimitUptoRow.holds Tryd.pinned (OpenSpec.upto linearLimitSpec)

/-- 'tegulalaw46.LinearOrdered', WHERE WHAT IT READS IS OF BULK AT MOST 1048576: true; the input reads as it did. -/
def linearOrderedUptoRow : OpenClaim := { program := "ytcgbnlhloopnfaadoor", sum := "976a3f95a9a72a551824a02991126a0d08ac1e34ab0e3b505ee8cd31b4806786", func := "tegula/tegulalaw46.LinearOrdered", spec := "linearOrdered", unfollowed := true, recurses := true, named := ["tegula/tegulalaw46.cut"], plainKeys := false, apart := false, laid := [("tegula/tegulalaw46.cut", laid_tegula_tegulalaw46_cut)], narrowed := true }
def LinearOrderedUptoSaid : Prop := linearOrderedUptoRow.holds Tryd.pinned (OpenSpec.upto linearOrderedSpec)

end Rows
end Go.Proofs.YtcgbnlhloopnfaaDoor
