/-
  No cell of these rows narrows 'for every input' (looked for: loops, veiled, ifaces, maps, wideKeys, modest, calm, conditions, laid).
  DERIVED. THE GIVEN ROWS OF THIS SEAT. 4 by the template 'for every input the law returns true; each argument reads behind the call as it read before'; 0 by the template 'total and deterministic' (their statements: YtcgbnlhloopnfaaTotals.lean).
  GIVEN WITH THE SEED: the statements are not yours to turn. If you find one false, say at which input.
  Laid BY PROGRAM, IN A SANDBOX (cutbox-rows.mjs): the forced cells as the released guide's own fill.sh prints them over the translation 01207b42ac8b1c62… (all of the seat's roots in one cut). By AI agents, Wed Nov 11 2026. No macro, syntax, notation, axiom, sorry.
-/
import Derived.Test.YtcgbnlhloopnfaaChecked
import GoSem.Claim
import GoSem.ClaimJoined
import GoSem.ClaimMapViews
import Derived.JoinedTies
import Derived.KernelRfl
namespace Go.Proofs.Ytcgbnlhloopnfaa
/- THE CELL 'sum', in the pinned program and in every row, IS THE sha256 OF THE DUMP (.gsa) THAT YtcgbnlhloopnfaaProg.lean LOADS. Nothing in Lean hashes anything: it is a label: what it is worth is what the hold of that sum in a sandbox is worth. -/
noncomputable def Try.pinned : Pinned := { name := "ytcgbnlhloopnfaa", sum := "01207b42ac8b1c62d5b4de7f0cc0e225ddcb500995dfbabdda167825ea050544", checked := Try.checked }
namespace Rows
def none {H : Type} : Left H := { results := [], args := [] }

/-- 'tegulalaw45.HistorySplit': WHATEVER THE INPUT: true; the input reads as it did. -/
def historySplitSpec : ChangeSpec := { name := "historySplit", fn := fun _ => fun
  | [d1, d2] => { results := [.lit (.bool true)], args := [d1, d2] }
  | _ => none }
def historySplitRow : OpenClaim := { program := "ytcgbnlhloopnfaa", sum := "01207b42ac8b1c62d5b4de7f0cc0e225ddcb500995dfbabdda167825ea050544", func := "tegula/tegulalaw45.HistorySplit", spec := "historySplit", unfollowed := true, recurses := true, plainKeys := false, apart := false }
def HistorySplitSaid : Prop := historySplitRow.holds Try.pinned (OpenSpec.ofChange historySplitSpec)

/-- ITS FALSE NEIGHBOUR: 'it returns false'. Refute it at one input. -/
def historySplitWrong : ChangeSpec := { name := "historySplit", fn := fun _ => fun
  | [d1, d2] => { results := [.lit (.bool false)], args := [d1, d2] }
  | _ => none }
def HistorySplitWrongFalsely : Prop := historySplitRow.holds Try.pinned (OpenSpec.ofChange historySplitWrong)

/-- 'tegulalaw45.HistoryValid': WHATEVER THE INPUT: true; the input reads as it did. -/
def historyValidSpec : ChangeSpec := { name := "historyValid", fn := fun _ => fun
  | [d] => { results := [.lit (.bool true)], args := [d] }
  | _ => none }
def historyValidRow : OpenClaim := { program := "ytcgbnlhloopnfaa", sum := "01207b42ac8b1c62d5b4de7f0cc0e225ddcb500995dfbabdda167825ea050544", func := "tegula/tegulalaw45.HistoryValid", spec := "historyValid", unfollowed := true, recurses := true, plainKeys := false, apart := false }
def HistoryValidSaid : Prop := historyValidRow.holds Try.pinned (OpenSpec.ofChange historyValidSpec)

/-- ITS FALSE NEIGHBOUR: 'it returns false'. Refute it at one input. -/
def historyValidWrong : ChangeSpec := { name := "historyValid", fn := fun _ => fun
  | [d] => { results := [.lit (.bool false)], args := [d] }
  | _ => none }
def HistoryValidWrongFalsely : Prop := historyValidRow.holds Try.pinned (OpenSpec.ofChange historyValidWrong)

/-- 'tegulalaw45.HistoryParts': WHATEVER THE INPUT: true; the input reads as it did. -/
def historyPartsSpec : ChangeSpec := { name := "historyParts", fn := fun _ => fun
  | [d] => { results := [.lit (.bool true)], args := [d] }
  | _ => none }
def historyPartsRow : OpenClaim := { program := "ytcgbnlhloopnfaa", sum := "01207b42ac8b1c62d5b4de7f0cc0e225ddcb500995dfbabdda167825ea050544", func := "tegula/tegulalaw45.HistoryParts", spec := "historyParts", unfollowed := true, recurses := true, plainKeys := false, apart := false }
def HistoryPartsSaid : Prop := historyPartsRow.holds Try.pinned (OpenSpec.ofChange historyPartsSpec)

/-- ITS FALSE NEIGHBOUR: 'it returns false'. Refute it at one input. -/
def historyPartsWrong : ChangeSpec := { name := "historyParts", fn := fun _ => fun
  | [d] => { results := [.lit (.bool false)], args := [d] }
  | _ => none }
def HistoryPartsWrongFalsely : Prop := historyPartsRow.holds Try.pinned (OpenSpec.ofChange historyPartsWrong)

/-- 'tegulalaw47.DurableLinear': WHATEVER THE INPUT: true; the input reads as it did. -/
def durableLinearSpec : ChangeSpec := { name := "durableLinear", fn := fun _ => fun
  | [d] => { results := [.lit (.bool true)], args := [d] }
  | _ => none }
def durableLinearRow : OpenClaim := { program := "ytcgbnlhloopnfaa", sum := "01207b42ac8b1c62d5b4de7f0cc0e225ddcb500995dfbabdda167825ea050544", func := "tegula/tegulalaw47.DurableLinear", spec := "durableLinear", unfollowed := true, recurses := true, plainKeys := false, apart := false }
def DurableLinearSaid : Prop := durableLinearRow.holds Try.pinned (OpenSpec.ofChange durableLinearSpec)

/-- ITS FALSE NEIGHBOUR: 'it returns false'. Refute it at one input. -/
def durableLinearWrong : ChangeSpec := { name := "durableLinear", fn := fun _ => fun
  | [d] => { results := [.lit (.bool false)], args := [d] }
  | _ => none }
def DurableLinearWrongFalsely : Prop := durableLinearRow.holds Try.pinned (OpenSpec.ofChange durableLinearWrong)

/- THE SECOND FORM. 'bulk': how many values and letters a reading holds, each counted each time it is reached (what is shared counts as often as it is met; a slice's spare places count too). A statement '..UptoSaid' is the law's where the arguments, and the package variables that the reading takes, are together of bulk at most 1048576: NARROWER than '..Said'. Prove '..Said' where nothing that the law and all that it calls make is longer than what came in: it says more and counts as full. Else prove '..UptoSaid'. A law counts once. -/
mutual
def uptoBulk {H : Type} : DataW H → Nat
  | .lit (.string bytes) => bytes.length + 1
  | .lit _ => 1
  | .nil => 1
  | .ptr d => uptoBulk d + 1
  | .slice elems spare => uptoBulkAll elems + uptoBulkAll spare + 1
  | .agg parts => uptoBulkAll parts + 1
  | .iface _ d => uptoBulk d + 1
  | .map entries => uptoBulkEntries entries + 1
  | .held _ => 1
def uptoBulkAll {H : Type} : List (DataW H) → Nat
  | [] => 0
  | d :: r => uptoBulk d + uptoBulkAll r
def uptoBulkEntries {H : Type} : List (Lit × DataW H) → Nat
  | [] => 0
  | x :: r => uptoBulkEntry x + uptoBulkEntries r
def uptoBulkEntry {H : Type} : Lit × DataW H → Nat
  | (.string bytes, d) => bytes.length + uptoBulk d + 1
  | (_, d) => uptoBulk d + 1
 end
def uptoSmall : (H : Type) → List (DataW H) → Bool := fun _ ds => decide (uptoBulkAll ds ≤ 1048576)
def OpenSpec.upto (s : _root_.Go.ChangeSpec) : _root_.Go.OpenSpec := { _root_.Go.OpenSpec.ofChange s with cond := some uptoSmall }

/-- 'tegulalaw45.HistorySplit', WHERE WHAT IT READS IS OF BULK AT MOST 1048576: true; the input reads as it did. -/
def historySplitUptoRow : OpenClaim := { program := "ytcgbnlhloopnfaa", sum := "01207b42ac8b1c62d5b4de7f0cc0e225ddcb500995dfbabdda167825ea050544", func := "tegula/tegulalaw45.HistorySplit", spec := "historySplit", unfollowed := true, recurses := true, plainKeys := false, apart := false, narrowed := true }
def HistorySplitUptoSaid : Prop := historySplitUptoRow.holds Try.pinned (OpenSpec.upto historySplitSpec)

/-- 'tegulalaw45.HistoryValid', WHERE WHAT IT READS IS OF BULK AT MOST 1048576: true; the input reads as it did. -/
def historyValidUptoRow : OpenClaim := { program := "ytcgbnlhloopnfaa", sum := "01207b42ac8b1c62d5b4de7f0cc0e225ddcb500995dfbabdda167825ea050544", func := "tegula/tegulalaw45.HistoryValid", spec := "historyValid", unfollowed := true, recurses := true, plainKeys := false, apart := false, narrowed := true }
def HistoryValidUptoSaid : Prop := historyValidUptoRow.holds Try.pinned (OpenSpec.upto historyValidSpec)

/-- 'tegulalaw45.HistoryParts', WHERE WHAT IT READS IS OF BULK AT MOST 1048576: true; the input reads as it did. -/
def historyPartsUptoRow : OpenClaim := { program := "ytcgbnlhloopnfaa", sum := "01207b42ac8b1c62d5b4de7f0cc0e225ddcb500995dfbabdda167825ea050544", func := "tegula/tegulalaw45.HistoryParts", spec := "historyParts", unfollowed := true, recurses := true, plainKeys := false, apart := false, narrowed := true }
def HistoryPartsUptoSaid : Prop := historyPartsUptoRow.holds Try.pinned (OpenSpec.upto historyPartsSpec)

/-- 'tegulalaw47.DurableLinear', WHERE WHAT IT READS IS OF BULK AT MOST 1048576: true; the input reads as it did. -/
def durableLinearUptoRow : OpenClaim := { program := "ytcgbnlhloopnfaa", sum := "01207b42ac8b1c62d5b4de7f0cc0e225ddcb500995dfbabdda167825ea050544", func := "tegula/tegulalaw47.DurableLinear", spec := "durableLinear", unfollowed := true, recurses := true, plainKeys := false, apart := false, narrowed := true }
def DurableLinearUptoSaid : Prop := durableLinearUptoRow.holds Try.pinned (OpenSpec.upto durableLinearSpec)

end Rows
end Go.Proofs.Ytcgbnlhloopnfaa
