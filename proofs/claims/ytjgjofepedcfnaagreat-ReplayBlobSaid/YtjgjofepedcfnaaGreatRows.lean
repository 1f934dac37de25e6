/-
  No cell of these rows narrows 'for every input' (looked for: loops, veiled, ifaces, maps, wideKeys, modest, calm, conditions, laid).
  DERIVED. THE GIVEN ROWS OF THIS SEAT. 7 by the template 'for every input the law returns true; each argument reads behind the call as it read before'; 0 by the template 'total and deterministic' (their statements: YtjgjofepedcfnaaGreatTotals.lean).
  GIVEN WITH THE SEED: the statements are not yours to turn. If you find one false, say at which input.
  Laid BY PROGRAM, IN A SANDBOX (cutbox-rows.mjs): the forced cells as the released guide's own fill.sh prints them over the translation fa9e75bc9330e3b3… (all of the seat's roots in one cut). By AI agents, Wed Nov 11 2026. No macro, syntax, notation, axiom, sorry.
-/
import Derived.Test.YtjgjofepedcfnaaGreatChecked
import GoSem.Claim
import GoSem.ClaimJoined
import GoSem.ClaimMapViews
import Derived.JoinedTies
import Derived.KernelRfl
namespace Go.Proofs.YtjgjofepedcfnaaGreat
/- THE CELL 'sum', in the pinned program and in every row, IS THE sha256 OF THE DUMP (.gsa) THAT YtjgjofepedcfnaaGreatProg.lean LOADS. Nothing in Lean hashes anything: it is a label: what it is worth is what the hold of that sum in a sandbox is worth. -/
noncomputable def Tryz.pinned : Pinned := { name := "ytjgjofepedcfnaagreat", sum := "fa9e75bc9330e3b3af2f812732ee6ceef12c6d2160f6c0196a5fe9b15d7c31e9", checked := Tryz.checked }
namespace Rows
def none {H : Type} : Left H := { results := [], args := [] }

/-- 'tegulalaw50.ReplayApply': WHATEVER THE INPUT: true; the input reads as it did. -/
def replayApplySpec : ChangeSpec := { name := "replayApply", fn := fun _ => fun
  | [d1, d2, d3] => { results := [.lit (.bool true)], args := [d1, d2, d3] }
  | _ => none }
def replayApplyRow : OpenClaim := { program := "ytjgjofepedcfnaagreat", sum := "fa9e75bc9330e3b3af2f812732ee6ceef12c6d2160f6c0196a5fe9b15d7c31e9", func := "tegula/tegulalaw50.ReplayApply", spec := "replayApply", inPlace := ["slices.overlaps[tegula/api.Move]"], unfollowed := true, recurses := true, plainKeys := false, apart := false }
def ReplayApplySaid : Prop := replayApplyRow.holds Tryz.pinned (OpenSpec.ofChange replayApplySpec)

/-- ITS FALSE NEIGHBOUR: 'it returns false'. Refute it at one input. -/
def replayApplyWrong : ChangeSpec := { name := "replayApply", fn := fun _ => fun
  | [d1, d2, d3] => { results := [.lit (.bool false)], args := [d1, d2, d3] }
  | _ => none }
def ReplayApplyWrongFalsely : Prop := replayApplyRow.holds Tryz.pinned (OpenSpec.ofChange replayApplyWrong)

/-- 'tegulalaw50.ReplayValid': WHATEVER THE INPUT: true; the input reads as it did. -/
def replayValidSpec : ChangeSpec := { name := "replayValid", fn := fun _ => fun
  | [d1, d2] => { results := [.lit (.bool true)], args := [d1, d2] }
  | _ => none }
def replayValidRow : OpenClaim := { program := "ytjgjofepedcfnaagreat", sum := "fa9e75bc9330e3b3af2f812732ee6ceef12c6d2160f6c0196a5fe9b15d7c31e9", func := "tegula/tegulalaw50.ReplayValid", spec := "replayValid", inPlace := ["slices.overlaps[tegula/api.Move]"], unfollowed := true, recurses := true, plainKeys := false, apart := false }
def ReplayValidSaid : Prop := replayValidRow.holds Tryz.pinned (OpenSpec.ofChange replayValidSpec)

/-- ITS FALSE NEIGHBOUR: 'it returns false'. Refute it at one input. -/
def replayValidWrong : ChangeSpec := { name := "replayValid", fn := fun _ => fun
  | [d1, d2] => { results := [.lit (.bool false)], args := [d1, d2] }
  | _ => none }
def ReplayValidWrongFalsely : Prop := replayValidRow.holds Tryz.pinned (OpenSpec.ofChange replayValidWrong)

/-- 'tegulalaw50.ReplayAll': WHATEVER THE INPUT: true; the input reads as it did. -/
def replayAllSpec : ChangeSpec := { name := "replayAll", fn := fun _ => fun
  | [d1, d2] => { results := [.lit (.bool true)], args := [d1, d2] }
  | _ => none }
def replayAllRow : OpenClaim := { program := "ytjgjofepedcfnaagreat", sum := "fa9e75bc9330e3b3af2f812732ee6ceef12c6d2160f6c0196a5fe9b15d7c31e9", func := "tegula/tegulalaw50.ReplayAll", spec := "replayAll", inPlace := ["slices.overlaps[tegula/api.Move]"], unfollowed := true, recurses := true, plainKeys := false, apart := false }
def ReplayAllSaid : Prop := replayAllRow.holds Tryz.pinned (OpenSpec.ofChange replayAllSpec)

/-- ITS FALSE NEIGHBOUR: 'it returns false'. Refute it at one input. -/
def replayAllWrong : ChangeSpec := { name := "replayAll", fn := fun _ => fun
  | [d1, d2] => { results := [.lit (.bool false)], args := [d1, d2] }
  | _ => none }
def ReplayAllWrongFalsely : Prop := replayAllRow.holds Tryz.pinned (OpenSpec.ofChange replayAllWrong)

/-- 'tegulalaw50.ReplayParts': WHATEVER THE INPUT: true; the input reads as it did. -/
def replayPartsSpec : ChangeSpec := { name := "replayParts", fn := fun _ => fun
  | [d1, d2, d3] => { results := [.lit (.bool true)], args := [d1, d2, d3] }
  | _ => none }
def replayPartsRow : OpenClaim := { program := "ytjgjofepedcfnaagreat", sum := "fa9e75bc9330e3b3af2f812732ee6ceef12c6d2160f6c0196a5fe9b15d7c31e9", func := "tegula/tegulalaw50.ReplayParts", spec := "replayParts", inPlace := ["slices.overlaps[tegula/api.Move]"], unfollowed := true, recurses := true, plainKeys := false, apart := false }
def ReplayPartsSaid : Prop := replayPartsRow.holds Tryz.pinned (OpenSpec.ofChange replayPartsSpec)

/-- ITS FALSE NEIGHBOUR: 'it returns false'. Refute it at one input. -/
def replayPartsWrong : ChangeSpec := { name := "replayParts", fn := fun _ => fun
  | [d1, d2, d3] => { results := [.lit (.bool false)], args := [d1, d2, d3] }
  | _ => none }
def ReplayPartsWrongFalsely : Prop := replayPartsRow.holds Tryz.pinned (OpenSpec.ofChange replayPartsWrong)

/-- 'tegulalaw50.ReplayRoot': WHATEVER THE INPUT: true; the input reads as it did. -/
def replayRootSpec : ChangeSpec := { name := "replayRoot", fn := fun _ => fun
  | [d1, d2, d3] => { results := [.lit (.bool true)], args := [d1, d2, d3] }
  | _ => none }
def replayRootRow : OpenClaim := { program := "ytjgjofepedcfnaagreat", sum := "fa9e75bc9330e3b3af2f812732ee6ceef12c6d2160f6c0196a5fe9b15d7c31e9", func := "tegula/tegulalaw50.ReplayRoot", spec := "replayRoot", inPlace := ["slices.overlaps[tegula/api.Move]"], unfollowed := true, recurses := true, plainKeys := false, apart := false }
def ReplayRootSaid : Prop := replayRootRow.holds Tryz.pinned (OpenSpec.ofChange replayRootSpec)

/-- ITS FALSE NEIGHBOUR: 'it returns false'. Refute it at one input. -/
def replayRootWrong : ChangeSpec := { name := "replayRoot", fn := fun _ => fun
  | [d1, d2, d3] => { results := [.lit (.bool false)], args := [d1, d2, d3] }
  | _ => none }
def ReplayRootWrongFalsely : Prop := replayRootRow.holds Tryz.pinned (OpenSpec.ofChange replayRootWrong)

/-- 'tegulalaw50.ReplayDecode': WHATEVER THE INPUT: true; the input reads as it did. -/
def replayDecodeSpec : ChangeSpec := { name := "replayDecode", fn := fun _ => fun
  | [d1, d2] => { results := [.lit (.bool true)], args := [d1, d2] }
  | _ => none }
def replayDecodeRow : OpenClaim := { program := "ytjgjofepedcfnaagreat", sum := "fa9e75bc9330e3b3af2f812732ee6ceef12c6d2160f6c0196a5fe9b15d7c31e9", func := "tegula/tegulalaw50.ReplayDecode", spec := "replayDecode", inPlace := ["slices.overlaps[tegula/api.Move]"], unfollowed := true, recurses := true, plainKeys := false, apart := false }
def ReplayDecodeSaid : Prop := replayDecodeRow.holds Tryz.pinned (OpenSpec.ofChange replayDecodeSpec)

/-- ITS FALSE NEIGHBOUR: 'it returns false'. Refute it at one input. -/
def replayDecodeWrong : ChangeSpec := { name := "replayDecode", fn := fun _ => fun
  | [d1, d2] => { results := [.lit (.bool false)], args := [d1, d2] }
  | _ => none }
def ReplayDecodeWrongFalsely : Prop := replayDecodeRow.holds Tryz.pinned (OpenSpec.ofChange replayDecodeWrong)

/-- 'tegulalaw50.ReplayBlob': WHATEVER THE INPUT: true; the input reads as it did. -/
def replayBlobSpec : ChangeSpec := { name := "replayBlob", fn := fun _ => fun
  | [d1, d2, d3] => { results := [.lit (.bool true)], args := [d1, d2, d3] }
  | _ => none }
def replayBlobRow : OpenClaim := { program := "ytjgjofepedcfnaagreat", sum := "fa9e75bc9330e3b3af2f812732ee6ceef12c6d2160f6c0196a5fe9b15d7c31e9", func := "tegula/tegulalaw50.ReplayBlob", spec := "replayBlob", inPlace := ["slices.overlaps[tegula/api.Move]"], unfollowed := true, recurses := true, plainKeys := false, apart := false }
def ReplayBlobSaid : Prop := replayBlobRow.holds Tryz.pinned (OpenSpec.ofChange replayBlobSpec)

/-- ITS FALSE NEIGHBOUR: 'it returns false'. Refute it at one input. -/
def replayBlobWrong : ChangeSpec := { name := "replayBlob", fn := fun _ => fun
  | [d1, d2, d3] => { results := [.lit (.bool false)], args := [d1, d2, d3] }
  | _ => none }
def ReplayBlobWrongFalsely : Prop := replayBlobRow.holds Tryz.pinned (OpenSpec.ofChange replayBlobWrong)

/- THE SECOND FORM. 'bulk': how many values and letters a reading holds, each counted each time it is reached (what is shared counts as often as it is met; a slice's spare places count too). A statement '..UptoSaid' is the law's where the arguments, and the package variables that the reading takes, are together of bulk at most 1048576: NARROWER than '..Said'. Prove '..Said' where nothing that the law and all that it calls make is longer than what came in: it says more and counts as full. Else prove '..UptoSaid'. A law counts once. -/
mutual
def uptoBulk {H : Type} : DataW H → Nat
  | .lit (.string bytes) => bytes.length + 1
  | .lit _ => 1
  | .nil => 1
  | .ptr d => uptoBulk d + 1
  | .slice elems spare => uptoBulkAll elems + uptoBulkAll spare + 1
  | .agg parts => uptoBulkAll parts + 1
  | .iface _ d => uptoBulk d + 1
  | .map entries => uptoBulkEntries entries + 1
  | .held _ => 1
def uptoBulkAll {H : Type} : List (DataW H) → Nat
  | [] => 0
  | d :: r => uptoBulk d + uptoBulkAll r
def uptoBulkEntries {H : Type} : List (Lit × DataW H) → Nat
  | [] => 0
  | x :: r => uptoBulkEntry x + uptoBulkEntries r
def uptoBulkEntry {H : Type} : Lit × DataW H → Nat
  | (.string bytes, d) => bytes.length + uptoBulk d + 1
  | (_, d) => uptoBulk d + 1
 end
def uptoSmall : (H : Type) → List (DataW H) → Bool := fun _ ds => decide (uptoBulkAll ds ≤ 1048576)
def OpenSpec.upto (s : _root_.Go.ChangeSpec) : _root_.Go.OpenSpec := { _root_.Go.OpenSpec.ofChange s with cond := some uptoSmall }

/-- 'tegulalaw50.ReplayApply', WHERE WHAT IT READS IS OF BULK AT MOST 1048576: true; the input reads as it did. -/
def replayApplyUptoRow : OpenClaim := { program := "ytjgjofepedcfnaagreat", sum := "fa9e75bc9330e3b3af2f812732ee6ceef12c6d2160f6c0196a5fe9b15d7c31e9", func := "tegula/tegulalaw50.ReplayApply", spec := "replayApply", inPlace := ["slices.overlaps[tegula/api.Move]"], unfollowed := true, recurses := true, plainKeys := false, apart := false, narrowed := true }
def ReplayApplyUptoSaid : Prop := replayApplyUptoRow.holds Tryz.pinned (OpenSpec.upto replayApplySpec)

/-- 'tegulalaw50.ReplayValid', WHERE WHAT IT READS IS OF BULK AT MOST 1048576: true; the input reads as it did. -/
def replayValidUptoRow : OpenClaim := { program := "ytjgjofepedcfnaagreat", sum := "fa9e75bc9330e3b3af2f812732ee6ceef12c6d2160f6c0196a5fe9b15d7c31e9", func := "tegula/tegulalaw50.ReplayValid", spec := "replayValid", inPlace := ["slices.overlaps[tegula/api.Move]"], unfollowed := true, recurses := true, plainKeys := false, apart := false, narrowed := true }
def ReplayValidUptoSaid : Prop := replayValidUptoRow.holds Tryz.pinned (OpenSpec.upto replayValidSpec)

/-- 'tegulalaw50.ReplayAll', WHERE WHAT IT READS IS OF BULK AT MOST 1048576: true; the input reads as it did. -/
def replayAllUptoRow : OpenClaim := { program := "ytjgjofepedcfnaagreat", sum := "fa9e75bc9330e3b3af2f812732ee6ceef12c6d2160f6c0196a5fe9b15d7c31e9", func := "tegula/tegulalaw50.ReplayAll", spec := "replayAll", inPlace := ["slices.overlaps[tegula/api.Move]"], unfollowed := true, recurses := true, plainKeys := false, apart := false, narrowed := true }
def ReplayAllUptoSaid : Prop := replayAllUptoRow.holds Tryz.pinned (OpenSpec.upto replayAllSpec)

/-- 'tegulalaw50.ReplayParts', WHERE WHAT IT READS IS OF BULK AT MOST 1048576: true; the input reads as it did. -/
def replayPartsUptoRow : OpenClaim := { program := "ytjgjofepedcfnaagreat", sum := "fa9e75bc9330e3b3af2f812732ee6ceef12c6d2160f6c0196a5fe9b15d7c31e9", func := "tegula/tegulalaw50.ReplayParts", spec := "replayParts", inPlace := ["slices.overlaps[tegula/api.Move]"], unfollowed := true, recurses := true, plainKeys := false, apart := false, narrowed := true }
def ReplayPartsUptoSaid : Prop := replayPartsUptoRow.holds Tryz.pinned (OpenSpec.upto replayPartsSpec)

/-- 'tegulalaw50.ReplayRoot', WHERE WHAT IT READS IS OF BULK AT MOST 1048576: true; the input reads as it did. -/
def replayRootUptoRow : OpenClaim := { program := "ytjgjofepedcfnaagreat", sum := "fa9e75bc9330e3b3af2f812732ee6ceef12c6d2160f6c0196a5fe9b15d7c31e9", func := "tegula/tegulalaw50.ReplayRoot", spec := "replayRoot", inPlace := ["slices.overlaps[tegula/api.Move]"], unfollowed := true, recurses := true, plainKeys := false, apart := false, narrowed := true }
def ReplayRootUptoSaid : Prop := replayRootUptoRow.holds Tryz.pinned (OpenSpec.upto replayRootSpec)

/-- 'tegulalaw50.ReplayDecode', WHERE WHAT IT READS IS OF BULK AT MOST 1048576: true; the input reads as it did. -/
def replayDecodeUptoRow : OpenClaim := { program := "ytjgjofepedcfnaagreat", sum := "fa9e75bc9330e3b3af2f812732ee6ceef12c6d2160f6c0196a5fe9b15d7c31e9", func := "tegula/tegulalaw50.ReplayDecode", spec := "replayDecode", inPlace := ["slices.overlaps[tegula/api.Move]"], unfollowed := true, recurses := true, plainKeys := false, apart := false, narrowed := true }
def ReplayDecodeUptoSaid : Prop := replayDecodeUptoRow.holds Tryz.pinned (OpenSpec.upto replayDecodeSpec)

/-- 'tegulalaw50.ReplayBlob', WHERE WHAT IT READS IS OF BULK AT MOST 1048576: true; the input reads as it did. -/
def replayBlobUptoRow : OpenClaim := { program := "ytjgjofepedcfnaagreat", sum := "fa9e75bc9330e3b3af2f812732ee6ceef12c6d2160f6c0196a5fe9b15d7c31e9", func := "tegula/tegulalaw50.ReplayBlob", spec := "replayBlob", inPlace := ["slices.overlaps[tegula/api.Move]"], unfollowed := true, recurses := true, plainKeys := false, apart := false, narrowed := true }
def ReplayBlobUptoSaid : Prop := replayBlobUptoRow.holds Tryz.pinned (OpenSpec.upto replayBlobSpec)

end Rows
end Go.Proofs.YtjgjofepedcfnaaGreat
