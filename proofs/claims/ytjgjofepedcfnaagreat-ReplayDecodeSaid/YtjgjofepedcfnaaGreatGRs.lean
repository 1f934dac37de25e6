/- Walk of tegularef22.Moves.
Arguments of the laws of layer 22, opened: a number of 16 bits, a list of bytes, two ints, a request, a move, a list of moves. -/
import Derived.Test.YtjgjofepedcfnaaGreatGRe
import Derived.Deep.RegionHeld3
import Derived.Deep.Slices
import Derived.Deep.Fields
import Derived.ChangeSame
import Derived.OpenShut
import Derived.WideShapes
namespace Go.Proofs.YtjgjofepedcfnaaGreat
open Go.RowKit
def bytC (x : Nat) : List Value := [.int .u8 x]
abbrev BytR (w : World) (B : Nat) (A : Option Addr) (l : List Nat) : Prop := RdS w B 1 A (l.map bytC)
theorem BytR.at_ {w : World} {B : Nat} {A : Option Addr} {l : List Nat} (h : BytR w B A l) {k x : Nat} (hx : l[k]? = some x) : ∃ b off, A = some ⟨b, off, none⟩ ∧ b < B ∧ w.cell? ⟨b, off + k, none⟩ = some (.int .u8 (x : Int)) := by
 have hk := (List.getElem?_eq_some_iff.1 hx).1
 obtain ⟨b, off, rfl, hb, hc⟩ := h.2 (by simp; omega)
 have hr : (l.map bytC)[k]? = some (bytC x) := by rw [List.getElem?_map, hx]; rfl
 exact ⟨b, off, rfl, hb, by simpa using hc k _ hr 0 _ rfl⟩
end Go.Proofs.YtjgjofepedcfnaaGreat
namespace Go.Proofs.YtjgjofepedcfnaaGreat
open Go.ChangeShapes Go.WideShapes Go.Deep Go.RowKit
def PlWfS (t : Plc) : Prop := (Lit.int .i64 t.disk).wf = true ∧ (Lit.int .i64 t.block).wf = true
def MvWfS (m : Mv) : Prop := (Lit.int .i64 m.g).wf = true ∧ (Lit.int .i64 m.p).wf = true ∧ PlWfS m.to
theorem cells_byteS : Tryz.prog.cellsOf 5 = 1 := by kernel_rfl
end Go.Proofs.YtjgjofepedcfnaaGreat
