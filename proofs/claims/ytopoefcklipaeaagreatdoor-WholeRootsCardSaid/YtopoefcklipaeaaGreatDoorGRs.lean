/- Walk of tegularef22.Moves.
Arguments of the laws of layer 22, opened: a number of 16 bits, a list of bytes, two ints, a request, a move, a list of moves. -/
import Derived.Test.YtopoefcklipaeaaGreatDoorGRe
import Derived.Deep.RegionHeld3
import Derived.Deep.Slices
import Derived.Deep.Fields
import Derived.ChangeSame
import Derived.OpenShut
import Derived.WideShapes
namespace Go.Proofs.YtopoefcklipaeaaGreatDoor
open Go.RowKit
def bytC (x : Nat) : List Value := [.int .u8 x]
abbrev BytR (w : World) (B : Nat) (A : Option Addr) (l : List Nat) : Prop := RdS w B 1 A (l.map bytC)
theorem BytR.at_ {w : World} {B : Nat} {A : Option Addr} {l : List Nat} (h : BytR w B A l) {k x : Nat} (hx : l[k]? = some x) : ∃ b off, A = some ⟨b, off, none⟩ ∧ b < B ∧ w.cell? ⟨b, off + k, none⟩ = some (.int .u8 (x : Int)) := by
 have hk := (List.getElem?_eq_some_iff.1 hx).1
 obtain ⟨b, off, rfl, hb, hc⟩ := h.2 (by simp; omega)
 have hr : (l.map bytC)[k]? = some (bytC x) := by rw [List.getElem?_map, hx]; rfl
 exact ⟨b, off, rfl, hb, by simpa using hc k _ hr 0 _ rfl⟩
end Go.Proofs.YtopoefcklipaeaaGreatDoor
namespace Go.Proofs.YtopoefcklipaeaaGreatDoor
open Go.ChangeShapes Go.WideShapes Go.Deep Go.RowKit
def PlWfS (t : Plc) : Prop := (Lit.int .i64 t.disk).wf = true ∧ (Lit.int .i64 t.block).wf = true
def MvWfS (m : Mv) : Prop := (Lit.int .i64 m.g).wf = true ∧ (Lit.int .i64 m.p).wf = true ∧ PlWfS m.to
theorem cells_byteS : Tryz.prog.cellsOf 5 = 1 := by kernel_rfl
theorem cells_intS : Tryz.prog.cellsOf 3 = 1 := by kernel_rfl
theorem cells_place : Tryz.prog.cellsOf 194 = 2 := by kernel_rfl
theorem cells_move : Tryz.prog.cellsOf 196 = 4 := by kernel_rfl
theorem twoS {α : Type} {l : List α} (h : l.length = 2) : ∃ a b, l = [a, b] := by
 match l, h with
 | [a, b], _ => exact ⟨a, b, rfl⟩
theorem threeS {α : Type} {l : List α} (h : l.length = 3) : ∃ a b c, l = [a, b, c] := by
 match l, h with
 | [a, b, c], _ => exact ⟨a, b, c, rfl⟩
theorem fourS {α : Type} {l : List α} (h : l.length = 4) : ∃ a b c d, l = [a, b, c, d] := by
 match l, h with
 | [a, b, c, d], _ => exact ⟨a, b, c, d, rfl⟩
theorem open_place1 {H : Type} {enc : TypeId × Value → H} {w : World} {base : Nat} {spare : Nat → Bool} {held : Bool} {n : Nat} {cs : List Value} {x : DataW H × List MemPlace}
  (h : DataW.trod enc Tryz.prog w base spare held n 194 cs = some x) : ∃ t : Plc, cs = [.int .i64 t.disk, .int .i64 t.block] ∧ PlWfS t := by
 obtain ⟨ys, m, -, -, hlen, hyl, hel⟩ := DataW.trod_struct Tryz.underlying194 h
 rw [cells_place] at hlen
 obtain ⟨v0, v1, rfl⟩ := twoS hlen
 obtain ⟨y0, y1, rfl⟩ := twoS (show ys.length = 2 from hyl)
 have h0 : DataW.trod enc Tryz.prog w base spare held m 3 (([v0, v1].drop 0).take (Tryz.prog.cellsOf 3)) = some y0 := hel 0 _ rfl
 have h1 : DataW.trod enc Tryz.prog w base spare held m 3 (([v0, v1].drop 1).take (Tryz.prog.cellsOf 3)) = some y1 := hel 1 _ rfl
 rw [cells_intS] at h0 h1
 obtain ⟨n0, e0, -, w0⟩ := DataW.trod_int Tryz.underlying3 h0
 obtain ⟨n1, e1, -, w1⟩ := DataW.trod_int Tryz.underlying3 h1
 cases e0; cases e1
 exact ⟨⟨n0, n1⟩, rfl, w0, w1⟩
theorem open_move1 {H : Type} {enc : TypeId × Value → H} {w : World} {base : Nat} {spare : Nat → Bool} {held : Bool} {n : Nat} {cs : List Value} {x : DataW H × List MemPlace}
  (h : DataW.trod enc Tryz.prog w base spare held n 196 cs = some x) : ∃ m : Mv, cs = m.cells ∧ MvWfS m := by
 obtain ⟨ys, m, -, -, hlen, hyl, hel⟩ := DataW.trod_struct Tryz.underlying196 h
 rw [cells_move] at hlen
 obtain ⟨v0, v1, v2, v3, rfl⟩ := fourS hlen
 obtain ⟨y0, y1, y2, rfl⟩ := threeS (show ys.length = 3 from hyl)
 have h0 : DataW.trod enc Tryz.prog w base spare held m 3 (([v0, v1, v2, v3].drop 0).take (Tryz.prog.cellsOf 3)) = some y0 := hel 0 _ rfl
 have h1 : DataW.trod enc Tryz.prog w base spare held m 3 (([v0, v1, v2, v3].drop 1).take (Tryz.prog.cellsOf 3)) = some y1 := hel 1 _ rfl
 rw [cells_intS] at h0 h1
 have h2 : DataW.trod enc Tryz.prog w base spare held m 194 (([v0, v1, v2, v3].drop 2).take (Tryz.prog.cellsOf 194)) = some y2 := hel 2 _ rfl
 rw [cells_place] at h2
 obtain ⟨n0, e0, -, w0⟩ := DataW.trod_int Tryz.underlying3 h0
 obtain ⟨n1, e1, -, w1⟩ := DataW.trod_int Tryz.underlying3 h1
 obtain ⟨t, e2, wt⟩ := open_place1 h2
 cases e0; cases e1; cases e2
 exact ⟨⟨n0, n1, t⟩, rfl, w0, w1, wt⟩
end Go.Proofs.YtopoefcklipaeaaGreatDoor
