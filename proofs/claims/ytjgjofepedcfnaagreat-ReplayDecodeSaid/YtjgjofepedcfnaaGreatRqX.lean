/- Records applied in turn to a state in a box (the loops of the laws of layer 50). No program is walked here. -/
import Derived.Test.YtjgjofepedcfnaaGreatRqV
namespace Go.Proofs.YtjgjofepedcfnaaGreat
open Go.RowKit
section
variable {L : LayD} {S : St}
theorem ok_f (h : stOk L S = true) (hw : L.w ≤ 16) (hG : L.G ≤ 100000) (h1 : S.ms.length ≤ 8000) (h2 : S.nt.length ≤ 90000) : StF S := ⟨ok_few h hw, by rw [(stOk_ls h).1]; exact hG, h1, h2⟩
end
structure RunI (F : Nat → Prop) (w6 : World) (X Y : Nat) (L : LayD) (A : Option Addr) (c : Nat) (a b d : Value) (S : St) (wr : World) : Prop where
 agr : Agr (fun k => k = Y) w6 wr
 lay : LayB w6 X L A c
 gx : GsV w6 X A L.gs
 xy : X < Y
 yl : Y < w6.heap.size
 blk : wr.heap[Y]? = some (.cells #[a, b, d] 45 (0, 0))
 fy : F Y
 st : StK F wr (.agg #[a, b, d]) S
section
variable {F : Nat → Prop} {w6 wr w' : World} {X Y c : Nat} {L : LayD} {A : Option Addr} {a b d a1 b1 d1 : Value} {S S' : St}
theorem RunI.bel (h : RunI F w6 X Y L A c a b d S wr) : Below Y w6 wr := h.agr.below (fun k _ e => by omega) (Nat.le_of_lt h.yl)
theorem RunI.lt (h : RunI F w6 X Y L A c a b d S wr) : X < wr.heap.size ∧ Y < wr.heap.size := by
 have h1 := h.agr.size
 have h2 := h.xy
 have h3 := h.yl
 omega
theorem RunI.call (h : RunI F w6 X Y L A c a b d S wr) (hb : Below wr.heap.size wr w') : RunI F w6 X Y L A c a b d S w' :=
 ⟨h.agr.call hb, h.lay, h.gx, h.xy, h.yl, (hb.block _ h.lt.2).trans h.blk, h.fy, h.st.call hb⟩
theorem RunI.cells (h : RunI F w6 X Y L A c a b d S wr) : wr.cell? ⟨Y, 0, none⟩ = some a ∧ wr.cell? ⟨Y, 1, none⟩ = some b ∧ wr.cell? ⟨Y, 2, none⟩ = some d :=
 ⟨by rw [cell_of_row _ _ _ _ _ _ h.blk]; rfl, by rw [cell_of_row _ _ _ _ _ _ h.blk]; rfl, by rw [cell_of_row _ _ _ _ _ _ h.blk]; rfl⟩
theorem RunI.next (h : RunI F w6 X Y L A c a b d S wr) (hb : Below wr.heap.size wr w') (hs : StK F w' (.agg #[a1, b1, d1]) S') :
  RunI F w6 X Y L A c a1 b1 d1 S' (((w'.setCell ⟨Y, 0, none⟩ a1).setCell ⟨Y, 1, none⟩ b1).setCell ⟨Y, 2, none⟩ d1) :=
 ⟨(h.agr.call hb).trans (agr_three (E := fun k => k = Y) rfl _ _ _), h.lay, h.gx, h.xy, h.yl, heap_setCell_same _ _ 2 _ _ _ (heap_setCell_same _ _ 1 _ _ _ (heap_setCell_same _ _ 0 _ _ _ ((hb.block _ h.lt.2).trans h.blk))), h.fy, hs.step (agr_three h.fy _ _ _)⟩
variable {wB : World} {D1 D2 D3 : Option Addr} {e1 e2 e3 n : Nat} {er : Int}
end
section
variable {w wB : World} {T : TypeId} {S : St} {er : Int} {D1 D2 D3 : Option Addr} {d1 d2 d3 n : Nat}
end
end Go.Proofs.YtjgjofepedcfnaaGreat
