/- Walks of tegularef25.Set and piecesum.Set. -/
import Derived.Test.YtjgjofepedcfnaaGreatGRi
import Derived.Test.YtjgjofepedcfnaaGreatPool
namespace Go.Proofs.YtjgjofepedcfnaaGreat
open Go.RowKit
structure Pw where
 g : Int
 p : Int
 v : Nat
 d : Blk
def Pw.cells (m : Pw) : List Value := [.int .i64 m.g, .int .i64 m.p, .int .u64 m.v, .int .u8 m.d.b0, .int .u8 m.d.b1, .int .u8 m.d.b2, .int .u8 m.d.b3, .int .u8 m.d.b4, .int .u8 m.d.b5, .int .u8 m.d.b6, .int .u8 m.d.b7]
def Pw.agg (m : Pw) : Value := .agg #[.int .i64 m.g, .int .i64 m.p, .int .u64 m.v, .int .u8 m.d.b0, .int .u8 m.d.b1, .int .u8 m.d.b2, .int .u8 m.d.b3, .int .u8 m.d.b4, .int .u8 m.d.b5, .int .u8 m.d.b6, .int .u8 m.d.b7]
def setL (L : Leaf) (g p v : Nat) (d : Blk) : Leaf := ⟨L.vs.set p v, L.ss.set p (sumN g p v d)⟩
theorem three_laid (w : World) (A C D : Obj) : ∃ w1, ((w.alloc A).alloc C).alloc D = w1 ∧ w1.heap[w.heap.size]? = some A ∧ w1.heap[w.heap.size + 1]? = some C ∧ w1.heap[w.heap.size + 1 + 1]? = some D ∧ Below w.heap.size w w1 ∧ w1.heap.size = w.heap.size + 3 := by
 obtain ⟨w1, rfl, h1, h2, hb, hz⟩ := two_laid w A C
 refine ⟨_, rfl, ?_, ?_, ?_, hb.alloc (by omega) _, by rw [show ((w.alloc A).alloc C |>.alloc D).heap.size = ((w.alloc A).alloc C).heap.size + 1 by simp, hz]⟩
 ·rw [Below.heap_alloc _ _ _ (by omega)]; exact h1
 ·rw [Below.heap_alloc _ _ _ (by omega)]; exact h2
 ·have := heap_alloc_new ((w.alloc A).alloc C) D
  rw [hz] at this
  simpa using this
end Go.Proofs.YtjgjofepedcfnaaGreat
