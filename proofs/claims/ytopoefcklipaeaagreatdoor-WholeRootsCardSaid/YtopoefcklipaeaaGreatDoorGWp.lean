/- Two lists and a box that a drawn region makes, in any order.
Walks of tegularef25.Set and piecesum.Set.
Walk of piecesum.Set. -/
import Derived.Test.YtopoefcklipaeaaGreatDoorGRc
import Derived.Test.YtopoefcklipaeaaGreatDoorGRb
import Derived.Test.YtopoefcklipaeaaGreatDoorGRi
namespace Go.Proofs.YtopoefcklipaeaaGreatDoor
open Go.RowKit
def apartO (l : List (Option Nat)) : Prop := l.Pairwise fun x y => x = none ∨ x ≠ y
structure Pl (e1 s1 e2 s2 : Nat) (a b : List (List Value)) (tS : TypeId) (zS : Array Value) (B : Nat) (w0 w : World) (eA eB : Option Nat) (vA vB : Option Value) (S : Option Nat) : Prop where
 bel : Below B w0 w
 le : B ≤ w.heap.size
 ea : ∀ k, eA = some k → OwS w B e1 s1 (.slice (some ⟨k, 0, none⟩) 0 0) []
 eb : ∀ k, eB = some k → OwS w B e2 s2 (.slice (some ⟨k, 0, none⟩) 0 0) []
 va : ∀ v, vA = some v → OwS w B e1 s1 v a
 vb : ∀ v, vB = some v → OwS w B e2 s2 v b
 bx : ∀ k, S = some k → w.heap[k]? = some (.cells zS tS (0, 0)) ∧ B ≤ k
 sep : apartO [eA, eB, vA.bind Value.ownBlock, vB.bind Value.ownBlock, S]
section
variable {e1 s1 e2 s2 : Nat} {a b : List (List Value)} {tS : TypeId} {zS : Array Value} {B : Nat} {w0 w w' : World} {eA eB : Option Nat} {vA vB : Option Value} {S : Option Nat}
theorem Pl.lt (h : Pl e1 s1 e2 s2 a b tS zS B w0 w eA eB vA vB S) : ∀ x ∈ [eA, eB, vA.bind Value.ownBlock, vB.bind Value.ownBlock, S], ∀ k, x = some k → B ≤ k ∧ k < w.heap.size := by
 intro x hx k hk
 simp only [List.mem_cons, List.not_mem_nil, or_false] at hx
 rcases hx with rfl | rfl | rfl | rfl | rfl
 ·exact (h.ea k hk).lt rfl
 ·exact (h.eb k hk).lt rfl
 ·rcases vA with _ | v
  ·cases hk
  ·exact (h.va v rfl).lt hk
 ·rcases vB with _ | v
  ·cases hk
  ·exact (h.vb v rfl).lt hk
 ·have := h.bx k hk
  exact ⟨this.2, (Array.getElem?_eq_some_iff.1 this.1).1⟩
theorem Pl.step (h : Pl e1 s1 e2 s2 a b tS zS B w0 w eA eB vA vB S) {row : Option Nat} (hg : w.grownBy w' row) (hB : ∀ k, row = some k → B ≤ k) (hr : ∀ x ∈ [eA, eB, vA.bind Value.ownBlock, vB.bind Value.ownBlock, S], x = none ∨ x ≠ row) :
  Pl e1 s1 e2 s2 a b tS zS B w0 w' eA eB vA vB S := by
 refine ⟨h.bel.grown hg h.le hB, Nat.le_trans h.le hg.size, fun k hk => (h.ea k hk).kept hg ?_, fun k hk => (h.eb k hk).kept hg ?_, fun v hv => (h.va v hv).kept hg ?_, fun v hv => (h.vb v hv).kept hg ?_, fun k hk => ⟨(hg.block k ((Array.getElem?_eq_some_iff.1 (h.bx k hk).1).1) ?_).trans (h.bx k hk).1, (h.bx k hk).2⟩, h.sep⟩
 ·subst hk; exact hr (some k) (by simp)
 ·subst hk; exact hr (some k) (by simp)
 ·subst hv; exact hr _ (by simp)
 ·subst hv; exact hr _ (by simp)
 ·subst hk
  rcases hr (some k) (by simp) with e | e
  ·cases e
  ·exact e
theorem Pl.call (h : Pl e1 s1 e2 s2 a b tS zS B w0 w eA eB vA vB S) (hb : Below w.heap.size w w') : Pl e1 s1 e2 s2 a b tS zS B w0 w' eA eB vA vB S :=
 h.step (row := none) ⟨hb.os, hb.tape, hb.output, hb.size, fun k hk _ => hb.block k hk⟩ (by simp) (fun x _ => by cases x <;> simp)
theorem Pl.drew (h : Pl e1 s1 e2 s2 a b tS zS B w0 w eA eB vA vB S) : Pl e1 s1 e2 s2 a b tS zS B w0 w.drew eA eB vA vB S := h.call (Below.refl _ _).drew
theorem Pl.alloc (h : Pl e1 s1 e2 s2 a b tS zS B w0 w eA eB vA vB S) (o : Obj) : Pl e1 s1 e2 s2 a b tS zS B w0 (w.alloc o) eA eB vA vB S := h.call below_laid
theorem Pl.fresh (h : Pl e1 s1 e2 s2 a b tS zS B w0 w eA eB vA vB S) : ∀ x ∈ [eA, eB, vA.bind Value.ownBlock, vB.bind Value.ownBlock, S], x ≠ some w.heap.size := by
 intro x hx e
 have := (h.lt x hx _ e).2
 omega
theorem Pl.newA (h : Pl e1 s1 e2 s2 a b tS zS B w0 w none eB vA vB S) : Pl e1 s1 e2 s2 a b tS zS B w0 (w.alloc (.cells #[] e1)) (some w.heap.size) eB vA vB S := by
 have h2 := h.alloc (.cells #[] e1)
 refine ⟨h2.bel, h2.le, fun k hk => ?_, h2.eb, h2.va, h2.vb, h2.bx, ?_⟩
 ·cases hk; exact OwS.lit (by simp) (heap_alloc_new w _) rfl rfl (by decide) h.le
 ·have hs := h.sep
  have hf := h.fresh
  unfold apartO at hs ⊢
  rw [List.pairwise_cons] at hs ⊢
  exact ⟨fun y hy => .inr fun e => hf y (List.mem_cons_of_mem _ hy) e.symm, hs.2⟩
theorem Pl.newB (h : Pl e1 s1 e2 s2 a b tS zS B w0 w eA none vA vB S) : Pl e1 s1 e2 s2 a b tS zS B w0 (w.alloc (.cells #[] e2)) eA (some w.heap.size) vA vB S := by
 have h2 := h.alloc (.cells #[] e2)
 refine ⟨h2.bel, h2.le, h2.ea, fun k hk => ?_, h2.va, h2.vb, h2.bx, ?_⟩
 ·cases hk; exact OwS.lit (by simp) (heap_alloc_new w _) rfl rfl (by decide) h.le
 ·have hs := h.sep
  have hf := h.fresh
  unfold apartO at hs ⊢
  simp only [List.pairwise_cons, List.mem_cons, List.not_mem_nil, or_false, forall_eq_or_imp, forall_eq] at hs hf ⊢
  obtain ⟨⟨-, h12, h13, h14⟩, -, h2, h3, h4⟩ := hs
  exact ⟨⟨.inr hf.1, h12, h13, h14⟩, ⟨.inr fun e => hf.2.2.1 e.symm, .inr fun e => hf.2.2.2.1 e.symm, .inr fun e => hf.2.2.2.2 e.symm⟩, h2, h3, h4⟩
theorem Pl.newS (h : Pl e1 s1 e2 s2 a b tS zS B w0 w eA eB vA vB none) : Pl e1 s1 e2 s2 a b tS zS B w0 (w.alloc (.cells zS tS)) eA eB vA vB (some w.heap.size) := by
 have h2 := h.alloc (.cells zS tS)
 refine ⟨h2.bel, h2.le, h2.ea, h2.eb, h2.va, h2.vb, fun k hk => ?_, ?_⟩
 ·cases hk; exact ⟨heap_alloc_new w _, h.le⟩
 ·have hs := h.sep
  have hf := h.fresh
  unfold apartO at hs ⊢
  simp only [List.pairwise_cons, List.mem_cons, List.not_mem_nil, or_false, forall_eq_or_imp, forall_eq] at hs hf ⊢
  obtain ⟨⟨h11, h12, h13, -⟩, ⟨h22, h23, -⟩, ⟨h33, -⟩, h4⟩ := hs
  exact ⟨⟨h11, h12, h13, .inr hf.1⟩, ⟨h22, h23, .inr hf.2.1⟩, ⟨h33, .inr hf.2.2.1⟩, .inr hf.2.2.2.1, by simp, by simp⟩
theorem Pl.gotA (h : Pl e1 s1 e2 s2 a b tS zS B w0 w eA eB none vB S) {v : Value} {row : Option Nat} (hg : w.grownBy w' row) (hrow : row = none ∨ ∃ k, row = some k ∧ eA = some k) (ho : OwS w' B e1 s1 v a) (hv : v.ownBlock = none ∨ v.ownBlock = row ∨ ∃ k, v.ownBlock = some k ∧ w.heap.size ≤ k) :
  Pl e1 s1 e2 s2 a b tS zS B w0 w' none eB (some v) vB S := by
 have hl := h.lt
 have hs := h.sep
 unfold apartO at hs
 simp only [List.pairwise_cons, List.mem_cons, List.not_mem_nil, or_false, forall_eq_or_imp, forall_eq] at hs hl
 obtain ⟨⟨h11, h12, h13, h14⟩, ⟨h22, h23, h24⟩, ⟨h33, h34⟩, h4, -⟩ := hs
 obtain ⟨l1, l2, l3, l4, l5⟩ := hl
 have key : ∀ x, (eA = none ∨ eA ≠ x) → (∀ k, x = some k → B ≤ k ∧ k < w.heap.size) → x = none ∨ x ≠ row := by
  intro x hx hlx
  rcases hrow with rfl | ⟨k, rfl, hk⟩
  ·cases x <;> simp
  ·rw [hk] at hx
   rcases hx with e | e
   ·cases e
   ·exact .inr fun e2 => e e2.symm
 have keyv : ∀ x, (eA = none ∨ eA ≠ x) → (∀ k, x = some k → B ≤ k ∧ k < w.heap.size) → v.ownBlock = none ∨ v.ownBlock ≠ x := by
  intro x hx hlx
  rcases hv with e | e | ⟨k, e, hk⟩
  ·exact .inl e
  ·rw [e]
   rcases key x hx hlx with e2 | e2
   ·rw [e2]; cases row <;> simp
   ·exact .inr fun e3 => e2 e3.symm
  ·refine .inr fun e2 => ?_
   rw [e] at e2
   have := (hlx k e2.symm).2
   omega
 have hs0 : apartO [none, eB, (none : Option Value).bind Value.ownBlock, vB.bind Value.ownBlock, S] := by
  unfold apartO
  simp only [List.pairwise_cons, List.mem_cons, List.not_mem_nil, or_false, forall_eq_or_imp, forall_eq]
  exact ⟨⟨.inl (by simp), .inl (by simp), .inl (by simp), .inl (by simp)⟩, ⟨h22, h23, h24⟩, ⟨.inl (by simp), .inl (by simp)⟩, h4, by simp⟩
 have h1 : Pl e1 s1 e2 s2 a b tS zS B w0 w none eB none vB S := ⟨h.bel, h.le, (fun k hk => by cases hk), h.eb, (fun v hv => by cases hv), h.vb, h.bx, hs0⟩
 have hB' : ∀ k, row = some k → B ≤ k := by
  intro k hk
  rcases hrow with rfl | ⟨k', rfl, hk'⟩
  ·cases hk
  ·cases hk; exact (l1 _ hk').1
 have h2 := h1.step hg hB' (by
  simp only [List.mem_cons, List.not_mem_nil, or_false, forall_eq_or_imp, forall_eq]
  exact ⟨.inl (by simp), key eB h11 l2, .inl (by simp), key _ h13 l4, key _ h14 l5⟩)
 refine ⟨h2.bel, h2.le, h2.ea, h2.eb, fun u hu => by cases hu; exact ho, h2.vb, h2.bx, ?_⟩
 unfold apartO
 simp only [List.pairwise_cons, List.mem_cons, List.not_mem_nil, or_false, forall_eq_or_imp, forall_eq]
 refine ⟨⟨.inl (by simp), .inl (by simp), .inl (by simp), .inl (by simp)⟩, ⟨?_, h23, h24⟩, ⟨keyv _ h13 l4, keyv _ h14 l5⟩, h4, by simp⟩
 rcases keyv eB h11 l2 with e | e
 ·rcases eB with _ | k
  ·exact .inl (by simp)
  ·exact .inr (by rw [show (some v).bind Value.ownBlock = v.ownBlock from rfl, e]; simp)
 ·exact .inr fun e2 => e e2.symm
theorem Pl.swap (h : Pl e1 s1 e2 s2 a b tS zS B w0 w eA eB vA vB S) : Pl e2 s2 e1 s1 b a tS zS B w0 w eB eA vB vA S := by
 refine ⟨h.bel, h.le, h.eb, h.ea, h.vb, h.va, h.bx, ?_⟩
 have hs := h.sep
 unfold apartO at hs ⊢
 simp only [List.pairwise_cons, List.mem_cons, List.not_mem_nil, or_false, forall_eq_or_imp, forall_eq] at hs ⊢
 obtain ⟨⟨h11, h12, h13, h14⟩, ⟨h22, h23, h24⟩, ⟨h33, h34⟩, h4, -⟩ := hs
 have sym : ∀ x y : Option Nat, (x = none ∨ x ≠ y) → (y = none ∨ y ≠ x) := by
  intro x y h
  rcases h with rfl | h
  ·cases y <;> simp
  ·exact .inr fun e => h e.symm
 exact ⟨⟨sym _ _ h11, h23, h22, h24⟩, ⟨h13, h12, h14⟩, ⟨sym _ _ h33, h4⟩, h34, by simp⟩
theorem Pl.set (h : Pl e1 s1 e2 s2 a b tS zS B w0 w eA eB vA vB S) {k j : Nat} (hk : S = some k) (u : Value) : Pl e1 s1 e2 s2 a b tS (zS.setIfInBounds j u) B w0 (w.setCell ⟨k, j, none⟩ u) eA eB vA vB S := by
 subst hk
 have hl := h.lt
 have hs := h.sep
 unfold apartO at hs
 simp only [List.pairwise_cons, List.mem_cons, List.not_mem_nil, or_false, forall_eq_or_imp, forall_eq] at hs hl
 obtain ⟨⟨-, -, -, h14⟩, ⟨-, -, h24⟩, ⟨-, h34⟩, h4, -⟩ := hs
 have hg : w.grownBy (w.setCell ⟨k, j, none⟩ u) (some k) := grownBy_setCell w ⟨k, j, none⟩ u
 have hBk := (h.bx k rfl).2
 refine ⟨h.bel.grown hg h.le (fun k' hk' => by cases hk'; exact hBk), Nat.le_trans h.le hg.size, fun k' hk => (h.ea k' hk).kept hg ?_, fun k' hk => (h.eb k' hk).kept hg ?_, fun v hv => (h.va v hv).kept hg ?_, fun v hv => (h.vb v hv).kept hg ?_, fun k' hk => ?_, h.sep⟩
 ·subst hk; exact h14
 ·subst hk; exact h24
 ·subst hv; exact h34
 ·subst hv; exact h4
 ·cases hk
  exact ⟨heap_setCell_same w k j _ _ u (h.bx k rfl).1, hBk⟩
theorem Pl.box2 {z0 z1 : Value} (h : Pl e1 s1 e2 s2 a b tS #[z0, z1] B w0 w eA eB vA vB S) {k : Nat} (hk : S = some k) : w.cell? ⟨k, 0, none⟩ = some z0 ∧ w.cell? ⟨k, 1, none⟩ = some z1 ∧ w.frozen? ⟨k, 0, none⟩ = false ∧ w.frozen? ⟨k, 1, none⟩ = false := by
 have hb := (h.bx k hk).1
 refine ⟨by rw [cell_of_row _ _ _ _ _ _ hb]; rfl, by rw [cell_of_row _ _ _ _ _ _ hb]; rfl, ?_, ?_⟩
 ·simp [World.frozen?, hb]
 ·simp [World.frozen?, hb]
theorem Pl.start {B : Nat} {w0 w : World} (h : Below B w0 w) (hB : B ≤ w.heap.size) : Pl e1 s1 e2 s2 a b tS zS B w0 w none none none none none := by
 refine ⟨h, hB, (fun k hk => by cases hk), (fun k hk => by cases hk), (fun k hk => by cases hk), (fun k hk => by cases hk), (fun k hk => by cases hk), ?_⟩
 unfold apartO
 simp
end
section
variable {e1 s1 e2 s2 : Nat} {a b : List (List Value)} {tS : TypeId} {zS : Array Value} {B : Nat} {w0 w w' : World} {eA eB : Option Nat} {vA vB : Option Value} {S : Option Nat}
theorem Pl.newA' {k : Nat} (hk : k = w.heap.size) (h : Pl e1 s1 e2 s2 a b tS zS B w0 w none eB vA vB S) : Pl e1 s1 e2 s2 a b tS zS B w0 (w.alloc (.cells #[] e1)) (some k) eB vA vB S := hk ▸ h.newA
theorem Pl.newB' {k : Nat} (hk : k = w.heap.size) (h : Pl e1 s1 e2 s2 a b tS zS B w0 w eA none vA vB S) : Pl e1 s1 e2 s2 a b tS zS B w0 (w.alloc (.cells #[] e2)) eA (some k) vA vB S := hk ▸ h.newB
theorem Pl.newS' {k : Nat} (hk : k = w.heap.size) (h : Pl e1 s1 e2 s2 a b tS zS B w0 w eA eB vA vB none) : Pl e1 s1 e2 s2 a b tS zS B w0 (w.alloc (.cells zS tS)) eA eB vA vB (some k) := hk ▸ h.newS
end
theorem Pl.callA {e1 s1 e2 s2 : Nat} {a b : List (List Value)} {tS : TypeId} {zS : Array Value} {B : Nat} {w0 w w' : World} {eB : Option Nat} {vB : Option Value} {S : Option Nat} {v : Value} (h : Pl e1 s1 e2 s2 a b tS zS B w0 w none eB none vB S) (hb : Below w.heap.size w w') (ho : OwS w' w.heap.size e1 s1 v a) : Pl e1 s1 e2 s2 a b tS zS B w0 w' none eB (some v) vB S :=
 h.gotA (row := none) ⟨hb.os, hb.tape, hb.output, hb.size, fun k hk _ => hb.block k hk⟩ (.inl rfl) (ho.mono h.le) (by
  rcases he : v.ownBlock with _ | k
  ·exact .inl rfl
  ·exact .inr (.inr ⟨k, rfl, (ho.lt he).1⟩))
theorem Pl.callB {e1 s1 e2 s2 : Nat} {a b : List (List Value)} {tS : TypeId} {zS : Array Value} {B : Nat} {w0 w w' : World} {eA : Option Nat} {vA : Option Value} {S : Option Nat} {v : Value} (h : Pl e1 s1 e2 s2 a b tS zS B w0 w eA none vA none S) (hb : Below w.heap.size w w') (ho : OwS w' w.heap.size e2 s2 v b) : Pl e1 s1 e2 s2 a b tS zS B w0 w' eA none vA (some v) S :=
 (h.swap.callA hb ho).swap
theorem Pl.fin {e1 s1 e2 s2 : Nat} {a b : List (List Value)} {tS : TypeId} {zS zS' : Array Value} {B : Nat} {w0 w : World} {vA vB : Option Value} {k : Nat} (h : Pl e1 s1 e2 s2 a b tS zS B w0 w none none vA vB none) (hk : k = w.heap.size) : Pl e1 s1 e2 s2 a b tS zS' B w0 (w.alloc (.cells zS' tS)) none none vA vB (some k) := by
 have h2 : Pl e1 s1 e2 s2 a b tS zS' B w0 w none none vA vB none := ⟨h.bel, h.le, h.ea, h.eb, h.va, h.vb, fun k hk => (by cases hk), h.sep⟩
 exact Pl.newS' hk h2
theorem Pl.fin2 {e1 s1 e2 s2 : Nat} {a b : List (List Value)} {tS : TypeId} {z0 z1 u0 u1 : Value} {B : Nat} {w0 w : World} {eA eB : Option Nat} {vA vB : Option Value} {k : Nat} (h : Pl e1 s1 e2 s2 a b tS #[z0, z1] B w0 w eA eB vA vB (some k)) : Pl e1 s1 e2 s2 a b tS #[u0, u1] B w0 ((w.setCell ⟨k, 0, none⟩ u0).setCell ⟨k, 1, none⟩ u1) eA eB vA vB (some k) :=
 (h.set (j := 0) rfl u0).set (j := 1) rfl u1
theorem size_alloc (w : World) (o : Obj) : (w.alloc o).heap.size = w.heap.size + 1 := by simp
theorem heap_drew (w : World) : w.drew.heap = w.heap := rfl
theorem bel_alloc {a w : World} (h : Below a.heap.size a w) (o : Obj) : Below a.heap.size a (w.alloc o) := h.alloc h.size o
end Go.Proofs.YtopoefcklipaeaaGreatDoor
namespace Go.Proofs.YtopoefcklipaeaaGreatDoor
open Go.RowKit
structure Pw where
 g : Int
 p : Int
 v : Nat
 d : Blk
def Pw.cells (m : Pw) : List Value := [.int .i64 m.g, .int .i64 m.p, .int .u64 m.v, .int .u8 m.d.b0, .int .u8 m.d.b1, .int .u8 m.d.b2, .int .u8 m.d.b3, .int .u8 m.d.b4, .int .u8 m.d.b5, .int .u8 m.d.b6, .int .u8 m.d.b7]
def Pw.agg (m : Pw) : Value := .agg #[.int .i64 m.g, .int .i64 m.p, .int .u64 m.v, .int .u8 m.d.b0, .int .u8 m.d.b1, .int .u8 m.d.b2, .int .u8 m.d.b3, .int .u8 m.d.b4, .int .u8 m.d.b5, .int .u8 m.d.b6, .int .u8 m.d.b7]
def setL (L : Leaf) (g p v : Nat) (d : Blk) : Leaf := ⟨L.vs.set p v, L.ss.set p (sumN g p v d)⟩
theorem three_laid (w : World) (A C D : Obj) : ∃ w1, ((w.alloc A).alloc C).alloc D = w1 ∧ w1.heap[w.heap.size]? = some A ∧ w1.heap[w.heap.size + 1]? = some C ∧ w1.heap[w.heap.size + 1 + 1]? = some D ∧ Below w.heap.size w w1 ∧ w1.heap.size = w.heap.size + 3 := by
 obtain ⟨w1, rfl, h1, h2, hb, hz⟩ := two_laid w A C
 refine ⟨_, rfl, ?_, ?_, ?_, hb.alloc (by omega) _, by rw [show ((w.alloc A).alloc C |>.alloc D).heap.size = ((w.alloc A).alloc C).heap.size + 1 by simp, hz]⟩
 ·rw [Below.heap_alloc _ _ _ (by omega)]; exact h1
 ·rw [Below.heap_alloc _ _ _ (by omega)]; exact h2
 ·have := heap_alloc_new ((w.alloc A).alloc C) D
  rw [hz] at this
  simpa using this
end Go.Proofs.YtopoefcklipaeaaGreatDoor
namespace Go.Proofs.YtopoefcklipaeaaGreatDoor
open Go.RowKit
set_option maxHeartbeats 1000000 in
set_option maxRecDepth 100000 in
theorem pset {L : Leaf} {lv : Value} {B : Nat} (g p v : Nat) (d : Blk) (w : World) (h : LfV w B lv L) (hB : B ≤ w.heap.size) (hn : L.ss.length = L.vs.length) (hp : p < L.vs.length) (hlen : L.vs.length ≤ 1000) (hd : d.ok) (hg : g < 1000000) :
  Calls Tryz.prog 73 #[lv, (⟨(g : Int), (p : Int), v, d⟩ : Pw).agg] w fun r w' => (∃ v', r = .returned (.tuple #[v', .int .i64 0]) ∧ LfV w' w'.heap.size v' (setL L g p v d) ∧ LfF w.heap.size v') ∧ Below w.heap.size w w' := by
 obtain ⟨A, c, A', c', rfl, hV, hS, hc, hc'⟩ := h
 obtain ⟨vs, ss⟩ := L
 simp only at hV hS hc hc' hn hp hlen ⊢
 obtain ⟨ba, oa, rfl, hba, -⟩ := hV.2 (by simp; omega)
 obtain ⟨bb, ob, rfl, hbb, -⟩ := hS.2 (by simp; omega)
 rw [hn] at hc' ⊢
 have HV := Lib.hid hV
 have HS := Lib.hid hS
 have HN := Lib.hid hn
 obtain ⟨n, hnn⟩ : ∃ n, vs.length = n := ⟨_, rfl⟩
 rw [hnn] at hc hc' hp hlen HN ⊢
 have HNV := Lib.hid hnn
 have HSUM := Lib.hid (fun (W : World) => psum g p v d W hd hg (by omega))
 have HSE : Hid (setL ⟨vs, ss⟩ g p v d = ⟨vs.set p v, ss.set p (sumN g p v d)⟩) := rfl
 obtain ⟨sn, hsn⟩ : ∃ sn, sumN g p v d = sn := ⟨_, rfl⟩
 rw [hsn] at HSE
 simp only [hsn] at HSUM
 obtain ⟨SL, hSL⟩ : ∃ SL, setL ⟨vs, ss⟩ g p v d = SL := ⟨_, rfl⟩
 rw [hSL] at HSE ⊢
 clear hn hnn hsn hSL hV hS
 obtain ⟨b0, b1, b2, b3, b4, b5, b6, b7⟩ := d
 simp only [Blk.agg] at HSUM
 simp only [Pw.agg]
 have hp0 : decide ((p : Int) < 0) = false := decide_eq_false (by omega)
 have hpn : decide ((n : Int) ≤ (p : Int)) = false := decide_eq_false (by omega)
 have hcI : n ≤ c := hc
 have hcI' : n ≤ c' := hc'
 go_enter Tryz.func73, Tryz.ntmps73
 go_upto_region 1 with (fail)
 obtain ⟨w1, hw1, ha, hb, hcc, hbel, hz⟩ := three_laid w (.cells #[.slice (some ⟨ba, oa, none⟩) n c, .slice (some ⟨bb, ob, none⟩) n c'] 58) (.cells #[.int .i64 g, .int .i64 p, .int .u64 v, .int .u8 b0, .int .u8 b1, .int .u8 b2, .int .u8 b3, .int .u8 b4, .int .u8 b5, .int .u8 b6, .int .u8 b7] 190) (.cells #[.slice none 0 0, .slice none 0 0] 58)
 rw [hw1]
 have HA := Lib.hid ha
 have HC := Lib.hid hb
 have HR := Lib.hid hcc
 have HBE := Lib.hid hbel
 have l0 : w1.cell? ⟨w.heap.size, 0, none⟩ = some (.slice (some ⟨ba, oa, none⟩) n c) := by rw [cell_of_row _ _ _ _ _ _ ha]; rfl
 have l1 : w1.cell? ⟨w.heap.size, 1, none⟩ = some (.slice (some ⟨bb, ob, none⟩) n c') := by rw [cell_of_row _ _ _ _ _ _ ha]; rfl
 clear ha hb hcc hbel hw1
 go_wp2_with fail
 refine (pieces_any w1).mono ?_
 rintro r w2 ⟨rfl, hb2⟩
 have HB2 := Lib.hid (HBE.out.trans (hb2.mono (by omega)))
 have hz2 : w.heap.size + 3 ≤ w2.heap.size := Nat.le_trans (Nat.le_of_eq hz.symm) hb2.size
 have HA2 := Lib.hid ((hb2.block _ (by omega)).trans HA.out)
 have HC2 := Lib.hid ((hb2.block _ (by omega)).trans HC.out)
 have HR2 := Lib.hid ((hb2.block _ (by omega)).trans HR.out)
 clear hb2 HA HC HR HBE hz l0 l1
 have q1 : w2.cell? ⟨w.heap.size + 1, 1, none⟩ = some (.int .i64 p) := by rw [cell_of_row _ _ _ _ _ _ HC2.out]; rfl
 go_upto_region 4 with (fail)
 clear q1
 have HX4 : Hid (∀ W, Below w2.heap.size w2 W → (W.cell? ⟨w.heap.size, 0, none⟩ = some (.slice (some ⟨ba, oa, none⟩) n c) ∧ W.cell? ⟨w.heap.size, 1, none⟩ = some (.slice (some ⟨bb, ob, none⟩) n c'))) := fun W hW => by
  have hh := (hW.block _ (by omega)).trans HA2.out
  exact ⟨by rw [cell_of_row _ _ _ _ _ _ hh]; rfl, by rw [cell_of_row _ _ _ _ _ _ hh]; rfl⟩
 have HRA : Hid (∀ W, Below w2.heap.size w2 W → Calls Tryz.prog 77 #[.slice (some ⟨ba, oa, none⟩) n c] W fun r w' => (∃ v, r = .returned v ∧ OwS w' W.heap.size 38 1 v (vs.map u64C)) ∧ Below W.heap.size W w') := fun W hW => by
  have h0 := clone_u64 (c := c) W ((HV.out.below' HB2.out hB).below' hW (by omega)) (Nat.le_trans hB (Nat.le_trans HB2.out.size hW.size)) (by have := HNV.out; omega)
  rw [HNV.out] at h0
  exact h0
 have HRB : Hid (∀ W, Below w2.heap.size w2 W → Calls Tryz.prog 77 #[.slice (some ⟨bb, ob, none⟩) n c'] W fun r w' => (∃ v, r = .returned v ∧ OwS w' W.heap.size 38 1 v (ss.map u64C)) ∧ Below W.heap.size W w') := fun W hW => by
  have h0 := clone_u64 (c := c') W ((HS.out.below' HB2.out hB).below' hW (by omega)) (Nat.le_trans hB (Nat.le_trans HB2.out.size hW.size)) (by have := HN.out; omega)
  rw [HN.out] at h0
  exact h0
 have HP0 : Hid (Pl 38 1 38 1 (vs.map u64C) (ss.map u64C) 58 #[.slice none 0 0, .slice none 0 0] w2.heap.size w2 w2 none none none none none) := Pl.start (Below.refl _ _) (Nat.le_refl _)
 have hq0 := HP0.out
 have hbel := hq0.bel
 go_cut [7] (fun s7 wx => ∃ S va vb, s7 = .pointer (some ⟨S, 0, none⟩) ∧ Pl 38 1 38 1 (vs.map u64C) (ss.map u64C) 58 #[va, vb] w2.heap.size w2 wx none none (some va) (some vb) (some S))
 case first =>
  go_region_held3 (fun W => W.cell? ⟨w.heap.size, 0, none⟩ = some (.slice (some ⟨ba, oa, none⟩) n c) ∧ W.cell? ⟨w.heap.size, 1, none⟩ = some (.slice (some ⟨bb, ob, none⟩) n c'))
   (exact HX4.out _ (by (repeat' (first | assumption | (with_reducible refine Below.drew ?_) | (with_reducible refine bel_alloc ?_ _) | (with_reducible refine Below.setCell ?_ ?_ _) | (with_reducible exact Below.refl _ _) | (with_reducible exact Nat.le_refl _) | omega | (dsimp only; omega) | (simp; omega)))))
   (first
    | (go_at_call 77; first
      | ((with_reducible refine (HRA.out _ (by (repeat' (first | assumption | (with_reducible refine Below.drew ?_) | (with_reducible refine bel_alloc ?_ _) | (with_reducible refine Below.setCell ?_ ?_ _) | (with_reducible exact Below.refl _ _) | (with_reducible exact Nat.le_refl _) | omega | (dsimp only; omega) | (simp; omega))))).mono ?_); rintro r y5 ⟨⟨v5, rfl, ho5⟩, hb5⟩; have hp5 := Pl.callA (show Pl 38 1 38 1 (vs.map u64C) (ss.map u64C) 58 #[.slice none 0 0, .slice none 0 0] w2.heap.size w2 _ none _ none _ _ from by (first | assumption | (with_reducible exact Pl.newA' (by first | rfl | (simp; done) | fail) (by first | assumption | (with_reducible exact Pl.newB' (by first | rfl | (simp; done) | fail) (by first | assumption | (with_reducible exact Pl.newS' (by first | rfl | (simp; done) | fail) (by first | assumption | (with_reducible exact Pl.drew (by first | assumption | fail)) | fail)) | (with_reducible exact Pl.drew (by first | assumption | (with_reducible exact Pl.newS' (by first | rfl | (simp; done) | fail) (by first | assumption | (with_reducible exact Pl.drew (by first | assumption | fail)) | fail)) | fail)) | fail)) | (with_reducible exact Pl.newS' (by first | rfl | (simp; done) | fail) (by first | assumption | (with_reducible exact Pl.newB' (by first | rfl | (simp; done) | fail) (by first | assumption | (with_reducible exact Pl.drew (by first | assumption | fail)) | fail)) | (with_reducible exact Pl.drew (by first | assumption | (with_reducible exact Pl.newB' (by first | rfl | (simp; done) | fail) (by first | assumption | (with_reducible exact Pl.drew (by first | assumption | fail)) | fail)) | fail)) | fail)) | (with_reducible exact Pl.drew (by first | assumption | (with_reducible exact Pl.newB' (by first | rfl | (simp; done) | fail) (by first | assumption | (with_reducible exact Pl.newS' (by first | rfl | (simp; done) | fail) (by first | assumption | (with_reducible exact Pl.drew (by first | assumption | fail)) | fail)) | (with_reducible exact Pl.drew (by first | assumption | (with_reducible exact Pl.newS' (by first | rfl | (simp; done) | fail) (by first | assumption | (with_reducible exact Pl.drew (by first | assumption | fail)) | fail)) | fail)) | fail)) | (with_reducible exact Pl.newS' (by first | rfl | (simp; done) | fail) (by first | assumption | (with_reducible exact Pl.newB' (by first | rfl | (simp; done) | fail) (by first | assumption | (with_reducible exact Pl.drew (by first | assumption | fail)) | fail)) | (with_reducible exact Pl.drew (by first | assumption | (with_reducible exact Pl.newB' (by first | rfl | (simp; done) | fail) (by first | assumption | (with_reducible exact Pl.drew (by first | assumption | fail)) | fail)) | fail)) | fail)) | fail)) | fail)) | (with_reducible exact Pl.newB' (by first | rfl | (simp; done) | fail) (by first | assumption | (with_reducible exact Pl.newA' (by first | rfl | (simp; done) | fail) (by first | assumption | (with_reducible exact Pl.newS' (by first | rfl | (simp; done) | fail) (by first | assumption | (with_reducible exact Pl.drew (by first | assumption | fail)) | fail)) | (with_reducible exact Pl.drew (by first | assumption | (with_reducible exact Pl.newS' (by first | rfl | (simp; done) | fail) (by first | assumption | (with_reducible exact Pl.drew (by first | assumption | fail)) | fail)) | fail)) | fail)) | (with_reducible exact Pl.newS' (by first | rfl | (simp; done) | fail) (by first | assumption | (with_reducible exact Pl.newA' (by first | rfl | (simp; done) | fail) (by first | assumption | (with_reducible exact Pl.drew (by first | assumption | fail)) | fail)) | (with_reducible exact Pl.drew (by first | assumption | (with_reducible exact Pl.newA' (by first | rfl | (simp; done) | fail) (by first | assumption | (with_reducible exact Pl.drew (by first | assumption | fail)) | fail)) | fail)) | fail)) | (with_reducible exact Pl.drew (by first | assumption | (with_reducible exact Pl.newA' (by first | rfl | (simp; done) | fail) (by first | assumption | (with_reducible exact Pl.newS' (by first | rfl | (simp; done) | fail) (by first | assumption | (with_reducible exact Pl.drew (by first | assumption | fail)) | fail)) | (with_reducible exact Pl.drew (by first | assumption | (with_reducible exact Pl.newS' (by first | rfl | (simp; done) | fail) (by first | assumption | (with_reducible exact Pl.drew (by first | assumption | fail)) | fail)) | fail)) | fail)) | (with_reducible exact Pl.newS' (by first | rfl | (simp; done) | fail) (by first | assumption | (with_reducible exact Pl.newA' (by first | rfl | (simp; done) | fail) (by first | assumption | (with_reducible exact Pl.drew (by first | assumption | fail)) | fail)) | (with_reducible exact Pl.drew (by first | assumption | (with_reducible exact Pl.newA' (by first | rfl | (simp; done) | fail) (by first | assumption | (with_reducible exact Pl.drew (by first | assumption | fail)) | fail)) | fail)) | fail)) | fail)) | fail)) | (with_reducible exact Pl.newS' (by first | rfl | (simp; done) | fail) (by first | assumption | (with_reducible exact Pl.newA' (by first | rfl | (simp; done) | fail) (by first | assumption | (with_reducible exact Pl.newB' (by first | rfl | (simp; done) | fail) (by first | assumption | (with_reducible exact Pl.drew (by first | assumption | fail)) | fail)) | (with_reducible exact Pl.drew (by first | assumption | (with_reducible exact Pl.newB' (by first | rfl | (simp; done) | fail) (by first | assumption | (with_reducible exact Pl.drew (by first | assumption | fail)) | fail)) | fail)) | fail)) | (with_reducible exact Pl.newB' (by first | rfl | (simp; done) | fail) (by first | assumption | (with_reducible exact Pl.newA' (by first | rfl | (simp; done) | fail) (by first | assumption | (with_reducible exact Pl.drew (by first | assumption | fail)) | fail)) | (with_reducible exact Pl.drew (by first | assumption | (with_reducible exact Pl.newA' (by first | rfl | (simp; done) | fail) (by first | assumption | (with_reducible exact Pl.drew (by first | assumption | fail)) | fail)) | fail)) | fail)) | (with_reducible exact Pl.drew (by first | assumption | (with_reducible exact Pl.newA' (by first | rfl | (simp; done) | fail) (by first | assumption | (with_reducible exact Pl.newB' (by first | rfl | (simp; done) | fail) (by first | assumption | (with_reducible exact Pl.drew (by first | assumption | fail)) | fail)) | (with_reducible exact Pl.drew (by first | assumption | (with_reducible exact Pl.newB' (by first | rfl | (simp; done) | fail) (by first | assumption | (with_reducible exact Pl.drew (by first | assumption | fail)) | fail)) | fail)) | fail)) | (with_reducible exact Pl.newB' (by first | rfl | (simp; done) | fail) (by first | assumption | (with_reducible exact Pl.newA' (by first | rfl | (simp; done) | fail) (by first | assumption | (with_reducible exact Pl.drew (by first | assumption | fail)) | fail)) | (with_reducible exact Pl.drew (by first | assumption | (with_reducible exact Pl.newA' (by first | rfl | (simp; done) | fail) (by first | assumption | (with_reducible exact Pl.drew (by first | assumption | fail)) | fail)) | fail)) | fail)) | fail)) | fail)) | (with_reducible exact Pl.drew (by first | assumption | (with_reducible exact Pl.newA' (by first | rfl | (simp; done) | fail) (by first | assumption | (with_reducible exact Pl.newB' (by first | rfl | (simp; done) | fail) (by first | assumption | (with_reducible exact Pl.newS' (by first | rfl | (simp; done) | fail) (by first | assumption | (with_reducible exact Pl.drew (by first | assumption | fail)) | fail)) | (with_reducible exact Pl.drew (by first | assumption | (with_reducible exact Pl.newS' (by first | rfl | (simp; done) | fail) (by first | assumption | (with_reducible exact Pl.drew (by first | assumption | fail)) | fail)) | fail)) | fail)) | (with_reducible exact Pl.newS' (by first | rfl | (simp; done) | fail) (by first | assumption | (with_reducible exact Pl.newB' (by first | rfl | (simp; done) | fail) (by first | assumption | (with_reducible exact Pl.drew (by first | assumption | fail)) | fail)) | (with_reducible exact Pl.drew (by first | assumption | (with_reducible exact Pl.newB' (by first | rfl | (simp; done) | fail) (by first | assumption | (with_reducible exact Pl.drew (by first | assumption | fail)) | fail)) | fail)) | fail)) | (with_reducible exact Pl.drew (by first | assumption | (with_reducible exact Pl.newB' (by first | rfl | (simp; done) | fail) (by first | assumption | (with_reducible exact Pl.newS' (by first | rfl | (simp; done) | fail) (by first | assumption | (with_reducible exact Pl.drew (by first | assumption | fail)) | fail)) | (with_reducible exact Pl.drew (by first | assumption | (with_reducible exact Pl.newS' (by first | rfl | (simp; done) | fail) (by first | assumption | (with_reducible exact Pl.drew (by first | assumption | fail)) | fail)) | fail)) | fail)) | (with_reducible exact Pl.newS' (by first | rfl | (simp; done) | fail) (by first | assumption | (with_reducible exact Pl.newB' (by first | rfl | (simp; done) | fail) (by first | assumption | (with_reducible exact Pl.drew (by first | assumption | fail)) | fail)) | (with_reducible exact Pl.drew (by first | assumption | (with_reducible exact Pl.newB' (by first | rfl | (simp; done) | fail) (by first | assumption | (with_reducible exact Pl.drew (by first | assumption | fail)) | fail)) | fail)) | fail)) | fail)) | fail)) | (with_reducible exact Pl.newB' (by first | rfl | (simp; done) | fail) (by first | assumption | (with_reducible exact Pl.newA' (by first | rfl | (simp; done) | fail) (by first | assumption | (with_reducible exact Pl.newS' (by first | rfl | (simp; done) | fail) (by first | assumption | (with_reducible exact Pl.drew (by first | assumption | fail)) | fail)) | (with_reducible exact Pl.drew (by first | assumption | (with_reducible exact Pl.newS' (by first | rfl | (simp; done) | fail) (by first | assumption | (with_reducible exact Pl.drew (by first | assumption | fail)) | fail)) | fail)) | fail)) | (with_reducible exact Pl.newS' (by first | rfl | (simp; done) | fail) (by first | assumption | (with_reducible exact Pl.newA' (by first | rfl | (simp; done) | fail) (by first | assumption | (with_reducible exact Pl.drew (by first | assumption | fail)) | fail)) | (with_reducible exact Pl.drew (by first | assumption | (with_reducible exact Pl.newA' (by first | rfl | (simp; done) | fail) (by first | assumption | (with_reducible exact Pl.drew (by first | assumption | fail)) | fail)) | fail)) | fail)) | (with_reducible exact Pl.drew (by first | assumption | (with_reducible exact Pl.newA' (by first | rfl | (simp; done) | fail) (by first | assumption | (with_reducible exact Pl.newS' (by first | rfl | (simp; done) | fail) (by first | assumption | (with_reducible exact Pl.drew (by first | assumption | fail)) | fail)) | (with_reducible exact Pl.drew (by first | assumption | (with_reducible exact Pl.newS' (by first | rfl | (simp; done) | fail) (by first | assumption | (with_reducible exact Pl.drew (by first | assumption | fail)) | fail)) | fail)) | fail)) | (with_reducible exact Pl.newS' (by first | rfl | (simp; done) | fail) (by first | assumption | (with_reducible exact Pl.newA' (by first | rfl | (simp; done) | fail) (by first | assumption | (with_reducible exact Pl.drew (by first | assumption | fail)) | fail)) | (with_reducible exact Pl.drew (by first | assumption | (with_reducible exact Pl.newA' (by first | rfl | (simp; done) | fail) (by first | assumption | (with_reducible exact Pl.drew (by first | assumption | fail)) | fail)) | fail)) | fail)) | fail)) | fail)) | (with_reducible exact Pl.newS' (by first | rfl | (simp; done) | fail) (by first | assumption | (with_reducible exact Pl.newA' (by first | rfl | (simp; done) | fail) (by first | assumption | (with_reducible exact Pl.newB' (by first | rfl | (simp; done) | fail) (by first | assumption | (with_reducible exact Pl.drew (by first | assumption | fail)) | fail)) | (with_reducible exact Pl.drew (by first | assumption | (with_reducible exact Pl.newB' (by first | rfl | (simp; done) | fail) (by first | assumption | (with_reducible exact Pl.drew (by first | assumption | fail)) | fail)) | fail)) | fail)) | (with_reducible exact Pl.newB' (by first | rfl | (simp; done) | fail) (by first | assumption | (with_reducible exact Pl.newA' (by first | rfl | (simp; done) | fail) (by first | assumption | (with_reducible exact Pl.drew (by first | assumption | fail)) | fail)) | (with_reducible exact Pl.drew (by first | assumption | (with_reducible exact Pl.newA' (by first | rfl | (simp; done) | fail) (by first | assumption | (with_reducible exact Pl.drew (by first | assumption | fail)) | fail)) | fail)) | fail)) | (with_reducible exact Pl.drew (by first | assumption | (with_reducible exact Pl.newA' (by first | rfl | (simp; done) | fail) (by first | assumption | (with_reducible exact Pl.newB' (by first | rfl | (simp; done) | fail) (by first | assumption | (with_reducible exact Pl.drew (by first | assumption | fail)) | fail)) | (with_reducible exact Pl.drew (by first | assumption | (with_reducible exact Pl.newB' (by first | rfl | (simp; done) | fail) (by first | assumption | (with_reducible exact Pl.drew (by first | assumption | fail)) | fail)) | fail)) | fail)) | (with_reducible exact Pl.newB' (by first | rfl | (simp; done) | fail) (by first | assumption | (with_reducible exact Pl.newA' (by first | rfl | (simp; done) | fail) (by first | assumption | (with_reducible exact Pl.drew (by first | assumption | fail)) | fail)) | (with_reducible exact Pl.drew (by first | assumption | (with_reducible exact Pl.newA' (by first | rfl | (simp; done) | fail) (by first | assumption | (with_reducible exact Pl.drew (by first | assumption | fail)) | fail)) | fail)) | fail)) | fail)) | fail)) | fail)) | fail)) hb5 ho5; obtain ⟨A5, n5, c5, rfl⟩ := ho5.sl; (try simp only [size_alloc, heap_drew] at hp5); have hbel5 := hp5.bel; have hz5 := hp5.le; try (obtain ⟨z0, z1, f0, f1⟩ := hp5.box2 rfl))
      | ((with_reducible refine (HRB.out _ (by (repeat' (first | assumption | (with_reducible refine Below.drew ?_) | (with_reducible refine bel_alloc ?_ _) | (with_reducible refine Below.setCell ?_ ?_ _) | (with_reducible exact Below.refl _ _) | (with_reducible exact Nat.le_refl _) | omega | (dsimp only; omega) | (simp; omega))))).mono ?_); rintro r y6 ⟨⟨v6, rfl, ho6⟩, hb6⟩; have hp6 := Pl.callB (show Pl 38 1 38 1 (vs.map u64C) (ss.map u64C) 58 #[.slice none 0 0, .slice none 0 0] w2.heap.size w2 _ _ none _ none _ from by (first | assumption | (with_reducible exact Pl.newB' (by first | rfl | (simp; done) | fail) (by first | assumption | (with_reducible exact Pl.newA' (by first | rfl | (simp; done) | fail) (by first | assumption | (with_reducible exact Pl.newS' (by first | rfl | (simp; done) | fail) (by first | assumption | (with_reducible exact Pl.drew (by first | assumption | fail)) | fail)) | (with_reducible exact Pl.drew (by first | assumption | (with_reducible exact Pl.newS' (by first | rfl | (simp; done) | fail) (by first | assumption | (with_reducible exact Pl.drew (by first | assumption | fail)) | fail)) | fail)) | fail)) | (with_reducible exact Pl.newS' (by first | rfl | (simp; done) | fail) (by first | assumption | (with_reducible exact Pl.newA' (by first | rfl | (simp; done) | fail) (by first | assumption | (with_reducible exact Pl.drew (by first | assumption | fail)) | fail)) | (with_reducible exact Pl.drew (by first | assumption | (with_reducible exact Pl.newA' (by first | rfl | (simp; done) | fail) (by first | assumption | (with_reducible exact Pl.drew (by first | assumption | fail)) | fail)) | fail)) | fail)) | (with_reducible exact Pl.drew (by first | assumption | (with_reducible exact Pl.newA' (by first | rfl | (simp; done) | fail) (by first | assumption | (with_reducible exact Pl.newS' (by first | rfl | (simp; done) | fail) (by first | assumption | (with_reducible exact Pl.drew (by first | assumption | fail)) | fail)) | (with_reducible exact Pl.drew (by first | assumption | (with_reducible exact Pl.newS' (by first | rfl | (simp; done) | fail) (by first | assumption | (with_reducible exact Pl.drew (by first | assumption | fail)) | fail)) | fail)) | fail)) | (with_reducible exact Pl.newS' (by first | rfl | (simp; done) | fail) (by first | assumption | (with_reducible exact Pl.newA' (by first | rfl | (simp; done) | fail) (by first | assumption | (with_reducible exact Pl.drew (by first | assumption | fail)) | fail)) | (with_reducible exact Pl.drew (by first | assumption | (with_reducible exact Pl.newA' (by first | rfl | (simp; done) | fail) (by first | assumption | (with_reducible exact Pl.drew (by first | assumption | fail)) | fail)) | fail)) | fail)) | fail)) | fail)) | (with_reducible exact Pl.newA' (by first | rfl | (simp; done) | fail) (by first | assumption | (with_reducible exact Pl.newB' (by first | rfl | (simp; done) | fail) (by first | assumption | (with_reducible exact Pl.newS' (by first | rfl | (simp; done) | fail) (by first | assumption | (with_reducible exact Pl.drew (by first | assumption | fail)) | fail)) | (with_reducible exact Pl.drew (by first | assumption | (with_reducible exact Pl.newS' (by first | rfl | (simp; done) | fail) (by first | assumption | (with_reducible exact Pl.drew (by first | assumption | fail)) | fail)) | fail)) | fail)) | (with_reducible exact Pl.newS' (by first | rfl | (simp; done) | fail) (by first | assumption | (with_reducible exact Pl.newB' (by first | rfl | (simp; done) | fail) (by first | assumption | (with_reducible exact Pl.drew (by first | assumption | fail)) | fail)) | (with_reducible exact Pl.drew (by first | assumption | (with_reducible exact Pl.newB' (by first | rfl | (simp; done) | fail) (by first | assumption | (with_reducible exact Pl.drew (by first | assumption | fail)) | fail)) | fail)) | fail)) | (with_reducible exact Pl.drew (by first | assumption | (with_reducible exact Pl.newB' (by first | rfl | (simp; done) | fail) (by first | assumption | (with_reducible exact Pl.newS' (by first | rfl | (simp; done) | fail) (by first | assumption | (with_reducible exact Pl.drew (by first | assumption | fail)) | fail)) | (with_reducible exact Pl.drew (by first | assumption | (with_reducible exact Pl.newS' (by first | rfl | (simp; done) | fail) (by first | assumption | (with_reducible exact Pl.drew (by first | assumption | fail)) | fail)) | fail)) | fail)) | (with_reducible exact Pl.newS' (by first | rfl | (simp; done) | fail) (by first | assumption | (with_reducible exact Pl.newB' (by first | rfl | (simp; done) | fail) (by first | assumption | (with_reducible exact Pl.drew (by first | assumption | fail)) | fail)) | (with_reducible exact Pl.drew (by first | assumption | (with_reducible exact Pl.newB' (by first | rfl | (simp; done) | fail) (by first | assumption | (with_reducible exact Pl.drew (by first | assumption | fail)) | fail)) | fail)) | fail)) | fail)) | fail)) | (with_reducible exact Pl.newS' (by first | rfl | (simp; done) | fail) (by first | assumption | (with_reducible exact Pl.newB' (by first | rfl | (simp; done) | fail) (by first | assumption | (with_reducible exact Pl.newA' (by first | rfl | (simp; done) | fail) (by first | assumption | (with_reducible exact Pl.drew (by first | assumption | fail)) | fail)) | (with_reducible exact Pl.drew (by first | assumption | (with_reducible exact Pl.newA' (by first | rfl | (simp; done) | fail) (by first | assumption | (with_reducible exact Pl.drew (by first | assumption | fail)) | fail)) | fail)) | fail)) | (with_reducible exact Pl.newA' (by first | rfl | (simp; done) | fail) (by first | assumption | (with_reducible exact Pl.newB' (by first | rfl | (simp; done) | fail) (by first | assumption | (with_reducible exact Pl.drew (by first | assumption | fail)) | fail)) | (with_reducible exact Pl.drew (by first | assumption | (with_reducible exact Pl.newB' (by first | rfl | (simp; done) | fail) (by first | assumption | (with_reducible exact Pl.drew (by first | assumption | fail)) | fail)) | fail)) | fail)) | (with_reducible exact Pl.drew (by first | assumption | (with_reducible exact Pl.newB' (by first | rfl | (simp; done) | fail) (by first | assumption | (with_reducible exact Pl.newA' (by first | rfl | (simp; done) | fail) (by first | assumption | (with_reducible exact Pl.drew (by first | assumption | fail)) | fail)) | (with_reducible exact Pl.drew (by first | assumption | (with_reducible exact Pl.newA' (by first | rfl | (simp; done) | fail) (by first | assumption | (with_reducible exact Pl.drew (by first | assumption | fail)) | fail)) | fail)) | fail)) | (with_reducible exact Pl.newA' (by first | rfl | (simp; done) | fail) (by first | assumption | (with_reducible exact Pl.newB' (by first | rfl | (simp; done) | fail) (by first | assumption | (with_reducible exact Pl.drew (by first | assumption | fail)) | fail)) | (with_reducible exact Pl.drew (by first | assumption | (with_reducible exact Pl.newB' (by first | rfl | (simp; done) | fail) (by first | assumption | (with_reducible exact Pl.drew (by first | assumption | fail)) | fail)) | fail)) | fail)) | fail)) | fail)) | (with_reducible exact Pl.drew (by first | assumption | (with_reducible exact Pl.newB' (by first | rfl | (simp; done) | fail) (by first | assumption | (with_reducible exact Pl.newA' (by first | rfl | (simp; done) | fail) (by first | assumption | (with_reducible exact Pl.newS' (by first | rfl | (simp; done) | fail) (by first | assumption | (with_reducible exact Pl.drew (by first | assumption | fail)) | fail)) | (with_reducible exact Pl.drew (by first | assumption | (with_reducible exact Pl.newS' (by first | rfl | (simp; done) | fail) (by first | assumption | (with_reducible exact Pl.drew (by first | assumption | fail)) | fail)) | fail)) | fail)) | (with_reducible exact Pl.newS' (by first | rfl | (simp; done) | fail) (by first | assumption | (with_reducible exact Pl.newA' (by first | rfl | (simp; done) | fail) (by first | assumption | (with_reducible exact Pl.drew (by first | assumption | fail)) | fail)) | (with_reducible exact Pl.drew (by first | assumption | (with_reducible exact Pl.newA' (by first | rfl | (simp; done) | fail) (by first | assumption | (with_reducible exact Pl.drew (by first | assumption | fail)) | fail)) | fail)) | fail)) | (with_reducible exact Pl.drew (by first | assumption | (with_reducible exact Pl.newA' (by first | rfl | (simp; done) | fail) (by first | assumption | (with_reducible exact Pl.newS' (by first | rfl | (simp; done) | fail) (by first | assumption | (with_reducible exact Pl.drew (by first | assumption | fail)) | fail)) | (with_reducible exact Pl.drew (by first | assumption | (with_reducible exact Pl.newS' (by first | rfl | (simp; done) | fail) (by first | assumption | (with_reducible exact Pl.drew (by first | assumption | fail)) | fail)) | fail)) | fail)) | (with_reducible exact Pl.newS' (by first | rfl | (simp; done) | fail) (by first | assumption | (with_reducible exact Pl.newA' (by first | rfl | (simp; done) | fail) (by first | assumption | (with_reducible exact Pl.drew (by first | assumption | fail)) | fail)) | (with_reducible exact Pl.drew (by first | assumption | (with_reducible exact Pl.newA' (by first | rfl | (simp; done) | fail) (by first | assumption | (with_reducible exact Pl.drew (by first | assumption | fail)) | fail)) | fail)) | fail)) | fail)) | fail)) | (with_reducible exact Pl.newA' (by first | rfl | (simp; done) | fail) (by first | assumption | (with_reducible exact Pl.newB' (by first | rfl | (simp; done) | fail) (by first | assumption | (with_reducible exact Pl.newS' (by first | rfl | (simp; done) | fail) (by first | assumption | (with_reducible exact Pl.drew (by first | assumption | fail)) | fail)) | (with_reducible exact Pl.drew (by first | assumption | (with_reducible exact Pl.newS' (by first | rfl | (simp; done) | fail) (by first | assumption | (with_reducible exact Pl.drew (by first | assumption | fail)) | fail)) | fail)) | fail)) | (with_reducible exact Pl.newS' (by first | rfl | (simp; done) | fail) (by first | assumption | (with_reducible exact Pl.newB' (by first | rfl | (simp; done) | fail) (by first | assumption | (with_reducible exact Pl.drew (by first | assumption | fail)) | fail)) | (with_reducible exact Pl.drew (by first | assumption | (with_reducible exact Pl.newB' (by first | rfl | (simp; done) | fail) (by first | assumption | (with_reducible exact Pl.drew (by first | assumption | fail)) | fail)) | fail)) | fail)) | (with_reducible exact Pl.drew (by first | assumption | (with_reducible exact Pl.newB' (by first | rfl | (simp; done) | fail) (by first | assumption | (with_reducible exact Pl.newS' (by first | rfl | (simp; done) | fail) (by first | assumption | (with_reducible exact Pl.drew (by first | assumption | fail)) | fail)) | (with_reducible exact Pl.drew (by first | assumption | (with_reducible exact Pl.newS' (by first | rfl | (simp; done) | fail) (by first | assumption | (with_reducible exact Pl.drew (by first | assumption | fail)) | fail)) | fail)) | fail)) | (with_reducible exact Pl.newS' (by first | rfl | (simp; done) | fail) (by first | assumption | (with_reducible exact Pl.newB' (by first | rfl | (simp; done) | fail) (by first | assumption | (with_reducible exact Pl.drew (by first | assumption | fail)) | fail)) | (with_reducible exact Pl.drew (by first | assumption | (with_reducible exact Pl.newB' (by first | rfl | (simp; done) | fail) (by first | assumption | (with_reducible exact Pl.drew (by first | assumption | fail)) | fail)) | fail)) | fail)) | fail)) | fail)) | (with_reducible exact Pl.newS' (by first | rfl | (simp; done) | fail) (by first | assumption | (with_reducible exact Pl.newB' (by first | rfl | (simp; done) | fail) (by first | assumption | (with_reducible exact Pl.newA' (by first | rfl | (simp; done) | fail) (by first | assumption | (with_reducible exact Pl.drew (by first | assumption | fail)) | fail)) | (with_reducible exact Pl.drew (by first | assumption | (with_reducible exact Pl.newA' (by first | rfl | (simp; done) | fail) (by first | assumption | (with_reducible exact Pl.drew (by first | assumption | fail)) | fail)) | fail)) | fail)) | (with_reducible exact Pl.newA' (by first | rfl | (simp; done) | fail) (by first | assumption | (with_reducible exact Pl.newB' (by first | rfl | (simp; done) | fail) (by first | assumption | (with_reducible exact Pl.drew (by first | assumption | fail)) | fail)) | (with_reducible exact Pl.drew (by first | assumption | (with_reducible exact Pl.newB' (by first | rfl | (simp; done) | fail) (by first | assumption | (with_reducible exact Pl.drew (by first | assumption | fail)) | fail)) | fail)) | fail)) | (with_reducible exact Pl.drew (by first | assumption | (with_reducible exact Pl.newB' (by first | rfl | (simp; done) | fail) (by first | assumption | (with_reducible exact Pl.newA' (by first | rfl | (simp; done) | fail) (by first | assumption | (with_reducible exact Pl.drew (by first | assumption | fail)) | fail)) | (with_reducible exact Pl.drew (by first | assumption | (with_reducible exact Pl.newA' (by first | rfl | (simp; done) | fail) (by first | assumption | (with_reducible exact Pl.drew (by first | assumption | fail)) | fail)) | fail)) | fail)) | (with_reducible exact Pl.newA' (by first | rfl | (simp; done) | fail) (by first | assumption | (with_reducible exact Pl.newB' (by first | rfl | (simp; done) | fail) (by first | assumption | (with_reducible exact Pl.drew (by first | assumption | fail)) | fail)) | (with_reducible exact Pl.drew (by first | assumption | (with_reducible exact Pl.newB' (by first | rfl | (simp; done) | fail) (by first | assumption | (with_reducible exact Pl.drew (by first | assumption | fail)) | fail)) | fail)) | fail)) | fail)) | fail)) | fail)) | fail)) hb6 ho6; obtain ⟨A6, n6, c6, rfl⟩ := ho6.sl; (try simp only [size_alloc, heap_drew] at hp6); have hbel6 := hp6.bel; have hz6 := hp6.le; try (obtain ⟨z0, z1, f0, f1⟩ := hp6.box2 rfl))
      | fail)
    | fail)
  all_goals
   go_wp2_with fail
   go_meet
   refine ⟨_, .slice A5 n5 c5, .slice A6 n6 c6, rfl, ?_⟩
   first
    | with_reducible exact hp6.fin2
    | with_reducible exact hp5.fin2
    | with_reducible exact hp6.fin rfl
    | with_reducible exact hp5.fin rfl
    | exact hp6.fin (by simp)
    | exact hp5.fin (by simp)
 obtain ⟨S, va, vb, rfl, hP⟩ := hcut
 have HP := Lib.hid hP
 clear hP hcI hcI' hc hc' HX4 HRA HRB HP0 hq0 hbel HA2
 have hvl : vs.length = n := HNV.out
 have hsl : ss.length = n := HN.out
 obtain ⟨ga, ca, rfl, hga, hga2⟩ := (HP.out.va _ rfl).pos (by simp; omega)
 obtain ⟨gb, cb, rfl, hgb, hgb2⟩ := (HP.out.vb _ rfl).pos (by simp; omega)
 have hsep := HP.out.sep
 unfold apartO at hsep
 simp only [List.pairwise_cons, List.mem_cons, List.not_mem_nil, or_false, forall_eq_or_imp, forall_eq] at hsep
 obtain ⟨-, -, ⟨h34, h35⟩, h45, -⟩ := hsep
 have nab : ga ≠ gb := h34.elim (fun e => by cases e) (fun e h => e (by rw [h]; rfl))
 have naS : ga ≠ S := h35.elim (fun e => by cases e) (fun e h => e (by rw [h]; rfl))
 have nbS : gb ≠ S := h45.elim (fun e => by cases e) (fun e h => e (by rw [h]; rfl))
 have hxv : (vs.map u64C)[p]? = some (u64C (vs[p]'(by omega))) := by rw [List.getElem?_map, List.getElem?_eq_getElem (by omega)]; rfl
 have hxs : (ss.map u64C)[p]? = some (u64C (ss[p]'(by omega))) := by rw [List.getElem?_map, List.getElem?_eq_getElem (by omega)]; rfl
 simp only [List.length_map, hvl, hsl] at HP
 have HOA : Hid (OwS wc w2.heap.size 38 1 (.slice (some ⟨ga, 0, none⟩) n ca) (vs.map u64C)) := HP.out.va _ rfl
 have HOB : Hid (OwS wc w2.heap.size 38 1 (.slice (some ⟨gb, 0, none⟩) n cb) (ss.map u64C)) := HP.out.vb _ rfl
 have HSX := Lib.hid (HP.out.bx S rfl)
 have HBC := Lib.hid HP.out.bel
 have HC5 := Lib.hid ((HBC.out.block _ (by omega)).trans HC2.out)
 have HR5 := Lib.hid ((HBC.out.block _ (by omega)).trans HR2.out)
 have hSlt : S < wc.heap.size := (Array.getElem?_eq_some_iff.1 HSX.out.1).1
 have hBz := HBC.out.size
 have hkS : ∀ k, (k = ga ∨ k = gb) → S ≠ k := fun k hk => hk.elim (fun e h => naS (by rw [← e, h])) (fun e h => nbS (by rw [← e, h]))
 have HX6 : Hid (∀ W : World, W.heap[S]? = wc.heap[S]? → W.heap[w.heap.size + 1]? = wc.heap[w.heap.size + 1]? → (W.cell? ⟨S, 0, none⟩ = some (.slice (some ⟨ga, 0, none⟩) n ca) ∧ W.cell? ⟨S, 1, none⟩ = some (.slice (some ⟨gb, 0, none⟩) n cb) ∧ W.cell? ⟨w.heap.size + 1, 0, none⟩ = some (.int .i64 (g : Int)) ∧ W.cell? ⟨w.heap.size + 1, 1, none⟩ = some (.int .i64 (p : Int)) ∧ W.cell? ⟨w.heap.size + 1, 2, none⟩ = some (.int .u64 (v : Int)) ∧ W.cell? ⟨w.heap.size + 1, 3, none⟩ = some (.int .u8 (b0 : Int)) ∧ W.cell? ⟨w.heap.size + 1, 4, none⟩ = some (.int .u8 (b1 : Int)) ∧ W.cell? ⟨w.heap.size + 1, 5, none⟩ = some (.int .u8 (b2 : Int)) ∧ W.cell? ⟨w.heap.size + 1, 6, none⟩ = some (.int .u8 (b3 : Int)) ∧ W.cell? ⟨w.heap.size + 1, 7, none⟩ = some (.int .u8 (b4 : Int)) ∧ W.cell? ⟨w.heap.size + 1, 8, none⟩ = some (.int .u8 (b5 : Int)) ∧ W.cell? ⟨w.heap.size + 1, 9, none⟩ = some (.int .u8 (b6 : Int)) ∧ W.cell? ⟨w.heap.size + 1, 10, none⟩ = some (.int .u8 (b7 : Int)))) := fun W h1' h2' => by
  have h1 := h1'.trans HSX.out.1
  have h2 := h2'.trans HC5.out
  exact ⟨by rw [cell_of_row _ _ _ _ _ _ h1]; rfl, by rw [cell_of_row _ _ _ _ _ _ h1]; rfl, by rw [cell_of_row _ _ _ _ _ _ h2]; rfl, by rw [cell_of_row _ _ _ _ _ _ h2]; rfl, by rw [cell_of_row _ _ _ _ _ _ h2]; rfl, by rw [cell_of_row _ _ _ _ _ _ h2]; rfl, by rw [cell_of_row _ _ _ _ _ _ h2]; rfl, by rw [cell_of_row _ _ _ _ _ _ h2]; rfl, by rw [cell_of_row _ _ _ _ _ _ h2]; rfl, by rw [cell_of_row _ _ _ _ _ _ h2]; rfl, by rw [cell_of_row _ _ _ _ _ _ h2]; rfl, by rw [cell_of_row _ _ _ _ _ _ h2]; rfl, by rw [cell_of_row _ _ _ _ _ _ h2]; rfl⟩
 have HXA : Hid (∀ W, Below wc.heap.size wc W → (W.cell? ⟨S, 0, none⟩ = some (.slice (some ⟨ga, 0, none⟩) n ca) ∧ W.cell? ⟨S, 1, none⟩ = some (.slice (some ⟨gb, 0, none⟩) n cb) ∧ W.cell? ⟨w.heap.size + 1, 0, none⟩ = some (.int .i64 (g : Int)) ∧ W.cell? ⟨w.heap.size + 1, 1, none⟩ = some (.int .i64 (p : Int)) ∧ W.cell? ⟨w.heap.size + 1, 2, none⟩ = some (.int .u64 (v : Int)) ∧ W.cell? ⟨w.heap.size + 1, 3, none⟩ = some (.int .u8 (b0 : Int)) ∧ W.cell? ⟨w.heap.size + 1, 4, none⟩ = some (.int .u8 (b1 : Int)) ∧ W.cell? ⟨w.heap.size + 1, 5, none⟩ = some (.int .u8 (b2 : Int)) ∧ W.cell? ⟨w.heap.size + 1, 6, none⟩ = some (.int .u8 (b3 : Int)) ∧ W.cell? ⟨w.heap.size + 1, 7, none⟩ = some (.int .u8 (b4 : Int)) ∧ W.cell? ⟨w.heap.size + 1, 8, none⟩ = some (.int .u8 (b5 : Int)) ∧ W.cell? ⟨w.heap.size + 1, 9, none⟩ = some (.int .u8 (b6 : Int)) ∧ W.cell? ⟨w.heap.size + 1, 10, none⟩ = some (.int .u8 (b7 : Int)))) := fun W hW => HX6.out W (hW.block _ hSlt) (hW.block _ (by omega))
 have HXB : Hid (∀ (W : World) (k : Nat) (u : Value), Below wc.heap.size wc W → (k = ga ∨ k = gb) → ((W.setCell ⟨k, p, none⟩ u).cell? ⟨S, 0, none⟩ = some (.slice (some ⟨ga, 0, none⟩) n ca) ∧ (W.setCell ⟨k, p, none⟩ u).cell? ⟨S, 1, none⟩ = some (.slice (some ⟨gb, 0, none⟩) n cb) ∧ (W.setCell ⟨k, p, none⟩ u).cell? ⟨w.heap.size + 1, 0, none⟩ = some (.int .i64 (g : Int)) ∧ (W.setCell ⟨k, p, none⟩ u).cell? ⟨w.heap.size + 1, 1, none⟩ = some (.int .i64 (p : Int)) ∧ (W.setCell ⟨k, p, none⟩ u).cell? ⟨w.heap.size + 1, 2, none⟩ = some (.int .u64 (v : Int)) ∧ (W.setCell ⟨k, p, none⟩ u).cell? ⟨w.heap.size + 1, 3, none⟩ = some (.int .u8 (b0 : Int)) ∧ (W.setCell ⟨k, p, none⟩ u).cell? ⟨w.heap.size + 1, 4, none⟩ = some (.int .u8 (b1 : Int)) ∧ (W.setCell ⟨k, p, none⟩ u).cell? ⟨w.heap.size + 1, 5, none⟩ = some (.int .u8 (b2 : Int)) ∧ (W.setCell ⟨k, p, none⟩ u).cell? ⟨w.heap.size + 1, 6, none⟩ = some (.int .u8 (b3 : Int)) ∧ (W.setCell ⟨k, p, none⟩ u).cell? ⟨w.heap.size + 1, 7, none⟩ = some (.int .u8 (b4 : Int)) ∧ (W.setCell ⟨k, p, none⟩ u).cell? ⟨w.heap.size + 1, 8, none⟩ = some (.int .u8 (b5 : Int)) ∧ (W.setCell ⟨k, p, none⟩ u).cell? ⟨w.heap.size + 1, 9, none⟩ = some (.int .u8 (b6 : Int)) ∧ (W.setCell ⟨k, p, none⟩ u).cell? ⟨w.heap.size + 1, 10, none⟩ = some (.int .u8 (b7 : Int)))) := fun W k u hW hk => HX6.out _ ((heap_setCell_other W ⟨k, p, none⟩ S u (hkS k hk)).trans (hW.block _ hSlt)) ((heap_setCell_other W ⟨k, p, none⟩ (w.heap.size + 1) u (by show w.heap.size + 1 ≠ k; rcases hk with rfl | rfl <;> omega)).trans (hW.block _ (by omega)))
 have HXC : Hid (∀ (W : World) (k k' : Nat) (u u' : Value), Below wc.heap.size wc W → (k = ga ∨ k = gb) → (k' = ga ∨ k' = gb) → (((W.setCell ⟨k, p, none⟩ u).setCell ⟨k', p, none⟩ u').cell? ⟨S, 0, none⟩ = some (.slice (some ⟨ga, 0, none⟩) n ca) ∧ ((W.setCell ⟨k, p, none⟩ u).setCell ⟨k', p, none⟩ u').cell? ⟨S, 1, none⟩ = some (.slice (some ⟨gb, 0, none⟩) n cb) ∧ ((W.setCell ⟨k, p, none⟩ u).setCell ⟨k', p, none⟩ u').cell? ⟨w.heap.size + 1, 0, none⟩ = some (.int .i64 (g : Int)) ∧ ((W.setCell ⟨k, p, none⟩ u).setCell ⟨k', p, none⟩ u').cell? ⟨w.heap.size + 1, 1, none⟩ = some (.int .i64 (p : Int)) ∧ ((W.setCell ⟨k, p, none⟩ u).setCell ⟨k', p, none⟩ u').cell? ⟨w.heap.size + 1, 2, none⟩ = some (.int .u64 (v : Int)) ∧ ((W.setCell ⟨k, p, none⟩ u).setCell ⟨k', p, none⟩ u').cell? ⟨w.heap.size + 1, 3, none⟩ = some (.int .u8 (b0 : Int)) ∧ ((W.setCell ⟨k, p, none⟩ u).setCell ⟨k', p, none⟩ u').cell? ⟨w.heap.size + 1, 4, none⟩ = some (.int .u8 (b1 : Int)) ∧ ((W.setCell ⟨k, p, none⟩ u).setCell ⟨k', p, none⟩ u').cell? ⟨w.heap.size + 1, 5, none⟩ = some (.int .u8 (b2 : Int)) ∧ ((W.setCell ⟨k, p, none⟩ u).setCell ⟨k', p, none⟩ u').cell? ⟨w.heap.size + 1, 6, none⟩ = some (.int .u8 (b3 : Int)) ∧ ((W.setCell ⟨k, p, none⟩ u).setCell ⟨k', p, none⟩ u').cell? ⟨w.heap.size + 1, 7, none⟩ = some (.int .u8 (b4 : Int)) ∧ ((W.setCell ⟨k, p, none⟩ u).setCell ⟨k', p, none⟩ u').cell? ⟨w.heap.size + 1, 8, none⟩ = some (.int .u8 (b5 : Int)) ∧ ((W.setCell ⟨k, p, none⟩ u).setCell ⟨k', p, none⟩ u').cell? ⟨w.heap.size + 1, 9, none⟩ = some (.int .u8 (b6 : Int)) ∧ ((W.setCell ⟨k, p, none⟩ u).setCell ⟨k', p, none⟩ u').cell? ⟨w.heap.size + 1, 10, none⟩ = some (.int .u8 (b7 : Int)))) := fun W k k' u u' hW hk hk' => HX6.out _ ((heap_setCell_other _ ⟨k', p, none⟩ S u' (hkS k' hk')).trans ((heap_setCell_other W ⟨k, p, none⟩ S u (hkS k hk)).trans (hW.block _ hSlt))) ((heap_setCell_other _ ⟨k', p, none⟩ (w.heap.size + 1) u' (by show w.heap.size + 1 ≠ k'; rcases hk' with rfl | rfl <;> omega)).trans ((heap_setCell_other W ⟨k, p, none⟩ (w.heap.size + 1) u (by show w.heap.size + 1 ≠ k; rcases hk with rfl | rfl <;> omega)).trans (hW.block _ (by omega))))
 clear HP h34 h35 h45 HC2 HR2
 have hpa : (p : Int) < (n : Int) := by omega
 have hpb : ¬ (p : Int) < 0 := by omega
 have hbel5 : Below wc.heap.size wc wc := Below.refl _ _
 go_upto_region 5 with (fail)
 go_region_held3 (fun W => W.cell? ⟨S, 0, none⟩ = some (.slice (some ⟨ga, 0, none⟩) n ca) ∧ W.cell? ⟨S, 1, none⟩ = some (.slice (some ⟨gb, 0, none⟩) n cb) ∧ W.cell? ⟨w.heap.size + 1, 0, none⟩ = some (.int .i64 (g : Int)) ∧ W.cell? ⟨w.heap.size + 1, 1, none⟩ = some (.int .i64 (p : Int)) ∧ W.cell? ⟨w.heap.size + 1, 2, none⟩ = some (.int .u64 (v : Int)) ∧ W.cell? ⟨w.heap.size + 1, 3, none⟩ = some (.int .u8 (b0 : Int)) ∧ W.cell? ⟨w.heap.size + 1, 4, none⟩ = some (.int .u8 (b1 : Int)) ∧ W.cell? ⟨w.heap.size + 1, 5, none⟩ = some (.int .u8 (b2 : Int)) ∧ W.cell? ⟨w.heap.size + 1, 6, none⟩ = some (.int .u8 (b3 : Int)) ∧ W.cell? ⟨w.heap.size + 1, 7, none⟩ = some (.int .u8 (b4 : Int)) ∧ W.cell? ⟨w.heap.size + 1, 8, none⟩ = some (.int .u8 (b5 : Int)) ∧ W.cell? ⟨w.heap.size + 1, 9, none⟩ = some (.int .u8 (b6 : Int)) ∧ W.cell? ⟨w.heap.size + 1, 10, none⟩ = some (.int .u8 (b7 : Int)))
  (first | with_reducible exact HXB.out _ _ _ (by assumption) (.inl rfl) | with_reducible exact HXB.out _ _ _ (by assumption) (.inr rfl) | with_reducible exact HXC.out _ _ _ _ _ (by assumption) (.inl rfl) (.inr rfl) | with_reducible exact HXC.out _ _ _ _ _ (by assumption) (.inr rfl) (.inl rfl) | exact HXA.out _ (by (repeat' (first | assumption | (with_reducible refine Below.drew ?_) | (with_reducible refine bel_alloc ?_ _) | (with_reducible refine Below.setCell ?_ ?_ _) | (with_reducible exact Below.refl _ _) | (with_reducible exact Nat.le_refl _) | omega | (dsimp only; omega) | (simp; omega)))) | fail)
  (first
   | (go_at_call 67; (with_reducible refine (HSUM.out _).mono ?_); rintro r y ⟨rfl, hby⟩; have hbel7 : Below wc.heap.size wc y := (Below.refl _ _).drew.trans hby; have hoa := HOA.out.below hbel7; have hob := HOB.out.below hbel7; have hy1 : y.cell? ⟨gb, p, none⟩ = some (.int .u64 (ss[p]'(by omega) : Nat)) := (by have := hob.cell (k := p) (j := 0) hxs rfl; simpa using this); have hy2 : y.frozen? ⟨gb, p, none⟩ = false := hob.frozen p; have hy3 : y.cell? ⟨ga, p, none⟩ = some (.int .u64 (vs[p]'(by omega) : Nat)) := (by have := hoa.cell (k := p) (j := 0) hxv rfl; simpa using this); have hy4 : y.frozen? ⟨ga, p, none⟩ = false := hoa.frozen p; have hob2 := fun u => hob.far (p := ⟨ga, p, none⟩) (fun h => absurd (Option.some.inj h) (fun h => nab h.symm)) u; have hy5 : ∀ u, (y.setCell ⟨ga, p, none⟩ u).cell? ⟨gb, p, none⟩ = some (.int .u64 (ss[p]'(by omega) : Nat)) := (fun u => by have := (hob2 u).cell (k := p) (j := 0) hxs rfl; simpa using this); have hy6 : ∀ u, (y.setCell ⟨ga, p, none⟩ u).frozen? ⟨gb, p, none⟩ = false := (fun u => (hob2 u).frozen p))
   | fail)
 all_goals
  have e1 : (vs.map u64C).set p ((u64C (vs[p]'(by omega))).set 0 (.int .u64 (v : Int))) = (vs.set p v).map u64C := by rw [List.map_set]; rfl
  have e2 : (ss.map u64C).set p ((u64C (ss[p]'(by omega))).set 0 (.int .u64 (sn : Int))) = (ss.set p sn).map u64C := by rw [List.map_set]; rfl
  have hob7 := ((hob2 (.int .u64 (v : Int))).set (k := p) (j := 0) hxs (by decide) (.int .u64 (sn : Int))).1
  rw [e2, show p * 1 + 0 = p by omega] at hob7
  have hoa7 := (hoa.set (k := p) (j := 0) hxv (by decide) (.int .u64 (v : Int))).1
  rw [e1, show p * 1 + 0 = p by omega] at hoa7
  have hoa7 := hoa7.far (p := ⟨gb, p, none⟩) (fun h => absurd (Option.some.inj h) nab) (.int .u64 (sn : Int))
  have hs7 := (heap_setCell_other _ ⟨gb, p, none⟩ S (.int .u64 (sn : Int)) (fun h => nbS h.symm)).trans ((heap_setCell_other y ⟨ga, p, none⟩ S (.int .u64 (v : Int)) (fun h => naS h.symm)).trans ((hbel7.block _ hSlt).trans HSX.out.1))
  have hr7 := (heap_setCell_other _ ⟨gb, p, none⟩ (w.heap.size + 1 + 1) (.int .u64 (sn : Int)) (by show w.heap.size + 1 + 1 ≠ gb; omega)).trans ((heap_setCell_other y ⟨ga, p, none⟩ (w.heap.size + 1 + 1) (.int .u64 (v : Int)) (by show w.heap.size + 1 + 1 ≠ ga; omega)).trans ((hbel7.block _ (by omega)).trans HR5.out))
  have hb7 := ((HB2.out.trans ((HBC.out.trans (hbel7.mono (by omega))).mono (by omega))).setCell (p := ⟨ga, p, none⟩) (show w.heap.size ≤ ga by omega) (.int .u64 (v : Int))).setCell (p := ⟨gb, p, none⟩) (show w.heap.size ≤ gb by omega) (.int .u64 (sn : Int))
  have HOA7 := Lib.hid hoa7
  have HOB7 := Lib.hid hob7
  have HS7 := Lib.hid hs7
  have HR7 := Lib.hid hr7
  have HB7 := Lib.hid hb7
  clear hob7 hoa7 hs7 hr7 hb7 e1 e2 hob hoa hob2 hy1 hy2 hy3 hy4 hy5 hy6 HXA HXB HXC HX6 hbel5
  generalize (y.setCell ⟨ga, p, none⟩ _).setCell _ _ = w7 at *
  clear hbel7 hby
  have s0 : w7.cell? ⟨S, 0, none⟩ = some (.slice (some ⟨ga, 0, none⟩) n ca) := by rw [cell_of_row _ _ _ _ _ _ HS7.out]; rfl
  have s1 : w7.cell? ⟨S, 1, none⟩ = some (.slice (some ⟨gb, 0, none⟩) n cb) := by rw [cell_of_row _ _ _ _ _ _ HS7.out]; rfl
  have r0 : w7.cell? ⟨w.heap.size + 1 + 1, 0, none⟩ = some (.slice none 0 0) := by rw [cell_of_row _ _ _ _ _ _ HR7.out]; rfl
  have r1 : w7.cell? ⟨w.heap.size + 1 + 1, 1, none⟩ = some (.slice none 0 0) := by rw [cell_of_row _ _ _ _ _ _ HR7.out]; rfl
  have f0 := frozen_blk HR7.out 0
  have f1 := frozen_blk HR7.out 1
  have HLF : Hid (LfV ((w7.setCell ⟨w.heap.size + 1 + 1, 0, none⟩ (.slice (some ⟨ga, 0, none⟩) n ca)).setCell ⟨w.heap.size + 1 + 1, 1, none⟩ (.slice (some ⟨gb, 0, none⟩) n cb)) ((w7.setCell ⟨w.heap.size + 1 + 1, 0, none⟩ (.slice (some ⟨ga, 0, none⟩) n ca)).setCell ⟨w.heap.size + 1 + 1, 1, none⟩ (.slice (some ⟨gb, 0, none⟩) n cb)).heap.size (.agg #[.slice (some ⟨ga, 0, none⟩) n ca, .slice (some ⟨gb, 0, none⟩) n cb]) SL) := by
   rw [Hid, HSE.out]
   have nga : (Value.slice (some ⟨ga, 0, none⟩) n ca).ownBlock ≠ some (w.heap.size + 1 + 1) := fun h => absurd (Option.some.inj h) (show ga ≠ w.heap.size + 1 + 1 by omega)
   have ngb : (Value.slice (some ⟨gb, 0, none⟩) n cb).ownBlock ≠ some (w.heap.size + 1 + 1) := fun h => absurd (Option.some.inj h) (show gb ≠ w.heap.size + 1 + 1 by omega)
   exact LfV.mk ((HOA7.out.far (p := ⟨w.heap.size + 1 + 1, 0, none⟩) nga _).far (p := ⟨w.heap.size + 1 + 1, 1, none⟩) nga _) ((HOB7.out.far (p := ⟨w.heap.size + 1 + 1, 0, none⟩) ngb _).far (p := ⟨w.heap.size + 1 + 1, 1, none⟩) ngb _)
  have HFF : Hid (LfF w.heap.size (.agg #[.slice (some ⟨ga, 0, none⟩) n ca, .slice (some ⟨gb, 0, none⟩) n cb])) := ⟨_, _, rfl, fun k hk => by rcases hk with h | h <;> (have := Option.some.inj h; simp only at this; omega)⟩
  have HBF : Hid (Below w.heap.size w ((w7.setCell ⟨w.heap.size + 1 + 1, 0, none⟩ (.slice (some ⟨ga, 0, none⟩) n ca)).setCell ⟨w.heap.size + 1 + 1, 1, none⟩ (.slice (some ⟨gb, 0, none⟩) n cb))) := (HB7.out.setCell (p := ⟨w.heap.size + 1 + 1, 0, none⟩) (show w.heap.size ≤ w.heap.size + 1 + 1 by omega) _).setCell (p := ⟨w.heap.size + 1 + 1, 1, none⟩) (show w.heap.size ≤ w.heap.size + 1 + 1 by omega) _
  go_wp2
  (try simp only [Exit.inBlock, Exit.then])
  refine bodyPost_ret (v := .tuple #[.agg #[.slice (some ⟨ga, 0, none⟩) n ca, .slice (some ⟨gb, 0, none⟩) n cb], .int .i64 0]) ?_ rfl ⟨⟨_, rfl, HLF.out, HFF.out⟩, HBF.out⟩
  rw [results_cell_tmp rfl]
  go_simp
end Go.Proofs.YtopoefcklipaeaaGreatDoor
