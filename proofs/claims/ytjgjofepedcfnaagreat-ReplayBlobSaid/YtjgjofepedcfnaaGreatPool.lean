/- Two lists and a box that a drawn region makes, in any order. -/
import Derived.Test.YtjgjofepedcfnaaGreatGRc
import Derived.Test.YtjgjofepedcfnaaGreatGRb
namespace Go.Proofs.YtjgjofepedcfnaaGreat
open Go.RowKit
def apartO (l : List (Option Nat)) : Prop := l.Pairwise fun x y => x = none ∨ x ≠ y
structure Pl (e1 s1 e2 s2 : Nat) (a b : List (List Value)) (tS : TypeId) (zS : Array Value) (B : Nat) (w0 w : World) (eA eB : Option Nat) (vA vB : Option Value) (S : Option Nat) : Prop where
 bel : Below B w0 w
 le : B ≤ w.heap.size
 ea : ∀ k, eA = some k → OwS w B e1 s1 (.slice (some ⟨k, 0, none⟩) 0 0) []
 eb : ∀ k, eB = some k → OwS w B e2 s2 (.slice (some ⟨k, 0, none⟩) 0 0) []
 va : ∀ v, vA = some v → OwS w B e1 s1 v a
 vb : ∀ v, vB = some v → OwS w B e2 s2 v b
 bx : ∀ k, S = some k → w.heap[k]? = some (.cells zS tS (0, 0)) ∧ B ≤ k
 sep : apartO [eA, eB, vA.bind Value.ownBlock, vB.bind Value.ownBlock, S]
section
variable {e1 s1 e2 s2 : Nat} {a b : List (List Value)} {tS : TypeId} {zS : Array Value} {B : Nat} {w0 w w' : World} {eA eB : Option Nat} {vA vB : Option Value} {S : Option Nat}
theorem Pl.lt (h : Pl e1 s1 e2 s2 a b tS zS B w0 w eA eB vA vB S) : ∀ x ∈ [eA, eB, vA.bind Value.ownBlock, vB.bind Value.ownBlock, S], ∀ k, x = some k → B ≤ k ∧ k < w.heap.size := by
 intro x hx k hk
 simp only [List.mem_cons, List.not_mem_nil, or_false] at hx
 rcases hx with rfl | rfl | rfl | rfl | rfl
 ·exact (h.ea k hk).lt rfl
 ·exact (h.eb k hk).lt rfl
 ·rcases vA with _ | v
  ·cases hk
  ·exact (h.va v rfl).lt hk
 ·rcases vB with _ | v
  ·cases hk
  ·exact (h.vb v rfl).lt hk
 ·have := h.bx k hk
  exact ⟨this.2, (Array.getElem?_eq_some_iff.1 this.1).1⟩
theorem Pl.step (h : Pl e1 s1 e2 s2 a b tS zS B w0 w eA eB vA vB S) {row : Option Nat} (hg : w.grownBy w' row) (hB : ∀ k, row = some k → B ≤ k) (hr : ∀ x ∈ [eA, eB, vA.bind Value.ownBlock, vB.bind Value.ownBlock, S], x = none ∨ x ≠ row) :
  Pl e1 s1 e2 s2 a b tS zS B w0 w' eA eB vA vB S := by
 refine ⟨h.bel.grown hg h.le hB, Nat.le_trans h.le hg.size, fun k hk => (h.ea k hk).kept hg ?_, fun k hk => (h.eb k hk).kept hg ?_, fun v hv => (h.va v hv).kept hg ?_, fun v hv => (h.vb v hv).kept hg ?_, fun k hk => ⟨(hg.block k ((Array.getElem?_eq_some_iff.1 (h.bx k hk).1).1) ?_).trans (h.bx k hk).1, (h.bx k hk).2⟩, h.sep⟩
 ·subst hk; exact hr (some k) (by simp)
 ·subst hk; exact hr (some k) (by simp)
 ·subst hv; exact hr _ (by simp)
 ·subst hv; exact hr _ (by simp)
 ·subst hk
  rcases hr (some k) (by simp) with e | e
  ·cases e
  ·exact e
theorem Pl.call (h : Pl e1 s1 e2 s2 a b tS zS B w0 w eA eB vA vB S) (hb : Below w.heap.size w w') : Pl e1 s1 e2 s2 a b tS zS B w0 w' eA eB vA vB S :=
 h.step (row := none) ⟨hb.os, hb.tape, hb.output, hb.size, fun k hk _ => hb.block k hk⟩ (by simp) (fun x _ => by cases x <;> simp)
theorem Pl.drew (h : Pl e1 s1 e2 s2 a b tS zS B w0 w eA eB vA vB S) : Pl e1 s1 e2 s2 a b tS zS B w0 w.drew eA eB vA vB S := h.call (Below.refl _ _).drew
theorem Pl.alloc (h : Pl e1 s1 e2 s2 a b tS zS B w0 w eA eB vA vB S) (o : Obj) : Pl e1 s1 e2 s2 a b tS zS B w0 (w.alloc o) eA eB vA vB S := h.call below_laid
theorem Pl.fresh (h : Pl e1 s1 e2 s2 a b tS zS B w0 w eA eB vA vB S) : ∀ x ∈ [eA, eB, vA.bind Value.ownBlock, vB.bind Value.ownBlock, S], x ≠ some w.heap.size := by
 intro x hx e
 have := (h.lt x hx _ e).2
 omega
theorem Pl.newA (h : Pl e1 s1 e2 s2 a b tS zS B w0 w none eB vA vB S) : Pl e1 s1 e2 s2 a b tS zS B w0 (w.alloc (.cells #[] e1)) (some w.heap.size) eB vA vB S := by
 have h2 := h.alloc (.cells #[] e1)
 refine ⟨h2.bel, h2.le, fun k hk => ?_, h2.eb, h2.va, h2.vb, h2.bx, ?_⟩
 ·cases hk; exact OwS.lit (by simp) (heap_alloc_new w _) rfl rfl (by decide) h.le
 ·have hs := h.sep
  have hf := h.fresh
  unfold apartO at hs ⊢
  rw [List.pairwise_cons] at hs ⊢
  exact ⟨fun y hy => .inr fun e => hf y (List.mem_cons_of_mem _ hy) e.symm, hs.2⟩
theorem Pl.newB (h : Pl e1 s1 e2 s2 a b tS zS B w0 w eA none vA vB S) : Pl e1 s1 e2 s2 a b tS zS B w0 (w.alloc (.cells #[] e2)) eA (some w.heap.size) vA vB S := by
 have h2 := h.alloc (.cells #[] e2)
 refine ⟨h2.bel, h2.le, h2.ea, fun k hk => ?_, h2.va, h2.vb, h2.bx, ?_⟩
 ·cases hk; exact OwS.lit (by simp) (heap_alloc_new w _) rfl rfl (by decide) h.le
 ·have hs := h.sep
  have hf := h.fresh
  unfold apartO at hs ⊢
  simp only [List.pairwise_cons, List.mem_cons, List.not_mem_nil, or_false, forall_eq_or_imp, forall_eq] at hs hf ⊢
  obtain ⟨⟨-, h12, h13, h14⟩, -, h2, h3, h4⟩ := hs
  exact ⟨⟨.inr hf.1, h12, h13, h14⟩, ⟨.inr fun e => hf.2.2.1 e.symm, .inr fun e => hf.2.2.2.1 e.symm, .inr fun e => hf.2.2.2.2 e.symm⟩, h2, h3, h4⟩
theorem Pl.newS (h : Pl e1 s1 e2 s2 a b tS zS B w0 w eA eB vA vB none) : Pl e1 s1 e2 s2 a b tS zS B w0 (w.alloc (.cells zS tS)) eA eB vA vB (some w.heap.size) := by
 have h2 := h.alloc (.cells zS tS)
 refine ⟨h2.bel, h2.le, h2.ea, h2.eb, h2.va, h2.vb, fun k hk => ?_, ?_⟩
 ·cases hk; exact ⟨heap_alloc_new w _, h.le⟩
 ·have hs := h.sep
  have hf := h.fresh
  unfold apartO at hs ⊢
  simp only [List.pairwise_cons, List.mem_cons, List.not_mem_nil, or_false, forall_eq_or_imp, forall_eq] at hs hf ⊢
  obtain ⟨⟨h11, h12, h13, -⟩, ⟨h22, h23, -⟩, ⟨h33, -⟩, h4⟩ := hs
  exact ⟨⟨h11, h12, h13, .inr hf.1⟩, ⟨h22, h23, .inr hf.2.1⟩, ⟨h33, .inr hf.2.2.1⟩, .inr hf.2.2.2.1, by simp, by simp⟩
theorem Pl.gotA (h : Pl e1 s1 e2 s2 a b tS zS B w0 w eA eB none vB S) {v : Value} {row : Option Nat} (hg : w.grownBy w' row) (hrow : row = none ∨ ∃ k, row = some k ∧ eA = some k) (ho : OwS w' B e1 s1 v a) (hv : v.ownBlock = none ∨ v.ownBlock = row ∨ ∃ k, v.ownBlock = some k ∧ w.heap.size ≤ k) :
  Pl e1 s1 e2 s2 a b tS zS B w0 w' none eB (some v) vB S := by
 have hl := h.lt
 have hs := h.sep
 unfold apartO at hs
 simp only [List.pairwise_cons, List.mem_cons, List.not_mem_nil, or_false, forall_eq_or_imp, forall_eq] at hs hl
 obtain ⟨⟨h11, h12, h13, h14⟩, ⟨h22, h23, h24⟩, ⟨h33, h34⟩, h4, -⟩ := hs
 obtain ⟨l1, l2, l3, l4, l5⟩ := hl
 have key : ∀ x, (eA = none ∨ eA ≠ x) → (∀ k, x = some k → B ≤ k ∧ k < w.heap.size) → x = none ∨ x ≠ row := by
  intro x hx hlx
  rcases hrow with rfl | ⟨k, rfl, hk⟩
  ·cases x <;> simp
  ·rw [hk] at hx
   rcases hx with e | e
   ·cases e
   ·exact .inr fun e2 => e e2.symm
 have keyv : ∀ x, (eA = none ∨ eA ≠ x) → (∀ k, x = some k → B ≤ k ∧ k < w.heap.size) → v.ownBlock = none ∨ v.ownBlock ≠ x := by
  intro x hx hlx
  rcases hv with e | e | ⟨k, e, hk⟩
  ·exact .inl e
  ·rw [e]
   rcases key x hx hlx with e2 | e2
   ·rw [e2]; cases row <;> simp
   ·exact .inr fun e3 => e2 e3.symm
  ·refine .inr fun e2 => ?_
   rw [e] at e2
   have := (hlx k e2.symm).2
   omega
 have hs0 : apartO [none, eB, (none : Option Value).bind Value.ownBlock, vB.bind Value.ownBlock, S] := by
  unfold apartO
  simp only [List.pairwise_cons, List.mem_cons, List.not_mem_nil, or_false, forall_eq_or_imp, forall_eq]
  exact ⟨⟨.inl (by simp), .inl (by simp), .inl (by simp), .inl (by simp)⟩, ⟨h22, h23, h24⟩, ⟨.inl (by simp), .inl (by simp)⟩, h4, by simp⟩
 have h1 : Pl e1 s1 e2 s2 a b tS zS B w0 w none eB none vB S := ⟨h.bel, h.le, (fun k hk => by cases hk), h.eb, (fun v hv => by cases hv), h.vb, h.bx, hs0⟩
 have hB' : ∀ k, row = some k → B ≤ k := by
  intro k hk
  rcases hrow with rfl | ⟨k', rfl, hk'⟩
  ·cases hk
  ·cases hk; exact (l1 _ hk').1
 have h2 := h1.step hg hB' (by
  simp only [List.mem_cons, List.not_mem_nil, or_false, forall_eq_or_imp, forall_eq]
  exact ⟨.inl (by simp), key eB h11 l2, .inl (by simp), key _ h13 l4, key _ h14 l5⟩)
 refine ⟨h2.bel, h2.le, h2.ea, h2.eb, fun u hu => by cases hu; exact ho, h2.vb, h2.bx, ?_⟩
 unfold apartO
 simp only [List.pairwise_cons, List.mem_cons, List.not_mem_nil, or_false, forall_eq_or_imp, forall_eq]
 refine ⟨⟨.inl (by simp), .inl (by simp), .inl (by simp), .inl (by simp)⟩, ⟨?_, h23, h24⟩, ⟨keyv _ h13 l4, keyv _ h14 l5⟩, h4, by simp⟩
 rcases keyv eB h11 l2 with e | e
 ·rcases eB with _ | k
  ·exact .inl (by simp)
  ·exact .inr (by rw [show (some v).bind Value.ownBlock = v.ownBlock from rfl, e]; simp)
 ·exact .inr fun e2 => e e2.symm
theorem Pl.swap (h : Pl e1 s1 e2 s2 a b tS zS B w0 w eA eB vA vB S) : Pl e2 s2 e1 s1 b a tS zS B w0 w eB eA vB vA S := by
 refine ⟨h.bel, h.le, h.eb, h.ea, h.vb, h.va, h.bx, ?_⟩
 have hs := h.sep
 unfold apartO at hs ⊢
 simp only [List.pairwise_cons, List.mem_cons, List.not_mem_nil, or_false, forall_eq_or_imp, forall_eq] at hs ⊢
 obtain ⟨⟨h11, h12, h13, h14⟩, ⟨h22, h23, h24⟩, ⟨h33, h34⟩, h4, -⟩ := hs
 have sym : ∀ x y : Option Nat, (x = none ∨ x ≠ y) → (y = none ∨ y ≠ x) := by
  intro x y h
  rcases h with rfl | h
  ·cases y <;> simp
  ·exact .inr fun e => h e.symm
 exact ⟨⟨sym _ _ h11, h23, h22, h24⟩, ⟨h13, h12, h14⟩, ⟨sym _ _ h33, h4⟩, h34, by simp⟩
theorem Pl.set (h : Pl e1 s1 e2 s2 a b tS zS B w0 w eA eB vA vB S) {k j : Nat} (hk : S = some k) (u : Value) : Pl e1 s1 e2 s2 a b tS (zS.setIfInBounds j u) B w0 (w.setCell ⟨k, j, none⟩ u) eA eB vA vB S := by
 subst hk
 have hl := h.lt
 have hs := h.sep
 unfold apartO at hs
 simp only [List.pairwise_cons, List.mem_cons, List.not_mem_nil, or_false, forall_eq_or_imp, forall_eq] at hs hl
 obtain ⟨⟨-, -, -, h14⟩, ⟨-, -, h24⟩, ⟨-, h34⟩, h4, -⟩ := hs
 have hg : w.grownBy (w.setCell ⟨k, j, none⟩ u) (some k) := grownBy_setCell w ⟨k, j, none⟩ u
 have hBk := (h.bx k rfl).2
 refine ⟨h.bel.grown hg h.le (fun k' hk' => by cases hk'; exact hBk), Nat.le_trans h.le hg.size, fun k' hk => (h.ea k' hk).kept hg ?_, fun k' hk => (h.eb k' hk).kept hg ?_, fun v hv => (h.va v hv).kept hg ?_, fun v hv => (h.vb v hv).kept hg ?_, fun k' hk => ?_, h.sep⟩
 ·subst hk; exact h14
 ·subst hk; exact h24
 ·subst hv; exact h34
 ·subst hv; exact h4
 ·cases hk
  exact ⟨heap_setCell_same w k j _ _ u (h.bx k rfl).1, hBk⟩
theorem Pl.appA {P : Program} {ops : Array Oper} {o : Oper} {act : Act} {K : Act → World → Prop} {Q : Exit → Act → World → Prop} {E' : Prop} {bytes k : Nat} (hgd : o.guard = none) (s x : Operand) (t : TypeId)
  (ho : o.op = .call { callee := .builtin .append, args := #[s, x], argTypes := #[t, t] }) (E : Elem P t e1 s1 bytes) (hs : act.eval s = .slice (some ⟨k, 0, none⟩) 0 0) (B0 : Nat) (A : Option Addr) (m c : Nat) (hx : act.eval x = .slice A m c)
  (hp : Pl e1 s1 e2 s2 a b tS zS B w0 w (some k) eB none vB S) (hr : ∀ W, Below B w0 W → RdS W B0 s1 A a) (hm : m = a.length) (h1 : ∀ r ∈ a, ∀ u ∈ r, u.oneCell' = true) (h63 : a.length ≤ maxLen) (hbytes : a.length * bytes ≤ 140737488355328)
  (h : ∀ A' c' w', Pl e1 s1 e2 s2 a b tS zS B w0 w' none eB (some (.slice A' m c')) vB S → K (act.put o.dst (.slice A' m c')) w') :
  if Region.wanted o (yielded ops act.tmps) = true then Oper.wp P o act w K Q else E' := by
 subst hm
 refine step_apS hgd s x t ho E hs (hp.ea k rfl) B0 A _ c a hx (hr w hp.bel) rfl h1 (by simpa using h63) (by simpa using hbytes) hp.le ?_
 intro v' w' hown hg hv
 rw [List.nil_append] at hown
 have hpp := hp.gotA hg (.inr ⟨k, rfl, rfl⟩) hown (by
  rcases hv with e | e
  ·exact .inr (.inl e)
  ·exact .inr (.inr ⟨_, e, Nat.le_refl _⟩))
 obtain ⟨A', c', rfl, -, -⟩ := hown.form
 exact h A' c' w' hpp
theorem Pl.appB {P : Program} {ops : Array Oper} {o : Oper} {act : Act} {K : Act → World → Prop} {Q : Exit → Act → World → Prop} {E' : Prop} {bytes k : Nat} (hgd : o.guard = none) (s x : Operand) (t : TypeId)
  (ho : o.op = .call { callee := .builtin .append, args := #[s, x], argTypes := #[t, t] }) (E : Elem P t e2 s2 bytes) (hs : act.eval s = .slice (some ⟨k, 0, none⟩) 0 0) (B0 : Nat) (A : Option Addr) (m c : Nat) (hx : act.eval x = .slice A m c)
  (hp : Pl e1 s1 e2 s2 a b tS zS B w0 w eA (some k) vA none S) (hr : ∀ W, Below B w0 W → RdS W B0 s2 A b) (hm : m = b.length) (h1 : ∀ r ∈ b, ∀ u ∈ r, u.oneCell' = true) (h63 : b.length ≤ maxLen) (hbytes : b.length * bytes ≤ 140737488355328)
  (h : ∀ A' c' w', Pl e1 s1 e2 s2 a b tS zS B w0 w' eA none vA (some (.slice A' m c')) S → K (act.put o.dst (.slice A' m c')) w') :
  if Region.wanted o (yielded ops act.tmps) = true then Oper.wp P o act w K Q else E' :=
 Pl.appA hgd s x t ho E hs B0 A m c hx hp.swap hr hm h1 h63 hbytes fun A' c' w' hh => h A' c' w' hh.swap
theorem Pl.box2 {z0 z1 : Value} (h : Pl e1 s1 e2 s2 a b tS #[z0, z1] B w0 w eA eB vA vB S) {k : Nat} (hk : S = some k) : w.cell? ⟨k, 0, none⟩ = some z0 ∧ w.cell? ⟨k, 1, none⟩ = some z1 ∧ w.frozen? ⟨k, 0, none⟩ = false ∧ w.frozen? ⟨k, 1, none⟩ = false := by
 have hb := (h.bx k hk).1
 refine ⟨by rw [cell_of_row _ _ _ _ _ _ hb]; rfl, by rw [cell_of_row _ _ _ _ _ _ hb]; rfl, ?_, ?_⟩
 ·simp [World.frozen?, hb]
 ·simp [World.frozen?, hb]
theorem Pl.start {B : Nat} {w0 w : World} (h : Below B w0 w) (hB : B ≤ w.heap.size) : Pl e1 s1 e2 s2 a b tS zS B w0 w none none none none none := by
 refine ⟨h, hB, (fun k hk => by cases hk), (fun k hk => by cases hk), (fun k hk => by cases hk), (fun k hk => by cases hk), (fun k hk => by cases hk), ?_⟩
 unfold apartO
 simp
end
section
variable {e1 s1 e2 s2 : Nat} {a b : List (List Value)} {tS : TypeId} {zS : Array Value} {B : Nat} {w0 w w' : World} {eA eB : Option Nat} {vA vB : Option Value} {S : Option Nat}
theorem Pl.newA' {k : Nat} (hk : k = w.heap.size) (h : Pl e1 s1 e2 s2 a b tS zS B w0 w none eB vA vB S) : Pl e1 s1 e2 s2 a b tS zS B w0 (w.alloc (.cells #[] e1)) (some k) eB vA vB S := hk ▸ h.newA
theorem Pl.newB' {k : Nat} (hk : k = w.heap.size) (h : Pl e1 s1 e2 s2 a b tS zS B w0 w eA none vA vB S) : Pl e1 s1 e2 s2 a b tS zS B w0 (w.alloc (.cells #[] e2)) eA (some k) vA vB S := hk ▸ h.newB
theorem Pl.newS' {k : Nat} (hk : k = w.heap.size) (h : Pl e1 s1 e2 s2 a b tS zS B w0 w eA eB vA vB none) : Pl e1 s1 e2 s2 a b tS zS B w0 (w.alloc (.cells zS tS)) eA eB vA vB (some k) := hk ▸ h.newS
end
theorem Pl.callA {e1 s1 e2 s2 : Nat} {a b : List (List Value)} {tS : TypeId} {zS : Array Value} {B : Nat} {w0 w w' : World} {eB : Option Nat} {vB : Option Value} {S : Option Nat} {v : Value} (h : Pl e1 s1 e2 s2 a b tS zS B w0 w none eB none vB S) (hb : Below w.heap.size w w') (ho : OwS w' w.heap.size e1 s1 v a) : Pl e1 s1 e2 s2 a b tS zS B w0 w' none eB (some v) vB S :=
 h.gotA (row := none) ⟨hb.os, hb.tape, hb.output, hb.size, fun k hk _ => hb.block k hk⟩ (.inl rfl) (ho.mono h.le) (by
  rcases he : v.ownBlock with _ | k
  ·exact .inl rfl
  ·exact .inr (.inr ⟨k, rfl, (ho.lt he).1⟩))
theorem Pl.callB {e1 s1 e2 s2 : Nat} {a b : List (List Value)} {tS : TypeId} {zS : Array Value} {B : Nat} {w0 w w' : World} {eA : Option Nat} {vA : Option Value} {S : Option Nat} {v : Value} (h : Pl e1 s1 e2 s2 a b tS zS B w0 w eA none vA none S) (hb : Below w.heap.size w w') (ho : OwS w' w.heap.size e2 s2 v b) : Pl e1 s1 e2 s2 a b tS zS B w0 w' eA none vA (some v) S :=
 (h.swap.callA hb ho).swap
theorem Pl.fin {e1 s1 e2 s2 : Nat} {a b : List (List Value)} {tS : TypeId} {zS zS' : Array Value} {B : Nat} {w0 w : World} {vA vB : Option Value} {k : Nat} (h : Pl e1 s1 e2 s2 a b tS zS B w0 w none none vA vB none) (hk : k = w.heap.size) : Pl e1 s1 e2 s2 a b tS zS' B w0 (w.alloc (.cells zS' tS)) none none vA vB (some k) := by
 have h2 : Pl e1 s1 e2 s2 a b tS zS' B w0 w none none vA vB none := ⟨h.bel, h.le, h.ea, h.eb, h.va, h.vb, fun k hk => (by cases hk), h.sep⟩
 exact Pl.newS' hk h2
theorem Pl.fin2 {e1 s1 e2 s2 : Nat} {a b : List (List Value)} {tS : TypeId} {z0 z1 u0 u1 : Value} {B : Nat} {w0 w : World} {eA eB : Option Nat} {vA vB : Option Value} {k : Nat} (h : Pl e1 s1 e2 s2 a b tS #[z0, z1] B w0 w eA eB vA vB (some k)) : Pl e1 s1 e2 s2 a b tS #[u0, u1] B w0 ((w.setCell ⟨k, 0, none⟩ u0).setCell ⟨k, 1, none⟩ u1) eA eB vA vB (some k) :=
 (h.set (j := 0) rfl u0).set (j := 1) rfl u1
theorem size_alloc (w : World) (o : Obj) : (w.alloc o).heap.size = w.heap.size + 1 := by simp
theorem heap_drew (w : World) : w.drew.heap = w.heap := rfl
theorem bel_alloc {a w : World} (h : Below a.heap.size a w) (o : Obj) : Below a.heap.size a (w.alloc o) := h.alloc h.size o
end Go.Proofs.YtjgjofepedcfnaaGreat
