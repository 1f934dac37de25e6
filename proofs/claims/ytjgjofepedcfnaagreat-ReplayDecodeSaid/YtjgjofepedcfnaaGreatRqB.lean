/- Walk of tegularef50.Apply. -/
import Derived.Test.YtjgjofepedcfnaaGreatGRo
namespace Go.Proofs.YtjgjofepedcfnaaGreat
open Go.RowKit
structure ApJ (w wr : World) (L : LayD) (A : Option Addr) (c : Nat) (sc rc : Array Value) : Prop where
 lay : LayB wr w.heap.size L A c
 sb : wr.heap[w.heap.size + 1]? = some (.cells sc 45 (0, 0))
 rcd : wr.heap[w.heap.size + 1 + 1]? = some (.cells rc 28 (0, 0))
 res : wr.heap[w.heap.size + 1 + 1 + 1]? = some (.cells #[.slice none 0 0, .slice none 0 0, .slice none 0 0] 45 (0, 0))
 bel : Below w.heap.size w wr
theorem ApJ.lt {w wr : World} {L : LayD} {A : Option Addr} {c : Nat} {sc rc : Array Value} (h : ApJ w wr L A c sc rc) : w.heap.size + 1 + 1 + 1 < wr.heap.size := (Array.getElem?_eq_some_iff.1 h.res).1
theorem ApJ.call {w wr w' : World} {L : LayD} {A : Option Addr} {c : Nat} {sc rc : Array Value} (h : ApJ w wr L A c sc rc) (hb : Below wr.heap.size wr w') : ApJ w w' L A c sc rc := by
 have hl := h.lt
 exact ⟨h.lay.below hb (by omega), (hb.block _ (by omega)).trans h.sb, (hb.block _ (by omega)).trans h.rcd, (hb.block _ hl).trans h.res, h.bel.trans (hb.mono (by omega))⟩
structure ApK (E : Nat → Prop) (w wr : World) (L : LayD) (A : Option Addr) (c : Nat) (rc : Array Value) (X : Nat) (lv mv nv : Value) (S : St) : Prop where
 lay : LayB wr w.heap.size L A c
 rcd : wr.heap[w.heap.size + 1 + 1]? = some (.cells rc 28 (0, 0))
 res : wr.heap[w.heap.size + 1 + 1 + 1]? = some (.cells #[.slice none 0 0, .slice none 0 0, .slice none 0 0] 45 (0, 0))
 bel : Below w.heap.size w wr
 st : StB wr X (apE w E) 45 lv mv nv S
 gx : w.heap.size + 4 ≤ X
 go : ∀ k, FS lv nv k → w.heap.size + 4 ≤ k
 el : ∀ k, E k → k < w.heap.size
section
variable {E : Nat → Prop} {w wr w' : World} {L : LayD} {A : Option Addr} {c X : Nat} {rc : Array Value} {lv mv nv : Value} {S : St}
theorem ApK.lt (h : ApK E w wr L A c rc X lv mv nv S) : w.heap.size + 1 + 1 + 1 < wr.heap.size := (Array.getElem?_eq_some_iff.1 h.res).1
theorem ApK.call (h : ApK E w wr L A c rc X lv mv nv S) (hb : Below wr.heap.size wr w') : ApK E w w' L A c rc X lv mv nv S := by
 have hl := h.lt
 exact ⟨h.lay.below hb (by omega), (hb.block _ (by omega)).trans h.rcd, (hb.block _ hl).trans h.res, h.bel.trans (hb.mono (by omega)), h.st.call hb, h.gx, h.go, h.el⟩
theorem ApK.turn {lv' mv' nv' : Value} {S' : St} (h : ApK E w wr L A c rc X lv mv nv S) (hb : Below (w.heap.size + 4) wr w') (hs : StB w' X (apE w E) 45 lv' mv' nv' S') (hg : ∀ k, FS lv' nv' k → w.heap.size + 4 ≤ k) : ApK E w w' L A c rc X lv' mv' nv' S' :=
 ⟨(hb.block _ (by omega)).trans h.lay, (hb.block _ (by omega)).trans h.rcd, (hb.block _ (by omega)).trans h.res, h.bel.trans (hb.mono (by omega)), hs, h.gx, hg, h.el⟩
theorem ApK.elt (h : ApK E w wr L A c rc X lv mv nv S) : ∀ k, apE w E k → k < wr.heap.size := fun k hk => by
 have := h.lt
 rcases hk with rfl | hk
 ·exact this
 ·have := h.el k hk; omega
theorem ApK.fin (h : ApK E w wr L A c rc X lv mv nv S) : StK E (((wr.setCell ⟨w.heap.size + 1 + 1 + 1, 0, none⟩ lv).setCell ⟨w.heap.size + 1 + 1 + 1, 1, none⟩ mv).setCell ⟨w.heap.size + 1 + 1 + 1, 2, none⟩ nv) (.agg #[lv, mv, nv]) S ∧
  Below w.heap.size w (((wr.setCell ⟨w.heap.size + 1 + 1 + 1, 0, none⟩ lv).setCell ⟨w.heap.size + 1 + 1 + 1, 1, none⟩ mv).setCell ⟨w.heap.size + 1 + 1 + 1, 2, none⟩ nv) := by
 have hg := h.gx
 have hn := h.st.not h.res (by decide) (by decide)
 exact ⟨((((h.st.setR (.inl rfl) (by omega) hn 0 lv).setR (.inl rfl) (by omega) hn 1 mv).setR (.inl rfl) (by omega) hn 2 nv).val (E0 := E) (fun k hk => .inr hk)).stk fun k hk => ⟨hk, fun e => by have := h.go k e; have := h.el k hk; omega⟩, ((h.bel.setCell (by simp; omega) _).setCell (by simp; omega) _).setCell (by simp; omega) _⟩
end
end Go.Proofs.YtjgjofepedcfnaaGreat
