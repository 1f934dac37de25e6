/- Walks of tegularef21: Width, Groups, Homes, Blocks, Is.
Walks of tegularef21: Is, Home, Valid. -/
import Derived.Test.YtopoefcklipaeaaGreatDoorGWs
namespace Go.Proofs.YtopoefcklipaeaaGreatDoor
open Go.RowKit
structure LayX (L : LayD) : Prop where
 ok : LayOk L
 des : ∃ lam, 1 ≤ lam ∧ desB L.disks L.w L.r lam L.gs = true
theorem small_layX (n : Nat) : LayX (smallL n) := by
 obtain ⟨w, r, lam, h, hw1, hw2, hr, hl1, hl2, hn, hd1, hd2⟩ := small_des n
 have := des_lay (t := 1 + n / 16 % 5) (s := n / 80 % 8) h ⟨by omega, by omega⟩ ⟨hw1, by omega⟩ (by omega) (by omega) ⟨by omega, by omega⟩ (by omega)
 refine ⟨small_ok n, lam, hl1, ?_⟩
 have e1 : (smallL n).w = w := this.2.1
 have e2 : (smallL n).r = r := this.2.2
 rw [e1, e2]
 exact h
def LayB (w : World) (X : Nat) (L : LayD) (A : Option Addr) (c : Nat) : Prop := w.heap[X]? = some (.cells #[.int .i64 L.disks, .slice A L.n c, .int .i64 L.tiles, .int .i64 L.spare] 28)
section
variable {w w' : World} {X B : Nat} {L : LayD} {A : Option Addr} {c : Nat}
theorem LayB.cells (h : LayB w X L A c) : w.cell? ⟨X, 0, none⟩ = some (.int .i64 (L.disks : Int)) ∧ w.cell? ⟨X, 1, none⟩ = some (.slice A L.n c) ∧ w.cell? ⟨X, 2, none⟩ = some (.int .i64 (L.tiles : Int)) ∧ w.cell? ⟨X, 3, none⟩ = some (.int .i64 (L.spare : Int)) :=
 ⟨by rw [cell_of_row _ _ _ _ _ _ h]; rfl, by rw [cell_of_row _ _ _ _ _ _ h]; rfl, by rw [cell_of_row _ _ _ _ _ _ h]; rfl, by rw [cell_of_row _ _ _ _ _ _ h]; rfl⟩
theorem LayB.lt (h : LayB w X L A c) : X < w.heap.size := (Array.getElem?_eq_some_iff.1 h).1
theorem LayB.below {C : Nat} (h : LayB w X L A c) (hb : Below C w w') (hC : X < C) : LayB w' X L A c := (hb.block _ hC).trans h
theorem LayB.made (w : World) (L : LayD) (A : Option Addr) (c : Nat) : LayB (w.alloc (.cells #[.int .i64 L.disks, .slice A L.n c, .int .i64 L.tiles, .int .i64 L.spare] 28)) w.heap.size L A c := heap_alloc_new w _
theorem lay_first (ok : LayOk L) (h : GsV w B A L.gs) : ∃ b off Ai ci, A = some ⟨b, off, none⟩ ∧ b < B ∧ ∀ W C, Below C w W → B ≤ C → W.cell? ⟨b, off, none⟩ = some (.slice Ai L.w ci) := by
 obtain ⟨g, hg⟩ := at_some (l := L.gs) (i := 0) (by have := ok.n.1; unfold LayD.n at this; omega)
 obtain ⟨b, off, Ai, ci, hA, hb, hat⟩ := h.at_ hg
 refine ⟨b, off, Ai, ci, hA, hb, fun W C h1 h2 => ?_⟩
 have := (hat W C h1 h2).1
 rw [ok.len g (List.mem_of_getElem? hg), Nat.add_zero] at this
 exact this
end
end Go.Proofs.YtopoefcklipaeaaGreatDoor
namespace Go.Proofs.YtopoefcklipaeaaGreatDoor
open Go.RowKit
theorem rankL_le (L : LayD) (i d : Nat) : rankL L i d ≤ L.n := by
 unfold rankL LayD.n
 exact Nat.le_trans List.countP_le_length (by rw [List.length_take]; exact Nat.min_le_right _ _)
theorem tdiv_nat (a b : Nat) : Int.tdiv (a : Int) (b : Int) = ((a / b : Nat) : Int) := by
 rw [Int.tdiv_eq_ediv_of_nonneg (by omega)]; rfl
theorem tmod_nat (a b : Nat) : Int.tmod (a : Int) (b : Int) = ((a % b : Nat) : Int) := by
 rw [Int.tmod_eq_emod_of_nonneg (by omega)]; rfl
theorem r_le (L : LayD) : L.r ≤ L.n := List.countP_le_length
end Go.Proofs.YtopoefcklipaeaaGreatDoor
