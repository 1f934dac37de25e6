/- Walk of tegularef22.Valid. -/
import Derived.Test.YtopoefcklipaeaaGreatDoorGRd
namespace Go.Proofs.YtopoefcklipaeaaGreatDoor
open Go.RowKit
theorem valid_bad {L : LayD} {ms : List Mv} {i : Nat} {m : Mv} (hm : ms[i]? = some m) (h : ¬ StepOk L ms i m) : validM L ms = false := by
 rw [Bool.eq_false_iff]
 intro hv
 exact h ((valid_iff.1 hv).1 i m hm)
theorem valid_bad2 {L : LayD} {ms : List Mv} {i : Nat} {m : Mv} (hm : ms[i]? = some m) (h : ¬ apartL L ms m.g = true) : validM L ms = false := by
 rw [Bool.eq_false_iff]
 intro hv
 exact h ((valid_iff.1 hv).2 m (List.mem_of_getElem? hm))
theorem toOk_iff {L : LayD} {t : Plc} : toOk L t = true ↔ ¬ t.disk < 0 ∧ ¬ (L.disks : Int) ≤ t.disk ∧ ¬ t.block < (L.homes : Int) ∧ ¬ (L.blocks : Int) ≤ t.block := by
 unfold toOk
 simp only [Bool.and_eq_true, decide_eq_true_eq]
 omega
def MvB (w : World) (X : Nat) (m : Mv) : Prop := w.heap[X]? = some (.cells #[.int .i64 m.g, .int .i64 m.p, .int .i64 m.to.disk, .int .i64 m.to.block] 196)
section
variable {w w' : World} {X : Nat} {m : Mv}
theorem MvB.cells (h : MvB w X m) : w.cell? ⟨X, 0, none⟩ = some (.int .i64 m.g) ∧ w.cell? ⟨X, 1, none⟩ = some (.int .i64 m.p) ∧ w.cell? ⟨X, 2, none⟩ = some (.int .i64 m.to.disk) ∧ w.cell? ⟨X, 3, none⟩ = some (.int .i64 m.to.block) :=
 ⟨by rw [cell_of_row _ _ _ _ _ _ h]; rfl, by rw [cell_of_row _ _ _ _ _ _ h]; rfl, by rw [cell_of_row _ _ _ _ _ _ h]; rfl, by rw [cell_of_row _ _ _ _ _ _ h]; rfl⟩
theorem MvB.lt (h : MvB w X m) : X < w.heap.size := (Array.getElem?_eq_some_iff.1 h).1
theorem MvB.below {C : Nat} (h : MvB w X m) (hb : Below C w w') (hC : X < C) : MvB w' X m := (hb.block _ hC).trans h
end
end Go.Proofs.YtopoefcklipaeaaGreatDoor
