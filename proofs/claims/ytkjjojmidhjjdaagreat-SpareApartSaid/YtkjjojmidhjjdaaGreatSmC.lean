/- Walks of the laws' own small functions: tegulalaw22.marks, tegularef02.SameInts. -/
import Derived.Test.YtkjjojmidhjjdaaGreatTwE
import Derived.BigQuiet
namespace Go.Proofs.YtkjjojmidhjjdaaGreat
open Go.RowKit

theorem testBit_mod (x d : Nat) : x.testBit d = decide (x / 2 ^ d % 2 = 1) := Nat.testBit_eq_decide_div_mod_eq
theorem marks_one {d which : Nat} (hD : d < 16) (h1 : which / 2 ^ d % 2 = 1) (h2 : (marksTo which d).2 < 3) : marksTo which (d + 1) = ((marksTo which d).1 ++ [true], (marksTo which d).2 + 1) := by
  rw [marksTo]
  simp only
  rw [if_pos ⟨hD, by rw [testBit_mod]; simpa using h1, h2⟩]
theorem marks_not {d which : Nat} (h : ¬ (which / 2 ^ d % 2 = 1 ∧ (marksTo which d).2 < 3)) : marksTo which (d + 1) = ((marksTo which d).1 ++ [false], (marksTo which d).2) := by
  rw [marksTo]
  simp only
  rw [if_neg (fun h' => h ⟨by have := h'.2.1; rw [testBit_mod] at this; simpa using this, h'.2.2⟩)]
theorem marks_le (which d : Nat) : (marksTo which d).2 ≤ 3 := by
  induction d with
  | zero => simp [marksTo]
  | succ d ih =>
    rw [marksTo]
    simp only
    split
    · rename_i h; exact h.2.2
    · exact ih
theorem and_one16 (q : Nat) (hq : q < 65536) : bits .and .u16 (q : Int) 1 = ((q % 2 : Nat) : Int) := by
  have e : (BitVec.ofInt 16 (q : Int) &&& BitVec.ofInt 16 1).toNat = q % 2 := by
    rw [BitVec.toNat_and]
    have h1 : (BitVec.ofInt 16 (q : Int)).toNat = q := by rw [BitVec.toNat_ofInt]; omega
    have h2 : (BitVec.ofInt 16 1).toNat = 1 := by decide
    rw [h1, h2]
    exact Nat.and_one_is_mod q
  unfold bits
  show IntKind.u16.wrap (((BitVec.ofInt 16 (q : Int) &&& BitVec.ofInt 16 1).toNat : Nat) : Int) = _
  rw [e]
  simp [IntKind.wrap, IntKind.bits, IntKind.signed]
  omega
def Mrk1 (D which : Nat) (w : World) (s6 s7 : Value) (wr : World) : Prop := ∃ d : Nat, d ≤ D ∧ s7 = .int .i64 d ∧ s6 = .int .i64 ((marksTo which d).2 : Int) ∧
  OwS wr w.heap.size 4 1 (.slice (some ⟨w.heap.size, 0, none⟩) D D) (rowsB ((marksTo which d).1 ++ List.replicate (D - d) false)) ∧ Below w.heap.size w wr
theorem rows_set {l : List Bool} {D d : Nat} (hl : l.length = d) (hd : d < D) : (rowsB (l ++ List.replicate (D - d) false)).set d [.bool true] = rowsB ((l ++ [true]) ++ List.replicate (D - (d + 1)) false) := by
  obtain ⟨k, hk⟩ : ∃ k, D - d = k + 1 := ⟨D - d - 1, by omega⟩
  rw [hk, show D - (d + 1) = k by omega, List.replicate_succ, List.append_assoc]
  unfold rowsB
  simp [List.map_append, hl]
theorem rows_no {l : List Bool} {D d : Nat} (hd : d < D) : rowsB (l ++ List.replicate (D - d) false) = rowsB ((l ++ [false]) ++ List.replicate (D - (d + 1)) false) := by
  obtain ⟨k, hk⟩ : ∃ k, D - d = k + 1 := ⟨D - d - 1, by omega⟩
  rw [hk, show D - (d + 1) = k by omega, List.replicate_succ, List.append_assoc]
  rfl
end Go.Proofs.YtkjjojmidhjjdaaGreat
