/- Walks of the laws' own small functions: tegulalaw22.marks, tegularef02.SameInts. -/
import Derived.Test.YtkjjojmidhjjdaaTwE
import Derived.BigQuiet
namespace Go.Proofs.Ytkjjojmidhjjdaa
open Go.RowKit

theorem testBit_mod (x d : Nat) : x.testBit d = decide (x / 2 ^ d % 2 = 1) := Nat.testBit_eq_decide_div_mod_eq
theorem marks_one {d which : Nat} (hD : d < 16) (h1 : which / 2 ^ d % 2 = 1) (h2 : (marksTo which d).2 < 3) : marksTo which (d + 1) = ((marksTo which d).1 ++ [true], (marksTo which d).2 + 1) := by
  rw [marksTo]
  simp only
  rw [if_pos ⟨hD, by rw [testBit_mod]; simpa using h1, h2⟩]
theorem marks_not {d which : Nat} (h : ¬ (which / 2 ^ d % 2 = 1 ∧ (marksTo which d).2 < 3)) : marksTo which (d + 1) = ((marksTo which d).1 ++ [false], (marksTo which d).2) := by
  rw [marksTo]
  simp only
  rw [if_neg (fun h' => h ⟨by have := h'.2.1; rw [testBit_mod] at this; simpa using this, h'.2.2⟩)]
theorem marks_le (which d : Nat) : (marksTo which d).2 ≤ 3 := by
  induction d with
  | zero => simp [marksTo]
  | succ d ih =>
    rw [marksTo]
    simp only
    split
    · rename_i h; exact h.2.2
    · exact ih
theorem and_one16 (q : Nat) (hq : q < 65536) : bits .and .u16 (q : Int) 1 = ((q % 2 : Nat) : Int) := by
  have e : (BitVec.ofInt 16 (q : Int) &&& BitVec.ofInt 16 1).toNat = q % 2 := by
    rw [BitVec.toNat_and]
    have h1 : (BitVec.ofInt 16 (q : Int)).toNat = q := by rw [BitVec.toNat_ofInt]; omega
    have h2 : (BitVec.ofInt 16 1).toNat = 1 := by decide
    rw [h1, h2]
    exact Nat.and_one_is_mod q
  unfold bits
  show IntKind.u16.wrap (((BitVec.ofInt 16 (q : Int) &&& BitVec.ofInt 16 1).toNat : Nat) : Int) = _
  rw [e]
  simp [IntKind.wrap, IntKind.bits, IntKind.signed]
  omega
def Mrk1 (D which : Nat) (w : World) (s6 s7 : Value) (wr : World) : Prop := ∃ d : Nat, d ≤ D ∧ s7 = .int .i64 d ∧ s6 = .int .i64 ((marksTo which d).2 : Int) ∧
  OwS wr w.heap.size 4 1 (.slice (some ⟨w.heap.size, 0, none⟩) D D) (rowsB ((marksTo which d).1 ++ List.replicate (D - d) false)) ∧ Below w.heap.size w wr
theorem rows_set {l : List Bool} {D d : Nat} (hl : l.length = d) (hd : d < D) : (rowsB (l ++ List.replicate (D - d) false)).set d [.bool true] = rowsB ((l ++ [true]) ++ List.replicate (D - (d + 1)) false) := by
  obtain ⟨k, hk⟩ : ∃ k, D - d = k + 1 := ⟨D - d - 1, by omega⟩
  rw [hk, show D - (d + 1) = k by omega, List.replicate_succ, List.append_assoc]
  unfold rowsB
  simp [List.map_append, hl]
theorem rows_no {l : List Bool} {D d : Nat} (hd : d < D) : rowsB (l ++ List.replicate (D - d) false) = rowsB ((l ++ [false]) ++ List.replicate (D - (d + 1)) false) := by
  obtain ⟨k, hk⟩ : ∃ k, D - d = k + 1 := ⟨D - d - 1, by omega⟩
  rw [hk, show D - (d + 1) = k by omega, List.replicate_succ, List.append_assoc]
  rfl
set_option maxHeartbeats 4000000 in
set_option maxRecDepth 100000 in
theorem marks_any (D which : Nat) (hD : D ≤ 13) (hw : which < 65536) (w : World) :
    Calls Try.prog 12 #[.int .i64 (D : Int), .int .u16 (which : Int)] w fun r w' => (∃ v, r = .returned v ∧ OwS w' w.heap.size 4 1 v (rowsB (marksL D which))) ∧ Below w.heap.size w w' := by
  have hmk : ∀ W : World, (Instr.makeSlice 35 (.int .i64 (D : Int)) (.int .i64 (D : Int))).run Try.prog W = .ok (.slice (some ⟨W.heap.size, 0, none⟩) D D) (W.alloc (.cells (madeCells #[.bool false] D) 4)) := fun W => make_boolsS W D (by omega)
  go_enter Try.func12, Try.ntmps12
  go_wp2
  have H0 : Hid (Mrk1 D which w (.int .i64 0) (.int .i64 0) (w.alloc (.cells (madeCells #[.bool false] D) 4))) := ⟨0, by omega, rfl, rfl, by simpa [marksTo] using made_falses w D (by omega), below_laid⟩
  generalize w.alloc _ = w0 at *
  clear hmk
  go_loopw [6, 7] (fun s6 s7 wr => Mrk1 D which w s6 s7 wr) (fun _ s7 _ => D - (intOf s7).toNat)
  case atStart => exact H0.out
  case round =>
    clear H0
    obtain ⟨d, hd, rfl, rfl, hown, hb⟩ := hrel
    by_cases hdD : d < D
    · have hdI : (d : Int) < (D : Int) := by omega
      have hd16 : (d : Int) < 16 := by omega
      have hml := marks_le which d
      have hlen : (marksTo which d).1.length = d := marks_len which d
      have hqn : which / 2 ^ d < 65536 := Nat.lt_of_le_of_lt (Nat.div_le_self _ _) hw
      have hsh : (which : Int) / 2 ^ d = ((which / 2 ^ d : Nat) : Int) := by simp
      have hand := and_one16 (which / 2 ^ d) hqn
      have HM1 : Hid (which / 2 ^ d % 2 = 1 → (marksTo which d).2 < 3 → marksTo which (d + 1) = ((marksTo which d).1 ++ [true], (marksTo which d).2 + 1)) := fun h h' => marks_one (by omega) h h'
      have HM2 : Hid (¬ (which / 2 ^ d % 2 = 1 ∧ (marksTo which d).2 < 3) → marksTo which (d + 1) = ((marksTo which d).1 ++ [false], (marksTo which d).2)) := fun h => marks_not h
      generalize which / 2 ^ d = q at *
      obtain ⟨l, hl⟩ : ∃ l, (marksTo which d).1 = l := ⟨_, rfl⟩
      obtain ⟨n, hn⟩ : ∃ n, (marksTo which d).2 = n := ⟨_, rfl⟩
      rw [hl, hn] at HM1 HM2
      rw [hl] at hown hlen
      rw [hn] at hml ⊢
      clear hl hn
      have HO := Lib.hid hown
      have HB := Lib.hid hb
      have wn : IntKind.i64.wrap ((n : Int) + 1) = (n : Int) + 1 := IntWalk.i64_in _ (by omega)
      have wd : IntKind.i64.wrap ((d : Int) + 1) = (d : Int) + 1 := IntWalk.i64_in _ (by omega)
      clear hown hb hw hqn
      have hb2 : q % 2 = 0 ∨ q % 2 = 1 := by omega
      rcases hb2 with h0 | h0
      · rw [h0] at hand
        have HR := Lib.hid (HM2.out (by omega))
        clear HM1 HM2 h0
        go_wp2
        go_roundw
        case rel =>
          refine ⟨d + 1, by omega, by go_num, by rw [HR.out], ?_, HB.out⟩
          rw [HR.out, ← rows_no hdD]
          exact HO.out
        case measure => simp [intOf] <;> omega
      · rw [h0] at hand
        by_cases h3 : n < 3
        · have h3I : (n : Int) < 3 := by omega
          have HR := Lib.hid (HM1.out h0 h3)
          clear HM1 HM2 h0
          have hrk : (rowsB (l ++ List.replicate (D - d) false))[d]? = some [.bool false] := by
            unfold rowsB
            rw [List.getElem?_map, List.getElem?_append_right (by omega), hlen, List.getElem?_replicate]
            simp
            omega
          have hst := HO.out.set (k := d) (j := 0) hrk (by omega) (.bool true)
          have HST := Lib.hid hst
          have hc0 : wr.cell? ⟨w.heap.size, d, none⟩ = some (.bool false) := by
            have := (HO.out.reads.2 (by simp [rowsB]; omega))
            obtain ⟨b, off, e, -, h⟩ := this
            cases e
            have h' := h d _ hrk 0 _ rfl
            simpa using h'
          have f5 := HO.out.frozen d
          clear hst hrk
          go_wp2
          go_roundw
          case rel =>
            obtain ⟨h1, h2⟩ := HST.out
            simp only [Nat.mul_one, Nat.add_zero] at h1 h2
            refine ⟨d + 1, by omega, by go_num, by rw [HR.out]; go_num, ?_, HB.out.grown h2 HB.out.size (fun k hk => by cases hk; exact Nat.le_refl _)⟩
            rw [HR.out, ← rows_set hlen hdD]
            exact h1
          case measure => simp [intOf] <;> omega
        · have h3I : ¬ (n : Int) < 3 := by omega
          have HR := Lib.hid (HM2.out (by omega))
          clear HM1 HM2 h0
          go_wp2
          go_roundw
          case rel =>
            refine ⟨d + 1, by omega, by go_num, by rw [HR.out], ?_, HB.out⟩
            rw [HR.out, ← rows_no hdD]
            exact HO.out
          case measure => simp [intOf] <;> omega
    · obtain rfl : d = D := by omega
      have HO := Lib.hid hown
      have HB := Lib.hid hb
      clear hown hb
      go_wp2
      go_ret
      refine ⟨⟨_, rfl, ?_⟩, HB.out⟩
      have h := HO.out
      rw [Nat.sub_self, List.replicate_zero, List.append_nil] at h
      exact h
end Go.Proofs.Ytkjjojmidhjjdaa
