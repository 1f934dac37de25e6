/- Walk of tegulalaw23.dead. -/
import Derived.Test.YteglnekkkhpikaaGreatAwkP
namespace Go.Proofs.YteglnekkkhpikaaGreat
open Go.RowKit

/-- what dead answers: an entry for each disk, the first one dead, no other one if no bit is set -/
def DeadP (D x y : Nat) (w : World) (r : Ending) (w' : World) : Prop := ∃ (a : Addr) (l : List Bool), r = .returned (.tuple #[.slice (some a) D D, .int .i64 ((x % D : Nat) : Int)]) ∧ l.length = D ∧ l[x % D]? = some true ∧ (y = 0 → l = oneD D (x % D)) ∧ OwS w' w.heap.size 4 1 (.slice (some a) D D) (l.map fun b => [.bool b]) ∧ Below w.heap.size w w'
def DdR (D y : Nat) (w1 : World) (S : Nat) (s7 s8 : Value) (wr : World) : Prop := ∃ (d n : Nat) (l : List Bool), d ≤ D ∧ s8 = .int .i64 d ∧ s7 = .int .i64 n ∧ n ≤ 3 ∧ l.length = D ∧ (y = 0 → l = List.replicate D false) ∧ OwS wr S 4 1 (.slice (some ⟨S, 0, none⟩) D D) (l.map fun b => [.bool b]) ∧ Below S w1 wr
theorem OwS.setB {w : World} {base n cap g : Nat} {t : TypeId} {l : List Bool} (h : OwS w base t 1 (.slice (some ⟨g, 0, none⟩) n cap) (l.map fun b => [.bool b])) {k : Nat} (hk : k < l.length) (b : Bool) : OwS (w.setCell ⟨g, k, none⟩ (.bool b)) base t 1 (.slice (some ⟨g, 0, none⟩) n cap) ((l.set k b).map fun b => [.bool b]) := by
  have hr : (l.map fun b => [Value.bool b])[k]? = some [.bool l[k]] := by rw [List.getElem?_map, List.getElem?_eq_getElem hk]; rfl
  obtain ⟨h0, -⟩ := h.set hr (j := 0) (by omega) (.bool b)
  simp only [Nat.mul_one, Nat.add_zero, List.set_cons_zero] at h0
  rw [List.map_set]
  exact h0
set_option maxHeartbeats 4000000 in
set_option maxRecDepth 100000 in
theorem dead_any (D x y : Nat) (w : World) (hD : 2 ≤ D ∧ D ≤ 60) (hx : x < 256) (hy : y < 65536) : Calls Tryz.prog 11 #[.int .i64 (D : Int), .agg #[.int .u8 (x : Int), .int .u16 (y : Int)]] w fun r w' => DeadP D x y w r w' := by
  have hmk : ∀ W : World, (Instr.makeSlice 35 (.int .i64 (D : Int)) (.int .i64 (D : Int))).run Tryz.prog W = .ok (.slice (some ⟨W.heap.size, 0, none⟩) D D) (W.alloc (.cells (madeCells #[.bool false] D) 4)) := fun W => make_boolsS W D (by omega)
  have hcv : ∀ W : World, (convert 5 3 (.int .u8 (x : Int))).run Tryz.prog W = .ok (.int .i64 (x : Int)) W := fun W => conv_u8 _ (by omega) (by omega) W
  have HDEF : Hid (∀ (r : Ending) (w' : World), (∃ (a : Addr) (l : List Bool), r = .returned (.tuple #[.slice (some a) D D, .int .i64 ((x % D : Nat) : Int)]) ∧ l.length = D ∧ l[x % D]? = some true ∧ (y = 0 → l = oneD D (x % D)) ∧ OwS w' w.heap.size 4 1 (.slice (some a) D D) (l.map fun b => [.bool b]) ∧ Below w.heap.size w w') → DeadP D x y w r w') := fun r w' h => h
  generalize DeadP D x y w = DP at *
  go_enter Tryz.func11, Tryz.ntmps11
  go_upto_region 1 with (fail)
  generalize hW0 : w.alloc _ = w0
  have hm0 : w0.heap[w.heap.size]? = some (.cells #[.int .u8 (x : Int), .int .u16 (y : Int)] 25) := by rw [← hW0]; exact heap_alloc_new w _
  have hb0 : Below w.heap.size w w0 := by rw [← hW0]; exact below_laid
  have hz0 : w0.heap.size = w.heap.size + 1 := by rw [← hW0]; simp
  have HM0 := Lib.hid hm0
  have HB0 := Lib.hid hb0
  have HZ0 := Lib.hid hz0
  clear hW0 hm0 hb0 hz0
  go_upto_region 2 with (fail)
  generalize hW1 : w0.alloc _ = w1
  have HO1 : Hid (OwS w1 w0.heap.size 4 1 (.slice (some ⟨w0.heap.size, 0, none⟩) D D) ((List.replicate D false).map fun b => [.bool b])) := by rw [← hW1]; exact made_falses w0 D (by omega)
  have HB1 : Hid (Below w0.heap.size w0 w1) := by rw [← hW1]; exact below_laid
  have HF1 : Hid (w1.heap[w.heap.size]? = some (.cells #[.int .u8 (x : Int), .int .u16 (y : Int)] 25)) := (HB1.out.block _ (by rw [HZ0.out]; omega)).trans HM0.out
  have HZW : Hid (w.heap.size < w0.heap.size) := by rw [HZ0.out]; exact Nat.lt_succ_self _
  clear hW1 HM0 HZ0
  generalize w0.heap.size = S at *
  go_wp2
  go_loopw [7, 8] (fun s7 s8 wr => DdR D y w1 S s7 s8 wr) (fun _ s8 _ => D - (intOf s8).toNat)
  case atStart => exact ⟨0, 0, _, by omega, rfl, rfl, by omega, by simp, fun _ => rfl, HO1.out, Below.refl _ _⟩
  case round =>
    obtain ⟨d, n, l, hd, rfl, rfl, hn, hl, hl0, hown, hb⟩ := hrel
    have HL := Lib.hid hl
    have HL0 := Lib.hid hl0
    have HO := Lib.hid hown
    have HB := Lib.hid hb
    have hf : wr.heap[w.heap.size]? = some (.cells #[.int .u8 (x : Int), .int .u16 (y : Int)] 25) := (hb.block _ HZW.out).trans HF1.out
    have c0 : wr.cell? ⟨w.heap.size, 0, none⟩ = some (.int .u8 (x : Int)) := by rw [cell_of_row _ _ _ _ _ _ hf]; rfl
    have c1 : wr.cell? ⟨w.heap.size, 1, none⟩ = some (.int .u16 (y : Int)) := by rw [cell_of_row _ _ _ _ _ _ hf]; rfl
    clear hl hl0 hown hb hf
    have HCL : Hid (∀ k, k < D → (∃ v, wr.cell? ⟨S, k, none⟩ = some v) ∧ wr.frozen? ⟨S, k, none⟩ = false) := fun k hk => by
      have hr : (l.map fun b => [Value.bool b])[k]? = some [.bool (l[k]'(by rw [HL.out]; exact hk))] := by rw [List.getElem?_map, List.getElem?_eq_getElem]; rfl
      have h := HO.out.cell hr (j := 0) rfl
      rw [Nat.mul_one, Nat.add_zero] at h
      exact ⟨⟨_, h⟩, HO.out.frozen k⟩
    have HSS : Hid (S < wr.heap.size ∧ S ≤ S) := ⟨(HO.out.lt rfl).2, Nat.le_refl _⟩
    by_cases hgo : d < D ∧ d < 16
    case pos =>
      obtain ⟨h1, h2⟩ := hgo
      have h1I : (d : Int) < (D : Int) := by omega
      have h2I : (d : Int) < 16 := by omega
      obtain ⟨z, hz⟩ : ∃ z, bits .and .u16 ((y : Int) / 2 ^ d) 1 = z := ⟨_, rfl⟩
      have HZ : Hid (y = 0 → z ≠ 1) := fun h => by
        rw [← hz, h]
        have : ((0 : Nat) : Int) / 2 ^ d = 0 := by simp
        rw [this]
        decide
      by_cases hb : z = 1 ∧ n < 3
      case pos =>
        obtain ⟨h3, h4⟩ := hb
        have f3 : (z == 1) = true := by simpa using h3
        have h4I : (n : Int) < 3 := by omega
        have HL1 : Hid (y = 0 → l.set d true = List.replicate D false) := fun h => absurd h3 (HZ.out h)
        obtain ⟨⟨v, hv⟩, hfz⟩ := HCL.out d h1
        have HO2 := Lib.hid (HO.out.setB (k := d) (by rw [HL.out]; exact h1) true)
        have HB2 : Hid (Below S w1 (wr.setCell ⟨S, d, none⟩ (.bool true))) := HB.out.setCell (Nat.le_refl _) _
        clear h3 HCL HL0 HZ HSS
        go_wp2
        go_roundw
        case rel => exact ⟨d + 1, n + 1, _, by omega, by go_num, by go_num, by omega, by rw [List.length_set]; exact HL.out, HL1.out, HO2.out, HB2.out⟩
        case measure => simp [intOf] <;> omega
      case neg =>
        by_cases h3 : z = 1
        · have f3 : (z == 1) = true := by simpa using h3
          have h4I : ¬ (n : Int) < 3 := by omega
          clear h3 hb
          go_wp2
          go_roundw
          case rel => exact ⟨d + 1, n, _, by omega, by go_num, rfl, hn, HL.out, HL0.out, HO.out, HB.out⟩
          case measure => simp [intOf] <;> omega
        · have f3 : (z == 1) = false := by simpa using h3
          clear hb
          go_wp2
          go_roundw
          case rel => exact ⟨d + 1, n, _, by omega, by go_num, rfl, hn, HL.out, HL0.out, HO.out, HB.out⟩
          case measure => simp [intOf] <;> omega
    case neg =>
      have hfx : x % D < D := Nat.mod_lt _ (by omega)
      obtain ⟨⟨v, hv⟩, hfz⟩ := HCL.out (x % D) hfx
      have q1 : (x : Int) % (D : Int) = ((x % D : Nat) : Int) := by simp
      have q2 : Int.tmod (x : Int) (D : Int) = ((x % D : Nat) : Int) := tmod_nat _ _
      have q3 : ¬ (D : Int) = 0 := by omega
      have q4 : ¬ D = 0 := by omega
      have HO2 := Lib.hid (HO.out.setB (k := x % D) (by rw [HL.out]; exact hfx) true)
      have HB2 : Hid (Below S w1 (wr.setCell ⟨S, x % D, none⟩ (.bool true))) := HB.out.setCell (Nat.le_refl _) _
      have HRR : Hid (DP (.returned (.tuple #[.slice (some ⟨S, 0, none⟩) D D, .int .i64 ((x % D : Nat) : Int)])) (wr.setCell ⟨S, x % D, none⟩ (.bool true))) :=
        HDEF.out _ _ ⟨⟨S, 0, none⟩, l.set (x % D) true, rfl, by rw [List.length_set]; exact HL.out, by rw [List.getElem?_set_self (by rw [HL.out]; exact hfx)], fun h => by rw [HL0.out h]; rfl, HO2.out.mono (Nat.le_of_lt HZW.out), HB0.out.trans ((HB1.out.trans HB2.out).mono (Nat.le_of_lt HZW.out))⟩
      generalize x % D = m at *
      clear HCL HL0 HDEF HO2 HB2 HO HB HL
      by_cases h1 : d < D
      case' pos =>
        have h1I : (d : Int) < (D : Int) := by omega
        have h2I : ¬ (d : Int) < 16 := by omega
      case' neg =>
        have h1I : ¬ (d : Int) < (D : Int) := by omega
      all_goals
        clear hgo
        go_wp2
        exact HRR.out
end Go.Proofs.YteglnekkkhpikaaGreat
