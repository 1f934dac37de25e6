/- Walks of tegularef05 at the size 3: Prime, digits, number, Add, Mul.
Walk of tegularef06.coordinates at the size 3.
A design that is built up: its groups lie in memory of the callee. Walk of tegularef06.Projective at the size 3.
Walk of tegularef06.Projective at the size 3. -/
import Derived.Test.YteglnekkkhpikaaGreatGSmm
import Derived.Deep.RegionHeld3
import Derived.Deep.DeepCutAuto
import Derived.Deep.QuietTactic
import Derived.BigQuiet
import Derived.Outline
namespace Go.Proofs.YteglnekkkhpikaaGreat
open Go.RowKit

theorem elemIntS : Elem Tryz.prog 48 3 1 8 := Elem.mk (z := .int .i64 0) Tryz.underlying48 (by kernel_rfl) (by decide) rfl
theorem icellOneS (x : Int) : ∀ u ∈ icell x, u.oneCell' = true := by
  intro u hu
  simp [icell] at hu
  subst hu
  rfl
theorem prime3 (w : World) : Calls Tryz.prog 79 #[.int .i64 3] w fun r w' => r = .returned (.tuple #[.int .i64 3, .int .i64 1]) ∧ w' = w := by
  go_enter Tryz.func79, Tryz.ntmps79
  go_wp2
  go_ret2
  exact ⟨rfl, rfl⟩
set_option maxHeartbeats 1000000 in
theorem digits3 (a : Nat) (ha : a < 3) (w : World) : Calls Tryz.prog 80 #[.int .i64 (a : Int), .int .i64 3, .int .i64 1] w fun r w' => (∃ g c, r = .returned (.slice (some ⟨g, 0, none⟩) 1 c) ∧ OwS w' w.heap.size 3 1 (.slice (some ⟨g, 0, none⟩) 1 c) [icell a]) ∧ Below w.heap.size w w' := by
  have ht : Int.tmod (a : Int) 3 = (a : Int) := by rw [Int.tmod_eq_emod_of_nonneg (by omega)]; omega
  have hq : Int.tdiv (a : Int) 3 = 0 := by rw [Int.tdiv_eq_ediv_of_nonneg (by omega)]; omega
  go_enter Tryz.func80, Tryz.ntmps80
  go_wp2
  go_loopw [0, 7, 8] (fun s0 s7 s8 wr => (s0 = .int .i64 (a : Int) ∧ s7 = .slice none 0 0 ∧ s8 = .int .i64 0 ∧ wr = w) ∨ (s0 = .int .i64 0 ∧ s8 = .int .i64 1 ∧ (∃ g c, s7 = .slice (some ⟨g, 0, none⟩) 1 c ∧ OwS wr w.heap.size 3 1 (.slice (some ⟨g, 0, none⟩) 1 c) [icell a]) ∧ Below w.heap.size w wr)) (fun _ _ s8 _ => 1 - (intOf s8).toNat)
  case atStart => exact .inl ⟨rfl, rfl, rfl, rfl⟩
  case round =>
    rcases hrel with ⟨rfl, rfl, rfl, rfl⟩ | ⟨rfl, rfl, ⟨g, c, rfl, hown⟩, hb⟩
    · go_wp2_with (at_builtin; refine wpList_ap1 rfl (.tmp 14) (.tmp 18) _ rfl elemIntS rfl (OwS.nil wr wr.heap.size 3 1) (icell (a : Int)) _ (by rfl) wr.heap.size (by rfl) (by rfl) (icellOneS _) (by simp [maxLen]) (by simp) (Nat.le_refl _) ?_)
      intro v3 w3 hown3 hg3 _
      have hb3 : Below wr.heap.size wr w3 := below_laid.grown hg3 (by simp) (fun g hg => by simp [Value.ownBlock] at hg)
      obtain ⟨g, c, hv, -, -⟩ := hown3.pos (by simp)
      subst hv
      have HO := Lib.hid hown3
      have HB := Lib.hid hb3
      clear hg3 hown3 hb3
      go_wp2
      go_roundw
      case rel => exact .inr ⟨rfl, rfl, ⟨g, c, rfl, HO.out⟩, HB.out⟩
      case measure => simp [intOf]
    · have HO := Lib.hid hown
      clear hown
      go_wp2
      go_ret
      exact ⟨⟨g, c, rfl, HO.out⟩, hb⟩
/-- the number of one digit -/
theorem number1 (x : Nat) (hx : x < 1000) (A : Option Addr) (c B : Nat) (w : World) (h : IntS w B A [(x : Int)]) : Calls Tryz.prog 81 #[.slice A 1 c, .int .i64 3] w fun r w' => r = .returned (.int .i64 (x : Int)) ∧ w' = w := by
  obtain ⟨b, off, y, rfl, -, hy, hc⟩ := IntS.at_ h (k := 0) (by simp)
  simp at hy
  subst hy
  simp only [Nat.add_zero] at hc
  have hwx : IntKind.i64.wrap (x : Int) = (x : Int) := IntWalk.i64_in _ (by omega)
  go_enter Tryz.func81, Tryz.ntmps81
  go_wp2
  go_loopw [5, 6] (fun s5 s6 wr => wr = w ∧ ((s5 = .int .i64 0 ∧ s6 = .int .i64 0) ∨ (s5 = .int .i64 (x : Int) ∧ s6 = .int .i64 (-1)))) (fun _ s6 _ => (intOf s6 + 1).toNat)
  case atStart => exact ⟨rfl, .inl ⟨rfl, rfl⟩⟩
  case round =>
    rcases hrel with ⟨rfl, ⟨rfl, rfl⟩ | ⟨rfl, rfl⟩⟩
    · go_wp2
      go_roundw
      case rel => first | exact ⟨rfl, .inr ⟨rfl, rfl⟩⟩ | exact ⟨trivial, .inr ⟨rfl, rfl⟩⟩
      case measure => simp [intOf]
    · go_wp2
      go_ret
      exact ⟨rfl, rfl⟩
set_option maxHeartbeats 1000000 in
theorem add3 (a b : Nat) (ha : a < 3) (hb : b < 3) (w : World) : Calls Tryz.prog 55 #[.int .i64 3, .int .i64 (a : Int), .int .i64 (b : Int)] w fun r w' => r = .returned (.int .i64 (((a + b) % 3 : Nat) : Int)) ∧ Below w.heap.size w w' := by
  have HP := Lib.hid (fun W => prime3 W)
  have HDA := Lib.hid (fun W => digits3 a ha W)
  have HDB := Lib.hid (fun W => digits3 b hb W)
  have hwa : IntKind.i64.wrap ((a : Int) + (b : Int)) = (a : Int) + (b : Int) := IntWalk.i64_in _ (by omega)
  obtain ⟨s, hs⟩ : ∃ s, s = (a + b) % 3 := ⟨_, rfl⟩
  have hrm : Int.tmod ((a : Int) + (b : Int)) 3 = (s : Int) := by rw [Int.tmod_eq_emod_of_nonneg (by omega)]; omega
  have hrm2 : ((a : Int) + (b : Int)) % 3 = (s : Int) := by omega
  have hsl : s < 3 := by omega
  rw [← hs]
  clear hs
  go_enter Tryz.func55, Tryz.ntmps55
  go_wp2_with fail
  refine (HP.out _).mono ?_
  rintro r w1 ⟨rfl, rfl⟩
  go_wp2_with fail
  refine (HDA.out _).mono ?_
  rintro r w2 ⟨⟨g2, c2, rfl, hown2⟩, hb2⟩
  go_wp2_with fail
  refine (HDB.out _).mono ?_
  rintro r w3 ⟨⟨g3, c3, rfl, hown3⟩, hb3⟩
  have hown2' := hown2.below hb3
  have hb13 := hb2.trans (hb3.mono hb2.size)
  have x0 : w3.cell? ⟨g2, 0, none⟩ = some (.int .i64 (a : Int)) := by simpa using hown2'.cell (k := 0) (j := 0) rfl rfl
  have y0 : w3.cell? ⟨g3, 0, none⟩ = some (.int .i64 (b : Int)) := by simpa using hown3.cell (k := 0) (j := 0) rfl rfl
  have f0 : w3.frozen? ⟨g2, 0, none⟩ = false := hown2'.frozen 0
  have HO := Lib.hid hown2'
  have HB := Lib.hid hb13
  clear hown2 hown2' hown3 hb2 hb3 hb13
  go_wp2
  go_loopw [11] (fun s11 wr => (s11 = .int .i64 0 ∧ wr = w3) ∨ (s11 = .int .i64 1 ∧ OwS wr w1.heap.size 3 1 (.slice (some ⟨g2, 0, none⟩) 1 c2) [icell (s : Int)] ∧ Below w1.heap.size w1 wr)) (fun s11 _ => 1 - (intOf s11).toNat)
  case atStart => exact .inl ⟨rfl, rfl⟩
  case round =>
    rcases hrel with ⟨rfl, rfl⟩ | ⟨rfl, hown, hb⟩
    · have HS : Hid (OwS (wr.setCell ⟨g2, 0, none⟩ (.int .i64 (s : Int))).drew w1.heap.size 3 1 (.slice (some ⟨g2, 0, none⟩) 1 c2) [icell (s : Int)]) := by
        have := (HO.out.set (k := 0) (j := 0) (r := icell (a : Int)) rfl (by omega) (.int .i64 (s : Int))).1
        unfold Hid
        simpa [icell] using this.drew
      have HB2 := Lib.hid (HB.out.setCell (p := ⟨g2, 0, none⟩) (HO.out.lt rfl).1 (.int .i64 (s : Int)))
      go_upto_region 6 with (fail)
      go_region_law (fail)
      all_goals
        generalize hw4 : (wr.setCell ⟨g2, 0, none⟩ (.int .i64 (s : Int))).drew = w4 at *
        have HB4 : Hid (Below w1.heap.size w1 w4) := by rw [← hw4]; exact HB2.out.drew
        clear hw4 x0 y0 f0
        go_wp2
        go_roundw
        case rel => exact .inr ⟨rfl, HS.out, HB4.out⟩
        case measure => simp [intOf]
    · have HN := Lib.hid (fun W (h : IntS W W.heap.size (some ⟨g2, 0, none⟩) [(s : Int)]) => number1 s (by omega) (some ⟨g2, 0, none⟩) c2 W.heap.size W h)
      have HR := Lib.hid (hown.reads)
      go_wp2_with fail
      refine (HN.out _ HR.out).mono ?_
      rintro r w5 ⟨rfl, rfl⟩
      go_wp2
      go_ret
      exact ⟨rfl, hb⟩
theorem mul3 (a b : Nat) (ha : a < 3) (hb : b < 3) (w : World) : Calls Tryz.prog 56 #[.int .i64 3, .int .i64 (a : Int), .int .i64 (b : Int)] w fun r w' => r = .returned (.int .i64 ((a * b % 3 : Nat) : Int)) ∧ w' = w := by
  have HP := Lib.hid (fun W => prime3 W)
  have hab : a * b ≤ 4 := Nat.le_trans (Nat.mul_le_mul (show a ≤ 2 by omega) (show b ≤ 2 by omega)) (by decide)
  obtain ⟨p, hp⟩ : ∃ p, p = a * b := ⟨_, rfl⟩
  have hpI : (a : Int) * (b : Int) = (p : Int) := by rw [hp]; push_cast; rfl
  rw [← hp] at hab ⊢
  obtain ⟨s, hs⟩ : ∃ s, s = p % 3 := ⟨_, rfl⟩
  rw [← hs]
  have hwp : IntKind.i64.wrap (p : Int) = (p : Int) := IntWalk.i64_in _ (by omega)
  have hrm : Int.tmod (p : Int) 3 = (s : Int) := by rw [Int.tmod_eq_emod_of_nonneg (by omega)]; omega
  have hrm2 : (p : Int) % 3 = (s : Int) := by omega
  clear hp hs
  go_enter Tryz.func56, Tryz.ntmps56
  go_wp2_with fail
  refine (HP.out _).mono ?_
  rintro r w1 ⟨rfl, rfl⟩
  go_wp2
  go_ret
  exact ⟨rfl, rfl⟩
end Go.Proofs.YteglnekkkhpikaaGreat
namespace Go.Proofs.YteglnekkkhpikaaGreat
open Go.RowKit

theorem elemTri : Elem Tryz.prog 102 105 3 24 := Elem.mk (z := .agg #[.int .i64 0, .int .i64 0, .int .i64 0]) Tryz.underlying102 (by kernel_rfl) (by decide) rfl
def triC (t : Nat × Nat × Nat) : List Value := [.int .i64 t.1, .int .i64 t.2.1, .int .i64 t.2.2]
theorem triOne (t : Nat × Nat × Nat) : ∀ u ∈ triC t, u.oneCell' = true := by
  intro u hu
  simp [triC] at hu
  rcases hu with rfl | rfl | rfl <;> rfl
def okT (x y z : Nat) : Bool := decide (x = 1 ∨ (x = 0 ∧ y = 1) ∨ (x = 0 ∧ y = 0 ∧ z = 1))
def cN (m : Nat) : List (Nat × Nat × Nat) := (List.range m).filterMap fun j => if okT (j / 9) (j / 3 % 3) (j % 3) then some (j / 9, j / 3 % 3, j % 3) else none
theorem cN_all : cN 27 = coord3 := by decide +kernel
theorem cN_succ {x y z : Nat} (_hx : x < 3) (hy : y < 3) (hz : z < 3) : cN (9 * x + 3 * y + z + 1) = cN (9 * x + 3 * y + z) ++ if okT x y z then [(x, y, z)] else [] := by
  unfold cN
  rw [List.range_succ, List.filterMap_append]
  congr 1
  have e1 : (9 * x + 3 * y + z) / 9 = x := by omega
  have e2 : (9 * x + 3 * y + z) / 3 % 3 = y := by omega
  have e3 : (9 * x + 3 * y + z) % 3 = z := by omega
  simp only [List.filterMap_cons, List.filterMap_nil, e1, e2, e3]
  split <;> rename_i h <;> (split at h <;> simp_all)
theorem cN_len (m : Nat) : (cN m).length ≤ m := by
  unfold cN
  exact Nat.le_trans (List.length_filterMap_le _ _) (by simp)
def CoR (w : World) (m : Nat) (s3 : Value) (wr : World) : Prop := OwS wr w.heap.size 105 3 s3 ((cN m).map triC) ∧ Below w.heap.size w wr
def Co1 (w : World) (s3 s4 : Value) (wr : World) : Prop := ∃ x : Nat, x ≤ 3 ∧ s4 = .int .i64 x ∧ CoR w (9 * x) s3 wr
def Co2 (w : World) (x : Nat) (s3 s5 : Value) (wr : World) : Prop := ∃ y : Nat, y ≤ 3 ∧ s5 = .int .i64 y ∧ CoR w (9 * x + 3 * y) s3 wr
def Co3 (w : World) (x y : Nat) (s3 s6 : Value) (wr : World) : Prop := ∃ z : Nat, z ≤ 3 ∧ s6 = .int .i64 z ∧ CoR w (9 * x + 3 * y + z) s3 wr
set_option maxHeartbeats 4000000 in
theorem coord_any (w : World) : Calls Tryz.prog 54 #[.int .i64 3] w fun r w' => (∃ v, r = .returned v ∧ OwS w' w.heap.size 105 3 v (coord3.map triC)) ∧ Below w.heap.size w w' := by
  go_enter Tryz.func54, Tryz.ntmps54
  go_wp2
  go_loopw [3, 4, 5, 6] (fun s3 s4 _ _ wr => Co1 w s3 s4 wr) (fun _ s4 _ _ _ => 3 - (intOf s4).toNat)
  case atStart => exact ⟨0, by omega, rfl, OwS.nil _ _ _ _, Below.refl _ _⟩
  case round =>
    obtain ⟨x, hx, rfl, hr⟩ := hrel
    have HR := Lib.hid hr
    clear hr
    by_cases hx3 : x < 3
    · have hxI : (x : Int) < 3 := by omega
      go_wp2
      generalize wr = wo at *
      go_loopw [3, 5, 6] (fun s3 s5 _ wr => Co2 w x s3 s5 wr) (fun _ s5 _ _ => 3 - (intOf s5).toNat)
      case atStart => exact ⟨0, by omega, rfl, HR.out⟩
      case round =>
        clear HR
        obtain ⟨y, hy, rfl, hr⟩ := hrel
        have HR := Lib.hid hr
        clear hr
        by_cases hy3 : y < 3
        · have hyI : (y : Int) < 3 := by omega
          go_wp2
          generalize wr = wo at *
          go_loopw [3, 6] (fun s3 s6 wr => Co3 w x y s3 s6 wr) (fun _ s6 _ => 3 - (intOf s6).toNat)
          case atStart => exact ⟨0, by omega, rfl, HR.out⟩
          case round =>
            clear HR
            obtain ⟨z, hz, rfl, hr⟩ := hrel
            have HR := Lib.hid hr
            by_cases hz3 : z < 3
            · have hzI : (z : Int) < 3 := by omega
              have HCN := Lib.hid (cN_succ hx3 hy3 hz3)
              have hcl : (cN (9 * x + 3 * y + z)).length ≤ 26 := Nat.le_trans (cN_len (9 * x + 3 * y + z)) (by omega)
              obtain ⟨hown, hb⟩ := hr
              clear HR
              have hzz := hb.size
              generalize cN (9 * x + 3 * y + z) = L at hown hcl HCN
              obtain ⟨A3, c3, rfl, -, -⟩ := hown.form
              rcases (show x = 0 ∨ x = 1 ∨ x = 2 by omega) with rfl | rfl | rfl
              · rcases (show y = 0 ∨ y = 1 ∨ y = 2 by omega) with rfl | rfl | rfl
                · rcases (show z = 0 ∨ z = 1 ∨ z = 2 by omega) with rfl | rfl | rfl
                  · go_wp2
                    go_roundw
                    case rel =>
                      have HT : Co3 w 0 0 (.slice A3 (L.map triC).length c3) (.int .i64 (0+1 : Nat)) wr := ⟨0 + 1, by omega, rfl, by rw [show 9 * 0 + 3 * 0 + (0 + 1) = 9 * 0 + 3 * 0 + 0 + 1 from rfl, HCN.out]; simpa [okT] using hown, hb⟩
                      first | exact HT | (obtain ⟨m, h1, h2, h3⟩ := HT; exact ⟨m, h1, h2, h3⟩) | ((repeat apply Exists.intro); refine ⟨HT, ?_⟩; (repeat' apply And.intro) <;> rfl)
                    case measure => simp [intOf] <;> omega
                  · go_wp2_with (at_builtin; refine wpList_ap1 rfl (.tmp 44) (.tmp 49) _ rfl elemTri rfl hown (triC (0, 0, 1)) _ (by rfl) wr.heap.size (by rfl) (by rfl) (triOne _) (by simp [maxLen]; omega) (by simp; omega) hzz ?_)
                    rintro v1 w1 hown1 hg1 -
                    go_wp2
                    go_roundw
                    case rel =>
                      have HT : Co3 w 0 0 v1 (.int .i64 (1+1 : Nat)) w1 := ⟨1 + 1, by omega, rfl, by rw [show 9 * 0 + 3 * 0 + (1 + 1) = 9 * 0 + 3 * 0 + 1 + 1 from rfl, HCN.out]; simpa [okT] using hown1, (hb.alloc hzz _).grown hg1 (by simp; omega) (fun g hg => (hown.lt (by simpa using hg)).1)⟩
                      first | exact HT | (obtain ⟨m, h1, h2, h3⟩ := HT; exact ⟨m, h1, h2, h3⟩) | ((repeat apply Exists.intro); refine ⟨HT, ?_⟩; (repeat' apply And.intro) <;> rfl)
                    case measure => simp [intOf] <;> omega
                  · go_wp2
                    go_roundw
                    case rel =>
                      have HT : Co3 w 0 0 (.slice A3 (L.map triC).length c3) (.int .i64 (2+1 : Nat)) wr := ⟨2 + 1, by omega, rfl, by rw [show 9 * 0 + 3 * 0 + (2 + 1) = 9 * 0 + 3 * 0 + 2 + 1 from rfl, HCN.out]; simpa [okT] using hown, hb⟩
                      first | exact HT | (obtain ⟨m, h1, h2, h3⟩ := HT; exact ⟨m, h1, h2, h3⟩) | ((repeat apply Exists.intro); refine ⟨HT, ?_⟩; (repeat' apply And.intro) <;> rfl)
                    case measure => simp [intOf] <;> omega
                · go_wp2_with (at_builtin; refine wpList_ap1 rfl (.tmp 44) (.tmp 49) _ rfl elemTri rfl hown (triC (0, 1, z)) _ (by rfl) wr.heap.size (by rfl) (by rfl) (triOne _) (by simp [maxLen]; omega) (by simp; omega) hzz ?_)
                  rintro v1 w1 hown1 hg1 -
                  go_wp2
                  go_roundw
                  case rel =>
                    have HT : Co3 w 0 1 v1 (.int .i64 (z+1 : Nat)) w1 := ⟨z + 1, by omega, rfl, by rw [show 9 * 0 + 3 * 1 + (z + 1) = 9 * 0 + 3 * 1 + z + 1 from rfl, HCN.out]; simpa [okT] using hown1, (hb.alloc hzz _).grown hg1 (by simp; omega) (fun g hg => (hown.lt (by simpa using hg)).1)⟩
                    first | exact HT | (obtain ⟨m, h1, h2, h3⟩ := HT; exact ⟨m, h1, h2, h3⟩) | ((repeat apply Exists.intro); refine ⟨HT, ?_⟩; (repeat' apply And.intro) <;> rfl)
                  case measure => simp [intOf] <;> omega
                · go_wp2
                  go_roundw
                  case rel =>
                    have HT : Co3 w 0 2 (.slice A3 (L.map triC).length c3) (.int .i64 (z+1 : Nat)) wr := ⟨z + 1, by omega, rfl, by rw [show 9 * 0 + 3 * 2 + (z + 1) = 9 * 0 + 3 * 2 + z + 1 from rfl, HCN.out]; simpa [okT] using hown, hb⟩
                    first | exact HT | (obtain ⟨m, h1, h2, h3⟩ := HT; exact ⟨m, h1, h2, h3⟩) | ((repeat apply Exists.intro); refine ⟨HT, ?_⟩; (repeat' apply And.intro) <;> rfl)
                  case measure => simp [intOf] <;> omega
              · go_wp2_with (at_builtin; refine wpList_ap1 rfl (.tmp 44) (.tmp 49) _ rfl elemTri rfl hown (triC (1, y, z)) _ (by rfl) wr.heap.size (by rfl) (by rfl) (triOne _) (by simp [maxLen]; omega) (by simp; omega) hzz ?_)
                rintro v1 w1 hown1 hg1 -
                go_wp2
                go_roundw
                case rel =>
                  have HT : Co3 w 1 y v1 (.int .i64 (z+1 : Nat)) w1 := ⟨z + 1, by omega, rfl, by rw [show 9 * 1 + 3 * y + (z + 1) = 9 * 1 + 3 * y + z + 1 from rfl, HCN.out]; simpa [okT] using hown1, (hb.alloc hzz _).grown hg1 (by simp; omega) (fun g hg => (hown.lt (by simpa using hg)).1)⟩
                  first | exact HT | (obtain ⟨m, h1, h2, h3⟩ := HT; exact ⟨m, h1, h2, h3⟩) | ((repeat apply Exists.intro); refine ⟨HT, ?_⟩; (repeat' apply And.intro) <;> rfl)
                case measure => simp [intOf] <;> omega
              · go_wp2
                go_roundw
                case rel =>
                  have HT : Co3 w 2 y (.slice A3 (L.map triC).length c3) (.int .i64 (z+1 : Nat)) wr := ⟨z + 1, by omega, rfl, by rw [show 9 * 2 + 3 * y + (z + 1) = 9 * 2 + 3 * y + z + 1 from rfl, HCN.out]; simpa [okT] using hown, hb⟩
                  first | exact HT | (obtain ⟨m, h1, h2, h3⟩ := HT; exact ⟨m, h1, h2, h3⟩) | ((repeat apply Exists.intro); refine ⟨HT, ?_⟩; (repeat' apply And.intro) <;> rfl)
                case measure => simp [intOf] <;> omega
            · obtain rfl : z = 3 := by omega
              go_wp2
              go_roundw
              case rel => exact ⟨y + 1, by omega, by go_num, by have := HR.out; rwa [show 9 * x + 3 * y + 3 = 9 * x + 3 * (y + 1) by omega] at this⟩
              case measure => simp [intOf] <;> omega
        · obtain rfl : y = 3 := by omega
          go_wp2
          go_roundw
          case rel => exact ⟨x + 1, by omega, by go_num, by have := HR.out; rwa [show 9 * x + 3 * 3 = 9 * (x + 1) by omega] at this⟩
          case measure => simp [intOf] <;> omega
    · obtain rfl : x = 3 := by omega
      go_wp2
      go_ret
      exact ⟨⟨_, rfl, by have := HR.out.1; rwa [show 9 * 3 = 27 from rfl, cN_all] at this⟩, HR.out.2⟩
end Go.Proofs.YteglnekkkhpikaaGreat
namespace Go.Proofs.YteglnekkkhpikaaGreat
open Go.RowKit

theorem elemIL : Elem Tryz.prog 27 48 1 24 := Elem.mk (z := .slice none 0 0) Tryz.underlying27 (by kernel_rfl) (by decide) rfl
def rowsI (l : List Nat) : List (List Value) := (nInts l).map icell
def vsRows (vs : List (Option Addr × Nat)) (gs : List (List Nat)) : List (List Value) := (vs.zip gs).map fun p => [.slice p.1.1 p.2.length p.1.2]
/-- groups that the callee owns: the list, and each group -/
def GsW (w : World) (B : Nat) (v : Value) (vs : List (Option Addr × Nat)) (gs : List (List Nat)) : Prop := vs.length = gs.length ∧ OwS w B 48 1 v (vsRows vs gs) ∧
  ∀ (i : Nat) (p : Option Addr × Nat) (g : List Nat), vs[i]? = some p → gs[i]? = some g → OwS w B 3 1 (.slice p.1 g.length p.2) (rowsI g)
def GsO (w : World) (B : Nat) (v : Value) (gs : List (List Nat)) : Prop := ∃ vs, GsW w B v vs gs
section
variable {w w' w1 : World} {B : Nat} {v v1 : Value} {vs : List (Option Addr × Nat)} {gs : List (List Nat)}
theorem GsW.nil (w : World) (B : Nat) : GsW w B (.slice none 0 0) [] [] := ⟨rfl, OwS.nil _ _ _ _, fun i p g h => by simp at h⟩
theorem GsW.below (h : GsW w B v vs gs) (hb : Below w.heap.size w w') : GsW w' B v vs gs := ⟨h.1, h.2.1.below hb, fun i p g h1 h2 => (h.2.2 i p g h1 h2).below hb⟩
theorem GsW.mono {C : Nat} (h : GsW w C v vs gs) (hB : B ≤ C) : GsW w B v vs gs := ⟨h.1, h.2.1.mono hB, fun i p g h1 h2 => (h.2.2 i p g h1 h2).mono hB⟩
theorem GsW.alloc (h : GsW w B v vs gs) (o : Obj) : GsW (w.alloc o) B v vs gs := ⟨h.1, h.2.1.alloc o, fun i p g h1 h2 => (h.2.2 i p g h1 h2).alloc o⟩
theorem GsW.far (h : GsW w B v vs gs) {p : Addr} {t : TypeId} {cs : Array Value} {fr : Nat × Nat} (hp : w.heap[p.block]? = some (.cells cs t fr)) (h1 : t ≠ 48) (h2 : t ≠ 3) (u : Value) : GsW (w.setCell p u) B v vs gs :=
  ⟨h.1, h.2.1.far (h.2.1.blk_ne hp (fun e => h1 e.symm)) u, fun i q g a b => (h.2.2 i q g a b).far ((h.2.2 i q g a b).blk_ne hp (fun e => h2 e.symm)) u⟩
theorem vsRows_push {p : Option Addr × Nat} {g : List Nat} (hl : vs.length = gs.length) : vsRows (vs ++ [p]) (gs ++ [g]) = vsRows vs gs ++ [[.slice p.1 g.length p.2]] := by
  unfold vsRows
  rw [List.zip_append hl, List.map_append]
  rfl
theorem vsRows_len (hl : vs.length = gs.length) : (vsRows vs gs).length = gs.length := by
  unfold vsRows
  simp [hl]
theorem GsW.push (h : GsW w B v vs gs) {p : Option Addr × Nat} {g : List Nat} (hg : OwS w B 3 1 (.slice p.1 g.length p.2) (rowsI g)) (ho : OwS w1 B 48 1 v1 (vsRows vs gs ++ [[.slice p.1 g.length p.2]]))
    (hk : w.grownBy w1 v.ownBlock) : GsW w1 B v1 (vs ++ [p]) (gs ++ [g]) := by
  have hkeep : ∀ {q : Option Addr × Nat} {x : List Nat}, OwS w B 3 1 (.slice q.1 x.length q.2) (rowsI x) → OwS w1 B 3 1 (.slice q.1 x.length q.2) (rowsI x) := fun hx => hx.kept hk (hx.ne h.2.1 (by decide))
  refine ⟨by simp [h.1], by rw [vsRows_push h.1]; exact ho, fun i q x hq hx => ?_⟩
  rcases Nat.lt_trichotomy i vs.length with hi | hi | hi
  · rw [List.getElem?_append_left hi] at hq
    rw [List.getElem?_append_left (by rw [← h.1]; exact hi)] at hx
    exact hkeep (h.2.2 i q x hq hx)
  · subst hi
    rw [h.1] at hx
    simp at hq hx
    subst hq hx
    exact hkeep hg
  · have := (List.getElem?_eq_some_iff.1 hq).1
    simp at this
    omega
/-- the groups can be read by others -/
theorem GsO.reads {A : Option Addr} {n c : Nat} (h : GsO w B (.slice A n c) gs) : n = gs.length ∧ GsV w w.heap.size A gs := by
  obtain ⟨vs, h1, h2, h3⟩ := h
  refine ⟨?_, vs, h1, h2.reads, fun i p g hp hg => (h3 i p g hp hg).reads⟩
  obtain ⟨A', c', he, -⟩ := h2.form
  rw [vsRows_len h1] at he
  injection he
/-- a design in a box, under way -/
structure DesS (w : World) (B D d : Nat) (v : Value) (vs : List (Option Addr × Nat)) (gs : List (List Nat)) : Prop where
  box : w.heap[D]? = some (.cells #[.int .i64 d, v] 29)
  base : B ≤ D
  gs : GsW w B v vs gs
theorem DesS.lt {D d : Nat} (h : DesS w B D d v vs gs) : D < w.heap.size := (Array.getElem?_eq_some_iff.1 h.box).1
theorem DesS.below {D d : Nat} (h : DesS w B D d v vs gs) (hb : Below w.heap.size w w') : DesS w' B D d v vs gs := ⟨(hb.block _ h.lt).trans h.box, h.base, h.gs.below hb⟩
theorem DesS.push {D d : Nat} (h : DesS w B D d v vs gs) {p : Option Addr × Nat} {g : List Nat} (hg : OwS w B 3 1 (.slice p.1 g.length p.2) (rowsI g)) (ho : OwS w1 B 48 1 v1 (vsRows vs gs ++ [[.slice p.1 g.length p.2]]))
    (hk : w.grownBy w1 v.ownBlock) : DesS (w1.setCell ⟨D, 1, none⟩ v1) B D d v1 (vs ++ [p]) (gs ++ [g]) := by
  have hb : w1.heap[D]? = some (.cells #[.int .i64 d, v] 29) := (hk.block _ h.lt (fun e => h.gs.2.1.blk_ne h.box (by decide) e.symm)).trans h.box
  refine ⟨?_, h.base, (h.gs.push hg ho hk).far hb (by decide) (by decide) v1⟩
  have := heap_setCell_same w1 D 1 _ _ v1 hb
  simpa using this
end
end Go.Proofs.YteglnekkkhpikaaGreat
namespace Go.Proofs.YteglnekkkhpikaaGreat
open Go.RowKit

def comp3 (t : Nat × Nat × Nat) (n : Nat) : Nat := if n = 0 then t.1 else if n = 1 then t.2.1 else t.2.2
def dotP (a b : Nat × Nat × Nat) : Nat → Nat
  | 0 => 0
  | n + 1 => (dotP a b n + comp3 a n * comp3 b n % 3) % 3
theorem dotP_all (a b : Nat × Nat × Nat) : dotP a b 3 = dot3 a b := by
  simp [dotP, comp3, dot3]
  omega
theorem dotP_lt (a b : Nat × Nat × Nat) (n : Nat) : dotP a b n < 3 := by
  cases n <;> simp [dotP] <;> omega
theorem coord3_len : coord3.length = 13 := by decide +kernel
def cAt (i : Nat) : Nat × Nat × Nat := coord3[i]?.getD (0, 0, 0)
theorem cAt_eq {i : Nat} (h : i < 13) : coord3[i]? = some (cAt i) := by
  unfold cAt
  rw [List.getElem?_eq_getElem (by rw [coord3_len]; exact h)]
  rfl
theorem coord_small : ∀ i, i < 13 → (cAt i).1 < 3 ∧ (cAt i).2.1 < 3 ∧ (cAt i).2.2 < 3 := by decide +kernel
theorem comp_small {i n : Nat} (h : i < 13) : comp3 (cAt i) n < 3 := by
  have := coord_small i h
  unfold comp3
  split
  · exact this.1
  · split
    · exact this.2.1
    · exact this.2.2
theorem tri_cell {w : World} {B g c : Nat} (h : OwS w B 105 3 (.slice (some ⟨g, 0, none⟩) 13 c) (coord3.map triC)) {i n : Nat} (hi : i < 13) (hn : n < 3) : w.cell? ⟨g, i * 3 + n, none⟩ = some (.int .i64 (comp3 (cAt i) n : Nat)) := by
  have hr : (coord3.map triC)[i]? = some (triC (cAt i)) := by rw [List.getElem?_map, cAt_eq hi]; rfl
  refine h.cell hr ?_
  unfold triC comp3
  rcases (show n = 0 ∨ n = 1 ∨ n = 2 by omega) with rfl | rfl | rfl <;> rfl
theorem mul3b (a b : Nat) (ha : a < 3) (hb : b < 3) (w : World) : Calls Tryz.prog 56 #[.int .i64 3, .int .i64 (a : Int), .int .i64 (b : Int)] w fun r w' => r = .returned (.int .i64 ((a * b % 3 : Nat) : Int)) ∧ Below w.heap.size w w' :=
  (mul3 a b ha hb w).mono fun r w' h => ⟨h.1, by rw [h.2]; exact Below.refl _ _⟩
/-- the line of i -/
def lineP (i m : Nat) : List Nat := (List.range m).filter fun k => dot3 (cAt i) (cAt k) == 0
theorem lineP_succ (i m : Nat) : lineP i (m + 1) = lineP i m ++ if dot3 (cAt i) (cAt m) = 0 then [m] else [] := by
  unfold lineP
  rw [List.range_succ, List.filter_append]
  congr 1
  by_cases h : dot3 (cAt i) (cAt m) = 0 <;> simp [h]
theorem lineP_len (i m : Nat) : (lineP i m).length ≤ m := Nat.le_trans (List.length_filter_le _ _) (by simp)
theorem proj3_lines : proj3 = (List.range 13).map fun i => lineP i 13 := by decide +kernel
theorem proj3_take {i : Nat} (h : i < 13) : proj3.take (i + 1) = proj3.take i ++ [lineP i 13] := by
  have : ∀ i, i < 13 → proj3.take (i + 1) = proj3.take i ++ [lineP i 13] := by decide +kernel
  exact this i h
theorem rowsI_snoc (l : List Nat) (x : Nat) : rowsI (l ++ [x]) = rowsI l ++ [icell (x : Int)] := by simp [rowsI, nInts]
@[simp] theorem rowsI_len (l : List Nat) : (rowsI l).length = l.length := by simp [rowsI]

/-- The loops' state: the points and the design are in memory. -/
structure ProS (w0 w : World) (g c D i : Nat) : Prop where
  pts : OwS w w0.heap.size 105 3 (.slice (some ⟨g, 0, none⟩) 13 c) (coord3.map triC)
  des : ∃ v vs, DesS w w0.heap.size D 13 v vs (proj3.take i)
  bel : Below w0.heap.size w0 w
theorem ProS.below {w0 w w' : World} {g c D i : Nat} (h : ProS w0 w g c D i) (hb : Below w.heap.size w w') : ProS w0 w' g c D i := by
  obtain ⟨h1, ⟨v, vs, h2⟩, h3⟩ := h
  exact ⟨h1.below hb, ⟨v, vs, h2.below hb⟩, h3.trans (hb.mono h3.size)⟩
def LinR (wo : World) (i k : Nat) (line : Value) (wr : World) : Prop := Below wo.heap.size wo wr ∧ OwS wr wo.heap.size 3 1 line (rowsI (lineP i k))
def Pro1 (w0 : World) (g c D : Nat) (s5 : Value) (wr : World) : Prop := ∃ i : Nat, i ≤ 13 ∧ s5 = .int .i64 i ∧ ProS w0 wr g c D i
def Pro2 (wo : World) (i : Nat) (s6 s7 : Value) (wr : World) : Prop := ∃ k : Nat, k ≤ 13 ∧ s7 = .int .i64 k ∧ LinR wo i k s6 wr
def Pro3 (wo : World) (i k : Nat) (s6 s8 s9 : Value) (wr : World) : Prop := ∃ n : Nat, n ≤ 3 ∧ s8 = .int .i64 (dotP (cAt i) (cAt k) n : Nat) ∧ s9 = .int .i64 n ∧ LinR wo i k s6 wr
set_option maxHeartbeats 4000000 in
theorem proj_any (w : World) : Calls Tryz.prog 27 #[.int .i64 3] w fun r w' => (∃ v, r = .returned (.agg #[.int .i64 13, v]) ∧ GsO w' w.heap.size v proj3) ∧ Below w.heap.size w w' := by
  have HC := Lib.hid (fun W => coord_any W)
  go_enter Tryz.func27, Tryz.ntmps27
  go_wp2_with fail
  generalize hW0 : w.alloc _ = w0
  have hbx0 : w0.heap[w.heap.size]? = some (.cells #[.int .i64 0, .slice none 0 0] 29) := by rw [← hW0]; exact heap_alloc_new w _
  have HB0 : Hid (Below w.heap.size w w0) := by rw [← hW0]; exact below_laid
  have hz0 : w0.heap.size = w.heap.size + 1 := by rw [← hW0]; simp
  have HZ0 := Lib.hid hz0
  have HBX := Lib.hid hbx0
  clear hz0
  clear hW0 hbx0
  refine (HC.out _).mono ?_
  rintro r w1 ⟨⟨vl, rfl, hown⟩, hb1⟩
  obtain ⟨g, c, rfl, hg1, hg2⟩ := hown.pos (by simp [coord3_len])
  rw [List.length_map, coord3_len] at hown ⊢
  have HO := Lib.hid hown
  clear hown
  go_wp2
  have HPS : Hid (ProS w0 (w1.alloc (.cells #[.int .i64 13, .slice none 0 0] 29)) g c w1.heap.size 0) :=
    ⟨HO.out.alloc _, ⟨.slice none 0 0, [], heap_alloc_new w1 _, hb1.size, GsW.nil _ _⟩, hb1.alloc hb1.size _⟩
  generalize w1.heap.size = D at *
  generalize w1.alloc _ = w2 at *
  go_loopw [5, 6, 7, 8, 9] (fun s5 _ _ _ _ wr => Pro1 w0 g c D s5 wr) (fun s5 _ _ _ _ _ => 13 - (intOf s5).toNat)
  case atStart => exact ⟨0, by omega, rfl, HPS.out⟩
  case round =>
    clear HPS HO hb1 hg1 hg2
    obtain ⟨i, hi, rfl, hr⟩ := hrel
    have HP := Lib.hid hr
    clear hr
    by_cases hi3 : i < 13
    · have hiI : (i : Int) < 13 := by omega
      go_wp2
      generalize wr = wo at *
      go_loopw [6, 7, 8, 9] (fun s6 s7 _ _ wr => Pro2 wo i s6 s7 wr) (fun _ s7 _ _ _ => 13 - (intOf s7).toNat)
      case atStart => exact ⟨0, by omega, rfl, Below.refl _ _, OwS.nil _ _ _ _⟩
      case round =>
        obtain ⟨k, hk, rfl, hr⟩ := hrel
        have HR := Lib.hid hr
        clear hr
        by_cases hk3 : k < 13
        · have hkI : (k : Int) < 13 := by omega
          go_wp2
          generalize wr = wq at *
          go_loopw [8, 9] (fun s8 s9 wr => Pro3 wo i k _ s8 s9 wr) (fun _ s9 _ => 3 - (intOf s9).toNat)
          case atStart => exact ⟨0, by omega, rfl, rfl, HR.out⟩
          case round =>
            clear HR
            obtain ⟨n, hn, rfl, rfl, hr⟩ := hrel
            have HR := Lib.hid hr
            clear hr
            by_cases hn3 : n < 3
            · have hnI : (n : Int) < 3 := by omega
              obtain ⟨s, hs⟩ : ∃ s, s = dotP (cAt i) (cAt k) n := ⟨_, rfl⟩
              obtain ⟨a, ha⟩ : ∃ a, a = comp3 (cAt i) n := ⟨_, rfl⟩
              obtain ⟨b, hb⟩ : ∃ b, b = comp3 (cAt k) n := ⟨_, rfl⟩
              obtain ⟨m, hm⟩ : ∃ m, m = a * b % 3 := ⟨_, rfl⟩
              have HS : Hid (dotP (cAt i) (cAt k) (n + 1) = (s + m) % 3) := by rw [hm, ha, hb, hs]; rfl
              have hsl : s < 3 := by rw [hs]; exact dotP_lt _ _ _
              have hml : m < 3 := by rw [hm]; exact Nat.mod_lt _ (by decide)
              have HM := Lib.hid (fun W => mul3b a b (by rw [ha]; exact comp_small hi3) (by rw [hb]; exact comp_small hk3) W)
              have HA := Lib.hid (fun W => add3 s m hsl hml W)
              have R1 := fun d xs => tri_cell (((HP.out.below HR.out.1).pts).below (below_regrown wr d xs)) hi3 hn3
              have R2 := fun d xs => tri_cell (((HP.out.below HR.out.1).pts).below (below_regrown wr d xs)) hk3 hn3
              rw [← ha] at R1
              rw [← hb] at R2
              rw [← hs]
              rw [← hm] at HM
              clear hs ha hb hm
              go_wp2_with fail
              refine quiet_below (by kernel_rfl) (by kernel_rfl) ?_
              repeat (go_big_quiet_step (first | (go_at_call 56; exact Calls.regrown_of (HM.out _)) | (go_at_call 55; exact Calls.regrown_of (HA.out _))))
              refine wpQuiet_nil ?_
              intro W2 hb2
              clear R1 R2
              generalize hsm : (s + m) % 3 = s1 at *
              have HL2 : Hid (LinR wo i k _ W2) := Lib.hid ⟨HR.out.1.trans (hb2.mono HR.out.1.size), HR.out.2.below hb2⟩
              go_wp2
              go_roundw
              case rel => exact ⟨n + 1, by omega, by rw [HS.out], by go_num, HL2.out⟩
              case measure => simp [intOf] <;> omega
            · obtain rfl : n = 3 := by omega
              obtain ⟨s, hs⟩ : ∃ s, s = dotP (cAt i) (cAt k) 3 := ⟨_, rfl⟩
              rw [← hs]
              rw [dotP_all] at hs
              have HS := Lib.hid hs
              have HL := Lib.hid (lineP_succ i k)
              rw [← hs] at HL
              have hll : (lineP i k).length ≤ 13 := Nat.le_trans (lineP_len i k) (by omega)
              clear hs
              by_cases h0 : s = 0
              · subst h0
                go_wp2_with (at_builtin; refine wpList_ap1 rfl (.tmp 50) (.tmp 52) _ rfl elemIntS rfl HR.out.2 (icell (k : Int)) _ (by rfl) wr.heap.size (by rfl) (by rfl) (icellOneS _) (by simp [maxLen]; omega) (by simp; omega) HR.out.1.size ?_)
                rintro v1 w3 hown1 hg1 -
                have HL2 : Hid (LinR wo i (k + 1) v1 w3) := Lib.hid ⟨(HR.out.1.alloc HR.out.1.size _).grown hg1 (by have := HR.out.1.size; simp; omega) (fun g hg => (HR.out.2.lt hg).1), by rw [HL.out, if_pos trivial, rowsI_snoc]; exact hown1⟩
                clear hg1 hown1 HL HS HR
                go_wp2
                go_roundw
                case rel => exact ⟨k + 1, by omega, by go_num, HL2.out⟩
                case measure => simp [intOf] <;> omega
              · have h0I : ((s : Int) == 0) = false := by simp; omega
                go_wp2
                go_roundw
                case rel => exact ⟨k + 1, by omega, by go_num, HR.out.1, by rw [HL.out, if_neg h0, List.append_nil]; exact HR.out.2⟩
                case measure => simp [intOf] <;> omega
        · obtain rfl : k = 13 := by omega
          have HQ := Lib.hid (HP.out.below HR.out.1)
          obtain ⟨v, vs, hdes⟩ := HQ.out.des
          obtain ⟨Al, cl, rfl, -, -⟩ := HR.out.2.form
          rw [rowsI_len]
          have hll : (lineP i 13).length ≤ 13 := lineP_len i 13
          have HT := Lib.hid (proj3_take hi3)
          have hln : OwS wr wo.heap.size 3 1 (.slice Al (lineP i 13).length cl) (rowsI (lineP i 13)) := by have := HR.out.2; rwa [rowsI_len] at this
          have HLN := Lib.hid (hln.mono HP.out.bel.size)
          have HD := Lib.hid hdes
          have hlen : (proj3.take i).length ≤ 13 := by simp; omega
          generalize proj3.take i = gs at hdes HD HT hlen
          generalize lineP i 13 = L at hln HLN HT hll
          have c0 : wr.cell? ⟨D, 1, none⟩ = some v := by rw [cell_of_row _ _ _ _ _ _ hdes.box]; rfl
          have hvl := vsRows_len hdes.gs.1
          have HBZ := Lib.hid HQ.out.bel.size
          have HM1 : Hid ((vsRows vs gs).length + 1 ≤ maxLen) := by unfold Hid; rw [hvl]; simp [maxLen]; omega
          have HM2 : Hid (((vsRows vs gs).length + 1) * 24 ≤ 140737488355328) := by unfold Hid; rw [hvl]; omega
          have HU : Hid (∀ u ∈ [Value.slice Al L.length cl], u.oneCell' = true) := by
            unfold Hid
            intro u hu
            simp only [List.mem_singleton] at hu
            subst hu
            rfl
          clear hln hdes hvl
          go_wp2_with (at_builtin; refine wpList_ap1 rfl (.tmp 55) (.tmp 57) _ rfl elemIL rfl HD.out.gs.2.1 [.slice Al L.length cl] _ (by rfl) wr.heap.size (by rfl) (by rfl) HU.out HM1.out HM2.out HBZ.out ?_)
          rintro v1 w3 hown1 hg1 -
          obtain ⟨Ag, cg, rfl, -, -⟩ := hown1.form
          have hk3 : wr.grownBy w3 v.ownBlock := (World.grownBy_alloc wr _ _).trans hg1
          have hb3 : w3.heap[D]? = some (.cells #[.int .i64 13, v] 29) := (hk3.block _ HD.out.lt (fun e => HD.out.gs.2.1.blk_ne HD.out.box (by decide) e.symm)).trans HD.out.box
          have HPS : Hid (ProS w0 (w3.setCell ⟨D, 1, none⟩ (.slice Ag (vsRows vs gs ++ [[Value.slice Al L.length cl]]).length cg)) g c D (i + 1)) := by
            have hp3 := HQ.out.pts.kept hk3 (HQ.out.pts.ne HD.out.gs.2.1 (by decide))
            exact ⟨hp3.far (hp3.blk_ne hb3 (by decide)) _, ⟨_, _, by rw [HT.out]; exact HD.out.push (p := (Al, cl)) HLN.out hown1 hk3⟩,
              (HQ.out.bel.grown hk3 HBZ.out (fun x hx => (HD.out.gs.2.1.lt hx).1)).setCell HD.out.base _⟩
          have d3 : w3.cell? ⟨D, 1, none⟩ = some v := by rw [cell_of_row _ _ _ _ _ _ hb3]; rfl
          generalize (vsRows vs gs ++ [[Value.slice Al L.length cl]]).length = nn at *
          have f3 : w3.frozen? ⟨D, 1, none⟩ = false := frozen_of_row _ _ _ _ _ hb3
          clear hg1 hown1 hk3 hb3 HQ HR HD HT HLN
          go_wp2
          go_roundw
          case rel => exact ⟨i + 1, by omega, by go_num, HPS.out⟩
          case measure => simp [intOf] <;> omega
    · obtain rfl : i = 13 := by omega
      have hbel := HP.out.bel
      obtain ⟨v, vs, hdes⟩ := HP.out.des
      have HT : Hid (proj3.take 13 = proj3) := by unfold Hid; decide +kernel
      rw [HT.out] at hdes
      obtain ⟨Ag, cg, rfl, -, -⟩ := hdes.gs.2.1.form
      generalize (vsRows vs proj3).length = nn at *
      have HD := Lib.hid hdes
      have c0 : wr.cell? ⟨D, 0, none⟩ = some (.int .i64 13) := by rw [cell_of_row _ _ _ _ _ _ hdes.box]; rfl
      have c1 : wr.cell? ⟨D, 1, none⟩ = some (.slice Ag nn cg) := by rw [cell_of_row _ _ _ _ _ _ hdes.box]; rfl
      have hbx : wr.heap[w.heap.size]? = some (.cells #[.int .i64 0, .slice none 0 0] 29) := (hbel.block _ (by rw [HZ0.out]; omega)).trans HBX.out
      have e0 : wr.cell? ⟨w.heap.size, 0, none⟩ = some (.int .i64 0) := by rw [cell_of_row _ _ _ _ _ _ hbx]; rfl
      have e1 : wr.cell? ⟨w.heap.size, 1, none⟩ = some (.slice none 0 0) := by rw [cell_of_row _ _ _ _ _ _ hbx]; rfl
      have f0 : wr.frozen? ⟨w.heap.size, 0, none⟩ = false := frozen_of_row _ _ _ _ _ hbx
      have f1 : wr.frozen? ⟨w.heap.size, 1, none⟩ = false := frozen_of_row _ _ _ _ _ hbx
      have hb2 := heap_setCell_same wr w.heap.size 0 _ _ (.int .i64 13) hbx
      have HG : Hid (GsO ((wr.setCell ⟨w.heap.size, 0, none⟩ (.int .i64 13)).setCell ⟨w.heap.size, 1, none⟩ (.slice Ag nn cg)) w.heap.size (.slice Ag nn cg) proj3) :=
        ⟨_, ((HD.out.gs.far (p := ⟨w.heap.size, 0, none⟩) hbx (by decide) (by decide) _).far (p := ⟨w.heap.size, 1, none⟩) hb2 (by decide) (by decide) _).mono (by rw [HZ0.out]; omega)⟩
      have HB : Hid (Below w.heap.size w ((wr.setCell ⟨w.heap.size, 0, none⟩ (.int .i64 13)).setCell ⟨w.heap.size, 1, none⟩ (.slice Ag nn cg))) :=
        ((HB0.out.trans (hbel.mono (by rw [HZ0.out]; omega))).setCell (Nat.le_refl _) _).setCell (Nat.le_refl _) _
      have HBB := Lib.hid (heap_setCell_same (wr.setCell ⟨w.heap.size, 0, none⟩ (.int .i64 13)) w.heap.size 1 _ _ (.slice Ag nn cg) hb2)
      clear hdes hbx hb2 hbel
      go_wp2
      (try simp only [Exit.inBlock, Exit.then])
      refine bodyPost_ret (v := .agg #[.int .i64 13, .slice Ag nn cg]) ?_ rfl ⟨⟨_, rfl, HG.out⟩, HB.out⟩
      exact results_cell_row rfl _ _ w.heap.size 29 #[.int .i64 13, .slice Ag nn cg] (0, 0) _ rfl (by simpa using HBB.out) Tryz.underlying29 rfl (by kernel_rfl)
end Go.Proofs.YteglnekkkhpikaaGreat
