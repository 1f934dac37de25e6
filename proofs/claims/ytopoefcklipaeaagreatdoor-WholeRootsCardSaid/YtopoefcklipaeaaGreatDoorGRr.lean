/- Walk of tegularef50.Small: the small layout that a number describes. -/
import Derived.Test.YtopoefcklipaeaaGreatDoorGRo
import Derived.Test.YtopoefcklipaeaaGreatDoorGRd
import Derived.Test.YtopoefcklipaeaaGreatDoorGWs
import Derived.DataShut
namespace Go.Proofs.YtopoefcklipaeaaGreatDoor
open Go.RowKit
theorem GsW.toV {w : World} {B n c : Nat} {A : Option Addr} {vs : List (Option Addr × Nat)} {gs : List (List Nat)} (h : GsW w B (.slice A n c) vs gs) : GsV w w.heap.size A gs := by
 refine ⟨vs, h.1, ?_, fun i p g hp hg => ?_⟩
 ·have h1 := h.2.1
  obtain ⟨A', c', e, -⟩ := h1.form
  injection e with e1 e2 e3
  subst e1 e2
  exact h1.reads
 ·have h1 := h.2.2 i p g hp hg
  obtain ⟨A', c', e, -⟩ := h1.form
  injection e with e1 e2 e3
  rw [e2, e1] at h1
  have h2 := h1.reads
  rw [← e1] at h2
  exact h2
abbrev ComC (d k : Nat) (L : LayD) : Prop := ∀ W : World, Calls Tryz.prog 24 #[.int .i64 (d : Int), .int .i64 (k : Int)] W fun r w' => (∃ v, r = .returned (.agg #[.int .i64 (L.disks : Int), v]) ∧ GsO w' W.heap.size v L.gs) ∧ Below W.heap.size W w'
theorem com_of {d k n : Nat} (hd : (smallL n).disks = d) (hg : (smallL n).gs = compL d k) (hk : 1 ≤ k ∧ k ≤ 16) (hdk : k ≤ d ∧ d ≤ 60) (hc : chainC d k (compL d k) = true) (h0 : (compL d k)[0]? = some (List.range k)) (hl : (compL d k).all (fun g => g.length == k && g.all fun x => decide (x < d)) = true) (hn : (compL d k).length ≤ 100) : ComC d k (smallL n) := by
 intro W
 have := complete_any d k (compL d k) hk hdk hc h0 (fun g hg => by
  have := List.all_eq_true.1 hl g hg
  simp only [Bool.and_eq_true, beq_iff_eq, List.all_eq_true, decide_eq_true_eq] at this
  exact this) hn W
 rw [hd, hg]
 exact this
theorem com_54 {n : Nat} (h : n % 8 < 3) : ComC 5 4 (smallL n) := com_of (by simp [smallL, smallDes, h]) (by simp [smallL, smallDes, h]) (by decide) (by decide) chain_54 (by decide +kernel) (by decide +kernel) (by decide +kernel)
theorem com_64 {n : Nat} (h : n % 8 = 3) : ComC 6 4 (smallL n) := com_of (by simp [smallL, smallDes, h]) (by simp [smallL, smallDes, h]) (by decide) (by decide) chain_64 (by decide +kernel) (by decide +kernel) (by decide +kernel)
theorem com_65 {n : Nat} (h : n % 8 = 4) : ComC 6 5 (smallL n) := com_of (by simp [smallL, smallDes, h]) (by simp [smallL, smallDes, h]) (by decide) (by decide) chain_65 (by decide +kernel) (by decide +kernel) (by decide +kernel)
theorem com_55 {n : Nat} (h : n % 8 = 5) (h2 : n / 8 % 2 = 1) : ComC 5 5 (smallL n) := com_of (by simp [smallL, smallDes, h, h2]) (by simp [smallL, smallDes, h, h2]) (by decide) (by decide) chain_55 (by decide +kernel) (by decide +kernel) (by decide +kernel)
def kL (x : Nat) : Nat := (if x % 2 = 0 then (if x / 2 % 2 = 0 then 0 else 13) else (if x / 2 % 2 = 0 then 3 else 4)) + 16 * (x / 4 % 2) + 80 * (x / 8 % 4)
theorem kL_tiles (x : Nat) : (smallL (kL x)).tiles = 1 + x / 4 % 2 := by
 show 1 + kL x / 16 % 5 = _
 unfold kL
 split <;> split <;> omega
theorem kL_spare (x : Nat) : (smallL (kL x)).spare = x / 8 % 4 := by
 show kL x / 80 % 8 = _
 unfold kL
 split <;> split <;> omega
theorem kC (x : Nat) : ComC (5 + x % 2) (4 + x / 2 % 2) (smallL (kL x)) := by
 rcases (show x % 2 = 0 ∨ x % 2 = 1 by omega) with h1 | h1
 ·rcases (show x / 2 % 2 = 0 ∨ x / 2 % 2 = 1 by omega) with h2 | h2
  ·rw [h1, h2]
   exact com_54 (by unfold kL; rw [if_pos h1, if_pos h2]; omega)
  ·rw [h1, h2]
   exact com_55 (by unfold kL; rw [if_pos h1, if_neg (by omega)]; omega) (by unfold kL; rw [if_pos h1, if_neg (by omega)]; omega)
 ·rcases (show x / 2 % 2 = 0 ∨ x / 2 % 2 = 1 by omega) with h2 | h2
  ·rw [h1, h2]
   exact com_64 (by unfold kL; rw [if_neg (by omega), if_pos h2]; omega)
  ·rw [h1, h2]
   exact com_65 (by unfold kL; rw [if_neg (by omega), if_neg (by omega)]; omega)
def SmkP (x : Nat) (w : World) (r : Ending) (w' : World) : Prop := ∃ A c, r = .returned (layAgg (smallL (kL x)) A c) ∧ GsV w' w'.heap.size A (smallL (kL x)).gs ∧ Below w.heap.size w w'
theorem u8_in (x : Nat) (h : x < 256) : IntKind.u8.wrap (x : Int) = (x : Int) := by simp [IntKind.wrap, IntKind.bits, IntKind.signed]; omega
set_option maxHeartbeats 4000000 in
set_option maxRecDepth 100000 in
theorem r50small (x : Nat) (hx : x < 256) (w : World) : Calls Tryz.prog 5 #[.int .u8 (x : Int)] w fun r w' => SmkP x w r w' := by
 have HC := Lib.hid (kC x)
 obtain ⟨m1, hm1⟩ : ∃ m, x % 2 = m := ⟨_, rfl⟩
 obtain ⟨q2, hq2⟩ : ∃ m, x / 2 = m := ⟨_, rfl⟩
 obtain ⟨m2, hm2⟩ : ∃ m, q2 % 2 = m := ⟨_, rfl⟩
 obtain ⟨q4, hq4⟩ : ∃ m, x / 4 = m := ⟨_, rfl⟩
 obtain ⟨m4, hm4⟩ : ∃ m, q4 % 2 = m := ⟨_, rfl⟩
 obtain ⟨q8, hq8⟩ : ∃ m, x / 8 = m := ⟨_, rfl⟩
 obtain ⟨m8, hm8⟩ : ∃ m, q8 % 4 = m := ⟨_, rfl⟩
 have t1 : Int.tmod (x : Int) 2 = (m1 : Int) := by rw [← hm1]; exact tmod_nat _ 2
 have t2 : Int.tdiv (x : Int) 2 = (q2 : Int) := by rw [← hq2]; exact tdiv_nat _ 2
 have t3 : Int.tmod (q2 : Int) 2 = (m2 : Int) := by rw [← hm2]; exact tmod_nat _ 2
 have t4 : Int.tdiv (x : Int) 4 = (q4 : Int) := by rw [← hq4]; exact tdiv_nat _ 4
 have t5 : Int.tmod (q4 : Int) 2 = (m4 : Int) := by rw [← hm4]; exact tmod_nat _ 2
 have t6 : Int.tdiv (x : Int) 8 = (q8 : Int) := by rw [← hq8]; exact tdiv_nat _ 8
 have t7 : Int.tmod (q8 : Int) 4 = (m8 : Int) := by rw [← hm8]; exact tmod_nat _ 4
 have u1 := u8_in m1 (by omega)
 have u2 := u8_in q2 (by omega)
 have u3 := u8_in m2 (by omega)
 have u4 := u8_in q4 (by omega)
 have u5 := u8_in m4 (by omega)
 have u6 := u8_in q8 (by omega)
 have u7 := u8_in m8 (by omega)
 have k1 := fun W => conv_u8 (m1 : Int) (by omega) (by omega) W
 have k2 := fun W => conv_u8 (m2 : Int) (by omega) (by omega) W
 have k4 := fun W => conv_u8 (m4 : Int) (by omega) (by omega) W
 have k8 := fun W => conv_u8 (m8 : Int) (by omega) (by omega) W
 have v1 : IntKind.i64.wrap (5 + (m1 : Int)) = 5 + (m1 : Int) := IntWalk.i64_in _ (by omega)
 have v2 : IntKind.i64.wrap (4 + (m2 : Int)) = 4 + (m2 : Int) := IntWalk.i64_in _ (by omega)
 have v4 : IntKind.i64.wrap (1 + (m4 : Int)) = 1 + (m4 : Int) := IntWalk.i64_in _ (by omega)
 have HT : Hid ((smallL (kL x)).tiles = 1 + m4) := by rw [← hm4, ← hq4]; exact kL_tiles x
 have HS : Hid ((smallL (kL x)).spare = m8) := by rw [← hm8, ← hq8]; exact kL_spare x
 rw [hq2, hm1, hm2] at HC
 clear hm1 hq2 hm2 hq4 hm4 hq8 hm8
 unfold SmkP
 generalize smallL (kL x) = L at *
 have HCW : Hid (∀ W : World, Calls Tryz.prog 24 #[.int .i64 (5 + (m1 : Int)), .int .i64 (4 + (m2 : Int))] W fun r w' => (∃ v, r = .returned (.agg #[.int .i64 (L.disks : Int), v]) ∧ GsO w' W.heap.size v L.gs) ∧ Below W.heap.size W w') := fun W => by
  have h := HC.out W
  rw [Int.natCast_add, Int.natCast_add] at h
  exact h
 go_enter Tryz.func5, Tryz.ntmps5
 go_upto_region 1 with (fail)
 generalize hW0 : w.alloc _ = w1
 have hl1 : w1.heap[w.heap.size]? = some (.cells #[.int .i64 0, .slice none 0 0, .int .i64 0, .int .i64 0] 28) := by rw [← hW0]; exact heap_alloc_new w _
 have hb1 : Below w.heap.size w w1 := by rw [← hW0]; exact below_laid
 have HB1 := Lib.hid hb1
 have HL1 := Lib.hid hl1
 clear hW0 hl1 hb1 HC
 go_wp2_with fail
 refine (HCW.out w1).mono ?_
 rintro r w3 ⟨⟨v, rfl, hG⟩, hb2⟩
 clear HCW t1 t2 t3 k1 k2 v1 v2 u1 u2 u3
 have hl2 := (hb2.block _ (Array.getElem?_eq_some_iff.1 HL1.out).1).trans HL1.out
 obtain ⟨vs, hgs⟩ := hG
 obtain ⟨A, c, rfl, -, -⟩ := hgs.2.1.form
 have hlen : (vsRows vs L.gs).length = L.n := vsRows_len hgs.1
 rw [hlen] at hgs ⊢
 have HB2 := Lib.hid (HB1.out.trans (hb2.mono HB1.out.size))
 have e0 : w3.cell? ⟨w.heap.size, 0, none⟩ = some (.int .i64 0) := by rw [cell_of_row _ _ _ _ _ _ hl2]; rfl
 have e1 : w3.cell? ⟨w.heap.size, 1, none⟩ = some (.slice none 0 0) := by rw [cell_of_row _ _ _ _ _ _ hl2]; rfl
 have e2 : w3.cell? ⟨w.heap.size, 2, none⟩ = some (.int .i64 0) := by rw [cell_of_row _ _ _ _ _ _ hl2]; rfl
 have e3 : w3.cell? ⟨w.heap.size, 3, none⟩ = some (.int .i64 0) := by rw [cell_of_row _ _ _ _ _ _ hl2]; rfl
 have fT := fun j => frozen_of_row w3 w.heap.size j _ _ hl2
 have r1 := heap_setCell_same w3 w.heap.size 0 _ _ (.int .i64 (L.disks : Int)) hl2
 have r2 := heap_setCell_same _ w.heap.size 1 _ _ (.slice A L.n c) r1
 have r3 := heap_setCell_same _ w.heap.size 2 _ _ (.int .i64 (L.tiles : Int)) r2
 have r4 := heap_setCell_same _ w.heap.size 3 _ _ (.int .i64 (L.spare : Int)) r3
 have g4 := (((hgs.far (p := ⟨w.heap.size, 0, none⟩) hl2 (by decide) (by decide) _).far (p := ⟨w.heap.size, 1, none⟩) r1 (by decide) (by decide) _).far (p := ⟨w.heap.size, 2, none⟩) r2 (by decide) (by decide) _).far (p := ⟨w.heap.size, 3, none⟩) r3 (by decide) (by decide) (.int .i64 (L.spare : Int))
 have b4 := (((HB2.out.setCell (p := ⟨w.heap.size, 0, none⟩) (Nat.le_refl _) (.int .i64 (L.disks : Int))).setCell (p := ⟨w.heap.size, 1, none⟩) (Nat.le_refl _) (.slice A L.n c)).setCell (p := ⟨w.heap.size, 2, none⟩) (Nat.le_refl _) (.int .i64 (L.tiles : Int))).setCell (p := ⟨w.heap.size, 3, none⟩) (Nat.le_refl _) (.int .i64 (L.spare : Int))
 have R4 := Lib.hid r4
 have G4 := Lib.hid g4.toV
 have B4 := Lib.hid b4
 have hT : 1 + (m4 : Int) = (L.tiles : Int) := by rw [HT.out]; omega
 have hS : (m8 : Int) = (L.spare : Int) := by rw [HS.out]
 rw [hT] at v4
 simp only [hS] at k8 u7 t7
 clear hS r1 r2 r3 r4 g4 b4 HT HS hgs hb2 hl2 HB1 HL1
 go_wp2
 (try simp only [Exit.inBlock, Exit.then])
 refine bodyPost_ret (v := layAgg L A c) ?_ rfl ⟨A, c, rfl, G4.out, B4.out⟩
 exact results_cell_row rfl _ _ w.heap.size 28 #[.int .i64 (L.disks : Int), .slice A L.n c, .int .i64 (L.tiles : Int), .int .i64 (L.spare : Int)] (0, 0) _ rfl (by simpa using R4.out) Tryz.underlying28 rfl (by kernel_rfl)
end Go.Proofs.YtopoefcklipaeaaGreatDoor
