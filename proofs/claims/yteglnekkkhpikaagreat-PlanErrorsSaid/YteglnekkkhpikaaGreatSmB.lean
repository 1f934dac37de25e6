/- Walk of tegularef21.Small: the small layout that a number describes. -/
import Derived.Test.YteglnekkkhpikaaGreatGSvw
import Derived.DataShut
namespace Go.Proofs.YteglnekkkhpikaaGreat
open Go.RowKit

theorem conv_u16 (x : Int) (h0 : 0 ≤ x) (h1 : x < 65536) (W : World) : (convert 22 3 (.int .u16 x)).run Tryz.prog W = .ok (.int .i64 x) W := by
  rw [run_convert_int W 22 3 .u16 x (by rw [Tryz.underlying22]; rfl) (by kernel_rfl)]
  have hk : Tryz.prog.intKind 3 = .i64 := by kernel_rfl
  rw [hk]
  have : IntKind.i64.wrap x = x := by simp [IntKind.wrap, IntKind.bits, IntKind.signed]; omega
  rw [this]
theorem GsW.toV {w : World} {B n c : Nat} {A : Option Addr} {vs : List (Option Addr × Nat)} {gs : List (List Nat)} (h : GsW w B (.slice A n c) vs gs) : GsV w w.heap.size A gs := by
  refine ⟨vs, h.1, ?_, fun i p g hp hg => ?_⟩
  · have h1 := h.2.1
    obtain ⟨A', c', e, -⟩ := h1.form
    injection e with e1 e2 e3
    subst e1 e2
    exact h1.reads
  · have h1 := h.2.2 i p g hp hg
    obtain ⟨A', c', e, -⟩ := h1.form
    injection e with e1 e2 e3
    rw [e2, e1] at h1
    have h2 := h1.reads
    rw [← e1] at h2
    exact h2
/-- what Small answers -/
def SmlP (n : Nat) (w : World) (r : Ending) (w' : World) : Prop := ∃ A c, r = .returned (layAgg (smallL n) A c) ∧ GsV w' w'.heap.size A (smallL n).gs ∧ Below w.heap.size w w'
abbrev ComC (d k : Nat) (L : LayD) : Prop := ∀ W : World, Calls Tryz.prog 26 #[.int .i64 (d : Int), .int .i64 (k : Int)] W fun r w' => (∃ v, r = .returned (.agg #[.int .i64 (L.disks : Int), v]) ∧ GsO w' W.heap.size v L.gs) ∧ Below W.heap.size W w'
theorem com_of {d k n : Nat} (hd : (smallL n).disks = d) (hg : (smallL n).gs = compL d k) (hk : 1 ≤ k ∧ k ≤ 16) (hdk : k ≤ d ∧ d ≤ 60) (hc : chainC d k (compL d k) = true) (h0 : (compL d k)[0]? = some (List.range k)) (hl : (compL d k).all (fun g => g.length == k && g.all fun x => decide (x < d)) = true) (hn : (compL d k).length ≤ 100) : ComC d k (smallL n) := by
  intro W
  have := complete_any d k (compL d k) hk hdk hc h0 (fun g hg => by
    have := List.all_eq_true.1 hl g hg
    simp only [Bool.and_eq_true, beq_iff_eq, List.all_eq_true, decide_eq_true_eq] at this
    exact this) hn W
  rw [hd, hg]
  exact this
theorem com_54 {n : Nat} (h : n % 8 < 3) : ComC 5 4 (smallL n) := com_of (by simp [smallL, smallDes, h]) (by simp [smallL, smallDes, h]) (by decide) (by decide) chain_54 (by decide +kernel) (by decide +kernel) (by decide +kernel)
theorem com_64 {n : Nat} (h : n % 8 = 3) : ComC 6 4 (smallL n) := com_of (by simp [smallL, smallDes, h]) (by simp [smallL, smallDes, h]) (by decide) (by decide) chain_64 (by decide +kernel) (by decide +kernel) (by decide +kernel)
theorem com_65 {n : Nat} (h : n % 8 = 4) : ComC 6 5 (smallL n) := com_of (by simp [smallL, smallDes, h]) (by simp [smallL, smallDes, h]) (by decide) (by decide) chain_65 (by decide +kernel) (by decide +kernel) (by decide +kernel)
theorem com_44 {n : Nat} (h : n % 8 = 5) (h2 : n / 8 % 2 = 0) : ComC 4 4 (smallL n) := com_of (by simp [smallL, smallDes, h, h2]) (by simp [smallL, smallDes, h, h2]) (by decide) (by decide) chain_44 (by decide +kernel) (by decide +kernel) (by decide +kernel)
theorem com_55 {n : Nat} (h : n % 8 = 5) (h2 : n / 8 % 2 = 1) : ComC 5 5 (smallL n) := com_of (by simp [smallL, smallDes, h, h2]) (by simp [smallL, smallDes, h, h2]) (by decide) (by decide) chain_55 (by decide +kernel) (by decide +kernel) (by decide +kernel)
theorem com_75 {n : Nat} (h : n % 8 = 7) : ComC 7 5 (smallL n) := com_of (by simp [smallL, smallDes, h]) (by simp [smallL, smallDes, h]) (by decide) (by decide) chain_75 (by decide +kernel) (by decide +kernel) (by decide +kernel)
theorem pro_13 {n : Nat} (h : n % 8 = 6) (W : World) : Calls Tryz.prog 27 #[.int .i64 3] W fun r w' => (∃ v, r = .returned (.agg #[.int .i64 ((smallL n).disks : Int), v]) ∧ GsO w' W.heap.size v (smallL n).gs) ∧ Below W.heap.size W w' := by
  have e1 : (smallL n).disks = 13 := by simp [smallL, smallDes, h]
  have e2 : (smallL n).gs = proj3 := by simp [smallL, smallDes, h]
  rw [e1, e2]
  exact proj_any W
set_option maxHeartbeats 4000000 in
set_option maxRecDepth 100000 in
theorem small_any (n : Nat) (hn : n < 65536) (w : World) : Calls Tryz.prog 9 #[.int .u16 (n : Int)] w fun r w' => SmlP n w r w' := by
  have hcv : ∀ W : World, (convert 22 3 (.int .u16 (n : Int))).run Tryz.prog W = .ok (.int .i64 (n : Int)) W := fun W => conv_u16 _ (by omega) (by omega) W
  obtain ⟨k8, hk8⟩ : ∃ k8, n % 8 = k8 := ⟨_, rfl⟩
  obtain ⟨q8, hq8⟩ : ∃ q8, n / 8 = q8 := ⟨_, rfl⟩
  obtain ⟨m2, hm2⟩ : ∃ m2, q8 % 2 = m2 := ⟨_, rfl⟩
  obtain ⟨q16, hq16⟩ : ∃ q, n / 16 = q := ⟨_, rfl⟩
  obtain ⟨m5, hm5⟩ : ∃ m, q16 % 5 = m := ⟨_, rfl⟩
  obtain ⟨q80, hq80⟩ : ∃ q, n / 80 = q := ⟨_, rfl⟩
  obtain ⟨sp, hsp⟩ : ∃ m, q80 % 8 = m := ⟨_, rfl⟩
  have t1 : Int.tmod (n : Int) 8 = (k8 : Int) := by rw [← hk8]; exact tmod_nat _ 8
  have t2 : Int.tdiv (n : Int) 8 = (q8 : Int) := by rw [← hq8]; exact tdiv_nat _ 8
  have t3 : Int.tmod (q8 : Int) 2 = (m2 : Int) := by rw [← hm2]; exact tmod_nat _ 2
  have t4 : Int.tdiv (n : Int) 16 = (q16 : Int) := by rw [← hq16]; exact tdiv_nat _ 16
  have t5 : Int.tmod (q16 : Int) 5 = (m5 : Int) := by rw [← hm5]; exact tmod_nat _ 5
  have t6 : Int.tdiv (n : Int) 80 = (q80 : Int) := by rw [← hq80]; exact tdiv_nat _ 80
  have t7 : Int.tmod (q80 : Int) 8 = (sp : Int) := by rw [← hsp]; exact tmod_nat _ 8
  have hm5' : m5 < 5 := by omega
  have hsp' : sp < 8 := by omega
  have v1 : IntKind.i64.wrap (q8 : Int) = (q8 : Int) := IntWalk.i64_in _ (by omega)
  have v2 : IntKind.i64.wrap (q16 : Int) = (q16 : Int) := IntWalk.i64_in _ (by omega)
  have v3 : IntKind.i64.wrap (q80 : Int) = (q80 : Int) := IntWalk.i64_in _ (by omega)
  have v4 : IntKind.i64.wrap (m5 : Int) = (m5 : Int) := IntWalk.i64_in _ (by omega)
  have v5 : IntKind.i64.wrap (sp : Int) = (sp : Int) := IntWalk.i64_in _ (by omega)
  have v6 : IntKind.i64.wrap (1 + (m5 : Int)) = 1 + (m5 : Int) := IntWalk.i64_in _ (by omega)
  have v7 : IntKind.i64.wrap (k8 : Int) = (k8 : Int) := IntWalk.i64_in _ (by omega)
  have C1 : Hid (k8 < 3 → ComC 5 4 (smallL n)) := fun h => com_54 (by omega)
  have C2 : Hid (k8 = 3 → ComC 6 4 (smallL n)) := fun h => com_64 (by omega)
  have C3 : Hid (k8 = 4 → ComC 6 5 (smallL n)) := fun h => com_65 (by omega)
  have C4 : Hid (k8 = 5 → m2 = 0 → ComC 4 4 (smallL n)) := fun h h2 => com_44 (by omega) (by omega)
  have C5 : Hid (k8 = 5 → m2 = 1 → ComC 5 5 (smallL n)) := fun h h2 => com_55 (by omega) (by omega)
  have C6 : Hid (k8 = 6 → ∀ W : World, Calls Tryz.prog 27 #[.int .i64 3] W fun r w' => (∃ v, r = .returned (.agg #[.int .i64 ((smallL n).disks : Int), v]) ∧ GsO w' W.heap.size v (smallL n).gs) ∧ Below W.heap.size W w') := fun h => pro_13 (by omega)
  have C7 : Hid (k8 = 7 → ComC 7 5 (smallL n)) := fun h => com_75 (by omega)
  have HT : Hid ((smallL n).tiles = 1 + m5) := by rw [← hm5, ← hq16]; rfl
  have HS : Hid ((smallL n).spare = sp) := by rw [← hsp, ← hq80]; rfl
  have hk : k8 = 0 ∨ k8 = 1 ∨ k8 = 2 ∨ k8 = 3 ∨ k8 = 4 ∨ (k8 = 5 ∧ m2 = 0) ∨ (k8 = 5 ∧ m2 = 1) ∨ k8 = 6 ∨ k8 = 7 := by omega
  clear hk8 hq8 hm2 hq16 hm5 hq80 hsp
  unfold SmlP
  generalize smallL n = L at *
  go_enter Tryz.func9, Tryz.ntmps9
  go_upto_region 3 with (fail)
  generalize hW0 : w.alloc _ = w0
  have hl0 : w0.heap[w.heap.size]? = some (.cells #[.int .i64 0, .slice none 0 0, .int .i64 0, .int .i64 0] 31) := by rw [← hW0]; exact heap_alloc_new w _
  have hb0 : Below w.heap.size w w0 := by rw [← hW0]; exact below_laid
  have hz0 : w0.heap.size = w.heap.size + 1 := by rw [← hW0]; simp
  generalize hW1 : w0.alloc _ = w1
  have hd1 : w1.heap[w.heap.size + 1]? = some (.cells #[.int .i64 0, .slice none 0 0] 29) := by rw [← hW1, ← hz0]; exact heap_alloc_new w0 _
  have hb1 : Below w0.heap.size w0 w1 := by rw [← hW1]; exact below_laid
  have hl1 := (hb1.block _ (Array.getElem?_eq_some_iff.1 hl0).1).trans hl0
  have HB1 := Lib.hid (hb0.trans (hb1.mono hb0.size))
  have HL1 := Lib.hid hl1
  have HD1 := Lib.hid hd1
  clear hW0 hW1 hl0 hb0 hz0 hb1 hl1 hd1
  rcases hk with rfl | rfl | rfl | rfl | rfl | ⟨rfl, rfl⟩ | ⟨rfl, rfl⟩ | rfl | rfl
  case' inl =>
    have HC := Lib.hid (C1.out (by omega))
    clear C1 C2 C3 C4 C5 C6 C7
    go_wp2_with fail
    refine (HC.out w1).mono ?_
    rintro r w2 ⟨⟨v, rfl, hG⟩, hb2⟩
  case' inr.inl =>
    have HC := Lib.hid (C1.out (by omega))
    clear C1 C2 C3 C4 C5 C6 C7
    go_wp2_with fail
    refine (HC.out w1).mono ?_
    rintro r w2 ⟨⟨v, rfl, hG⟩, hb2⟩
  case' inr.inr.inl =>
    have HC := Lib.hid (C1.out (by omega))
    clear C1 C2 C3 C4 C5 C6 C7
    go_wp2_with fail
    refine (HC.out w1).mono ?_
    rintro r w2 ⟨⟨v, rfl, hG⟩, hb2⟩
  case' inr.inr.inr.inl =>
    have HC := Lib.hid (C2.out (by omega))
    clear C1 C2 C3 C4 C5 C6 C7
    go_wp2_with fail
    refine (HC.out w1).mono ?_
    rintro r w2 ⟨⟨v, rfl, hG⟩, hb2⟩
  case' inr.inr.inr.inr.inl =>
    have HC := Lib.hid (C3.out (by omega))
    clear C1 C2 C3 C4 C5 C6 C7
    go_wp2_with fail
    refine (HC.out w1).mono ?_
    rintro r w2 ⟨⟨v, rfl, hG⟩, hb2⟩
  case' inr.inr.inr.inr.inr.inl =>
    have HC := Lib.hid (C4.out (by omega) (by omega))
    clear C1 C2 C3 C4 C5 C6 C7
    go_wp2_with fail
    refine (HC.out w1).mono ?_
    rintro r w2 ⟨⟨v, rfl, hG⟩, hb2⟩
  case' inr.inr.inr.inr.inr.inr.inl =>
    have HC := Lib.hid (C5.out (by omega) (by omega))
    clear C1 C2 C3 C4 C5 C6 C7
    go_wp2_with fail
    refine (HC.out w1).mono ?_
    rintro r w2 ⟨⟨v, rfl, hG⟩, hb2⟩
  case' inr.inr.inr.inr.inr.inr.inr.inl =>
    have HC := Lib.hid (C6.out (by omega))
    clear C1 C2 C3 C4 C5 C6 C7
    go_wp2_with fail
    refine (HC.out w1).mono ?_
    rintro r w2 ⟨⟨v, rfl, hG⟩, hb2⟩
  case' inr.inr.inr.inr.inr.inr.inr.inr =>
    have HC := Lib.hid (C7.out (by omega))
    clear C1 C2 C3 C4 C5 C6 C7
    go_wp2_with fail
    refine (HC.out w1).mono ?_
    rintro r w2 ⟨⟨v, rfl, hG⟩, hb2⟩
  all_goals
    clear HC t1 t2 t3 v1 v7
    have hd2 := (hb2.block _ (Array.getElem?_eq_some_iff.1 HD1.out).1).trans HD1.out
    have hl2 := (hb2.block _ (Array.getElem?_eq_some_iff.1 HL1.out).1).trans HL1.out
    have hsz := (Array.getElem?_eq_some_iff.1 HD1.out).1
    obtain ⟨vs, hgs⟩ := hG
    obtain ⟨A, c, rfl, -, -⟩ := hgs.2.1.form
    have hlen : (vsRows vs L.gs).length = L.n := vsRows_len hgs.1
    rw [hlen] at hgs ⊢
    have HB2 := Lib.hid (HB1.out.trans (hb2.mono HB1.out.size))
    generalize hD : w.heap.size + 1 = D at *
    generalize hTT : w.heap.size = T at *
    have q1 := heap_setCell_same w2 D 0 _ _ (.int .i64 (L.disks : Int)) hd2
    have q2 := heap_setCell_same _ D 1 _ _ (.slice A L.n c) q1
    have q3 : ((w2.setCell ⟨D, 0, none⟩ (.int .i64 (L.disks : Int))).setCell ⟨D, 1, none⟩ (.slice A L.n c)).heap[T]? = some (.cells #[.int .i64 0, .slice none 0 0, .int .i64 0, .int .i64 0] 31) :=
      ((heap_setCell_other _ _ _ _ (by show _ ≠ D; omega)).trans (heap_setCell_other _ _ _ _ (by show _ ≠ D; omega))).trans hl2
    have g1 := hgs.far (p := ⟨D, 0, none⟩) hd2 (by decide) (by decide) (.int .i64 (L.disks : Int))
    have g2 := g1.far (p := ⟨D, 1, none⟩) q1 (by decide) (by decide) (.slice A L.n c)
    have b1 := (HB2.out.setCell (p := ⟨D, 0, none⟩) (by show _ ≤ D; omega) (.int .i64 (L.disks : Int))).setCell (p := ⟨D, 1, none⟩) (by show _ ≤ D; omega) (.slice A L.n c)
    have d0 : w2.cell? ⟨D, 0, none⟩ = some (.int .i64 0) := by rw [cell_of_row _ _ _ _ _ _ hd2]; rfl
    have d1 : w2.cell? ⟨D, 1, none⟩ = some (.slice none 0 0) := by rw [cell_of_row _ _ _ _ _ _ hd2]; rfl
    have f0 : w2.frozen? ⟨D, 0, none⟩ = false := frozen_of_row _ _ _ _ _ hd2
    have f1 : w2.frozen? ⟨D, 1, none⟩ = false := frozen_of_row _ _ _ _ _ hd2
    have Q2 := Lib.hid q2
    have Q3 := Lib.hid q3
    have G2 := Lib.hid g2
    have B1 := Lib.hid b1
    clear q1 q2 q3 g1 g2 b1 hd2 hl2 hgs hb2 HB1 HL1 HD1
    go_upto_region 18 with (fail)
    generalize ((w2.setCell ⟨D, 0, none⟩ (.int .i64 (L.disks : Int))).setCell ⟨D, 1, none⟩ (.slice A L.n c)) = w3 at *
    clear d0 d1 f0 f1
    have d0 : w3.cell? ⟨D, 0, none⟩ = some (.int .i64 (L.disks : Int)) := by rw [cell_of_row _ _ _ _ _ _ Q2.out]; rfl
    have d1 : w3.cell? ⟨D, 1, none⟩ = some (.slice A L.n c) := by rw [cell_of_row _ _ _ _ _ _ Q2.out]; rfl
    have e0 : w3.cell? ⟨T, 0, none⟩ = some (.int .i64 0) := by rw [cell_of_row _ _ _ _ _ _ Q3.out]; rfl
    have e1 : w3.cell? ⟨T, 1, none⟩ = some (.slice none 0 0) := by rw [cell_of_row _ _ _ _ _ _ Q3.out]; rfl
    have e2 : w3.cell? ⟨T, 2, none⟩ = some (.int .i64 0) := by rw [cell_of_row _ _ _ _ _ _ Q3.out]; rfl
    have e3 : w3.cell? ⟨T, 3, none⟩ = some (.int .i64 0) := by rw [cell_of_row _ _ _ _ _ _ Q3.out]; rfl
    have fT := fun j => frozen_of_row w3 T j _ _ Q3.out
    have r1 := heap_setCell_same w3 T 0 _ _ (.int .i64 (L.disks : Int)) Q3.out
    have r2 := heap_setCell_same _ T 1 _ _ (.slice A L.n c) r1
    have r3 := heap_setCell_same _ T 2 _ _ (.int .i64 (L.tiles : Int)) r2
    have r4 := heap_setCell_same _ T 3 _ _ (.int .i64 (L.spare : Int)) r3
    have g4 := (((G2.out.far (p := ⟨T, 0, none⟩) Q3.out (by decide) (by decide) _).far (p := ⟨T, 1, none⟩) r1 (by decide) (by decide) _).far (p := ⟨T, 2, none⟩) r2 (by decide) (by decide) _).far (p := ⟨T, 3, none⟩) r3 (by decide) (by decide) (.int .i64 (L.spare : Int))
    have b4 := (((B1.out.setCell (p := ⟨T, 0, none⟩) (Nat.le_refl _) (.int .i64 (L.disks : Int))).setCell (p := ⟨T, 1, none⟩) (Nat.le_refl _) (.slice A L.n c)).setCell (p := ⟨T, 2, none⟩) (Nat.le_refl _) (.int .i64 (L.tiles : Int))).setCell (p := ⟨T, 3, none⟩) (Nat.le_refl _) (.int .i64 (L.spare : Int))
    have R4 := Lib.hid r4
    have G4 := Lib.hid g4.toV
    have B4 := Lib.hid b4
    have hT : 1 + (m5 : Int) = (L.tiles : Int) := by rw [HT.out]; omega
    have hS : (sp : Int) = (L.spare : Int) := by rw [HS.out]
    rw [hT] at v6
    clear r1 r2 r3 r4 g4 b4 Q2 Q3 G2 B1 HT HS
    go_wp2
    (try simp only [Exit.inBlock, Exit.then])
    refine bodyPost_ret (v := layAgg L A c) ?_ rfl ⟨A, c, rfl, G4.out, by rw [hTT]; exact B4.out⟩
    exact results_cell_row rfl _ _ T 31 #[.int .i64 (L.disks : Int), .slice A L.n c, .int .i64 (L.tiles : Int), .int .i64 (L.spare : Int)] (0, 0) _ rfl (by simpa using R4.out) Tryz.underlying31 rfl (by kernel_rfl)
end Go.Proofs.YteglnekkkhpikaaGreat
