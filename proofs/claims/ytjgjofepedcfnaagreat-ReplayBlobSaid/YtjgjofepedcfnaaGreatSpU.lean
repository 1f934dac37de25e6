/- Walk of tegularef07.Check on a balanced design. -/
import Derived.Test.YtjgjofepedcfnaaGreatSpT
namespace Go.Proofs.YtjgjofepedcfnaaGreat
open Go.RowKit
theorem zeros60 : Tryz.zeroCells178 = Array.replicate 3600 (.int .i64 0) := by kernel_rfl
theorem PairV.zero (w : World) : PairV (w.alloc (.cells Tryz.zeroCells178 178)) w.heap.size 178 (fun _ _ => 0) := by
 rw [zeros60]
 refine ⟨_, heap_alloc_new w _, by simp, fun a b ha hb => ?_⟩
 rw [Array.getElem?_replicate, if_pos (by omega)]
 rfl
theorem des_parts {d w r lam : Nat} {gs : List (List Nat)} (h : desB d w r lam gs = true) : 1 ≤ gs.length ∧ ∀ g ∈ gs, g.length = w ∧ g.Pairwise (· < ·) ∧ ∀ x ∈ g, x < d := by
 unfold desB at h
 simp only [Bool.and_eq_true, List.all_eq_true, decide_eq_true_eq, beq_iff_eq] at h
 exact ⟨h.1.1, fun g hg => ⟨(h.1.2 g hg).1.1, (h.1.2 g hg).1.2, (h.1.2 g hg).2⟩⟩
theorem at_some {α : Type} {l : List α} {i : Nat} (h : i < l.length) : ∃ x, l[i]? = some x := ⟨l[i], List.getElem?_eq_getElem h⟩
theorem inc_adj {l : List Nat} (h : l.Pairwise (· < ·)) {p x y : Nat} (hx : l[p + 1]? = some x) (hy : l[p]? = some y) : y < x := by
 rw [List.pairwise_iff_getElem] at h
 obtain ⟨h1, rfl⟩ := List.getElem?_eq_some_iff.1 hx
 obtain ⟨h2, rfl⟩ := List.getElem?_eq_some_iff.1 hy
 exact h p (p + 1) h2 h1 (by omega)
def Chk1 (w0 : World) (D : Nat) (gs : List (List Nat)) (s6 : Value) (wr : World) : Prop := ∃ j : Nat, j ≤ gs.length ∧ s6 = .int .i64 j ∧ PairV wr D 178 (pairTo gs j) ∧ Below D w0 wr
set_option maxHeartbeats 4000000 in
set_option maxRecDepth 100000 in
theorem check7_any {d wd r lam B : Nat} {gs : List (List Nat)} {A : Option Addr} {c : Nat} (w : World) (h : desB d wd r lam gs = true) (hV : GsV w B A gs) (hB : B ≤ w.heap.size) (hd : 2 ≤ d ∧ d ≤ 60) (hw : 2 ≤ wd ∧ wd ≤ 16) (hn : gs.length ≤ 4096) (hlam : 1 ≤ lam) :
  Calls Tryz.prog 83 #[.agg #[.int .i64 (d : Int), .slice A gs.length c]] w fun e w' => e = .returned (.tuple #[.int .i64 (r : Int), .int .i64 (lam : Int), .bool true]) ∧ Below w.heap.size w w' := by
 have HV := Lib.hid hV
 have HX := Lib.hid h
 have hds := des_parts h
 have hn1 : ¬ ((gs.length : Int) < 1) := by have := hds.1; omega
 have hn2 : ¬ (4096 < (gs.length : Int)) := by omega
 have hd1 : ¬ ((d : Int) < 2) := by omega
 have hd2 : ¬ (60 < (d : Int)) := by omega
 have HP := Lib.hid hds.2
 clear hV h hds
 go_enter Tryz.func83, Tryz.ntmps83
 go_wp2
 generalize hW0 : w.alloc _ = w0
 have HB0 : Hid (Below w.heap.size w w0) := by rw [← hW0]; exact below_laid
 have hz0 : w0.heap.size = w.heap.size + 1 := by rw [← hW0]; simp
 have HBX : Hid (w0.heap[w.heap.size]? = some (.cells #[.int .i64 d, .slice A gs.length c] 34)) := by rw [← hW0]; exact heap_alloc_new w _
 clear hW0
 rw [← hz0]
 generalize hW1 : w0.alloc _ = w1
 have HC0 : Hid (Chk1 w0 w0.heap.size gs (.int .i64 0) w1) := by
  rw [← hW1]
  exact ⟨0, by omega, rfl, by rw [pair_zero]; exact PairV.zero w0, below_laid⟩
 clear hW1
 have HZ0 := Lib.hid hz0
 generalize hD : w0.heap.size = D at *
 have HD := Lib.hid hD
 clear hz0 hD
 have HBB : Hid (∀ wr, Below D w0 wr → wr.cell? ⟨w.heap.size, 0, none⟩ = some (.int .i64 (d : Int)) ∧ wr.cell? ⟨w.heap.size, 1, none⟩ = some (.slice A gs.length c) ∧ GsV wr B A gs) := by
  intro wr hb
  have hbx := (hb.block _ (by rw [HZ0.out]; omega)).trans HBX.out
  exact ⟨by rw [cell_of_row _ _ _ _ _ _ hbx]; rfl, by rw [cell_of_row _ _ _ _ _ _ hbx]; rfl, (HV.out.below HB0.out hB).below hb (by rw [HZ0.out]; omega)⟩
 obtain ⟨l0, hl0⟩ : ∃ l, gs[0]? = some l := ⟨gs[0], List.getElem?_eq_getElem (by omega)⟩
 have HL0 := Lib.hid hl0
 clear hl0
 go_loopw [6] (fun s6 wr => Chk1 w0 D gs s6 wr) (fun s6 _ => gs.length - (intOf s6).toNat)
 case atStart => exact HC0.out
 case round =>
  clear HC0
  obtain ⟨j, hj, rfl, hpv, hbl⟩ := hrel
  obtain ⟨c0, c1, hgv⟩ := HBB.out wr hbl
  have HBS : Hid (B ≤ wr.heap.size) := by unfold Hid; have := hbl.size; have := HD.out; have := HZ0.out; omega
  have HPV := Lib.hid hpv
  have HBL := Lib.hid hbl
  clear hpv hbl
  by_cases hjn : j < gs.length
  ·have hjI : (j : Int) < (gs.length : Int) := by omega
   obtain ⟨l, hl⟩ : ∃ l, gs[j]? = some l := ⟨gs[j], List.getElem?_eq_getElem hjn⟩
   obtain ⟨-, -, hgv0⟩ := HBB.out w0 (Below.refl _ _)
   obtain ⟨b, off, Al, cl, hA, hbB, hat⟩ := hgv0.at_ hl
   subst hA
   obtain ⟨b', off', A0, c0', hA', -, hat0⟩ := hgv0.at_ HL0.out
   cases hA'
   have hlw := (HP.out l (List.mem_of_getElem? hl)).1
   have hlw0 := (HP.out l0 (List.mem_of_getElem? HL0.out)).1
   have hBD : B ≤ D := by rw [HZ0.out]; omega
   have g0 := (hat0 wr D HBL.out hBD).1
   obtain ⟨g1, -⟩ := hat wr D HBL.out hBD
   rw [hlw0, Nat.add_zero] at g0
   rw [hlw] at g1
   have HLW := Lib.hid hlw
   have HGL := Lib.hid hl
   obtain ⟨x0, hx0⟩ : ∃ x, l[0]? = some x := ⟨l[0], List.getElem?_eq_getElem (by omega)⟩
   obtain ⟨bl, ol, rfl, -, -⟩ := nints_at (hat w0 D (Below.refl _ _) hBD).2 hx0
   have HCL : Hid (∀ W, Below D w0 W → ∀ k x : Nat, l[k]? = some x → W.cell? ⟨bl, ol + k, none⟩ = some (.int .i64 (x : Int)) ∧ x < d) := by
    intro W hW k x hx
    obtain ⟨b1, o1, e, -, hc⟩ := nints_at (hat W D hW hBD).2 hx
    cases e
    exact ⟨hc, (HP.out l (List.mem_of_getElem? HGL.out)).2.2 x (List.mem_of_getElem? hx)⟩
   clear hlw hlw0 hl hat hat0 hgv hgv0 hx0
   have hw1 : ¬ ((wd : Int) < 2) := by omega
   go_wp2
   clear c0 c1 g0 g1 hw1
   go_loopw [8] (fun s8 wr => ∃ i : Nat, i ≤ wd ∧ s8 = .int .i64 i ∧ PairV wr D 178 (pairTo gs j) ∧ Below D w0 wr) (fun s8 _ => wd - (intOf s8).toNat)
   case atStart => exact ⟨0, by omega, rfl, HPV.out, HBL.out⟩
   case round =>
    clear HPV HBL
    obtain ⟨i, hi, rfl, hpv, hbl⟩ := hrel
    obtain ⟨c0, c1, -⟩ := HBB.out wr hbl
    have HPV := Lib.hid hpv
    have HBL := Lib.hid hbl
    clear hpv hbl
    by_cases hiw : i < wd
    ·have hiI : (i : Int) < (wd : Int) := by omega
     obtain ⟨x, hx⟩ : ∃ x, l[i]? = some x := at_some (by rw [HLW.out]; exact hiw)
     obtain ⟨e1, hxd⟩ := HCL.out wr HBL.out i x hx
     have hx0 : decide ((x : Int) < 0) = false := by rw [decide_eq_false_iff_not]; omega
     have hx1 : decide (d ≤ x) = false := by rw [decide_eq_false_iff_not]; omega
     rcases i with _ | p
     ·have hp0 : decide ((0 : Int) < ((0 : Nat) : Int)) = false := rfl
      simp only [Nat.add_zero] at e1
      go_wp2_with fail
      go_quiet (fail)
      go_wp2
      go_roundw
      case rel => exact ⟨1, by omega, by go_num, HPV.out, below_drewN HBL.out _⟩
      case measure => simp [intOf] <;> omega
     ·obtain ⟨y, hy⟩ : ∃ y, l[p]? = some y := at_some (by rw [HLW.out]; omega)
      obtain ⟨e2, hyd⟩ := HCL.out wr HBL.out p y hy
      have hyx : y < x := inc_adj (HP.out l (List.mem_of_getElem? HGL.out)).2.1 hx hy
      have hiI : (p : Int) + 1 < (wd : Int) := by omega
      have hyI : decide (x ≤ y) = false := by rw [decide_eq_false_iff_not]; omega
      have hpI : decide ((0 : Int) < (p : Int) + 1) = true := by rw [decide_eq_true_iff]; omega
      clear hx hy
      go_wp2_with fail
      go_quiet (fail)
      go_wp2
      go_roundw
      case rel => exact ⟨p + 2, by omega, by go_num, HPV.out, below_drewN HBL.out _⟩
      case measure => simp [intOf] <;> omega
    ·obtain rfl : wd = i := by omega
     go_wp2
     clear c0 c1
     go_loopw [9, 10] (fun s9 _ wr => ∃ i : Nat, i ≤ wd ∧ s9 = .int .i64 i ∧ PairV wr D 178 ((prodTo l i 0).foldl incF (pairTo gs j)) ∧ Below D w0 wr) (fun s9 _ _ => wd - (intOf s9).toNat)
     case atStart => exact ⟨0, by omega, rfl, by rw [prodTo_zero]; exact HPV.out, HBL.out⟩
     case round =>
      clear HPV HBL
      obtain ⟨i, hi, rfl, hpv, hbl⟩ := hrel
      have HPV := Lib.hid hpv
      have HBL := Lib.hid hbl
      clear hpv hbl
      by_cases hiw : i < wd
      ·have hiI : (i : Int) < (wd : Int) := by omega
       obtain ⟨x, hx⟩ : ∃ x, l[i]? = some x := at_some (by rw [HLW.out]; exact hiw)
       have HXX := Lib.hid hx
       clear hx
       go_wp2
       go_loopw [10] (fun s10 wr => ∃ k : Nat, k ≤ wd ∧ s10 = .int .i64 k ∧ PairV wr D 178 ((prodTo l i k).foldl incF (pairTo gs j)) ∧ Below D w0 wr) (fun s10 _ => wd - (intOf s10).toNat)
       case atStart => exact ⟨0, by omega, rfl, HPV.out, HBL.out⟩
       case round =>
        clear HPV HBL
        obtain ⟨k, hk, rfl, hpv, hbl⟩ := hrel
        have HPV := Lib.hid hpv
        have HBL := Lib.hid hbl
        clear hpv hbl
        by_cases hkw : k < wd
        ·have hkI : (k : Int) < (wd : Int) := by omega
         obtain ⟨y, hy⟩ : ∃ y, l[k]? = some y := at_some (by rw [HLW.out]; exact hkw)
         obtain ⟨e1, hxd⟩ := HCL.out wr.drew HBL.out.drew i x HXX.out
         obtain ⟨e2, hyd⟩ := HCL.out wr.drew HBL.out.drew k y hy
         have hx60 : (x : Int) < 60 := by omega
         have hy60 : (y : Int) < 60 := by omega
         have hpd : PairV wr.drew D 178 ((prodTo l i k).foldl incF (pairTo gs j)) := HPV.out
         have hbd : (prodTo l i k).foldl incF (pairTo gs j) x y ≤ 100000 := by
          have := fold_bd (l := l) (i := i) (k := k) (pairTo gs j) x y (by rw [HLW.out]; omega) (by rw [HLW.out]; omega)
          have h2 := pair_bd gs j x y
          rw [HLW.out] at this
          have h3 : (i + 1) * wd ≤ 17 * 16 := Nat.mul_le_mul (by omega) (by omega)
          omega
         have hin := hpd.inc (a := x) (b := y) (by omega) (by omega)
         obtain ⟨c0, f0⟩ := hpd.cell (a := x) (b := y) (by omega) (by omega)
         have hnx : (prodTo l i (k + 1)).foldl incF (pairTo gs j) = incF ((prodTo l i k).foldl incF (pairTo gs j)) (x, y) := by rw [prodTo_next HXX.out hy, List.foldl_append]; rfl
         rw [← hnx] at hin
         generalize (prodTo l i k).foldl incF (pairTo gs j) x y = n at *
         have HS : Hid (PairV (wr.drew.setCell ⟨D, x * 60 + y, none⟩ (.int .i64 ((n : Int) + 1))) D 178 ((prodTo l i (k + 1)).foldl incF (pairTo gs j))) := by unfold Hid; simpa using hin
         have HS2 : Hid (Below D w0 (wr.drew.setCell ⟨D, x * 60 + y, none⟩ (.int .i64 ((n : Int) + 1)))) := HBL.out.drew.setCell (Nat.le_refl _) _
         clear hin hnx hpd hy
         go_wp2_with fail
         refine still_tail_drew 14 (by kernel_rfl) (by kernel_rfl) ?_
         simp only [List.take_succ_cons, List.take_zero, List.drop_succ_cons, List.drop_zero]
         repeat still_step
         refine wpStill_nil ?_
         go_wp2
         go_roundw
         case rel => exact ⟨k + 1, by omega, by go_num, HS.out, HS2.out⟩
         case measure => simp [intOf] <;> omega
        ·obtain rfl : wd = k := by omega
         have HPW : Hid (PairV wr D 178 ((prodTo l (i + 1) 0).foldl incF (pairTo gs j))) := by
          have := HPV.out
          rw [← HLW.out, prodTo_row (by rw [HLW.out]; omega)] at this
          exact this
         go_wp2
         go_roundw
         case rel => exact ⟨i + 1, by omega, by go_num, HPW.out, HBL.out⟩
         case measure => simp [intOf] <;> omega
      ·obtain rfl : wd = i := by omega
       have HPW : Hid (PairV wr D 178 (pairTo gs (j + 1))) := by
        have := HPV.out
        rw [← HLW.out, prodTo_all, pair_next HGL.out (HP.out l (List.mem_of_getElem? HGL.out)).2.1] at this
        exact this
       go_wp2
       go_roundw
       case rel => exact ⟨j + 1, by omega, by go_num, HPW.out, HBL.out⟩
       case measure => simp [intOf] <;> omega
  ·obtain rfl : j = gs.length := by omega
   go_wp2
   clear c0 c1
   go_loopw [11, 12] (fun s11 _ wr => ∃ a : Nat, a ≤ d ∧ s11 = .int .i64 a ∧ PairV wr D 178 (pairTo gs gs.length) ∧ Below D w0 wr) (fun s11 _ _ => d - (intOf s11).toNat)
   case atStart => exact ⟨0, by omega, rfl, HPV.out, HBL.out⟩
   case round =>
    clear HPV HBL
    obtain ⟨a, ha, rfl, hpv, hbl⟩ := hrel
    obtain ⟨c0, -, -⟩ := HBB.out wr hbl
    have HPV := Lib.hid hpv
    have HBL := Lib.hid hbl
    clear hpv hbl
    by_cases had : a < d
    ·have haI : (a : Int) < (d : Int) := by omega
     go_wp2
     clear c0
     go_loopw [12] (fun s12 wr => ∃ q : Nat, q ≤ d ∧ s12 = .int .i64 q ∧ PairV wr D 178 (pairTo gs gs.length) ∧ Below D w0 wr) (fun s12 _ => d - (intOf s12).toNat)
     case atStart => exact ⟨0, by omega, rfl, HPV.out, HBL.out⟩
     case round =>
      clear HPV HBL
      obtain ⟨q, hq, rfl, hpv, hbl⟩ := hrel
      obtain ⟨c0, -, -⟩ := HBB.out wr hbl
      have HPV := Lib.hid hpv
      have HBL := Lib.hid hbl
      clear hbl
      by_cases hqd : q < d
      ·have hqI : (q : Int) < (d : Int) := by omega
       have ha60 : (a : Int) < 60 := by omega
       have hq60 : (q : Int) < 60 := by omega
       by_cases haq : a = q
       ·subst haq
        have e0 := (hpv.cell (a := a) (b := a) (by omega) (by omega)).1
        have e1 := (hpv.cell (a := 0) (b := 0) (by omega) (by omega)).1
        rw [pair_all HX.out had had, if_pos rfl] at e0
        rw [pair_all HX.out (by omega) (by omega), if_pos rfl] at e1
        simp only [Nat.zero_mul, Nat.zero_add] at e1
        clear hpv
        go_wp2_with fail
        go_quiet (fail)
        go_wp2
        go_roundw
        case rel => exact ⟨a + 1, by omega, by go_num, HPV.out, below_drewN HBL.out _⟩
        case measure => simp [intOf] <;> omega
       ·have hne : ((a : Int) == (q : Int)) = false := by simp; omega
        have hne2 : ((a : Int) != (q : Int)) = true := by simp; omega
        have e0 := (hpv.cell (a := a) (b := q) (by omega) (by omega)).1
        have e1 := (hpv.cell (a := 0) (b := 1) (by omega) (by omega)).1
        rw [pair_all HX.out had hqd, if_neg haq] at e0
        rw [pair_all HX.out (by omega) (by omega), if_neg (by omega)] at e1
        simp only [Nat.zero_mul, Nat.zero_add] at e1
        clear hpv haq
        go_wp2_with fail
        go_quiet (fail)
        go_wp2
        go_roundw
        case rel => exact ⟨q + 1, by omega, by go_num, HPV.out, below_drewN HBL.out _⟩
        case measure => simp [intOf] <;> omega
      ·obtain rfl : d = q := by omega
       clear hpv
       go_wp2
       go_roundw
       case rel => exact ⟨a + 1, by omega, by go_num, HPV.out, HBL.out⟩
       case measure => simp [intOf] <;> omega
    ·obtain rfl : d = a := by omega
     have e0 := (HPV.out.cell (a := 0) (b := 0) (by omega) (by omega)).1
     have e1 := (HPV.out.cell (a := 0) (b := 1) (by omega) (by omega)).1
     rw [pair_all HX.out (by omega) (by omega), if_pos rfl] at e0
     rw [pair_all HX.out (by omega) (by omega), if_neg (by omega)] at e1
     simp only [Nat.zero_mul, Nat.zero_add] at e0 e1
     have hlI : decide (0 < lam) = true := by rw [decide_eq_true_iff]; omega
     go_wp2_with fail
     go_quiet (fail)
     go_wp2
     go_ret3
     exact ⟨rfl, HB0.out.trans ((below_drewN HBL.out _).mono (by rw [HZ0.out]; omega))⟩
end Go.Proofs.YtjgjofepedcfnaaGreat
