/- Walk of tegularef22.Used.
Walks of tegularef22: With, Same.
Walks of tegularef22: Same, Apply.
Walk of tegularef22.Choose.
Walks of design's formed and Check.
Disjoint rows of numbers in memory; the state of layout's measure. No program is walked here. -/
import Derived.Test.YtopoefcklipaeaaGreatDoorSpY
namespace Go.Proofs.YtopoefcklipaeaaGreatDoor
open Go.RowKit
section
variable {L : LayD} {ms : List Mv} {d : Int} {k j : Nat}
end
theorem LayB.grown {w w' : World} {X : Nat} {L : LayD} {A : Option Addr} {c base size : Nat} {e : TypeId} {v : Value} {rows : List (List Value)} (h : LayB w X L A c) (ho : OwS w base e size v rows) (hne : e ≠ 28) (hg : w.grownBy w' v.ownBlock) : LayB w' X L A c :=
 (hg.block _ h.lt (fun he => ho.blk_ne h hne he.symm)).trans h
end Go.Proofs.YtopoefcklipaeaaGreatDoor
namespace Go.Proofs.YtopoefcklipaeaaGreatDoor
open Go.RowKit
theorem elemMv : Elem Tryz.prog 31 196 4 32 := Elem.mk (z := .agg #[.int .i64 0, .int .i64 0, .int .i64 0, .int .i64 0]) Tryz.underlying31 (by kernel_rfl) (by decide) rfl
theorem withM_len (ms : List Mv) (m : Mv) : (withM ms m).length ≤ ms.length + 1 := withL_len m ms _
theorem MvB.made (w : World) (m : Mv) : MvB (w.alloc (.cells #[.int .i64 m.g, .int .i64 m.p, .int .i64 m.to.disk, .int .i64 m.to.block] 196)) w.heap.size m := heap_alloc_new w _
theorem MvB.grown {w w' : World} {X : Nat} {m : Mv} {o : Option Nat} (h : MvB w X m) (hg : w.grownBy w' o) (hne : o ≠ some X) : MvB w' X m := (hg.block _ h.lt (fun he => hne he.symm)).trans h
end Go.Proofs.YtopoefcklipaeaaGreatDoor
namespace Go.Proofs.YtopoefcklipaeaaGreatDoor
open Go.RowKit
theorem OwS.rds {w : World} {B : Nat} {A : Option Addr} {n c : Nat} {ms : List Mv} (h : OwS w B 196 4 (.slice A n c) (ms.map Mv.cells)) : n = ms.length ∧ MvS w w.heap.size A ms := by
 refine ⟨?_, h.reads⟩
 obtain ⟨A', c', he, -⟩ := h.form
 rw [List.length_map] at he
 injection he
end Go.Proofs.YtopoefcklipaeaaGreatDoor
namespace Go.Proofs.YtopoefcklipaeaaGreatDoor
open Go.RowKit
section
variable {L : LayD} {ms : List Mv} {g : Int} {dead : List Bool} {k : Nat}
end
def PlB (w : World) (X : Nat) (t : Plc) : Prop := w.heap[X]? = some (.cells #[.int .i64 t.disk, .int .i64 t.block] 194)
section
variable {w w' : World} {X : Nat} {t : Plc}
theorem PlB.cells (h : PlB w X t) : w.cell? ⟨X, 0, none⟩ = some (.int .i64 t.disk) ∧ w.cell? ⟨X, 1, none⟩ = some (.int .i64 t.block) ∧ w.frozen? ⟨X, 0, none⟩ = false ∧ w.frozen? ⟨X, 1, none⟩ = false :=
 ⟨by rw [cell_of_row _ _ _ _ _ _ h]; rfl, by rw [cell_of_row _ _ _ _ _ _ h]; rfl, frozen_of_row _ _ _ _ _ h, frozen_of_row _ _ _ _ _ h⟩
theorem PlB.lt (h : PlB w X t) : X < w.heap.size := (Array.getElem?_eq_some_iff.1 h).1
theorem PlB.below {C : Nat} (h : PlB w X t) (hb : Below C w w') (hC : X < C) : PlB w' X t := (hb.block _ hC).trans h
theorem PlB.set (h : PlB w X t) (u : Plc) : PlB ((w.setCell ⟨X, 0, none⟩ (.int .i64 u.disk)).setCell ⟨X, 1, none⟩ (.int .i64 u.block)) X u := by
 have hb2 := heap_setCell_same w X 0 _ _ (.int .i64 u.disk) h
 unfold PlB
 rw [heap_setCell_same _ X 1 _ _ _ hb2]
 rfl
theorem PlB.far (h : PlB w X t) {p : Addr} (hp : X ≠ p.block) (u : Value) : PlB (w.setCell p u) X t := (heap_setCell_other w _ _ _ hp).trans h
theorem LayB.far {L : LayD} {A : Option Addr} {c : Nat} (h : LayB w X L A c) {p : Addr} (hp : X ≠ p.block) (u : Value) : LayB (w.setCell p u) X L A c := (heap_setCell_other w _ _ _ hp).trans h
end
structure ChoS (w : World) (L : LayD) (A : Option Addr) (c : Nat) (t : Plc) (wr : World) : Prop where
 bel : Below w.heap.size w wr
 lay : LayB wr w.heap.size L A c
 res : PlB wr (w.heap.size + 1) ⟨0, 0⟩
 best : PlB wr (w.heap.size + 2) t
theorem ChoS.below {w wr w' : World} {L : LayD} {A : Option Addr} {c : Nat} {t : Plc} (h : ChoS w L A c t wr) (hb : Below wr.heap.size wr w') : ChoS w L A c t w' :=
 ⟨h.bel.trans (hb.mono h.bel.size), h.lay.below hb h.lay.lt, h.res.below hb h.res.lt, h.best.below hb h.best.lt⟩
end Go.Proofs.YtopoefcklipaeaaGreatDoor
namespace Go.Proofs.YtopoefcklipaeaaGreatDoor
open Go.RowKit
set_option maxHeartbeats 4000000 in
set_option maxRecDepth 100000 in
theorem formed_any {d wd r lam B : Nat} {gs : List (List Nat)} {A : Option Addr} {c : Nat} (w : World) (h : desB d wd r lam gs = true) (hV : GsV w B A gs) (hB : B ≤ w.heap.size) (hd : 2 ≤ d ∧ d ≤ 60) (hw : 2 ≤ wd ∧ wd ≤ 16) (hn : gs.length ≤ 4096) :
  Calls Tryz.prog 228 #[.agg #[.int .i64 (d : Int), .slice A gs.length c]] w fun e w' => e = .returned (.bool true) ∧ Below w.heap.size w w' := by
 have HV := Lib.hid hV
 have hds := des_parts h
 have hn1 : ¬ ((gs.length : Int) < 1) := by have := hds.1; omega
 have hn2 : ¬ (4096 < (gs.length : Int)) := by omega
 have hn3 : (0 : Int) < (gs.length : Int) := by have := hds.1; omega
 have hd1 : ¬ ((d : Int) < 2) := by omega
 have hd2 : ¬ (60 < (d : Int)) := by omega
 have hw1 : ¬ ((wd : Int) < 2) := by omega
 have HP := Lib.hid hds.2
 obtain ⟨l0, hl0⟩ : ∃ l, gs[0]? = some l := at_some (by omega)
 have HL0 := Lib.hid hl0
 obtain ⟨b, off, A0, c0, hA, hbB, hat0⟩ := hV.at_ hl0
 subst hA
 have HFI : Hid (∀ W, Below w.heap.size w W → W.cell? ⟨b, off, none⟩ = some (.slice A0 wd c0)) := fun W hW => by
  have := (hat0 W w.heap.size hW hB).1
  rw [(HP.out l0 (List.mem_of_getElem? HL0.out)).1, Nat.add_zero] at this
  exact this
 clear hV h hds hat0 hl0
 have g0 := HFI.out (w.alloc (.cells #[.int .i64 (d : Int), .slice (some ⟨b, off, none⟩) gs.length c] 26)) below_laid
 go_enter Tryz.func228, Tryz.ntmps228
 go_wp2
 have hbx := heap_alloc_new w (.cells #[.int .i64 (d : Int), .slice (some ⟨b, off, none⟩) gs.length c] 26)
 have hb0 : Below w.heap.size w (w.alloc (.cells #[.int .i64 (d : Int), .slice (some ⟨b, off, none⟩) gs.length c] 26)) := below_laid
 generalize w.alloc _ = w0 at *
 have c0' : w0.cell? ⟨w.heap.size, 0, none⟩ = some (.int .i64 (d : Int)) := by rw [cell_of_row _ _ _ _ _ _ hbx]; rfl
 have c1' : w0.cell? ⟨w.heap.size, 1, none⟩ = some (.slice (some ⟨b, off, none⟩) gs.length c) := by rw [cell_of_row _ _ _ _ _ _ hbx]; rfl
 have HB0 := Lib.hid hb0
 clear hbx hb0
 go_loopw [38, 4, 5, 6, 52] (fun s38 _ _ _ _ wr => ∃ j : Nat, j ≤ gs.length ∧ s38 = .int .i64 j ∧ wr = w0) (fun s38 _ _ _ _ _ => gs.length - (intOf s38).toNat)
 case atStart => exact ⟨0, by omega, rfl, rfl⟩
 case round =>
  obtain ⟨j, hj, rfl, rfl⟩ := hrel
  by_cases hjn : j < gs.length
  ·have hjI : (j : Int) < (gs.length : Int) := by omega
   obtain ⟨l, hl⟩ := at_some hjn
   obtain ⟨b', off', Al, cl, hA', -, hat⟩ := HV.out.at_ hl
   cases hA'
   have hlw := (HP.out l (List.mem_of_getElem? hl)).1
   obtain ⟨g1, hI⟩ := hat wr w.heap.size HB0.out hB
   rw [hlw] at g1
   have HLW := Lib.hid hlw
   have HGL := Lib.hid hl
   have HII := Lib.hid hI
   clear hlw hl hI hat
   go_wp2
   go_loopw [52, 5, 6] (fun s52 _ _ wx => ∃ i : Nat, i ≤ wd ∧ s52 = .int .i64 i ∧ wx = wr) (fun s52 _ _ _ => wd - (intOf s52).toNat)
   case atStart => exact ⟨0, by omega, rfl, rfl⟩
   case round =>
    obtain ⟨i, hi, rfl, rfl⟩ := hrel
    by_cases hiw : i < wd
    ·have hiI : (i : Int) < (wd : Int) := by omega
     obtain ⟨x, hx⟩ : ∃ x, l[i]? = some x := at_some (by rw [HLW.out]; exact hiw)
     obtain ⟨bl, ol, rfl, -, e1⟩ := nints_at HII.out hx
     have hxd := (HP.out l (List.mem_of_getElem? HGL.out)).2.2 x (List.mem_of_getElem? hx)
     have hx0 : decide ((x : Int) < 0) = false := by rw [decide_eq_false_iff_not]; omega
     have hx1 : decide (d ≤ x) = false := by rw [decide_eq_false_iff_not]; omega
     rcases i with _ | p
     ·simp only [Nat.add_zero] at e1
      clear hx
      go_wp2
      go_roundw
      case rel => exact ⟨1, by omega, by go_num, trivial⟩
      case measure => simp [intOf] <;> omega
     ·obtain ⟨y, hy⟩ : ∃ y, l[p]? = some y := at_some (by rw [HLW.out]; omega)
      obtain ⟨bl', ol', e, -, e2⟩ := nints_at HII.out hy
      cases e
      have hyx : y < x := inc_adj (HP.out l (List.mem_of_getElem? HGL.out)).2.1 hx hy
      have hiI : (p : Int) + 1 < (wd : Int) := by omega
      have hyI : decide (x ≤ y) = false := by rw [decide_eq_false_iff_not]; omega
      have hpI : decide ((0 : Int) < (p : Int) + 1) = true := by rw [decide_eq_true_iff]; omega
      clear hx hy
      go_wp2
      go_roundw
      case rel => exact ⟨p + 2, by omega, by go_num, trivial⟩
      case measure => simp [intOf] <;> omega
    ·have hiI : ¬ (i : Int) < (wd : Int) := by omega
     go_wp2
     go_roundw
     case rel => exact ⟨j + 1, by omega, by go_num, trivial⟩
     case measure => simp [intOf] <;> omega
  ·have hjI : ¬ (j : Int) < (gs.length : Int) := by omega
   go_wp2
   go_ret
   exact ⟨rfl, HB0.out⟩
set_option maxHeartbeats 4000000 in
set_option maxRecDepth 100000 in
theorem dcheck_any {d wd r lam B : Nat} {gs : List (List Nat)} {A : Option Addr} {c : Nat} (w : World) (h : desB d wd r lam gs = true) (hV : GsV w B A gs) (hB : B ≤ w.heap.size) (hd : 2 ≤ d ∧ d ≤ 60) (hw : 2 ≤ wd ∧ wd ≤ 16) (hn : gs.length ≤ 4096) (hlam : 1 ≤ lam) :
  Calls Tryz.prog 148 #[.agg #[.int .i64 (d : Int), .slice A gs.length c]] w fun e w' => e = .returned (.tuple #[.int .i64 (r : Int), .int .i64 (lam : Int), .int .i64 0]) ∧ Below w.heap.size w w' := by
 have HV := Lib.hid hV
 have HX := Lib.hid h
 have hds := des_parts h
 have HP := Lib.hid hds.2
 have HFO := Lib.hid (fun W hV hB => formed_any (d := d) (wd := wd) (r := r) (lam := lam) (B := B) (gs := gs) (A := A) (c := c) W h hV hB hd hw hn)
 have hn1 := hds.1
 clear hV h hds
 go_enter Tryz.func148, Tryz.ntmps148
 go_wp2_with fail
 have hbx := heap_alloc_new w (.cells #[.int .i64 (d : Int), .slice A gs.length c] 26)
 have hb0 : Below w.heap.size w (w.alloc (.cells #[.int .i64 (d : Int), .slice A gs.length c] 26)) := below_laid
 generalize w.alloc _ = w0 at *
 have hxl : w.heap.size < w0.heap.size := (Array.getElem?_eq_some_iff.1 hbx).1
 refine (HFO.out w0 (HV.out.below hb0 hB) (Nat.le_trans hB hb0.size)).mono ?_
 rintro e w1 ⟨rfl, hb1⟩
 have HB1 := Lib.hid (hb0.trans (hb1.mono hb0.size))
 have hbx1 := (hb1.block _ hxl).trans hbx
 have HBX := Lib.hid hbx1
 have HXL : Hid (w.heap.size < w1.heap.size) := (Array.getElem?_eq_some_iff.1 hbx1).1
 clear hbx hb0 hb1 hbx1 hxl
 have HBB : Hid (∀ wr, Below w1.heap.size w1 wr → wr.cell? ⟨w.heap.size, 0, none⟩ = some (.int .i64 (d : Int)) ∧ wr.cell? ⟨w.heap.size, 1, none⟩ = some (.slice A gs.length c)) := by
  intro wr hb
  have hbx := (hb.block _ HXL.out).trans HBX.out
  exact ⟨by rw [cell_of_row _ _ _ _ _ _ hbx]; rfl, by rw [cell_of_row _ _ _ _ _ _ hbx]; rfl⟩
 have hv1 := HV.out.below HB1.out hB
 have hB1 : B ≤ w1.heap.size := Nat.le_trans hB HB1.out.size
 have HV1 := Lib.hid hv1
 have HPZ : Hid (PairV (w1.alloc (.cells Tryz.zeroCells386 386)) w1.heap.size 386 (pairTo gs 0)) := by rw [Hid, pair_zero]; exact PairV.zero w1
 have HBZ : Hid (Below w1.heap.size w1 (w1.alloc (.cells Tryz.zeroCells386 386))) := below_laid
 obtain ⟨z0, z1⟩ := HBB.out _ HBZ.out
 clear hv1
 go_wp2
 clear z0 z1
 generalize hD : w1.heap.size = D at *
 generalize w1.alloc _ = w2 at *
 have HD := Lib.hid hD
 clear hD
 go_loopw [23, 7, 9, 11, 29, 35] (fun s23 _ _ _ _ _ wr => ∃ j : Nat, j ≤ gs.length ∧ s23 = .int .i64 j ∧ PairV wr D 386 (pairTo gs j) ∧ Below D w1 wr) (fun s23 _ _ _ _ _ _ => gs.length - (intOf s23).toNat)
 case atStart => exact ⟨0, by omega, rfl, HPZ.out, HBZ.out⟩
 case round =>
  clear HPZ HBZ
  obtain ⟨j, hj, rfl, hpv, hbl⟩ := hrel
  have HPV := Lib.hid hpv
  have HBL := Lib.hid hbl
  clear hpv hbl
  by_cases hjn : j < gs.length
  ·have hjI : (j : Int) < (gs.length : Int) := by omega
   obtain ⟨l, hl⟩ := at_some hjn
   obtain ⟨b, off, Al, cl, hA, hbB, hat⟩ := HV1.out.at_ hl
   subst hA
   have hlw := (HP.out l (List.mem_of_getElem? hl)).1
   obtain ⟨g1, -⟩ := hat wr D HBL.out hB1
   rw [hlw] at g1
   have HLW := Lib.hid hlw
   have HGL := Lib.hid hl
   obtain ⟨x0, hx0⟩ : ∃ x, l[0]? = some x := at_some (by omega)
   obtain ⟨bl, ol, rfl, -, -⟩ := nints_at (hat w1 D (Below.refl _ _) hB1).2 hx0
   have HCL : Hid (∀ W, Below D w1 W → ∀ k x : Nat, l[k]? = some x → W.cell? ⟨bl, ol + k, none⟩ = some (.int .i64 (x : Int)) ∧ x < d) := by
    intro W hW k x hx
    obtain ⟨b1, o1, e, -, hc⟩ := nints_at (hat W D hW hB1).2 hx
    cases e
    exact ⟨hc, (HP.out l (List.mem_of_getElem? HGL.out)).2.2 x (List.mem_of_getElem? hx)⟩
   clear hlw hl hat hx0
   go_wp2
   clear g1
   go_loopw [29, 9, 11, 35] (fun s29 _ _ _ wr => ∃ i : Nat, i ≤ wd ∧ s29 = .int .i64 i ∧ PairV wr D 386 ((prodTo l i 0).foldl incF (pairTo gs j)) ∧ Below D w1 wr) (fun s29 _ _ _ _ => wd - (intOf s29).toNat)
   case atStart => exact ⟨0, by omega, rfl, by rw [prodTo_zero]; exact HPV.out, HBL.out⟩
   case round =>
    clear HPV HBL
    obtain ⟨i, hi, rfl, hpv, hbl⟩ := hrel
    have HPV := Lib.hid hpv
    have HBL := Lib.hid hbl
    clear hpv hbl
    by_cases hiw : i < wd
    ·have hiI : (i : Int) < (wd : Int) := by omega
     obtain ⟨x, hx⟩ : ∃ x, l[i]? = some x := at_some (by rw [HLW.out]; exact hiw)
     obtain ⟨e1, hxd⟩ := HCL.out wr HBL.out i x hx
     have HXX := Lib.hid hx
     clear hx
     go_wp2
     clear e1
     go_loopw [35, 11] (fun s35 _ wr => ∃ k : Nat, k ≤ wd ∧ s35 = .int .i64 k ∧ PairV wr D 386 ((prodTo l i k).foldl incF (pairTo gs j)) ∧ Below D w1 wr) (fun s35 _ _ => wd - (intOf s35).toNat)
     case atStart => exact ⟨0, by omega, rfl, HPV.out, HBL.out⟩
     case round =>
      clear HPV HBL
      obtain ⟨k, hk, rfl, hpv, hbl⟩ := hrel
      have HPV := Lib.hid hpv
      have HBL := Lib.hid hbl
      clear hpv hbl
      by_cases hkw : k < wd
      ·have hkI : (k : Int) < (wd : Int) := by omega
       obtain ⟨y, hy⟩ : ∃ y, l[k]? = some y := at_some (by rw [HLW.out]; exact hkw)
       obtain ⟨e2, hyd⟩ := HCL.out wr HBL.out k y hy
       have hx60 : (x : Int) < 60 := by omega
       have hy60 : (y : Int) < 60 := by omega
       have hpd : PairV wr.drew D 386 ((prodTo l i k).foldl incF (pairTo gs j)) := HPV.out
       have hbd : (prodTo l i k).foldl incF (pairTo gs j) x y ≤ 100000 := by
        have := fold_bd (l := l) (i := i) (k := k) (pairTo gs j) x y (by rw [HLW.out]; omega) (by rw [HLW.out]; omega)
        have h2 := pair_bd gs j x y
        rw [HLW.out] at this
        have h3 : (i + 1) * wd ≤ 17 * 16 := Nat.mul_le_mul (by omega) (by omega)
        omega
       have hin := hpd.inc (a := x) (b := y) (by omega) (by omega)
       obtain ⟨c0, f0⟩ := hpd.cell (a := x) (b := y) (by omega) (by omega)
       have hnx : (prodTo l i (k + 1)).foldl incF (pairTo gs j) = incF ((prodTo l i k).foldl incF (pairTo gs j)) (x, y) := by rw [prodTo_next HXX.out hy, List.foldl_append]; rfl
       rw [← hnx] at hin
       generalize (prodTo l i k).foldl incF (pairTo gs j) x y = n at *
       have HS : Hid (PairV (wr.drew.setCell ⟨D, x * 60 + y, none⟩ (.int .i64 ((n : Int) + 1))) D 386 ((prodTo l i (k + 1)).foldl incF (pairTo gs j))) := by unfold Hid; simpa using hin
       have HS2 : Hid (Below D w1 (wr.drew.setCell ⟨D, x * 60 + y, none⟩ (.int .i64 ((n : Int) + 1)))) := HBL.out.drew.setCell (Nat.le_refl _) _
       clear hin hnx hpd hy
       go_wp2_with fail
       refine still_tail_drew 8 (by kernel_rfl) (by kernel_rfl) ?_
       simp only [List.take_succ_cons, List.take_zero, List.drop_succ_cons, List.drop_zero]
       repeat still_step
       refine wpStill_nil ?_
       go_wp2
       go_roundw
       case rel => exact ⟨k + 1, by omega, by go_num, HS.out, HS2.out⟩
       case measure => simp [intOf] <;> omega
      ·obtain rfl : wd = k := by omega
       have HPW : Hid (PairV wr D 386 ((prodTo l (i + 1) 0).foldl incF (pairTo gs j))) := by
        have := HPV.out
        rw [← HLW.out, prodTo_row (by rw [HLW.out]; omega)] at this
        exact this
       go_wp2
       go_roundw
       case rel => exact ⟨i + 1, by omega, by go_num, HPW.out, HBL.out⟩
       case measure => simp [intOf] <;> omega
    ·obtain rfl : wd = i := by omega
     have HPW : Hid (PairV wr D 386 (pairTo gs (j + 1))) := by
      have := HPV.out
      rw [← HLW.out, prodTo_all, pair_next HGL.out (HP.out l (List.mem_of_getElem? HGL.out)).2.1] at this
      exact this
     go_wp2
     go_roundw
     case rel => exact ⟨j + 1, by omega, by go_num, HPW.out, HBL.out⟩
     case measure => simp [intOf] <;> omega
  ·obtain rfl : j = gs.length := by omega
   have e0 := (HPV.out.cell (a := 0) (b := 0) (by omega) (by omega)).1
   have e1 := (HPV.out.cell (a := 0) (b := 1) (by omega) (by omega)).1
   rw [pair_all HX.out (by omega) (by omega), if_pos rfl] at e0
   rw [pair_all HX.out (by omega) (by omega), if_neg (by omega)] at e1
   simp only [Nat.zero_mul, Nat.zero_add] at e0 e1
   go_wp2_with fail
   go_quiet (fail)
   clear e0 e1
   generalize hdr : wr.drewN _ = w3
   have HP3 : Hid (PairV w3 D 386 (pairTo gs gs.length)) := by rw [← hdr]; exact HPV.out
   have HB3 : Hid (Below D w1 w3) := by rw [← hdr]; exact below_drewN HBL.out _
   obtain ⟨c0, -⟩ := HBB.out w3 HB3.out
   clear hdr HPV HBL
   go_wp2
   go_loopw [58, 14, 15, 16, 63] (fun s58 _ _ _ _ wr => ∃ a : Nat, a ≤ d ∧ s58 = .int .i64 a ∧ wr = w3) (fun s58 _ _ _ _ _ => d - (intOf s58).toNat)
   case atStart => exact ⟨0, by omega, rfl, rfl⟩
   case round =>
    obtain ⟨a, ha, rfl, rfl⟩ := hrel
    by_cases had : a < d
    ·have haI : (a : Int) < (d : Int) := by omega
     go_wp2
     go_loopw [63, 15, 16] (fun s63 _ _ wx => ∃ q : Nat, q ≤ d ∧ s63 = .int .i64 q ∧ wx = wr) (fun s63 _ _ _ => d - (intOf s63).toNat)
     case atStart => exact ⟨0, by omega, rfl, rfl⟩
     case round =>
      obtain ⟨q, hq, rfl, rfl⟩ := hrel
      by_cases hqd : q < d
      ·have hqI : (q : Int) < (d : Int) := by omega
       have ha60 : (a : Int) < 60 := by omega
       have hq60 : (q : Int) < 60 := by omega
       have e0 := (HP3.out.cell (a := a) (b := q) (by omega) (by omega)).1
       rw [pair_all HX.out had hqd] at e0
       by_cases haq : a = q
       ·subst haq
        rw [if_pos rfl] at e0
        go_wp2
        go_roundw
        case rel => exact ⟨a + 1, by omega, by go_num, trivial⟩
        case measure => simp [intOf] <;> omega
       ·have hne : (a == q) = false := by simpa using haq
        have hne2 : ((a : Int) == (q : Int)) = false := by simp; omega
        rw [if_neg haq] at e0
        clear haq
        go_wp2
        go_roundw
        case rel => exact ⟨q + 1, by omega, by go_num, trivial⟩
        case measure => simp [intOf] <;> omega
      ·have hqI : ¬ (q : Int) < (d : Int) := by omega
       go_wp2
       go_roundw
       case rel => exact ⟨a + 1, by omega, by go_num, trivial⟩
       case measure => simp [intOf] <;> omega
    ·have haI : ¬ (a : Int) < (d : Int) := by omega
     have hlI : ¬ ((lam : Int) < 1) := by omega
     go_wp2
     go_ret3
     exact ⟨rfl, HB1.out.trans (HB3.out.mono (by rw [← HD.out]; exact HB1.out.size))⟩
end Go.Proofs.YtopoefcklipaeaaGreatDoor
namespace Go.Proofs.YtopoefcklipaeaaGreatDoor
open Go.RowKit
def updF {α : Type} (f : Nat → α) (k : Nat) (a : α) : Nat → α := fun x => if x = k then a else f x
def sepW (a b : Value) : Prop := a.ownBlock = none ∨ a.ownBlock ≠ b.ownBlock
theorem sepW.symm {a b : Value} (h : sepW a b) : sepW b a := by
 unfold sepW at *
 rcases h with h | h
 ·rcases hb : b.ownBlock with _ | q
  ·exact .inl rfl
  ·exact .inr (by rw [h]; simp)
 ·exact .inr h.symm
def Fam (w : World) (B N : Nat) (vs : Nat → Value) (ls : Nat → List Nat) : Prop := ∀ i, i < N → OwS w B 3 1 (vs i) (rowsI (ls i)) ∧ ∀ j, j < N → j ≠ i → sepW (vs i) (vs j)
section
variable {w w' : World} {B N : Nat} {vs : Nat → Value} {ls : Nat → List Nat}
theorem Fam.below (h : Fam w B N vs ls) (hb : Below w.heap.size w w') : Fam w' B N vs ls := fun i hi => ⟨(h i hi).1.below hb, (h i hi).2⟩
theorem Fam.alloc (h : Fam w B N vs ls) (o : Obj) : Fam (w.alloc o) B N vs ls := fun i hi => ⟨(h i hi).1.alloc o, (h i hi).2⟩
theorem Fam.congr {ls' : Nat → List Nat} (h : Fam w B N vs ls) (he : ∀ i, i < N → ls i = ls' i) : Fam w B N vs ls' := fun i hi => ⟨he i hi ▸ (h i hi).1, (h i hi).2⟩
theorem Fam.far (h : Fam w B N vs ls) {p : Addr} {t : TypeId} {cs : Array Value} {fr : Nat × Nat} (hp : w.heap[p.block]? = some (.cells cs t fr)) (ht : t ≠ 3) (u : Value) : Fam (w.setCell p u) B N vs ls :=
 fun i hi => ⟨(h i hi).1.far ((h i hi).1.blk_ne hp (fun e => ht e.symm)) u, (h i hi).2⟩
theorem Fam.kept (h : Fam w B N vs ls) {base size : Nat} {e : TypeId} {v : Value} {rows : List (List Value)} (ho : OwS w base e size v rows) (he : e ≠ 3) (hg : w.grownBy w' v.ownBlock) : Fam w' B N vs ls :=
 fun i hi => ⟨(h i hi).1.kept hg ((h i hi).1.ne ho (fun x => he x.symm)), (h i hi).2⟩
theorem sepW_new {base size : Nat} {e : TypeId} {u u' v : Value} {rows : List (List Value)} (h : OwS w base e size v rows) (hs : sepW v u) (hu : u'.ownBlock = u.ownBlock ∨ ∃ q, u'.ownBlock = some q ∧ w.heap.size ≤ q) : sepW v u' := by
 rcases hu with hu | ⟨q, hu, hq⟩
 ·unfold sepW; rw [hu]; exact hs
 ·rcases hv : v.ownBlock with _ | b
  ·exact .inl hv
  ·refine .inr ?_
   rw [hv, hu]
   intro he
   injection he with he
   have := (h.lt hv).2
   omega
theorem Fam.upd (h : Fam w B N vs ls) {k : Nat} (hk : k < N) {v' : Value} {l' : List Nat} (hg : w.grownBy w' (vs k).ownBlock) (ho : OwS w' B 3 1 v' (rowsI l')) (hl : v'.ownBlock = (vs k).ownBlock ∨ ∃ q, v'.ownBlock = some q ∧ w.heap.size ≤ q) :
  Fam w' B N (updF vs k v') (updF ls k l') := by
 intro i hi
 by_cases e : i = k
 ·subst e
  unfold updF
  rw [if_pos rfl, if_pos rfl]
  refine ⟨ho, fun j hj hji => ?_⟩
  rw [if_neg hji]
  exact (sepW_new (h j hj).1 ((h j hj).2 i hk (Ne.symm hji)) hl).symm
 ·unfold updF
  rw [if_neg e, if_neg e]
  have hs := (h i hi).2 k hk (Ne.symm e)
  refine ⟨(h i hi).1.kept hg hs, fun j hj hji => ?_⟩
  by_cases e2 : j = k
  ·subst e2
   rw [if_pos rfl]
   exact sepW_new (h i hi).1 hs hl
  ·rw [if_neg e2]
   exact (h i hi).2 j hj hji
theorem Fam.add (h : Fam w B N vs ls) : Fam w B (N + 1) (updF vs N (.slice none 0 0)) (updF ls N []) := by
 intro i hi
 by_cases e : i = N
 ·subst e
  unfold updF
  rw [if_pos rfl, if_pos rfl]
  exact ⟨OwS.nil _ _ _ _, fun j hj hji => .inl rfl⟩
 ·unfold updF
  rw [if_neg e, if_neg e]
  refine ⟨(h i (by omega)).1, fun j hj hji => ?_⟩
  by_cases e2 : j = N
  ·rw [if_pos e2]
   unfold sepW
   rcases hq : (vs i).ownBlock with _ | q
   ·exact .inl rfl
   ·exact .inr (by simp [Value.ownBlock])
  ·rw [if_neg e2]
   exact (h i (by omega)).2 j (by omega) hji
end
/-! ### what measure lays: the groups on each disk, the ranks in each group -/
def onP (L : LayD) (d g : Nat) : List Nat := (List.range g).filter fun k => ((L.gs[k]?).getD []).contains d
def onQ (L : LayD) (d g : Nat) (row : List Nat) (i : Nat) : List Nat := onP L d g ++ if (row.take i).contains d then [g] else []
def rkRow (L : LayD) (k : Nat) : List Nat := ((L.gs[k]?).getD []).map fun d => rankL L k d
def lsO (L : LayD) (g : Nat) : Nat → List Nat := fun x => if x < L.disks then onP L x g else rkRow L (x - L.disks)
def lsI (L : LayD) (g : Nat) (row : List Nat) (i : Nat) : Nat → List Nat := fun x => if x < L.disks then onQ L x g row i else if x < L.disks + g then rkRow L (x - L.disks) else (row.take i).map fun d => rankL L g d
section
variable {L : LayD} {d g i : Nat} {row : List Nat}
theorem onP_all : onP L d L.n = onD L d := rfl
theorem onP_len (L : LayD) (d g : Nat) (hg : g ≤ L.n) : (onP L d g).length = rankL L g d := by
 unfold onP rankL
 have h := countP_range (L.gs.take g) (fun r => r.contains d)
 rw [← h, List.length_take, Nat.min_eq_left (show g ≤ L.gs.length from hg)]
 congr 1
 apply List.filter_congr
 intro k hk
 rw [List.mem_range] at hk
 rw [List.getElem?_take, if_pos hk]
theorem onP_succ (hr : L.gs[g]? = some row) : onP L d (g + 1) = onQ L d g row row.length := by
 unfold onP onQ
 rw [List.range_succ, List.filter_append, List.take_length]
 congr 1
 simp only [List.filter_cons, List.filter_nil, hr, Option.getD_some]
theorem onQ_zero : onQ L d g row 0 = onP L d g := by simp [onQ]
theorem onQ_hit (hinc : row.Pairwise (· < ·)) (hd : row[i]? = some d) : onQ L d g row (i + 1) = onQ L d g row i ++ [g] ∧ onQ L d g row i = onP L d g := by
 have hn : (row.take i).contains d = false := by
  rw [Bool.eq_false_iff]
  intro hc
  obtain ⟨hi, rfl⟩ := List.getElem?_eq_some_iff.1 hd
  rw [List.contains_iff_mem, List.mem_take_iff_getElem] at hc
  obtain ⟨j, hj, he⟩ := hc
  have := List.pairwise_iff_getElem.1 hinc j i (by omega) hi (by omega)
  omega
 have hy : (row.take (i + 1)).contains d = true := by
  rw [List.take_add_one, hd]
  simp
 unfold onQ
 rw [hn, hy]
 simp
theorem onQ_miss {e : Nat} (hd : row[i]? = some d) (he : e ≠ d) : onQ L e g row (i + 1) = onQ L e g row i := by
 unfold onQ
 have : (row.take (i + 1)).contains e = (row.take i).contains e := by
  rw [List.take_add_one, hd]
  simp [he]
 rw [this]
end
end Go.Proofs.YtopoefcklipaeaaGreatDoor
