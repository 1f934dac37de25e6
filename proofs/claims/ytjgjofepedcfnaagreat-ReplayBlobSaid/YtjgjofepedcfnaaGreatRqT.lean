/- Walk of tegulalaw50.awake. -/
import Derived.Test.YtjgjofepedcfnaaGreatGRr
namespace Go.Proofs.YtjgjofepedcfnaaGreat
open Go.RowKit
theorem aw_srt : SrtW (allW [awR]) [aw6] := by
 have h := putW_srt (x := aw6) (putW_srt (x := aw5) srt_nil)
 have e : putW (putW [] aw5) aw6 = [aw6] := rfl
 rw [e] at h
 exact h
theorem LvS.stv {w : World} {B c : Nat} {A : Option Addr} {L : LayD} (h : LvS w B A (zeroLs L L.G)) : StV w B (.agg #[.slice A L.G c, .slice none 0 0, .slice none 0 0]) (newS L) :=
 ⟨A, c, none, 0, none, 0, by unfold newS; rw [zeroLs_len]; rfl, h, RdS.nil _ _ _ _, NtS.nil⟩
theorem pws_made (W : World) (x y : Pw) : PwS (W.alloc (.cells (x.cells ++ y.cells).toArray 64)) (W.heap.size + 1) (some ⟨W.heap.size, 0, none⟩) [x, y] := by
 refine ⟨fun r hr => ?_, fun _ => ⟨W.heap.size, 0, rfl, by omega, fun i r hi j u hj => ?_⟩⟩
 ·simp only [List.map_cons, List.map_nil, List.mem_cons, List.not_mem_nil, or_false] at hr
  rcases hr with rfl | rfl <;> rfl
 ·have hb := heap_alloc_new W (.cells (x.cells ++ y.cells).toArray 64)
  rw [cell_of_row _ _ _ _ _ _ hb, List.getElem?_toArray]
  match i, hi with
  | 0, hi =>
   simp only [List.map_cons, List.getElem?_cons_zero, Option.some.injEq] at hi
   subst hi
   have hlt := (List.getElem?_eq_some_iff.1 hj).1
   rw [show 0 + 0 * 11 + j = j by omega, List.getElem?_append_left hlt]
   exact hj
  | 1, hi =>
   simp only [List.map_cons, List.map_nil, List.getElem?_cons_succ, List.getElem?_cons_zero, Option.some.injEq] at hi
   subst hi
   rw [List.getElem?_append_right (by show 11 ≤ _; omega)]
   rw [show 0 + 1 * 11 + j - x.cells.length = j by show 0 + 1 * 11 + j - 11 = j; omega]
   exact hj
theorem rcd_made (W : World) (x y : Pw) : RcdV (W.alloc (.cells (x.cells ++ y.cells).toArray 64)) (W.heap.size + 1) (.agg #[.int .u64 0, .int .u64 1, .slice (some ⟨W.heap.size, 0, none⟩) 2 2, .slice none 0 0, .slice none 0 0]) ⟨0, 1, [x, y], [], []⟩ :=
 ⟨some ⟨W.heap.size, 0, none⟩, 2, none, 0, none, 0, rfl, pws_made W x y, RdS.nil _ _ _ _, RdS.nil _ _ _ _⟩
theorem rcs_made (W : World) (x y : Pw) : RcsS ((W.alloc (.cells (x.cells ++ y.cells).toArray 64)).alloc (.cells #[.int .u64 0, .int .u64 1, .slice (some ⟨W.heap.size, 0, none⟩) 2 2, .slice none 0 0, .slice none 0 0] 28)) (W.heap.size + 2) (some ⟨W.heap.size + 1, 0, none⟩) [⟨0, 1, [x, y], [], []⟩] := by
 refine ⟨[((some ⟨W.heap.size, 0, none⟩, 2), (none, 0), (none, 0))], rfl, ⟨fun r hr => ?_, fun _ => ⟨W.heap.size + 1, 0, rfl, by omega, fun i r hi j u hj => ?_⟩⟩, fun i p r hp hr => ?_⟩
 ·simp only [List.zip_cons_cons, List.zip_nil_right, List.map_cons, List.map_nil, List.mem_cons, List.not_mem_nil, or_false] at hr
  rw [hr]
  rfl
 ·have hb := heap_alloc_new (W.alloc (.cells (x.cells ++ y.cells).toArray 64)) (.cells #[.int .u64 0, .int .u64 1, .slice (some ⟨W.heap.size, 0, none⟩) 2 2, .slice none 0 0, .slice none 0 0] 28)
  rw [show (W.alloc (.cells (x.cells ++ y.cells).toArray 64)).heap.size = W.heap.size + 1 by simp] at hb
  rw [cell_of_row _ _ _ _ _ _ hb]
  match i, hi with
  | 0, hi =>
   simp only [List.zip_cons_cons, List.zip_nil_right, List.map_cons, List.getElem?_cons_zero, Option.some.injEq] at hi
   subst hi
   rw [show 0 + 0 * 5 + j = j by omega, show (#[.int .u64 0, .int .u64 1, .slice (some ⟨W.heap.size, 0, none⟩) 2 2, .slice none 0 0, .slice none 0 0] : Array Value) = (rcRow (((some ⟨W.heap.size, 0, none⟩, 2), (none, 0), (none, 0)), ⟨0, 1, [x, y], [], []⟩)).toArray from rfl, List.getElem?_toArray]
   exact hj
 ·match i, hp with
  | 0, hp =>
   simp only [List.getElem?_cons_zero, Option.some.injEq] at hp hr
   subst hp hr
   have hb : Below (W.heap.size + 1) (W.alloc (.cells (x.cells ++ y.cells).toArray 64)) ((W.alloc (.cells (x.cells ++ y.cells).toArray 64)).alloc (.cells #[.int .u64 0, .int .u64 1, .slice (some ⟨W.heap.size, 0, none⟩) 2 2, .slice none 0 0, .slice none 0 0] 28)) := below_laid.mono (by simp)
   exact ⟨RdS.more (RdS.below' (pws_made W x y) hb (Nat.le_refl _)) (by omega), RdS.nil _ _ _ _, RdS.nil _ _ _ _⟩
attribute [local go_sem] run_eq_block
set_option maxHeartbeats 4000000 in
set_option maxRecDepth 100000 in
theorem lawake (w : World) : Calls Tryz.prog 10 #[] w fun r w' => r = .returned (.bool true) ∧ Below w.heap.size w w' := by
 have HSM : Hid (Calls Tryz.prog 13 #[.int .u8 0] w fun r w' => SmkP 0 w r w') := r50small 0 (by omega) w
 obtain ⟨hG, hw⟩ := aw_lay
 have hx := small_layX (kL 0)
 unfold SmkP at HSM
 generalize smallL (kL 0) = L at *
 have HX := Lib.hid hx
 have HG := Lib.hid hG
 have HW := Lib.hid hw
 clear hx hG hw
 go_enter Tryz.func10, Tryz.ntmps10
 go_wp2_with fail
 refine HSM.out.mono ?_
 rintro r w1 ⟨A, c, rfl, hgs, hb1⟩
 have HGS := Lib.hid hgs
 have HB1 := Lib.hid hb1
 unfold layAgg
 clear hgs hb1 HSM
 go_upto_region 2 with (fail)
 generalize hW2 : w1.alloc _ = w2
 have hl2 : LayB w2 w1.heap.size L A c := by rw [← hW2]; exact heap_alloc_new w1 _
 have hb2 : Below w1.heap.size w1 w2 := by rw [← hW2]; exact below_laid
 have HNW := Lib.hid (rnew (c := c) w2 HX.out (HGS.out.below hb2 (Nat.le_refl _)) hb2.size (by rw [HW.out]; omega) (by rw [HW.out]; omega) (by rw [HG.out]; omega))
 unfold layAgg at HNW
 obtain ⟨l0, l1, l2, l3⟩ := LayB.cells (L := L) hl2
 have HL2 := Lib.hid hl2
 have HB2 := Lib.hid hb2
 have HB02 := Lib.hid (HB1.out.trans (hb2.mono HB1.out.size))
 clear hW2 hl2 hb2
 go_wp2_with fail
 refine HNW.out.mono ?_
 rintro r w3 ⟨⟨A', c', rfl, hls⟩, hb3⟩
 have HB3 := Lib.hid (HB2.out.trans (hb3.mono HB2.out.size))
 have HB03 := Lib.hid (HB02.out.trans (hb3.mono HB02.out.size))
 have HL3 : Hid (LayB w3 w1.heap.size L A c) := HL2.out.below hb3 (Array.getElem?_eq_some_iff.1 HL2.out).1
 have HLS := Lib.hid (LvS.stv (c := c') hls)
 have hz3 : w1.heap.size < w3.heap.size := (Array.getElem?_eq_some_iff.1 HL3.out).1
 clear hls hb3 l0 l1 l2 l3 HNW HL2 HB2 HB02
 go_upto_region 5 with (fail)
 obtain ⟨w4, hw4, hs4, ha4, hb4, hbl4, hz4⟩ := three_laid w3 (.cells #[.slice A' L.G c', .slice none 0 0, .slice none 0 0] 41) (.cells #[.int .i64 1, .int .i64 2, .int .u64 5, .int .u8 0, .int .u8 0, .int .u8 0, .int .u8 0, .int .u8 0, .int .u8 0, .int .u8 0, .int .u8 0] 64) (.cells #[.int .i64 1, .int .i64 2, .int .u64 6, .int .u8 1, .int .u8 0, .int .u8 0, .int .u8 0, .int .u8 0, .int .u8 0, .int .u8 0, .int .u8 0] 64)
 rw [hw4]
 have HL4 : Hid (LayB w4 w1.heap.size L A c) := HL3.out.below hbl4 hz3
 have HB4 := Lib.hid (HB3.out.trans (hbl4.mono HB3.out.size))
 have HB04 := Lib.hid (HB03.out.trans (hbl4.mono HB03.out.size))
 have HS4 := Lib.hid hs4
 have HA4 := Lib.hid ha4
 have HBB4 := Lib.hid hb4
 have HST4 := Lib.hid (HLS.out.below hbl4 (Nat.le_refl _))
 have hz43 : w3.heap.size + 3 ≤ w4.heap.size := Nat.le_of_eq hz4.symm
 obtain ⟨l0, l1, l2, l3⟩ := HL4.out.cells
 have s0 : w4.cell? ⟨w3.heap.size, 0, none⟩ = some (.slice A' L.G c') := by rw [cell_of_row _ _ _ _ _ _ hs4]; rfl
 have s1 : w4.cell? ⟨w3.heap.size, 1, none⟩ = some (.slice none 0 0) := by rw [cell_of_row _ _ _ _ _ _ hs4]; rfl
 have s2 : w4.cell? ⟨w3.heap.size, 2, none⟩ = some (.slice none 0 0) := by rw [cell_of_row _ _ _ _ _ _ hs4]; rfl
 have a0 : w4.cell? ⟨w3.heap.size + 1, 0, none⟩ = some (.int .i64 1) := by rw [cell_of_row _ _ _ _ _ _ ha4]; rfl
 have a1 : w4.cell? ⟨w3.heap.size + 1, 1, none⟩ = some (.int .i64 2) := by rw [cell_of_row _ _ _ _ _ _ ha4]; rfl
 have a2 : w4.cell? ⟨w3.heap.size + 1, 2, none⟩ = some (.int .u64 5) := by rw [cell_of_row _ _ _ _ _ _ ha4]; rfl
 have a3 : w4.cell? ⟨w3.heap.size + 1, 3, none⟩ = some (.int .u8 0) := by rw [cell_of_row _ _ _ _ _ _ ha4]; rfl
 have a4 : w4.cell? ⟨w3.heap.size + 1, 4, none⟩ = some (.int .u8 0) := by rw [cell_of_row _ _ _ _ _ _ ha4]; rfl
 have a5 : w4.cell? ⟨w3.heap.size + 1, 5, none⟩ = some (.int .u8 0) := by rw [cell_of_row _ _ _ _ _ _ ha4]; rfl
 have a6 : w4.cell? ⟨w3.heap.size + 1, 6, none⟩ = some (.int .u8 0) := by rw [cell_of_row _ _ _ _ _ _ ha4]; rfl
 have a7 : w4.cell? ⟨w3.heap.size + 1, 7, none⟩ = some (.int .u8 0) := by rw [cell_of_row _ _ _ _ _ _ ha4]; rfl
 have a8 : w4.cell? ⟨w3.heap.size + 1, 8, none⟩ = some (.int .u8 0) := by rw [cell_of_row _ _ _ _ _ _ ha4]; rfl
 have a9 : w4.cell? ⟨w3.heap.size + 1, 9, none⟩ = some (.int .u8 0) := by rw [cell_of_row _ _ _ _ _ _ ha4]; rfl
 have a10 : w4.cell? ⟨w3.heap.size + 1, 10, none⟩ = some (.int .u8 0) := by rw [cell_of_row _ _ _ _ _ _ ha4]; rfl
 have b0 : w4.cell? ⟨w3.heap.size + 1 + 1, 0, none⟩ = some (.int .i64 1) := by rw [cell_of_row _ _ _ _ _ _ hb4]; rfl
 have b1 : w4.cell? ⟨w3.heap.size + 1 + 1, 1, none⟩ = some (.int .i64 2) := by rw [cell_of_row _ _ _ _ _ _ hb4]; rfl
 have b2 : w4.cell? ⟨w3.heap.size + 1 + 1, 2, none⟩ = some (.int .u64 6) := by rw [cell_of_row _ _ _ _ _ _ hb4]; rfl
 have b3 : w4.cell? ⟨w3.heap.size + 1 + 1, 3, none⟩ = some (.int .u8 1) := by rw [cell_of_row _ _ _ _ _ _ hb4]; rfl
 have b4 : w4.cell? ⟨w3.heap.size + 1 + 1, 4, none⟩ = some (.int .u8 0) := by rw [cell_of_row _ _ _ _ _ _ hb4]; rfl
 have b5 : w4.cell? ⟨w3.heap.size + 1 + 1, 5, none⟩ = some (.int .u8 0) := by rw [cell_of_row _ _ _ _ _ _ hb4]; rfl
 have b6 : w4.cell? ⟨w3.heap.size + 1 + 1, 6, none⟩ = some (.int .u8 0) := by rw [cell_of_row _ _ _ _ _ _ hb4]; rfl
 have b7 : w4.cell? ⟨w3.heap.size + 1 + 1, 7, none⟩ = some (.int .u8 0) := by rw [cell_of_row _ _ _ _ _ _ hb4]; rfl
 have b8 : w4.cell? ⟨w3.heap.size + 1 + 1, 8, none⟩ = some (.int .u8 0) := by rw [cell_of_row _ _ _ _ _ _ hb4]; rfl
 have b9 : w4.cell? ⟨w3.heap.size + 1 + 1, 9, none⟩ = some (.int .u8 0) := by rw [cell_of_row _ _ _ _ _ _ hb4]; rfl
 have b10 : w4.cell? ⟨w3.heap.size + 1 + 1, 10, none⟩ = some (.int .u8 0) := by rw [cell_of_row _ _ _ _ _ _ hb4]; rfl
 have HALL : Hid (Calls Tryz.prog 24 #[.agg #[.int .i64 L.disks, .slice A L.n c, .int .i64 L.tiles, .int .i64 L.spare], .agg #[.slice A' L.G c', .slice none 0 0, .slice none 0 0], .slice (some ⟨w4.heap.size + 1, 0, none⟩) 1 1] ((w4.alloc (.cells #[.int .i64 1, .int .i64 2, .int .u64 5, .int .u8 0, .int .u8 0, .int .u8 0, .int .u8 0, .int .u8 0, .int .u8 0, .int .u8 0, .int .u8 0, .int .i64 1, .int .i64 2, .int .u64 6, .int .u8 1, .int .u8 0, .int .u8 0, .int .u8 0, .int .u8 0, .int .u8 0, .int .u8 0, .int .u8 0] 64)).alloc (.cells #[.int .u64 0, .int .u64 1, .slice (some ⟨w4.heap.size, 0, none⟩) 2 2, .slice none 0 0, .slice none 0 0] 28)) fun e w' => AllP (fun _ => False) L (newS L) [awR] w' e ∧ Below w4.heap.size w4 w') := by
  have hb5 : Below w4.heap.size w4 ((w4.alloc (.cells #[.int .i64 1, .int .i64 2, .int .u64 5, .int .u8 0, .int .u8 0, .int .u8 0, .int .u8 0, .int .u8 0, .int .u8 0, .int .u8 0, .int .u8 0, .int .i64 1, .int .i64 2, .int .u64 6, .int .u8 1, .int .u8 0, .int .u8 0, .int .u8 0, .int .u8 0, .int .u8 0, .int .u8 0, .int .u8 0] 64)).alloc (.cells #[.int .u64 0, .int .u64 1, .slice (some ⟨w4.heap.size, 0, none⟩) 2 2, .slice none 0 0, .slice none 0 0] 28)) := below_laid.trans (below_laid.mono (by simp))
  have hrs := rcs_made w4 aw5 aw6
  have hG := HG.out
  have h := rAll (L := L) (c := c) (cr := 1) (rs := [awR]) _ HX.out (((HGS.out.below (HB4.out.trans (hb5.mono HB4.out.size)) (Nat.le_refl _)).more (C := w4.heap.size + 2) (by have := HB4.out.size; omega))) ((HST4.out.below hb5 (by omega)).more (C := w4.heap.size + 2) (by omega)) (fun m hm => by cases hm) hrs (fun r hr => by
   rw [List.mem_singleton] at hr
   subst hr
   exact ⟨by decide, by decide, by decide, by decide, fun x hx => by
    rcases List.mem_cons.1 hx with rfl | hx
    ·unfold Blk.ok; decide
    ·rw [List.mem_singleton] at hx
     subst hx
     unfold Blk.ok; decide⟩) (by simp) (by simp) (by show (zeroLs L L.G).length ≤ _; rw [zeroLs_len]; omega) (by simp [newS]) (by simp [newS])
  exact h.mono fun e w' hh => ⟨hh.1.less fun _ e => e.elim, hb5.trans (hh.2.mono (by simp; omega))⟩
 clear hs4 ha4 hb4 hbl4 hz4 hw4 HL3 HB3 HB03 HLS
 go_wp2_with fail
 refine HALL.out.mono ?_
 rintro e w5 ⟨⟨v', At, ts, ct, rfl, hsv, hpw, hs1, -⟩, hb5⟩
 obtain ⟨S1, y, hall, hS5, hSy, hyl, hy6⟩ := aw_all HG.out HW.out
 rw [hall] at hsv hs1
 simp only at hsv hs1
 replace hsv := hsv.now
 replace hpw := hpw.now
 simp only [hall]
 obtain rfl : ts = [aw6] := srt_unique (hs1 (by simp)) aw_srt
 obtain ⟨D1, d1, D2, d2, D3, d3, rfl, hsv⟩ := hsv.form
 have HSV := Lib.hid hsv
 have HPW := Lib.hid hpw
 have HY := Lib.hid (And.intro hS5 (And.intro hSy (And.intro hyl hy6)))
 have HL5 : Hid (LayB w5 w1.heap.size L A c) := HL4.out.below hb5 (by omega)
 have HB5 := Lib.hid (HB4.out.trans (hb5.mono HB4.out.size))
 have HB05 := Lib.hid (HB04.out.trans (hb5.mono HB04.out.size))
 have HST5 := Lib.hid (HST4.out.below hb5 (by omega))
 have HS5 := Lib.hid ((hb5.block _ (by omega)).trans HS4.out)
 have HA5 := Lib.hid ((hb5.block _ (by omega)).trans HA4.out)
 have HBB5 := Lib.hid ((hb5.block _ (by omega)).trans HBB4.out)
 have hz54 : w4.heap.size ≤ w5.heap.size := hb5.size
 clear hsv hpw hs1 hb5 hall hS5 hSy hyl hy6 HALL HL4 HB4 HB04 HST4 HS4 HA4 HBB4 s0 s1 s2 a0 a1 a2 a3 a4 a5 a6 a7 a8 a9 a10 b0 b1 b2 b3 b4 b5 b6 b7 b8 b9 b10 l0 l1 l2 l3
 go_upto_region 6 with (fail)
 have ht6 := heap_alloc_new w5 (.cells #[.slice D1 S1.ls.length d1, .slice D2 S1.ms.length d2, .slice D3 S1.nt.length d3] 41)
 have hb6 : Below w5.heap.size w5 (w5.alloc (.cells #[.slice D1 S1.ls.length d1, .slice D2 S1.ms.length d2, .slice D3 S1.nt.length d3] 41)) := below_laid
 have hz65 : w5.heap.size < (w5.alloc (.cells #[.slice D1 S1.ls.length d1, .slice D2 S1.ms.length d2, .slice D3 S1.nt.length d3] 41)).heap.size := by simp
 generalize w5.alloc _ = w6 at *
 have HT6 := Lib.hid ht6
 have HSV6 := Lib.hid (HSV.out.below hb6 (Nat.le_refl _))
 have HPW6 : Hid (PwS w6 w5.heap.size At [aw6]) := RdS.below' HPW.out hb6 (Nat.le_refl _)
 have HL6 : Hid (LayB w6 w1.heap.size L A c) := HL5.out.below hb6 (by omega)
 have HB6 := Lib.hid (HB5.out.trans (hb6.mono HB5.out.size))
 have HB06 := Lib.hid (HB05.out.trans (hb6.mono HB05.out.size))
 have HST6 := Lib.hid (HST5.out.below hb6 (by omega))
 have HS6 := Lib.hid ((hb6.block _ (by omega)).trans HS5.out)
 have HA6 := Lib.hid ((hb6.block _ (by omega)).trans HA5.out)
 have HBB6 := Lib.hid ((hb6.block _ (by omega)).trans HBB5.out)
 obtain ⟨l0, l1, l2, l3⟩ := HL6.out.cells
 have s0 : w6.cell? ⟨w3.heap.size, 0, none⟩ = some (.slice A' L.G c') := by rw [cell_of_row _ _ _ _ _ _ HS6.out]; rfl
 have s1 : w6.cell? ⟨w3.heap.size, 1, none⟩ = some (.slice none 0 0) := by rw [cell_of_row _ _ _ _ _ _ HS6.out]; rfl
 have s2 : w6.cell? ⟨w3.heap.size, 2, none⟩ = some (.slice none 0 0) := by rw [cell_of_row _ _ _ _ _ _ HS6.out]; rfl
 have a0 : w6.cell? ⟨w3.heap.size + 1, 0, none⟩ = some (.int .i64 1) := by rw [cell_of_row _ _ _ _ _ _ HA6.out]; rfl
 have a1 : w6.cell? ⟨w3.heap.size + 1, 1, none⟩ = some (.int .i64 2) := by rw [cell_of_row _ _ _ _ _ _ HA6.out]; rfl
 have a2 : w6.cell? ⟨w3.heap.size + 1, 2, none⟩ = some (.int .u64 5) := by rw [cell_of_row _ _ _ _ _ _ HA6.out]; rfl
 have a3 : w6.cell? ⟨w3.heap.size + 1, 3, none⟩ = some (.int .u8 0) := by rw [cell_of_row _ _ _ _ _ _ HA6.out]; rfl
 have a4 : w6.cell? ⟨w3.heap.size + 1, 4, none⟩ = some (.int .u8 0) := by rw [cell_of_row _ _ _ _ _ _ HA6.out]; rfl
 have a5 : w6.cell? ⟨w3.heap.size + 1, 5, none⟩ = some (.int .u8 0) := by rw [cell_of_row _ _ _ _ _ _ HA6.out]; rfl
 have a6 : w6.cell? ⟨w3.heap.size + 1, 6, none⟩ = some (.int .u8 0) := by rw [cell_of_row _ _ _ _ _ _ HA6.out]; rfl
 have a7 : w6.cell? ⟨w3.heap.size + 1, 7, none⟩ = some (.int .u8 0) := by rw [cell_of_row _ _ _ _ _ _ HA6.out]; rfl
 have a8 : w6.cell? ⟨w3.heap.size + 1, 8, none⟩ = some (.int .u8 0) := by rw [cell_of_row _ _ _ _ _ _ HA6.out]; rfl
 have a9 : w6.cell? ⟨w3.heap.size + 1, 9, none⟩ = some (.int .u8 0) := by rw [cell_of_row _ _ _ _ _ _ HA6.out]; rfl
 have a10 : w6.cell? ⟨w3.heap.size + 1, 10, none⟩ = some (.int .u8 0) := by rw [cell_of_row _ _ _ _ _ _ HA6.out]; rfl
 have b0 : w6.cell? ⟨w3.heap.size + 1 + 1, 0, none⟩ = some (.int .i64 1) := by rw [cell_of_row _ _ _ _ _ _ HBB6.out]; rfl
 have b1 : w6.cell? ⟨w3.heap.size + 1 + 1, 1, none⟩ = some (.int .i64 2) := by rw [cell_of_row _ _ _ _ _ _ HBB6.out]; rfl
 have b2 : w6.cell? ⟨w3.heap.size + 1 + 1, 2, none⟩ = some (.int .u64 6) := by rw [cell_of_row _ _ _ _ _ _ HBB6.out]; rfl
 have b3 : w6.cell? ⟨w3.heap.size + 1 + 1, 3, none⟩ = some (.int .u8 1) := by rw [cell_of_row _ _ _ _ _ _ HBB6.out]; rfl
 have b4 : w6.cell? ⟨w3.heap.size + 1 + 1, 4, none⟩ = some (.int .u8 0) := by rw [cell_of_row _ _ _ _ _ _ HBB6.out]; rfl
 have b5 : w6.cell? ⟨w3.heap.size + 1 + 1, 5, none⟩ = some (.int .u8 0) := by rw [cell_of_row _ _ _ _ _ _ HBB6.out]; rfl
 have b6 : w6.cell? ⟨w3.heap.size + 1 + 1, 6, none⟩ = some (.int .u8 0) := by rw [cell_of_row _ _ _ _ _ _ HBB6.out]; rfl
 have b7 : w6.cell? ⟨w3.heap.size + 1 + 1, 7, none⟩ = some (.int .u8 0) := by rw [cell_of_row _ _ _ _ _ _ HBB6.out]; rfl
 have b8 : w6.cell? ⟨w3.heap.size + 1 + 1, 8, none⟩ = some (.int .u8 0) := by rw [cell_of_row _ _ _ _ _ _ HBB6.out]; rfl
 have b9 : w6.cell? ⟨w3.heap.size + 1 + 1, 9, none⟩ = some (.int .u8 0) := by rw [cell_of_row _ _ _ _ _ _ HBB6.out]; rfl
 have b10 : w6.cell? ⟨w3.heap.size + 1 + 1, 10, none⟩ = some (.int .u8 0) := by rw [cell_of_row _ _ _ _ _ _ HBB6.out]; rfl
 have HAPP : Hid (Calls Tryz.prog 19 #[.agg #[.int .i64 L.disks, .slice A L.n c, .int .i64 L.tiles, .int .i64 L.spare], .agg #[.slice A' L.G c', .slice none 0 0, .slice none 0 0], .agg #[.int .u64 0, .int .u64 1, .slice (some ⟨w6.heap.size, 0, none⟩) 2 2, .slice none 0 0, .slice none 0 0]] (w6.alloc (.cells #[.int .i64 1, .int .i64 2, .int .u64 6, .int .u8 1, .int .u8 0, .int .u8 0, .int .u8 0, .int .u8 0, .int .u8 0, .int .u8 0, .int .u8 0, .int .i64 1, .int .i64 2, .int .u64 5, .int .u8 0, .int .u8 0, .int .u8 0, .int .u8 0, .int .u8 0, .int .u8 0, .int .u8 0, .int .u8 0] 64)) fun e w' => (∃ q1 q2 q3 n1 n2 n3 k1 k2 k3, e = .returned (.tuple #[.agg #[.slice q1 n1 k1, .slice q2 n2 k2, .slice q3 n3 k3], .int .i64 8])) ∧ Below w6.heap.size w6 w') := by
  have hb7 : Below w6.heap.size w6 (w6.alloc (.cells #[.int .i64 1, .int .i64 2, .int .u64 6, .int .u8 1, .int .u8 0, .int .u8 0, .int .u8 0, .int .u8 0, .int .u8 0, .int .u8 0, .int .u8 0, .int .i64 1, .int .i64 2, .int .u64 5, .int .u8 0, .int .u8 0, .int .u8 0, .int .u8 0, .int .u8 0, .int .u8 0, .int .u8 0, .int .u8 0] 64)) := below_laid
  have hr := rcd_made w6 aw6 aw5
  have hG := HG.out
  have hbs := HB6.out.size
  have h := rApply (L := L) (c := c) (r := awQ) _ HX.out (((HGS.out.below (HB6.out.trans (hb7.mono HB6.out.size)) (Nat.le_refl _)).more (C := w6.heap.size + 1) (by omega))) ((HST6.out.below hb7 (by omega)).more (C := w6.heap.size + 1) (by omega)) hr (by simp) (fun m hm => by cases hm)
   ⟨by decide, by decide, by decide, by decide, fun x hx => by
    rcases List.mem_cons.1 hx with rfl | hx
    ·unfold Blk.ok; decide
    ·rw [List.mem_singleton] at hx
     subst hx
     unfold Blk.ok; decide⟩ (by show (zeroLs L L.G).length ≤ _; rw [zeroLs_len]; omega) (by simp [newS]) (by simp [newS])
  rw [aw_apply HG.out HW.out] at h
  refine h.mono fun e w' hh => ⟨?_, hb7.trans (hh.2.mono (by simp))⟩
  obtain ⟨⟨v, rfl, hv⟩, -⟩ := hh
  obtain ⟨q1, k1, q2, k2, q3, k3, rfl, -⟩ := hv.now.form
  exact ⟨_, _, _, _, _, _, _, _, _, rfl⟩
 clear ht6 hb6 HSV HPW HL5 HB5 HB05 HST5 HS5 HA5 HBB5
 go_wp2_with fail
 refine HAPP.out.mono ?_
 rintro e w7 ⟨⟨q1, q2, q3, n1, n2, n3, k1, k2, k3, rfl⟩, hb7⟩
 have hz76 : w6.heap.size ≤ w7.heap.size := hb7.size
 go_upto_region 7 with (fail)
 have hb78 : Below w7.heap.size w7 (w7.alloc (.cells #[.slice q1 n1 k1, .slice q2 n2 k2, .slice q3 n3 k3] 41)) := below_laid
 generalize w7.alloc _ = w8 at *
 have hb68 : Below w6.heap.size w6 w8 := hb7.trans (hb78.mono hb7.size)
 clear l0 l1 l2 l3 s0 s1 s2 a0 a1 a2 a3 a4 a5 a6 a7 a8 a9 a10 b0 b1 b2 b3 b4 b5 b6 b7 b8 b9 b10 HAPP HS6 HA6 HST6 HL6
 have HB8 := Lib.hid (HB06.out.trans (hb68.mono HB06.out.size))
 have hbb8 := (hb68.block _ (by omega)).trans HBB6.out
 have ht8 := (hb68.block _ (by omega)).trans HT6.out
 have b0 : w8.cell? ⟨w3.heap.size + 1 + 1, 0, none⟩ = some (.int .i64 1) := by rw [cell_of_row _ _ _ _ _ _ hbb8]; rfl
 have b1 : w8.cell? ⟨w3.heap.size + 1 + 1, 1, none⟩ = some (.int .i64 2) := by rw [cell_of_row _ _ _ _ _ _ hbb8]; rfl
 have b2 : w8.cell? ⟨w3.heap.size + 1 + 1, 2, none⟩ = some (.int .u64 6) := by rw [cell_of_row _ _ _ _ _ _ hbb8]; rfl
 have b3 : w8.cell? ⟨w3.heap.size + 1 + 1, 3, none⟩ = some (.int .u8 1) := by rw [cell_of_row _ _ _ _ _ _ hbb8]; rfl
 have b4 : w8.cell? ⟨w3.heap.size + 1 + 1, 4, none⟩ = some (.int .u8 0) := by rw [cell_of_row _ _ _ _ _ _ hbb8]; rfl
 have b5 : w8.cell? ⟨w3.heap.size + 1 + 1, 5, none⟩ = some (.int .u8 0) := by rw [cell_of_row _ _ _ _ _ _ hbb8]; rfl
 have b6 : w8.cell? ⟨w3.heap.size + 1 + 1, 6, none⟩ = some (.int .u8 0) := by rw [cell_of_row _ _ _ _ _ _ hbb8]; rfl
 have b7 : w8.cell? ⟨w3.heap.size + 1 + 1, 7, none⟩ = some (.int .u8 0) := by rw [cell_of_row _ _ _ _ _ _ hbb8]; rfl
 have b8 : w8.cell? ⟨w3.heap.size + 1 + 1, 8, none⟩ = some (.int .u8 0) := by rw [cell_of_row _ _ _ _ _ _ hbb8]; rfl
 have b9 : w8.cell? ⟨w3.heap.size + 1 + 1, 9, none⟩ = some (.int .u8 0) := by rw [cell_of_row _ _ _ _ _ _ hbb8]; rfl
 have b10 : w8.cell? ⟨w3.heap.size + 1 + 1, 10, none⟩ = some (.int .u8 0) := by rw [cell_of_row _ _ _ _ _ _ hbb8]; rfl
 obtain ⟨bw, ow, rfl, hbw, hcw⟩ := PwS.at_ (m := aw6) (k := 0) HPW6.out rfl
 have x0 : w8.cell? ⟨bw, ow, none⟩ = some (.int .i64 1) := by have h := (hb68.cell (p := ⟨bw, ow + 0 * 11 + 0, none⟩) (by show bw < _; omega)).trans (hcw 0 _ rfl); simpa [aw6] using h
 have x1 : w8.cell? ⟨bw, ow + 1, none⟩ = some (.int .i64 2) := by have h := (hb68.cell (p := ⟨bw, ow + 0 * 11 + 1, none⟩) (by show bw < _; omega)).trans (hcw 1 _ rfl); simpa [aw6] using h
 have x2 : w8.cell? ⟨bw, ow + 2, none⟩ = some (.int .u64 6) := by have h := (hb68.cell (p := ⟨bw, ow + 0 * 11 + 2, none⟩) (by show bw < _; omega)).trans (hcw 2 _ rfl); simpa [aw6] using h
 have x3 : w8.cell? ⟨bw, ow + 3, none⟩ = some (.int .u8 1) := by have h := (hb68.cell (p := ⟨bw, ow + 0 * 11 + 3, none⟩) (by show bw < _; omega)).trans (hcw 3 _ rfl); simpa [aw6] using h
 have x4 : w8.cell? ⟨bw, ow + 4, none⟩ = some (.int .u8 0) := by have h := (hb68.cell (p := ⟨bw, ow + 0 * 11 + 4, none⟩) (by show bw < _; omega)).trans (hcw 4 _ rfl); simpa [aw6] using h
 have x5 : w8.cell? ⟨bw, ow + 5, none⟩ = some (.int .u8 0) := by have h := (hb68.cell (p := ⟨bw, ow + 0 * 11 + 5, none⟩) (by show bw < _; omega)).trans (hcw 5 _ rfl); simpa [aw6] using h
 have x6 : w8.cell? ⟨bw, ow + 6, none⟩ = some (.int .u8 0) := by have h := (hb68.cell (p := ⟨bw, ow + 0 * 11 + 6, none⟩) (by show bw < _; omega)).trans (hcw 6 _ rfl); simpa [aw6] using h
 have x7 : w8.cell? ⟨bw, ow + 7, none⟩ = some (.int .u8 0) := by have h := (hb68.cell (p := ⟨bw, ow + 0 * 11 + 7, none⟩) (by show bw < _; omega)).trans (hcw 7 _ rfl); simpa [aw6] using h
 have x8 : w8.cell? ⟨bw, ow + 8, none⟩ = some (.int .u8 0) := by have h := (hb68.cell (p := ⟨bw, ow + 0 * 11 + 8, none⟩) (by show bw < _; omega)).trans (hcw 8 _ rfl); simpa [aw6] using h
 have x9 : w8.cell? ⟨bw, ow + 9, none⟩ = some (.int .u8 0) := by have h := (hb68.cell (p := ⟨bw, ow + 0 * 11 + 9, none⟩) (by show bw < _; omega)).trans (hcw 9 _ rfl); simpa [aw6] using h
 have x10 : w8.cell? ⟨bw, ow + 10, none⟩ = some (.int .u8 0) := by have h := (hb68.cell (p := ⟨bw, ow + 0 * 11 + 10, none⟩) (by show bw < _; omega)).trans (hcw 10 _ rfl); simpa [aw6] using h
 obtain ⟨h5, hy1, hyl, hy6⟩ := HY.out
 have t0 : w8.cell? ⟨w5.heap.size, 0, none⟩ = some (.slice D1 5 d1) := by rw [cell_of_row _ _ _ _ _ _ ht8, ← h5]; rfl
 obtain ⟨G1, g1, G2, g2, G3, g3, he, hlv, -, -⟩ := HSV6.out
 obtain rfl : D1 = G1 := by
  injection he with he
  have := congrArg (fun x => x[0]?) he
  simp at this
  exact this.1
 obtain ⟨bl, ol, Av, cv, As, cs, rfl, hbl, r0, -, hu, -, -⟩ := LvS.row hlv hy1
 rw [hyl] at r0
 obtain ⟨bu, ou, rfl, hbu, hcu⟩ := U64S.at_ hu hy6
 have y0 : w8.cell? ⟨bl, ol + 2, none⟩ = some (.slice (some ⟨bu, ou, none⟩) 4 cv) := (hb68.cell (p := ⟨bl, ol + 1 * 2, none⟩) (by show bl < _; omega)).trans r0
 have y1 : w8.cell? ⟨bu, ou + 2, none⟩ = some (.int .u64 (6 : Nat)) := (hb68.cell (p := ⟨bu, ou + 2, none⟩) (by show bu < _; omega)).trans hcu
 clear hb7 hb78 hb68 hbb8 ht8 hcw hlv r0 hu hcu he HT6 HSV6 HPW6 HBB6 h5 hy1 hyl hy6
 go_quiet (fail)
 clear b0 x0 b1 x1 b2 x2 b3 x3 b4 x4 b5 x5 b6 x6 b7 x7 b8 x8 b9 x9 b10 x10 t0 y0 y1
 go_wp2
 go_ret
 exact ⟨rfl, below_drewN HB8.out _⟩
end Go.Proofs.YtjgjofepedcfnaaGreat
