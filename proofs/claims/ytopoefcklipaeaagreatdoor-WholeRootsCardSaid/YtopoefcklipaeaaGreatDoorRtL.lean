/- Walk of tegulatop.WholeRoots. -/
import Derived.Test.YtopoefcklipaeaaGreatDoorGWf
import Derived.Test.YtopoefcklipaeaaGreatDoorGWc
import Derived.Test.YtopoefcklipaeaaGreatDoorGWe
import Derived.Test.YtopoefcklipaeaaGreatDoorGWg
import Derived.Test.YtopoefcklipaeaaGreatDoorGRr
namespace Go.Proofs.YtopoefcklipaeaaGreatDoor
open Go.RowKit
set_option maxHeartbeats 16000000 in
set_option maxRecDepth 100000 in
theorem lwholeRoots (n0 : Nat) (hn0 : n0 < 256) (ra rb : List Rcd) (Ar Br : Option Addr) (cr dr : Nat) (w : World)
  (HAW : Calls Tryz.prog 4 #[] w fun e w' => e = .returned (.bool true) ∧ Below w.heap.size w w')
  (hra : RcsS w w.heap.size Ar ra) (hia : ∀ r ∈ ra, RcdOk r) (hrb : RcsS w w.heap.size Br rb) (hib : ∀ r ∈ rb, RcdOk r) :
  Calls Tryz.prog 3 #[.int .u8 (n0 : Int), .slice Ar ra.length cr, .slice Br rb.length dr] w fun r w' => r = .returned (.bool true) ∧ Below w.heap.size w w' := by
 have HX := Lib.hid (small_layX (kL n0))
 have HSM : Hid (∀ W, Calls Tryz.prog 5 #[.int .u8 (n0 : Int)] W fun r w' => SmkP n0 W r w') := fun W => r50small n0 hn0 W
 unfold SmkP at HSM
 generalize smallL (kL n0) = L at *
 have HAW := Lib.hid HAW
 have HRA := Lib.hid hra
 have HRB0 := Lib.hid hrb
 have HIA := Lib.hid hia
 have HIB := Lib.hid hib
 clear hra hrb hia hib
 go_enter Tryz.func3, Tryz.ntmps3
 go_wp2_with fail
 refine HAW.out.mono ?_
 rintro r w1 ⟨rfl, hb1⟩
 have HB1 := Lib.hid hb1
 clear hb1 HAW
 by_cases ha6 : ra.length ≤ 6
 case neg =>
  have hI : decide ((ra.length : Int) > 6) = true := by rw [decide_eq_true_iff]; omega
  have hI2 : (6 : Int) < (ra.length : Int) := by omega
  go_wp2
  go_ret
  exact ⟨rfl, HB1.out⟩
 case pos =>
 have haI : ¬ (6 : Int) < (ra.length : Int) := by omega
 by_cases hb6 : rb.length ≤ 6
 case neg =>
  have hI2 : (6 : Int) < (rb.length : Int) := by omega
  go_wp2
  go_ret
  exact ⟨rfl, HB1.out⟩
 case pos =>
 have hbI : ¬ (6 : Int) < (rb.length : Int) := by omega
 have hlay := HX.out.ok
 have hw16 := hlay.w
 have hG := hlay.G
 have hG1 : 1 ≤ L.G := by unfold LayD.G; exact Nat.mul_pos HX.out.ok.tiles.1 HX.out.ok.n.1
 go_wp2_with fail
 refine (HSM.out w1).mono ?_
 rintro r w4 ⟨A, c, rfl, hgs, hb4⟩
 unfold layAgg
 have HB4 := Lib.hid (HB1.out.trans (hb4.mono HB1.out.size))
 have HGS := Lib.hid hgs
 clear hgs hb4 HSM HB1
 go_upto_region 6 with (fail)
 generalize hW5 : w4.alloc _ = w5
 have HB5 : Hid (Below w.heap.size w w5) := by rw [← hW5]; exact HB4.out.trans (below_laid.mono HB4.out.size)
 have HLY5 : Hid (LayB w5 w4.heap.size L A c) := by rw [← hW5]; exact heap_alloc_new w4 _
 have HGX5 : Hid (GsV w5 w4.heap.size A L.gs) := by rw [← hW5]; exact HGS.out.below below_laid (Nat.le_refl _)
 have HXL : Hid (w.heap.size ≤ w4.heap.size) := HB4.out.size
 clear hW5 HGS HB4
 generalize w4.heap.size = X at *
 have HNW := Lib.hid (rnew (c := c) w5 HX.out (HGX5.out.more (Nat.le_of_lt HLY5.out.lt2)) (Nat.le_refl _) (by omega) (by omega) (by omega))
 unfold layAgg at HNW
 obtain ⟨l0, l1, l2, l3⟩ := HLY5.out.cells
 go_wp2_with fail
 refine HNW.out.mono ?_
 rintro r w6 ⟨⟨A', c', rfl, hls⟩, hb6'⟩
 have HB6 := Lib.hid (HB5.out.trans (hb6'.mono HB5.out.size))
 have HLY6 : Hid (LayB w6 X L A c) := HLY5.out.below hb6' HLY5.out.lt2
 have HGX6 : Hid (GsV w6 X A L.gs) := HGX5.out.below hb6' (Nat.le_of_lt HLY5.out.lt2)
 have HLS := Lib.hid (LvS.stv (c := c') hls)
 have HXY : Hid (X < w6.heap.size) := HLY6.out.lt2
 clear hls hb6' HNW HB5 HLY5 HGX5 l0 l1 l2 l3
 go_upto_region 7 with (fail)
 generalize hW7 : w6.alloc _ = w7
 have HY7 : Hid (w7.heap[w6.heap.size]? = some (.cells #[.slice A' L.G c', .slice none 0 0, .slice none 0 0] 34 (0, 0))) := by rw [← hW7]; exact heap_alloc_new w6 _
 have HB7 : Hid (Below w.heap.size w w7) := by rw [← hW7]; exact HB6.out.trans (below_laid.mono HB6.out.size)
 have HLY7 : Hid (LayB w7 X L A c) := by rw [← hW7]; exact HLY6.out.below below_laid HLY6.out.lt2
 have HGX7 : Hid (GsV w7 X A L.gs) := by rw [← hW7]; exact HGX6.out.below below_laid (Nat.le_of_lt HXY.out)
 have HST7 : Hid (StV w7 w6.heap.size (.agg #[.slice A' L.G c', .slice none 0 0, .slice none 0 0]) (newS L)) := by rw [← hW7]; exact HLS.out.below below_laid (Nat.le_refl _)
 clear hW7 HLS HB6 HLY6 HGX6
 generalize w6.heap.size = Y1 at *
 have HYL : Hid (Y1 < w7.heap.size) := (Array.getElem?_eq_some_iff.1 HY7.out).1
 have y0 : w7.cell? ⟨Y1, 0, none⟩ = some (.slice A' L.G c') := by rw [cell_of_row _ _ _ _ _ _ HY7.out]; rfl
 have y1 : w7.cell? ⟨Y1, 1, none⟩ = some (.slice none 0 0) := by rw [cell_of_row _ _ _ _ _ _ HY7.out]; rfl
 have y2 : w7.cell? ⟨Y1, 2, none⟩ = some (.slice none 0 0) := by rw [cell_of_row _ _ _ _ _ _ HY7.out]; rfl
 go_upto_region 10 with (fail)
 clear y0 y1 y2
 generalize hW8 : w7.alloc _ = w8
 have HI : Hid (TwI w8 X Y1 w7.heap.size L A c (.slice A' L.G c') (.slice none 0 0) (.slice none 0 0) (.slice A' L.G c') (.slice none 0 0) (.slice none 0 0) (newS L) (newS L) w8) := by
  have hbl : Below w7.heap.size w7 w8 := by rw [← hW8]; exact below_laid
  have hy := (hbl.block _ HYL.out).trans HY7.out
  have hy2 : w8.heap[w7.heap.size]? = some (.cells #[.slice A' L.G c', .slice none 0 0, .slice none 0 0] 34 (0, 0)) := by rw [← hW8]; exact heap_alloc_new w7 _
  have hl := (Array.getElem?_eq_some_iff.1 hy2).1
  have hst : StE (fun k => k = Y1 ∨ k = w7.heap.size) w8 (.agg #[.slice A' L.G c', .slice none 0 0, .slice none 0 0]) (newS L) := (HST7.out.below hbl (Nat.le_of_lt HYL.out)).steF (Nat.le_of_lt (Nat.lt_trans HYL.out hl)) (fun k _ e => by have := HYL.out; rcases e with e | e <;> omega)
  exact ⟨Agr.refl _ _, HLY7.out.below hbl HLY7.out.lt2, HGX7.out.below hbl (Nat.le_of_lt HLY7.out.lt2), HXY.out, HYL.out, hl, hy, hy2, hst, hst⟩
 have HB8 : Hid (Below w.heap.size w w8) := by rw [← hW8]; exact HB7.out.trans (below_laid.mono HB7.out.size)
 have HYW : Hid (w.heap.size ≤ Y1) := by have := HXL.out; have := HXY.out; rw [Hid]; omega
 clear hW8 HY7 HB7 HLY7 HGX7 HST7 HYL
 generalize w7.heap.size = Y2 at *
 have HRA8 : Hid (RcsS w8 w.heap.size Ar ra) := HRA.out.below HB8.out (Nat.le_refl _)
 have HRB8 : Hid (RcsS w8 w.heap.size Br rb) := HRB0.out.below HB8.out (Nat.le_refl _)
 clear HRA HRB0
 go_wp2
 go_loopw [56] (fun s56 wr => ∃ k : Nat, k ≤ ra.length ∧ s56 = .int .i64 k ∧ ∃ a b d a' b' d' S T, Few L k S ∧ Few L k T ∧ TwI w8 X Y1 Y2 L A c a b d a' b' d' S T wr) (fun s56 _ => ra.length - (intOf s56).toNat)
 case atStart => exact ⟨0, by omega, rfl, _, _, _, _, _, _, _, _, Few.new L, Few.new L, HI.out⟩
 case round =>
  obtain ⟨k, hk, rfl, a, b, d, a', b', d', S, T, hfs, hft, hI⟩ := hrel
  obtain ⟨A6, c6, A7, c7, A8, c8, hsc, -⟩ := hI.st.now.form
  obtain ⟨rfl, rfl, rfl⟩ : a = .slice A6 S.ls.length c6 ∧ b = .slice A7 S.ms.length c7 ∧ d = .slice A8 S.nt.length c8 := by
   injection hsc with hsc
   have g0 := congrArg (fun x => x[0]?) hsc
   have g1 := congrArg (fun x => x[1]?) hsc
   have g2 := congrArg (fun x => x[2]?) hsc
   simp at g0 g1 g2
   exact ⟨g0, g1, g2⟩
  clear hsc
  obtain ⟨B6, e6, B7, e7, B8, e8, hsc, -⟩ := hI.st'.now.form
  obtain ⟨rfl, rfl, rfl⟩ : a' = .slice B6 T.ls.length e6 ∧ b' = .slice B7 T.ms.length e7 ∧ d' = .slice B8 T.nt.length e8 := by
   injection hsc with hsc
   have g0 := congrArg (fun x => x[0]?) hsc
   have g1 := congrArg (fun x => x[1]?) hsc
   have g2 := congrArg (fun x => x[2]?) hsc
   simp at g0 g1 g2
   exact ⟨g0, g1, g2⟩
  clear hsc
  have HI2 := Lib.hid hI
  have HFS := Lib.hid hfs
  have HFT := Lib.hid hft
  clear hI hfs hft HI
  by_cases hkn : k < ra.length
  case pos =>
   have hkI : (k : Int) < (ra.length : Int) := by omega
   have hk0 : ¬ (k : Int) < 0 := by omega
   obtain ⟨r, hrk⟩ : ∃ r, ra[k]? = some r := ⟨_, List.getElem?_eq_getElem hkn⟩
   have HRO := Lib.hid (HIA.out r (List.mem_of_getElem? hrk))
   obtain ⟨b, off, Aw, cw, Am, cm, An, cn, rfl, hbB0, hcl⟩ := RcsS.at2 (HRA8.out.below HI2.out.bel HYW.out) hrk (Nat.le_trans HYW.out (Nat.le_of_lt HI2.out.lt.2.1))
   have HCL := Lib.hid hcl
   obtain ⟨x0, x1, x2, x3, x4, -⟩ := hcl wr (Below.refl _ _)
   obtain ⟨gen, seq, ws, ms, nt⟩ := r
   simp only at x0 x1 x2 x3 x4 HCL HRO
   obtain ⟨Sn, er, hap⟩ : ∃ Sn er, applyS L S ⟨gen, seq, ws, ms, nt⟩ = (Sn, er) := ⟨_, _, rfl⟩
   have HNX : Hid (er = 0 → Few L (k + 1) Sn) := fun h => by
    have := HFS.out.next (r := ⟨gen, seq, ws, ms, nt⟩) (by rw [hap]; exact h)
    rw [hap] at this
    exact this
   have HAPL := Lib.hid (fun (rv : Value) (W : World) (hW : Below wr.heap.size wr W) (hr : RcdV W W.heap.size rv ⟨gen, seq, ws, ms, nt⟩) => HI2.out.apply HX.out (n := k) HFS.out (by omega) HRO.out hW hr)
   rw [hap] at HAPL
   simp only at HAPL
   have HWS : Hid (w.heap.size ≤ wr.heap.size) := Nat.le_trans HYW.out (Nat.le_of_lt HI2.out.lt.2.1)
   clear hcl hap hrk
   go_upto_region 13 with (fail)
   have hbz : Below wr.heap.size wr (wr.alloc (.cells #[.int .u64 gen, .int .u64 seq, .slice Aw ws.length cw, .slice Am ms.length cm, .slice An nt.length cn] 42)) := below_laid
   have hz := heap_alloc_new wr (.cells #[.int .u64 gen, .int .u64 seq, .slice Aw ws.length cw, .slice Am ms.length cm, .slice An nt.length cn] 42)
   generalize wr.alloc _ = wz at *
   have HBZ := Lib.hid hbz
   have HZ := Lib.hid hz
   have HI3 := Lib.hid (HI2.out.call hbz)
   have HRZ : Hid (RcdV wz wz.heap.size (.agg #[.int .u64 gen, .int .u64 seq, .slice Aw ws.length cw, .slice Am ms.length cm, .slice An nt.length cn]) ⟨gen, seq, ws, ms, nt⟩) := (HCL.out wz hbz).2.2.2.2.2.1.more (Nat.le_trans HWS.out hbz.size)
   have HAP := Lib.hid (HAPL.out _ wz hbz HRZ.out)
   clear x0 x1 x2 x3 x4 HCL HAPL hbz
   generalize wr.heap.size = Z at *
   have z0 : wz.cell? ⟨Z, 0, none⟩ = some (.int .u64 gen) := by rw [cell_of_row _ _ _ _ _ _ hz]; rfl
   have z1 : wz.cell? ⟨Z, 1, none⟩ = some (.int .u64 seq) := by rw [cell_of_row _ _ _ _ _ _ hz]; rfl
   have z2 : wz.cell? ⟨Z, 2, none⟩ = some (.slice Aw ws.length cw) := by rw [cell_of_row _ _ _ _ _ _ hz]; rfl
   have z3 : wz.cell? ⟨Z, 3, none⟩ = some (.slice Am ms.length cm) := by rw [cell_of_row _ _ _ _ _ _ hz]; rfl
   have z4 : wz.cell? ⟨Z, 4, none⟩ = some (.slice An nt.length cn) := by rw [cell_of_row _ _ _ _ _ _ hz]; rfl
   obtain ⟨l0, l1, l2, l3⟩ := LayB.cells (L := L) HI3.out.layr
   obtain ⟨y0, y1, y2⟩ := HI3.out.cells
   clear hz
   go_wp2_with fail
   refine HAP.out.mono ?_
   rintro e w2 ⟨⟨D1, d1, D2, d2, D3, d3, rfl, hsB⟩, hb2⟩
   have HI4 := Lib.hid (HI3.out.call hb2)
   have HZ4 : Hid (w2.heap[Z]? = some (.cells #[.int .u64 gen, .int .u64 seq, .slice Aw ws.length cw, .slice Am ms.length cm, .slice An nt.length cn] 42 (0, 0))) := (hb2.block _ (Array.getElem?_eq_some_iff.1 HZ.out).1).trans HZ.out
   have HR4 : Hid (RcdV w2 w2.heap.size (.agg #[.int .u64 gen, .int .u64 seq, .slice Aw ws.length cw, .slice Am ms.length cm, .slice An nt.length cn]) ⟨gen, seq, ws, ms, nt⟩) := (HRZ.out.below hb2 (Nat.le_refl _)).more hb2.size
   have HS4 := Lib.hid hsB
   clear hsB hb2 z0 z1 z2 z3 z4 l0 l1 l2 l3 y0 y1 y2 HAP HI3 HRZ HZ
   go_upto_region 14 with (fail)
   have hb3 : Below w2.heap.size w2 (w2.alloc (.cells #[.slice D1 Sn.ls.length d1, .slice D2 Sn.ms.length d2, .slice D3 Sn.nt.length d3] 34)) := below_laid
   have hd3 := heap_alloc_new w2 (.cells #[.slice D1 Sn.ls.length d1, .slice D2 Sn.ms.length d2, .slice D3 Sn.nt.length d3] 34)
   generalize w2.alloc _ = w3 at *
   have HI5 := Lib.hid (HI4.out.call hb3)
   have HZ5 : Hid (w3.heap[Z]? = some (.cells #[.int .u64 gen, .int .u64 seq, .slice Aw ws.length cw, .slice Am ms.length cm, .slice An nt.length cn] 42 (0, 0))) := (hb3.block _ (Array.getElem?_eq_some_iff.1 HZ4.out).1).trans HZ4.out
   have HSH := Lib.hid (r27short w3 (HR4.out.below hb3 (Nat.le_refl _)))
   have HS5 := Lib.hid (HS4.out.call hb3)
   have HD5 := Lib.hid hd3
   have HDL : Hid (Y1 < w2.heap.size ∧ Y2 < w2.heap.size) := ⟨HI4.out.lt.2.1, HI4.out.lt.2.2⟩
   have z0 : w3.cell? ⟨Z, 0, none⟩ = some (.int .u64 gen) := by rw [cell_of_row _ _ _ _ _ _ HZ5.out]; rfl
   have z1 : w3.cell? ⟨Z, 1, none⟩ = some (.int .u64 seq) := by rw [cell_of_row _ _ _ _ _ _ HZ5.out]; rfl
   have z2 : w3.cell? ⟨Z, 2, none⟩ = some (.slice Aw ws.length cw) := by rw [cell_of_row _ _ _ _ _ _ HZ5.out]; rfl
   have z3 : w3.cell? ⟨Z, 3, none⟩ = some (.slice Am ms.length cm) := by rw [cell_of_row _ _ _ _ _ _ HZ5.out]; rfl
   have z4 : w3.cell? ⟨Z, 4, none⟩ = some (.slice An nt.length cn) := by rw [cell_of_row _ _ _ _ _ _ HZ5.out]; rfl
   generalize w2.heap.size = D at *
   obtain ⟨sb, hsb⟩ : ∃ q, shortB ⟨gen, seq, ws, ms, nt⟩ = q := ⟨_, rfl⟩
   rw [hsb] at HSH
   clear hb3 hd3 HI4 HZ4 HR4 HS4 hsb
   go_wp2_with fail
   refine HSH.out.mono ?_
   rintro e w4 ⟨rfl, hb4⟩
   have HI6 := Lib.hid (HI5.out.call hb4)
   have HS6 := Lib.hid (HS5.out.call hb4)
   have HD6 : Hid (w4.heap[D]? = some (.cells #[.slice D1 Sn.ls.length d1, .slice D2 Sn.ms.length d2, .slice D3 Sn.nt.length d3] 34 (0, 0))) := (hb4.block _ (Array.getElem?_eq_some_iff.1 HD5.out).1).trans HD5.out
   clear hb4 z0 z1 z2 z3 z4 HI5 HS5 HD5 HZ5 HSH
   cases sb with
   | false =>
    go_wp2
    go_roundw
    case rel => exact ⟨k + 1, by omega, by go_num, _, _, _, _, _, _, _, _, HFS.out.more (by omega), HFT.out.more (by omega), HI6.out⟩
    case measure => simp [intOf] <;> omega
   | true =>
    by_cases her : er = 0
    ·subst her
     have HN6 := Lib.hid (HNX.out rfl)
     have k0 : w4.cell? ⟨D, 0, none⟩ = some (.slice D1 Sn.ls.length d1) := by rw [cell_of_row _ _ _ _ _ _ HD6.out]; rfl
     have k1 : w4.cell? ⟨D, 1, none⟩ = some (.slice D2 Sn.ms.length d2) := by rw [cell_of_row _ _ _ _ _ _ HD6.out]; rfl
     have k2 : w4.cell? ⟨D, 2, none⟩ = some (.slice D3 Sn.nt.length d3) := by rw [cell_of_row _ _ _ _ _ _ HD6.out]; rfl
     obtain ⟨s0, s1, s2⟩ := HI6.out.cells
     obtain ⟨t0, t1, t2⟩ := HI6.out.cells'
     have f0 := HI6.out.frozen 0
     have f1 := HI6.out.frozen 1
     have f2 := HI6.out.frozen 2
     obtain ⟨f0, g0⟩ := f0
     obtain ⟨f1, g1⟩ := f1
     obtain ⟨f2, g2⟩ := f2
     have hne : ¬ Y1 = Y2 := Nat.ne_of_lt HI6.out.yy
     have hne2 : ¬ Y2 = Y1 := fun e => hne e.symm
     have hnd1 : ¬ Y1 = D := Nat.ne_of_lt HDL.out.1
     have hnd2 : ¬ D = Y1 := fun e => hnd1 e.symm
     have hnd3 : ¬ Y2 = D := Nat.ne_of_lt HDL.out.2
     have hnd4 : ¬ D = Y2 := fun e => hnd3 e.symm
     have HNE := Lib.hid (HI6.out.both HS6.out)
     clear HNX
     have HNW := Lib.hid (HNE.out.call (Below.refl _ _).drew)
     clear HNE
     go_upto_region 15 with (fail)
     go_region
     all_goals
      go_wp2
      go_roundw
      case rel => exact ⟨k + 1, by omega, by go_num, _, _, _, _, _, _, _, _, HN6.out, HN6.out, HNW.out⟩
      case measure => simp [intOf] <;> omega
    ·have g1 : (er == 0) = false := by simpa using her
     clear HNX her
     go_wp2
     go_roundw
     case rel => exact ⟨k + 1, by omega, by go_num, _, _, _, _, _, _, _, _, HFS.out.more (by omega), HFT.out.more (by omega), HI6.out⟩
     case measure => simp [intOf] <;> omega
  case neg =>
   have hkI : ¬ (k : Int) < (ra.length : Int) := by omega
   have HFS6 := Lib.hid (HFS.out.more (m := 6) (by omega))
   have HFT6 := Lib.hid (HFT.out.more (m := 6) (by omega))
   generalize wr = wl at *
   clear HRA8 HIA HFS HFT
   go_wp2
   go_loopw [78] (fun s78 wr => ∃ k : Nat, k ≤ rb.length ∧ s78 = .int .i64 k ∧ ∃ a' b' d' T, Few L (6 + k) T ∧ TwI w8 X Y1 Y2 L A c (.slice A6 S.ls.length c6) (.slice A7 S.ms.length c7) (.slice A8 S.nt.length c8) a' b' d' S T wr) (fun s78 _ => rb.length - (intOf s78).toNat)
   case atStart => exact ⟨0, by omega, rfl, _, _, _, _, HFT6.out, HI2.out⟩
   case round =>
    clear HI2 HFT6 hk hkn hkI
    generalize k = k1 at *
    obtain ⟨k, hk, rfl, a', b', d', T, hft, hI⟩ := hrel
    obtain ⟨C6, v6, C7, v7, C8, v8, hsc, -⟩ := hI.st'.now.form
    obtain ⟨rfl, rfl, rfl⟩ : a' = .slice C6 T.ls.length v6 ∧ b' = .slice C7 T.ms.length v7 ∧ d' = .slice C8 T.nt.length v8 := by
     injection hsc with hsc
     have g0 := congrArg (fun x => x[0]?) hsc
     have g1 := congrArg (fun x => x[1]?) hsc
     have g2 := congrArg (fun x => x[2]?) hsc
     simp at g0 g1 g2
     exact ⟨g0, g1, g2⟩
    clear hsc
    have HI2 := Lib.hid hI
    have HFT := Lib.hid hft
    clear hI hft
    by_cases hkn : k < rb.length
    case pos =>
     have hkI : (k : Int) < (rb.length : Int) := by omega
     have hk0 : ¬ (k : Int) < 0 := by omega
     obtain ⟨r, hrk⟩ : ∃ r, rb[k]? = some r := ⟨_, List.getElem?_eq_getElem hkn⟩
     have HRO := Lib.hid (HIB.out r (List.mem_of_getElem? hrk))
     obtain ⟨b, off, Aw, cw, Am, cm, An, cn, rfl, hbB0, hcl⟩ := RcsS.at2 (HRB8.out.below HI2.out.bel HYW.out) hrk (Nat.le_trans HYW.out (Nat.le_of_lt HI2.out.lt.2.1))
     have HCL := Lib.hid hcl
     obtain ⟨x0, x1, x2, x3, x4, -⟩ := hcl wr (Below.refl _ _)
     obtain ⟨gen, seq, ws, ms, nt⟩ := r
     simp only at x0 x1 x2 x3 x4 HCL HRO
     obtain ⟨Sn, er, hap⟩ : ∃ Sn er, applyS L T ⟨gen, seq, ws, ms, nt⟩ = (Sn, er) := ⟨_, _, rfl⟩
     have HNX : Hid (er = 0 → Few L (6 + k + 1) Sn) := fun h => by
      have := HFT.out.next (r := ⟨gen, seq, ws, ms, nt⟩) (by rw [hap]; exact h)
      rw [hap] at this
      exact this
     have HAPL := Lib.hid (fun (rv : Value) (W : World) (hW : Below wr.heap.size wr W) (hr : RcdV W W.heap.size rv ⟨gen, seq, ws, ms, nt⟩) => HI2.out.swap HX.out (n := 6 + k) HFT.out (by omega) HRO.out hW hr)
     rw [hap] at HAPL
     simp only at HAPL
     have HWS : Hid (w.heap.size ≤ wr.heap.size) := Nat.le_trans HYW.out (Nat.le_of_lt HI2.out.lt.2.1)
     clear hcl hap hrk
     go_upto_region 20 with (fail)
     have hbz : Below wr.heap.size wr (wr.alloc (.cells #[.int .u64 gen, .int .u64 seq, .slice Aw ws.length cw, .slice Am ms.length cm, .slice An nt.length cn] 42)) := below_laid
     have hz := heap_alloc_new wr (.cells #[.int .u64 gen, .int .u64 seq, .slice Aw ws.length cw, .slice Am ms.length cm, .slice An nt.length cn] 42)
     generalize wr.alloc _ = wz at *
     have HBZ := Lib.hid hbz
     have HZ := Lib.hid hz
     have HI3 := Lib.hid (HI2.out.call hbz)
     have HRZ : Hid (RcdV wz wz.heap.size (.agg #[.int .u64 gen, .int .u64 seq, .slice Aw ws.length cw, .slice Am ms.length cm, .slice An nt.length cn]) ⟨gen, seq, ws, ms, nt⟩) := (HCL.out wz hbz).2.2.2.2.2.1.more (Nat.le_trans HWS.out hbz.size)
     have HAP := Lib.hid (HAPL.out _ wz hbz HRZ.out)
     clear x0 x1 x2 x3 x4 HCL HAPL hbz
     generalize wr.heap.size = Z at *
     have z0 : wz.cell? ⟨Z, 0, none⟩ = some (.int .u64 gen) := by rw [cell_of_row _ _ _ _ _ _ hz]; rfl
     have z1 : wz.cell? ⟨Z, 1, none⟩ = some (.int .u64 seq) := by rw [cell_of_row _ _ _ _ _ _ hz]; rfl
     have z2 : wz.cell? ⟨Z, 2, none⟩ = some (.slice Aw ws.length cw) := by rw [cell_of_row _ _ _ _ _ _ hz]; rfl
     have z3 : wz.cell? ⟨Z, 3, none⟩ = some (.slice Am ms.length cm) := by rw [cell_of_row _ _ _ _ _ _ hz]; rfl
     have z4 : wz.cell? ⟨Z, 4, none⟩ = some (.slice An nt.length cn) := by rw [cell_of_row _ _ _ _ _ _ hz]; rfl
     obtain ⟨l0, l1, l2, l3⟩ := LayB.cells (L := L) HI3.out.layr
     obtain ⟨y0, y1, y2⟩ := HI3.out.cells'
     clear hz
     go_wp2_with fail
     refine HAP.out.mono ?_
     rintro e w2 ⟨⟨D1, d1, D2, d2, D3, d3, rfl, hsB⟩, hb2⟩
     have HI4 := Lib.hid (HI3.out.call hb2)
     have HZ4 : Hid (w2.heap[Z]? = some (.cells #[.int .u64 gen, .int .u64 seq, .slice Aw ws.length cw, .slice Am ms.length cm, .slice An nt.length cn] 42 (0, 0))) := (hb2.block _ (Array.getElem?_eq_some_iff.1 HZ.out).1).trans HZ.out
     have HR4 : Hid (RcdV w2 w2.heap.size (.agg #[.int .u64 gen, .int .u64 seq, .slice Aw ws.length cw, .slice Am ms.length cm, .slice An nt.length cn]) ⟨gen, seq, ws, ms, nt⟩) := (HRZ.out.below hb2 (Nat.le_refl _)).more hb2.size
     have HS4 := Lib.hid hsB
     clear hsB hb2 z0 z1 z2 z3 z4 l0 l1 l2 l3 y0 y1 y2 HAP HI3 HRZ HZ
     go_upto_region 21 with (fail)
     have hb3 : Below w2.heap.size w2 (w2.alloc (.cells #[.slice D1 Sn.ls.length d1, .slice D2 Sn.ms.length d2, .slice D3 Sn.nt.length d3] 34)) := below_laid
     have hd3 := heap_alloc_new w2 (.cells #[.slice D1 Sn.ls.length d1, .slice D2 Sn.ms.length d2, .slice D3 Sn.nt.length d3] 34)
     generalize w2.alloc _ = w3 at *
     have HI5 := Lib.hid (HI4.out.call hb3)
     have HZ5 : Hid (w3.heap[Z]? = some (.cells #[.int .u64 gen, .int .u64 seq, .slice Aw ws.length cw, .slice Am ms.length cm, .slice An nt.length cn] 42 (0, 0))) := (hb3.block _ (Array.getElem?_eq_some_iff.1 HZ4.out).1).trans HZ4.out
     have HSH := Lib.hid (r27short w3 (HR4.out.below hb3 (Nat.le_refl _)))
     have HS5 := Lib.hid (HS4.out.call hb3)
     have HD5 := Lib.hid hd3
     have HDL : Hid (Y1 < w2.heap.size ∧ Y2 < w2.heap.size) := ⟨HI4.out.lt.2.1, HI4.out.lt.2.2⟩
     have z0 : w3.cell? ⟨Z, 0, none⟩ = some (.int .u64 gen) := by rw [cell_of_row _ _ _ _ _ _ HZ5.out]; rfl
     have z1 : w3.cell? ⟨Z, 1, none⟩ = some (.int .u64 seq) := by rw [cell_of_row _ _ _ _ _ _ HZ5.out]; rfl
     have z2 : w3.cell? ⟨Z, 2, none⟩ = some (.slice Aw ws.length cw) := by rw [cell_of_row _ _ _ _ _ _ HZ5.out]; rfl
     have z3 : w3.cell? ⟨Z, 3, none⟩ = some (.slice Am ms.length cm) := by rw [cell_of_row _ _ _ _ _ _ HZ5.out]; rfl
     have z4 : w3.cell? ⟨Z, 4, none⟩ = some (.slice An nt.length cn) := by rw [cell_of_row _ _ _ _ _ _ HZ5.out]; rfl
     generalize w2.heap.size = D at *
     obtain ⟨sb, hsb⟩ : ∃ q, shortB ⟨gen, seq, ws, ms, nt⟩ = q := ⟨_, rfl⟩
     rw [hsb] at HSH
     clear hb3 hd3 HI4 HZ4 HR4 HS4 hsb
     go_wp2_with fail
     refine HSH.out.mono ?_
     rintro e w4 ⟨rfl, hb4⟩
     have HI6 := Lib.hid (HI5.out.call hb4)
     have HS6 := Lib.hid (HS5.out.call hb4)
     have HD6 : Hid (w4.heap[D]? = some (.cells #[.slice D1 Sn.ls.length d1, .slice D2 Sn.ms.length d2, .slice D3 Sn.nt.length d3] 34 (0, 0))) := (hb4.block _ (Array.getElem?_eq_some_iff.1 HD5.out).1).trans HD5.out
     clear hb4 z0 z1 z2 z3 z4 HI5 HS5 HD5 HZ5 HSH
     cases sb with
     | false =>
      go_wp2
      go_roundw
      case rel => exact ⟨k + 1, by omega, by go_num, _, _, _, _, HFT.out.more (by omega), HI6.out⟩
      case measure => simp [intOf] <;> omega
     | true =>
      by_cases her : er = 0
      ·subst her
       have HN6 := Lib.hid (HNX.out rfl)
       have k0 : w4.cell? ⟨D, 0, none⟩ = some (.slice D1 Sn.ls.length d1) := by rw [cell_of_row _ _ _ _ _ _ HD6.out]; rfl
       have k1 : w4.cell? ⟨D, 1, none⟩ = some (.slice D2 Sn.ms.length d2) := by rw [cell_of_row _ _ _ _ _ _ HD6.out]; rfl
       have k2 : w4.cell? ⟨D, 2, none⟩ = some (.slice D3 Sn.nt.length d3) := by rw [cell_of_row _ _ _ _ _ _ HD6.out]; rfl
       obtain ⟨s0, s1, s2⟩ := HI6.out.cells
       obtain ⟨t0, t1, t2⟩ := HI6.out.cells'
       have f0 := HI6.out.frozen 0
       have f1 := HI6.out.frozen 1
       have f2 := HI6.out.frozen 2
       obtain ⟨f0, g0⟩ := f0
       obtain ⟨f1, g1⟩ := f1
       obtain ⟨f2, g2⟩ := f2
       have hne : ¬ Y1 = Y2 := Nat.ne_of_lt HI6.out.yy
       have hne2 : ¬ Y2 = Y1 := fun e => hne e.symm
       have hnd1 : ¬ Y1 = D := Nat.ne_of_lt HDL.out.1
       have hnd2 : ¬ D = Y1 := fun e => hnd1 e.symm
       have hnd3 : ¬ Y2 = D := Nat.ne_of_lt HDL.out.2
       have hnd4 : ¬ D = Y2 := fun e => hnd3 e.symm
       have HNE := Lib.hid (HI6.out.snd HS6.out)
       clear HNX
       go_wp2
       go_roundw
       case rel => exact ⟨k + 1, by omega, by go_num, _, _, _, _, HN6.out, HNE.out⟩
       case measure => simp [intOf] <;> omega
      ·have g1 : (er == 0) = false := by simpa using her
       clear HNX her
       go_wp2
       go_roundw
       case rel => exact ⟨k + 1, by omega, by go_num, _, _, _, _, HFT.out.more (by omega), HI6.out⟩
       case measure => simp [intOf] <;> omega
    case neg =>
     have hkI : ¬ (k : Int) < (rb.length : Int) := by omega
     have HFT12 := Lib.hid (HFT.out.more (m := 12) (by omega))
     have HXA : Hid ((lsL S.ls).length = L.G) := by rw [Hid, lsL_len]; exact HFS6.out.len
     have HYA : Hid ((lsL T.ls).length = L.G) := by rw [Hid, lsL_len]; exact HFT12.out.len
     have hlS := HFS6.out.len
     have hlT := HFT12.out.len
     have HSU := Lib.hid (fun (W : World) (hW : Below wr.heap.size wr W) => (lsums W (HI2.out.call hW).st.now (Nat.le_refl _) (HFS6.out.lv (by omega)) (by omega)).mono fun e w' hh => And.intro hh.1 (And.intro hh.2 (hW.trans (hh.2.mono hW.size))))
     have HTU := Lib.hid (fun (W : World) (hW : Below wr.heap.size wr W) => (lsums W (HI2.out.call hW).st'.now (Nat.le_refl _) (HFT12.out.lv (by omega)) (by omega)).mono fun e w' hh => And.intro hh.1 (And.intro hh.2 (hW.trans (hh.2.mono hW.size))))
     have HRS := Lib.hid (fun (W : World) (hW : Below wr.heap.size wr W) => rRoot W (HI2.out.call hW).st.now (Nat.le_refl _) (HFS6.out.lv (by omega)) (by omega))
     have HRT := Lib.hid (fun (W : World) (hW : Below wr.heap.size wr W) => rRoot W (HI2.out.call hW).st'.now (Nat.le_refl _) (HFT12.out.lv (by omega)) (by omega))
     have HRN : Hid (rootS S = rtN (lsL S.ls) ∧ rootS T = rtN (lsL T.ls)) := ⟨rfl, rfl⟩
     rw [HRN.out.1] at HRS
     rw [HRN.out.2] at HRT
     have HKA := Lib.hid (fun (W : World) (hW : Below wr.heap.size wr W) => And.intro (HI2.out.call hW).cells (HI2.out.call hW).cells')
     have HSV := Lib.hid (fun (W : World) (hW : Below wr.heap.size wr W) => And.intro (HI2.out.call hW).st.now (HI2.out.call hW).st'.now)
     rw [hlS] at HSU HRS HKA HSV
     rw [hlT] at HTU HRT HKA HSV
     have HBW : Hid (Below w.heap.size w wr) := HB8.out.trans (HI2.out.bel.mono HYW.out)
     have HXT : Hid (∀ z ∈ lsL S.ls, z < 18446744073709551616) := lsL_lt _
     have HYT : Hid (∀ z ∈ lsL T.ls, z < 18446744073709551616) := lsL_lt _
     have HLF : Hid (∀ k, k < L.G → ∃ a b, S.ls[k]? = some a ∧ T.ls[k]? = some b ∧ (lsL S.ls)[k]? = some (lfN k a) ∧ (lsL T.ls)[k]? = some (lfN k b)) := fun k hk => by
      have h1 : S.ls[k]? = some S.ls[k] := List.getElem?_eq_getElem (by omega)
      have h2 : T.ls[k]? = some T.ls[k] := List.getElem?_eq_getElem (by omega)
      exact ⟨_, _, h1, h2, lsL_at h1, lsL_at h2⟩
     have HVA := Lib.hid (HFS6.out.lv (L := L) (by omega))
     have HVB := Lib.hid (HFT12.out.lv (L := L) (by omega))
     clear HI2 HFT HFS6 HFT12 hlS hlT HRB8 HIB HRN
     generalize lsL S.ls = xs at *
     generalize lsL T.ls = ys at *
     generalize L.G = G at *
     generalize wr = wt at *
     go_upto_region 24 with (fail)
     go_cut [19, 20] (fun s19 s20 wx => ∃ P p Q q, s19 = .slice P G p ∧ s20 = .slice Q G q ∧ U64S wx wx.heap.size P xs ∧ U64S wx wx.heap.size Q ys ∧ Below wt.heap.size wt wx)
     case first =>
      go_region_held3 (fun W => (W.cell? ⟨Y1, 0, none⟩ = some (.slice A6 G c6) ∧ W.cell? ⟨Y1, 1, none⟩ = some (.slice A7 S.ms.length c7) ∧ W.cell? ⟨Y1, 2, none⟩ = some (.slice A8 S.nt.length c8)) ∧ (W.cell? ⟨Y2, 0, none⟩ = some (.slice C6 G v6) ∧ W.cell? ⟨Y2, 1, none⟩ = some (.slice C7 T.ms.length v7) ∧ W.cell? ⟨Y2, 2, none⟩ = some (.slice C8 T.nt.length v8)))
       (first | with_reducible exact HKA.out _ (Below.refl _ _) | with_reducible exact HKA.out _ (Below.refl _ _).drew | with_reducible exact HKA.out _ hbA | with_reducible exact HKA.out _ hbA.drew | with_reducible exact HKA.out _ hbB | with_reducible exact HKA.out _ hbB.drew | (trace_state; fail))
       (first
        | (go_at_call 9; first
         | ((first | with_reducible refine (HSU.out _ (Below.refl _ _).drew).mono ?_ | with_reducible refine (HSU.out _ (Below.refl _ _)).mono ?_); rintro e wA ⟨⟨P, p, rfl, hp, hu⟩, hbP, hbA⟩)
         | ((first | with_reducible refine (HTU.out _ hbA).mono ?_ | with_reducible refine (HTU.out _ hbA.drew).mono ?_); rintro e wB ⟨⟨Q, q, rfl, hq, hv⟩, hbQ, hbB⟩)
         | (trace_state; fail))
        | fail)
      all_goals
       go_wp2_with fail
       go_meet
       ·first
         | exact ⟨P, p, Q, q, rfl, rfl, RdS.more (RdS.below' hu hbQ (Nat.le_refl _)) hbQ.size, hv, hbB⟩
         | exact ⟨P, p, Q, q, rfl, rfl, RdS.more (RdS.below' hu ((Below.refl _ _).drew.trans hbQ) (Nat.le_refl _)) hbQ.size, hv, hbB⟩
         | (trace_state; fail)
     obtain ⟨P, p, Q, q, rfl, rfl, hu, hv, hbc⟩ := hcut
     have HU := Lib.hid hu
     have HV := Lib.hid hv
     have HBC := Lib.hid hbc
     clear hu hv hbc HSU HTU hk hkn hkI
     generalize wc = wc0 at *
     go_wp2
     go_loopw [21, 103] (fun s21 s103 wr => ∃ k : Nat, k ≤ G ∧ s103 = .int .i64 k ∧ s21 = .int .i64 (cntW xs ys k : Int) ∧ Below wc0.heap.size wc0 wr) (fun _ s103 _ => G - (intOf s103).toNat)
     case atStart => exact ⟨0, by omega, rfl, rfl, Below.refl _ _⟩
     case round =>
      obtain ⟨k, hk, rfl, rfl, hb⟩ := hrel
      have HB := Lib.hid hb
      by_cases hkG : k < G
      case pos =>
       have hkI : (k : Int) < (G : Int) := by omega
       have hk0 : ¬ (k : Int) < 0 := by omega
       obtain ⟨s, hs⟩ : ∃ s, xs[k]? = some s := ⟨_, List.getElem?_eq_getElem (by rw [HXA.out]; exact hkG)⟩
       obtain ⟨t, ht⟩ : ∃ t, ys[k]? = some t := ⟨_, List.getElem?_eq_getElem (by rw [HYA.out]; exact hkG)⟩
       obtain ⟨b1, o1, rfl, hb1, g1⟩ := U64S.at_ (RdS.below' HU.out hb (Nat.le_refl _)) hs
       obtain ⟨b2, o2, rfl, hb2, g2⟩ := U64S.at_ (RdS.below' HV.out hb (Nat.le_refl _)) ht
       have hcl := cntW_le xs ys k
       by_cases hst : s = t
       ·have HC := Lib.hid (cntW_same hs ht hst)
        subst hst
        generalize cntW xs ys k = m at *
        clear hs ht hb
        go_wp2_with fail
        go_quiet (fail)
        go_wp2
        go_roundw
        case rel => exact ⟨k + 1, by omega, by go_num, by rw [HC.out], below_drewN HB.out _⟩
        case measure => simp [intOf] <;> omega
       ·have HC := Lib.hid (cntW_diff hs ht hst).1
        have e1 : ((s : Int) == (t : Int)) = false := by rw [beq_eq_false_iff_ne]; omega
        have e2 : ((s : Int) != (t : Int)) = true := by rw [bne, e1]; rfl
        generalize cntW xs ys k = m at *
        have t9 : IntKind.i64.wrap ((m : Int) + 1) = (m : Int) + 1 := IntWalk.i64_in _ (by omega)
        clear hs ht hst hb
        go_wp2_with fail
        go_quiet (fail)
        go_wp2
        go_roundw
        case rel => exact ⟨k + 1, by omega, by go_num, by rw [HC.out]; go_num, below_drewN HB.out _⟩
        case measure => simp [intOf] <;> omega
      case neg =>
       have hkI : ¬ (k : Int) < (G : Int) := by omega
       obtain rfl : G = k := by omega
       have hu := RdS.more (RdS.below' HU.out hb (Nat.le_refl _)) hb.size
       have hv := RdS.more (RdS.below' HV.out hb (Nat.le_refl _)) hb.size
       have HRD := Lib.hid (ref_diff (c := p) (c' := q) wr hu hv (Nat.le_refl _) (by rw [HXA.out, HYA.out]) (by rw [HXA.out]; omega))
       rw [HXA.out, HYA.out] at HRD
       have HU7 := Lib.hid hu
       have HV7 := Lib.hid hv
       have HB7 : Hid (Below wt.heap.size wt wr) := HBC.out.trans (hb.mono HBC.out.size)
       clear hb hu hv HU HV HBC HB
       go_wp2_with fail
       refine HRD.out.mono ?_
       rintro r w32 ⟨⟨d, E, ec, rfl, htx, hty⟩, hb32⟩
       have HU8 : Hid (U64S w32 w32.heap.size P xs) := RdS.more (RdS.below' HU7.out hb32 (Nat.le_refl _)) hb32.size
       have HV8 : Hid (U64S w32 w32.heap.size Q ys) := RdS.more (RdS.below' HV7.out hb32 (Nat.le_refl _)) hb32.size
       have HB32 := Lib.hid (HB7.out.trans (hb32.mono HB7.out.size))
       have HTX := Lib.hid htx
       have HTY := Lib.hid hty
       clear hb32 htx hty HRD HU7 HV7 HB7
       by_cases hcw : (refD xs ys d).length = cntW xs ys G
       case neg =>
        obtain ⟨rl, hrl⟩ : ∃ q, (refD xs ys d).length = q := ⟨_, rfl⟩
        obtain ⟨ct, hct⟩ : ∃ q, cntW xs ys G = q := ⟨_, rfl⟩
        rw [hrl, hct] at hcw
        rw [hrl, hct]
        have z1 : ((rl : Int) == (ct : Int)) = false := by rw [beq_eq_false_iff_ne]; omega
        have z2 : ((rl : Int) != (ct : Int)) = true := by rw [bne, z1]; rfl
        clear hrl hct hcw
        go_wp2
        go_ret
        exact ⟨rfl, HBW.out.trans (HB32.out.mono HBW.out.size)⟩
       case pos =>
       obtain ⟨m0, hm0⟩ : ∃ q, cntW xs ys G = q := ⟨_, rfl⟩
       rw [hm0] at hcw
       rw [hcw, hm0]
       have HCW := Lib.hid hcw
       have HM0 := Lib.hid hm0
       have hm4 : m0 ≤ 4096 := by have := cntW_le xs ys G; omega
       have HBX := Lib.hid (build_tree (c := p) w32 HU8.out (Nat.le_refl _) (by rw [HXA.out]; omega))
       rw [HXA.out] at HBX
       clear hcw hm0
       go_wp2_with fail
       refine HBX.out.mono ?_
       rintro r w33 ⟨⟨d1, pp, rfl, -, hne⟩, hb33⟩
       have hxne : xs ≠ [] := fun e => by
        have := HXA.out
        rw [e] at this
        simp at this
        omega
       obtain ⟨q1, rfl, hx1, hx2, hx3, hx4⟩ := hne hxne
       obtain rfl : d = d1 := HTX.out.uniq hx3 (fun _ => rfl)
       have HX3 := Lib.hid (And.intro hx1 hx2)
       have HN1 := Lib.hid hx4
       have HV9 : Hid (U64S w33 w33.heap.size Q ys) := RdS.more (RdS.below' HV8.out hb33 (Nat.le_refl _)) hb33.size
       have HU9 : Hid (U64S w33 w33.heap.size P xs) := RdS.more (RdS.below' HU8.out hb33 (Nat.le_refl _)) hb33.size
       have HB33 := Lib.hid (HB32.out.trans (hb33.mono HB32.out.size))
       rw [HXA.out]
       have HBY := Lib.hid (build_tree (c := q) w33 HV9.out (Nat.le_refl _) (by rw [HYA.out]; omega))
       rw [HYA.out] at HBY
       clear hne hxne hx1 hx2 hx3 hx4 hb33 HBX HU8 HV8 HB32
       go_wp2_with fail
       refine HBY.out.mono ?_
       rintro r w34 ⟨⟨d2, pp, rfl, -, hne⟩, hb34⟩
       have hyne : ys ≠ [] := fun e => by
        have := HYA.out
        rw [e] at this
        simp at this
        omega
       obtain ⟨q2, rfl, hy1, hy2, hy3, hy4⟩ := hne hyne
       obtain rfl : d = d2 := HTY.out.uniq hy3 (fun _ => rfl)
       rw [HYA.out]
       have hd10 : d ≤ 10 := HTX.out.le (k := 10) (by rw [HXA.out]; exact Nat.le_trans hG (by decide))
       have hn1 : NeE w34 (fun k => k < w34.heap.size) xs d 0 q1 := HN1.out.to (fun k hk => Nat.lt_of_lt_of_le hk hb34.size) (fun k hk => hb34.block k hk)
       have hxy : xs.length = ys.length := by rw [HXA.out, HYA.out]
       have HLW := Lib.hid (law_diff hxy (tall_small HTX.out.1) HXT.out HYT.out HX3.out.1 hy1 HX3.out.2 hy2 (by rw [HCW.out, HXA.out, HM0.out]))
       have HWL : Hid ((difW xs ys).length = m0) := by rw [Hid, ← HM0.out, ← HXA.out]; rfl
       have HEQ : Hid ((rtN xs = rtN ys) ↔ m0 = 0) := by
        have := HLW.out.2
        rw [HXA.out, HM0.out] at this
        exact this
       have HDF := Lib.hid (diff_top w34 hxy (by rw [HXA.out]; omega) (by rw [HXA.out]; omega) hn1 hy4 hd10)
       rw [HXA.out, HYA.out, HLW.out.1, List.length_map, HWL.out] at HDF
       have HU10 : Hid (U64S w34 w34.heap.size P xs) := RdS.more (RdS.below' HU9.out hb34 (Nat.le_refl _)) hb34.size
       have HV10 : Hid (U64S w34 w34.heap.size Q ys) := RdS.more (RdS.below' HV9.out hb34 (Nat.le_refl _)) hb34.size
       have HB34 := Lib.hid (HB33.out.trans (hb34.mono HB33.out.size))
       clear hne hyne hy1 hy2 hy3 hy4 hb34 HBY HU9 HV9 HB33 hn1 hxy HLW HCW HTX HTY HX3 HN1
       go_wp2_with fail
       refine HDF.out.mono ?_
       rintro r w35 ⟨⟨U, uc, rfl, hU⟩, hb35⟩
       have HU11 : Hid (U64S w35 w35.heap.size P xs) := RdS.more (RdS.below' HU10.out hb35 (Nat.le_refl _)) hb35.size
       have HV11 : Hid (U64S w35 w35.heap.size Q ys) := RdS.more (RdS.below' HV10.out hb35 (Nat.le_refl _)) hb35.size
       have HW11 := Lib.hid hU
       have HB11 := Lib.hid (HB34.out.trans (hb35.mono HB34.out.size))
       clear hU hb35 HDF HU10 HV10 HB34
       generalize rtN xs = xa at *
       generalize rtN ys = ya at *
       obtain ⟨bb, e1, e2⟩ : ∃ bb : Bool, ((xa : Int) == (ya : Int)) = bb ∧ ((m0 : Int) == 0) = bb := by
        by_cases h : m0 = 0
        ·refine ⟨true, ?_, ?_⟩
         ·rw [HEQ.out.2 h]; simp
         ·rw [h]; rfl
        ·have h2 : ¬ xa = ya := fun e => h (HEQ.out.1 e)
         refine ⟨false, ?_, ?_⟩
         ·rw [beq_eq_false_iff_ne]; omega
         ·rw [beq_eq_false_iff_ne]; omega
       have S4 := fun dd ll => (HKA.out (Sort.grow (redrawn w35 dd) ll) (HB11.out.trans ((below_regrown w35 dd ll).mono HB11.out.size))).1
       have T4 := fun dd ll => (HKA.out (Sort.grow (redrawn w35 dd) ll) (HB11.out.trans ((below_regrown w35 dd ll).mono HB11.out.size))).2
       have KRS := Lib.hid (fun dd ll => HRS.out (Sort.grow (redrawn w35 dd) ll) (HB11.out.trans ((below_regrown w35 dd ll).mono HB11.out.size)))
       have KRT := Lib.hid (fun dd ll => HRT.out (Sort.grow (redrawn w35 dd) ll) (HB11.out.trans ((below_regrown w35 dd ll).mono HB11.out.size)))
       go_upto_region 36 with (fail)
       refine quiet_below (by kernel_rfl) (by kernel_rfl) ?_
       repeat (go_big_quiet_step (first | (go_at_call 13; first | with_reducible exact Calls.regrown_of (KRS.out _ _) | with_reducible exact Calls.regrown_of (KRT.out _ _))))
       refine wpQuiet_nil ?_
       intro w36 hb36
       have HU12 : Hid (U64S w36 w36.heap.size P xs) := RdS.more (RdS.below' HU11.out hb36 (Nat.le_refl _)) hb36.size
       have HV12 : Hid (U64S w36 w36.heap.size Q ys) := RdS.more (RdS.below' HV11.out hb36 (Nat.le_refl _)) hb36.size
       have HW12 : Hid (RdS w36 w36.heap.size 1 U (((difW xs ys).map fun i => ((i : Nat) : Int)).map icell)) := RdS.more (RdS.below' HW11.out hb36 (Nat.le_refl _)) hb36.size
       have HB12 := Lib.hid (HB11.out.trans (hb36.mono HB11.out.size))
       clear S4 T4 KRS KRT hb36 HU11 HV11 HW11 HB11 HRS HRT HEQ
       have he3 : (bb != bb) = false := by cases bb <;> rfl
       go_wp2
       go_loopw [27, 151] (fun s27 s151 wr => ∃ k : Nat, k ≤ G ∧ s151 = .int .i64 k ∧ s27 = .int .i64 (cntW xs ys k : Int) ∧ Below w36.heap.size w36 wr) (fun _ s151 _ => G - (intOf s151).toNat)
       case atStart => exact ⟨0, by omega, rfl, rfl, Below.refl _ _⟩
       case round =>
        obtain ⟨k, hk, rfl, rfl, hb⟩ := hrel
        have HB := Lib.hid hb
        have HBT : Hid (Below wt.heap.size wt wr) := HB12.out.trans (hb.mono HB12.out.size)
        by_cases hkG : k < G
        case neg =>
         have hkI : ¬ (k : Int) < (G : Int) := by omega
         obtain rfl : G = k := by omega
         rw [HM0.out]
         go_wp2
         go_ret
         exact ⟨ret_bool (by simp), HBW.out.trans (HBT.out.mono HBW.out.size)⟩
        case pos =>
         have hkI : (k : Int) < (G : Int) := by omega
         have hk0 : ¬ (k : Int) < 0 := by omega
         obtain ⟨xl, yl, hxl, hyl, hx, hy⟩ := HLF.out k hkG
         obtain ⟨b3, o3, ua, ub, rfl, hb3, hca, hcb, hlf⟩ := LvS.at_ (HSV.out wr HBT.out).1.lvs hxl
         obtain ⟨b4, o4, uc1, ud, rfl, hb4, hcc, hcd, hlg⟩ := LvS.at_ (HSV.out wr HBT.out).2.lvs hyl
         have hva := HVA.out xl (List.mem_of_getElem? hxl)
         have hvb := HVB.out yl (List.mem_of_getElem? hyl)
         have KSL := Lib.hid (fun dd ll => r50sameLeaf (Sort.grow (redrawn wr dd) ll) (hlf.below (below_regrown wr dd ll) (Nat.le_refl _)) (hlg.below (below_regrown wr dd ll) (Nat.le_refl _)) (below_regrown wr dd ll).size (by omega) (by omega) (by omega) (by omega))
         have HSF : Hid (¬ lfN k xl = lfN k yl → sameLf xl yl = false) := fun h => by
          cases hs : sameLf xl yl with
          | false => rfl
          | true => exact absurd (by rw [sameLf_iff.1 hs]) h
         obtain ⟨Av, cv, As, cs, he, -⟩ := hlf
         obtain ⟨rfl, rfl⟩ : ua = .slice Av xl.vs.length cv ∧ ub = .slice As xl.ss.length cs := by
          injection he with he
          have e0 := congrArg (fun x => x[0]?) he
          have e1 := congrArg (fun x => x[1]?) he
          simp at e0 e1
          exact ⟨e0, e1⟩
         obtain ⟨Bv, dv, Bs, ds, he', -⟩ := hlg
         obtain ⟨rfl, rfl⟩ : uc1 = .slice Bv yl.vs.length dv ∧ ud = .slice Bs yl.ss.length ds := by
          injection he' with he'
          have e0 := congrArg (fun x => x[0]?) he'
          have e1 := congrArg (fun x => x[1]?) he'
          simp at e0 e1
          exact ⟨e0, e1⟩
         obtain ⟨sv, hsv⟩ : ∃ q, sameLf xl yl = q := ⟨_, rfl⟩
         rw [hsv] at KSL HSF
         have K1 := fun dd ll => (HKA.out (Sort.grow (redrawn wr dd) ll) (HBT.out.trans ((below_regrown wr dd ll).mono HBT.out.size))).1.1
         have K2 := fun dd ll => (HKA.out (Sort.grow (redrawn wr dd) ll) (HBT.out.trans ((below_regrown wr dd ll).mono HBT.out.size))).2.1
         have K3 := fun dd ll => ((below_regrown wr dd ll).cell (p := ⟨b3, o3 + k * 2, none⟩) hb3).trans hca
         have K4 := fun dd ll => ((below_regrown wr dd ll).cell (p := ⟨b3, o3 + k * 2 + 1, none⟩) hb3).trans hcb
         have K5 := fun dd ll => ((below_regrown wr dd ll).cell (p := ⟨b4, o4 + k * 2, none⟩) hb4).trans hcc
         have K6 := fun dd ll => ((below_regrown wr dd ll).cell (p := ⟨b4, o4 + k * 2 + 1, none⟩) hb4).trans hcd
         generalize hs : lfN k xl = s at *
         generalize ht : lfN k yl = t at *
         have hcl := cntW_le xs ys k
         clear he he' hsv hca hcb hcc hcd hva hvb hb hs ht hxl hyl
         go_upto_region 42 with (fail)
         refine quiet_below (by kernel_rfl) (by kernel_rfl) ?_
         repeat (go_big_quiet_step (first | (go_at_call 14; first | with_reducible exact Calls.regrown_of (KSL.out _ _))))
         refine wpQuiet_nil ?_
         intro w42 hb42
         have HB42 := Lib.hid (HB.out.trans (hb42.mono HB.out.size))
         clear K1 K2 K3 K4 K5 K6 KSL hb42
         obtain ⟨b1, o1, rfl, hb1, g1⟩ := U64S.at_ (RdS.below' HU12.out HB42.out (Nat.le_refl _)) hx
         obtain ⟨b2, o2, rfl, hb2, g2⟩ := U64S.at_ (RdS.below' HV12.out HB42.out (Nat.le_refl _)) hy
         by_cases hst : s = t
         ·have HC := Lib.hid (cntW_same hx hy hst)
          subst hst
          generalize cntW xs ys k = m at *
          clear hx hy
          go_wp2_with fail
          go_quiet (fail)
          go_wp2
          go_roundw
          case rel => exact ⟨k + 1, by omega, by go_num, by rw [HC.out], below_drewN HB42.out _⟩
          case measure => simp [intOf] <;> omega
         ·obtain ⟨hc1, hc2, hc3⟩ := cntW_diff hx hy hst
          have HC := Lib.hid hc1
          have e3 : ((s : Int) == (t : Int)) = false := by rw [beq_eq_false_iff_ne]; omega
          have e4 : ((s : Int) != (t : Int)) = true := by rw [bne, e3]; rfl
          obtain rfl : sv = false := HSF.out hst
          rw [HXA.out, HM0.out] at hc2
          have hc4 : ((difW xs ys).map fun i => ((i : Nat) : Int))[cntW xs ys k]? = some (k : Int) := by rw [List.getElem?_map, hc3]; rfl
          obtain ⟨b5, o5, rfl, hb5, g5⟩ := ints_at (RdS.below' HW12.out HB42.out (Nat.le_refl _)) hc4
          generalize cntW xs ys k = m at *
          have t9 : IntKind.i64.wrap ((m : Int) + 1) = (m : Int) + 1 := IntWalk.i64_in _ (by omega)
          have i1 : (m : Int) < (m0 : Int) := by omega
          have i2 : ¬ (m : Int) < 0 := by omega
          have i3 : ¬ (m0 : Int) ≤ (m : Int) := by omega
          have i4 : decide ((m0 : Int) ≤ (m : Int)) = false := by rw [decide_eq_false_iff_not]; omega
          have i5 : decide (m0 ≤ m) = false := by rw [decide_eq_false_iff_not]; omega
          clear hx hy hst hc1 hc3 hc4
          go_wp2_with fail
          go_quiet (fail)
          go_wp2
          go_roundw
          case rel => exact ⟨k + 1, by omega, by go_num, by rw [HC.out]; go_num, below_drewN HB42.out _⟩
          case measure => simp [intOf] <;> omega
end Go.Proofs.YtopoefcklipaeaaGreatDoor
