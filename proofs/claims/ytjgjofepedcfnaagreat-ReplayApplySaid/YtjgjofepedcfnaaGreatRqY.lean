/- Walk of tegulalaw50.ReplayApply. -/
import Derived.Test.YtjgjofepedcfnaaGreatRqX
import Derived.Test.YtjgjofepedcfnaaGreatOpnR
namespace Go.Proofs.YtjgjofepedcfnaaGreat
open Go.RowKit
set_option maxHeartbeats 8000000 in
set_option maxRecDepth 100000 in
theorem lreplayApply (n0 : Nat) (hn0 : n0 < 256) (rs : List Rcd) (Ar : Option Addr) (cr : Nat) (rv : Value) (r : Rcd) (w : World) (hrs : RcsS w w.heap.size Ar rs) (hin : ∀ r ∈ rs, r.seq < 18446744073709551616 ∧ ∀ x ∈ r.ws, x.d.ok) (hlen : rs.length ≤ 9223372036854775807) (hr : RcdV w w.heap.size rv r) (hri : r.seq < 18446744073709551616 ∧ ∀ x ∈ r.ws, x.d.ok) :
  Calls Tryz.prog 3 #[.int .u8 (n0 : Int), .slice Ar rs.length cr, rv] w fun r w' => r = .returned (.bool true) ∧ Below w.heap.size w w' := by
 have HX := Lib.hid (small_layX (kL n0))
 have HSM : Hid (∀ W, Calls Tryz.prog 13 #[.int .u8 (n0 : Int)] W fun r w' => SmkP n0 W r w') := fun W => r50small n0 hn0 W
 unfold SmkP at HSM
 generalize smallL (kL n0) = L at *
 have HAW : Hid (∀ W, Calls Tryz.prog 10 #[] W fun r w' => r = .returned (.bool true) ∧ Below W.heap.size W w') := fun W => lawake W
 have HFT := Lib.hid (fun h => few_ok (rs := rs) h hin)
 have HFT2 : Hid (shortB r = true → RcdOk r) := fun h => by
  unfold shortB at h
  simp only [Bool.and_eq_true, decide_eq_true_eq] at h
  exact ⟨hri.1, by omega, by omega, by omega, hri.2⟩
 obtain ⟨Bw, bw, Bm, bm, Bn, bn, rfl, hrv⟩ := id hr
 obtain ⟨gen0, seq0, ws0, ms0, nt0⟩ := r
 simp only at hr ⊢
 have HRS := Lib.hid hrs
 have HR := Lib.hid hr
 clear hrs hin hr hri hrv
 go_enter Tryz.func3, Tryz.ntmps3
 go_upto_region 1 with (fail)
 generalize hW0 : w.alloc _ = w0
 have HB0 : Hid (Below w.heap.size w w0) := by rw [← hW0]; exact below_laid
 have HP0 : Hid (w0.heap[w.heap.size]? = some (.cells #[.int .u64 gen0, .int .u64 seq0, .slice Bw ws0.length bw, .slice Bm ms0.length bm, .slice Bn nt0.length bn] 28 (0, 0))) := by rw [← hW0]; exact heap_alloc_new w _
 have HRS0 : Hid (RcsS w0 w0.heap.size Ar rs) := (HRS.out.below HB0.out (Nat.le_refl _)).more HB0.out.size
 have HR0 : Hid (RcdV w0 w0.heap.size (.agg #[.int .u64 gen0, .int .u64 seq0, .slice Bw ws0.length bw, .slice Bm ms0.length bm, .slice Bn nt0.length bn]) ⟨gen0, seq0, ws0, ms0, nt0⟩) := (HR.out.below HB0.out (Nat.le_refl _)).more HB0.out.size
 have HPL : Hid (w.heap.size < w0.heap.size) := (Array.getElem?_eq_some_iff.1 HP0.out).1
 clear hW0 HRS HR
 have HFW : Hid (∀ W, Below w0.heap.size w0 W → Calls Tryz.prog 11 #[.slice Ar rs.length cr] W fun e w' => e = .returned (.bool (fewB rs)) ∧ Below W.heap.size W w') := fun W hW => lfew W (HRS0.out.below hW (Nat.le_refl _)) hW.size hlen
 have HSW : Hid (∀ W, Below w0.heap.size w0 W → Calls Tryz.prog 12 #[.agg #[.int .u64 gen0, .int .u64 seq0, .slice Bw ws0.length bw, .slice Bm ms0.length bm, .slice Bn nt0.length bn]] W fun e w' => e = .returned (.bool (shortB ⟨gen0, seq0, ws0, ms0, nt0⟩)) ∧ Below W.heap.size W w') := fun W hW => r27short W (HR0.out.below hW (Nat.le_refl _))
 obtain ⟨fb, hfb⟩ : ∃ q, fewB rs = q := ⟨_, rfl⟩
 obtain ⟨sb, hsb⟩ : ∃ q, shortB ⟨gen0, seq0, ws0, ms0, nt0⟩ = q := ⟨_, rfl⟩
 rw [hfb] at HFW HFT
 rw [hsb] at HSW HFT2
 clear hfb hsb hlen
 go_wp2_with fail
 refine (HAW.out w0).mono ?_
 rintro r w1 ⟨rfl, hb1⟩
 have HB1 := Lib.hid hb1
 clear hb1 HAW
 go_wp2_with fail
 refine (HFW.out w1 HB1.out).mono ?_
 rintro r w2 ⟨rfl, hb2⟩
 have HB2 := Lib.hid (HB1.out.trans (hb2.mono HB1.out.size))
 clear hb2 HFW HB1
 cases fb with
 | false =>
  go_wp2
  go_ret
  exact ⟨rfl, HB0.out.trans (HB2.out.mono HB0.out.size)⟩
 | true =>
  obtain ⟨hlen, hrok⟩ := HFT.out rfl
  have HROK := Lib.hid hrok
  have hlay := HX.out.ok
  have hw16 := hlay.w
  have hG := hlay.G
  clear HFT hrok
  have hp2 := (HB2.out.block _ HPL.out).trans HP0.out
  have p0 : w2.cell? ⟨w.heap.size, 0, none⟩ = some (.int .u64 gen0) := by rw [cell_of_row _ _ _ _ _ _ hp2]; rfl
  have p1 : w2.cell? ⟨w.heap.size, 1, none⟩ = some (.int .u64 seq0) := by rw [cell_of_row _ _ _ _ _ _ hp2]; rfl
  have p2 : w2.cell? ⟨w.heap.size, 2, none⟩ = some (.slice Bw ws0.length bw) := by rw [cell_of_row _ _ _ _ _ _ hp2]; rfl
  have p3 : w2.cell? ⟨w.heap.size, 3, none⟩ = some (.slice Bm ms0.length bm) := by rw [cell_of_row _ _ _ _ _ _ hp2]; rfl
  have p4 : w2.cell? ⟨w.heap.size, 4, none⟩ = some (.slice Bn nt0.length bn) := by rw [cell_of_row _ _ _ _ _ _ hp2]; rfl
  clear hp2
  go_wp2_with fail
  refine (HSW.out w2 HB2.out).mono ?_
  rintro r w3 ⟨rfl, hb3⟩
  have HB3 := Lib.hid (HB2.out.trans (hb3.mono HB2.out.size))
  clear hb3 HSW HB2 p0 p1 p2 p3 p4
  cases sb with
  | false =>
   go_wp2
   go_ret
   exact ⟨rfl, HB0.out.trans (HB3.out.mono HB0.out.size)⟩
  | true =>
   have HROK0 := Lib.hid (HFT2.out rfl)
   clear HFT2
   go_wp2_with fail
   refine (HSM.out w3).mono ?_
   rintro r w4 ⟨A, c, rfl, hgs, hb4⟩
   unfold layAgg
   have HB4 := Lib.hid (HB3.out.trans (hb4.mono HB3.out.size))
   have HGS := Lib.hid hgs
   clear hgs hb4 HSM HB3
   go_upto_region 6 with (fail)
   generalize hW5 : w4.alloc _ = w5
   have HI5 : Hid (LxI w0 w4.heap.size L A c w5) := by
    refine ⟨?_, ?_, ?_⟩
    ·rw [← hW5]; exact HB4.out.trans (below_laid.mono HB4.out.size)
    ·rw [← hW5]; exact heap_alloc_new w4 _
    ·rw [← hW5]; exact HGS.out.below below_laid (Nat.le_refl _)
   have HXL : Hid (w0.heap.size ≤ w4.heap.size) := HB4.out.size
   clear hW5 HGS HB4
   generalize w4.heap.size = X at *
   have HNW := Lib.hid (fun (W : World) (h : LxI w0 X L A c W) => rnew (c := c) W HX.out h.gs (Nat.le_refl _) (by omega) (by omega) (by omega))
   have HN2 := Lib.hid (fun (W : World) (h : LxI w0 X L A c W) => r50new (c := c) W HX.out h.gs (Nat.le_refl _) (by omega) (by omega) (by omega))
   unfold layAgg at HNW HN2
   obtain ⟨l0, l1, l2, l3⟩ := HI5.out.lay.cells
   go_wp2_with fail
   refine (HNW.out w5 HI5.out).mono ?_
   rintro r w6 ⟨⟨A', c', rfl, hls⟩, hb6⟩
   have HI6 := Lib.hid (HI5.out.below hb6)
   have HLS := Lib.hid (LvS.stv (c := c') hls)
   clear hls hb6 HNW HI5 l0 l1 l2 l3
   go_upto_region 7 with (fail)
   have HBX7 : Hid (Bx (w6.alloc (.cells #[.slice A' L.G c', .slice none 0 0, .slice none 0 0] 41)) w6.heap.size 41 (.slice A' L.G c') (.slice none 0 0) (.slice none 0 0) (newS L)) := Bx.made HLS.out _
   have HI7 : Hid (LxI w0 X L A c (w6.alloc (.cells #[.slice A' L.G c', .slice none 0 0, .slice none 0 0] 41))) := HI6.out.below below_laid
   generalize w6.alloc _ = w7 at *
   generalize w6.heap.size = Z at *
   clear HLS HI6
   obtain ⟨l0, l1, l2, l3⟩ := HI7.out.lay.cells
   go_wp2_with fail
   refine (HN2.out w7 HI7.out).mono ?_
   rintro r w8 ⟨⟨A'', c'', rfl, hls⟩, hb8⟩
   have HI8 := Lib.hid (HI7.out.below hb8)
   have HBX8 := Lib.hid (HBX7.out.below hb8)
   have HLS := Lib.hid (LvS.stv (c := c'') hls)
   clear hls hb8 HN2 HI7 HBX7 l0 l1 l2 l3
   go_upto_region 8 with (fail)
   have HBY9 : Hid (Bx (w8.alloc (.cells #[.slice A'' L.G c'', .slice none 0 0, .slice none 0 0] 45)) w8.heap.size 45 (.slice A'' L.G c'') (.slice none 0 0) (.slice none 0 0) (newS L)) := Bx.made HLS.out _
   have HI9 : Hid (LxI w0 X L A c (w8.alloc (.cells #[.slice A'' L.G c'', .slice none 0 0, .slice none 0 0] 45))) := HI8.out.below below_laid
   have HBX9 : Hid (Bx (w8.alloc (.cells #[.slice A'' L.G c'', .slice none 0 0, .slice none 0 0] 45)) Z 41 (.slice A' L.G c') (.slice none 0 0) (.slice none 0 0) (newS L)) := HBX8.out.below below_laid
   have HST9 : Hid (StV (w8.alloc (.cells #[.slice A'' L.G c'', .slice none 0 0, .slice none 0 0] 45)) w8.heap.size (.agg #[.slice A'' L.G c'', .slice none 0 0, .slice none 0 0]) (newS L)) := HLS.out.below below_laid (Nat.le_refl _)
   have HXY : Hid (X < w8.heap.size) := HI8.out.lay.lt2
   generalize w8.alloc _ = w9 at *
   generalize w8.heap.size = Y at *
   clear HLS HI8 HBX8
   have X9 := fun d xs => (HBX9.out.below (below_regrown w9 d xs)).cells
   have Y9 := fun d xs => (HBY9.out.below (below_regrown w9 d xs)).cells
   have KT := Lib.hid (fun d xs => lto_any (.slice A' L.G c') (.slice none 0 0) (.slice none 0 0) (Sort.grow (redrawn w9 d) xs) ⟨_, _, _, rfl⟩ ⟨_, _, _, rfl⟩ ⟨_, _, _, rfl⟩)
   have hnf := newS_f (L := L) (by omega) (by omega)
   have KS := Lib.hid (fun d xs => r50same (Sort.grow (redrawn w9 d) xs) (HBX9.out.below (below_regrown w9 d xs)).st (HBY9.out.below (below_regrown w9 d xs)).st (Nat.le_refl _) hnf.lv (by have := hnf.n1; omega) (by have := hnf.n2; omega) (by have := hnf.n3; omega))
   refine quiet_below (by kernel_rfl) (by kernel_rfl) ?_
   repeat (go_big_quiet_step (first | (go_at_call 17; exact Calls.regrown_of (KT.out _ _)) | (go_at_call 16; exact Calls.regrown_of (KS.out _ _))))
   refine wpQuiet_nil ?_
   intro w10 hb10
   have HI10 := Lib.hid (HI9.out.below hb10)
   have HRI0 : Hid (RunI (fun k => k = Y) w10 X Y L A c (.slice A'' L.G c'') (.slice none 0 0) (.slice none 0 0) (runS L (newS L) (rs.take 0)) w10) :=
    ⟨Agr.refl _ _, HI10.out.lay, HI10.out.gx, HXY.out, (HBY9.out.below hb10).lt, (HBY9.out.below hb10).blk, rfl, (HST9.out.below hb10 (Nat.le_of_lt HBY9.out.lt)).stk (Nat.le_of_lt (HBY9.out.below hb10).lt) (fun k _ e => Nat.le_of_eq e.symm)⟩
   have HRS6 : Hid (RcsS w10 w0.heap.size Ar rs) := HRS0.out.below HI10.out.bel (Nat.le_refl _)
   have HRB : Hid (w0.heap.size ≤ Y) := Nat.le_of_lt (Nat.lt_of_le_of_lt HXL.out HXY.out)
   clear X9 Y9 KT KS hb10 HBX9 HBY9 HI9 HST9 hnf
   go_wp2
   go_loopw [55] (fun s55 wr => ∃ k : Nat, k ≤ rs.length ∧ s55 = .int .i64 k ∧ ∃ a b d, RunI (fun k => k = Y) w10 X Y L A c a b d (runS L (newS L) (rs.take k)) wr) (fun s55 _ => rs.length - (intOf s55).toNat)
   case atStart => exact ⟨0, by omega, rfl, _, _, _, HRI0.out⟩
   case round =>
    obtain ⟨k, hk, rfl, xa, xb, xd, hI⟩ := hrel
    obtain ⟨hok, hmsn, hntn⟩ := runS_few (L := L) (rs := rs) (k := k) hlen
    obtain ⟨A6, c6, A7, c7, A8, c8, hsc, -⟩ := hI.st.now.form
    obtain ⟨rfl, rfl, rfl⟩ : xa = .slice A6 (runS L (newS L) (rs.take k)).ls.length c6 ∧ xb = .slice A7 (runS L (newS L) (rs.take k)).ms.length c7 ∧ xd = .slice A8 (runS L (newS L) (rs.take k)).nt.length c8 := by
     injection hsc with hsc
     have g0 := congrArg (fun x => x[0]?) hsc
     have g1 := congrArg (fun x => x[1]?) hsc
     have g2 := congrArg (fun x => x[2]?) hsc
     simp at g0 g1 g2
     exact ⟨g0, g1, g2⟩
    have HOK := Lib.hid hok
    have HI := Lib.hid hI
    have HIL := Lib.hid hI.lt
    clear hok hI HRI0 hsc
    by_cases hkn : k < rs.length
    case neg =>
     have hkI : ¬ (k : Int) < (rs.length : Int) := by omega
     obtain rfl : k = rs.length := by omega
     rw [List.take_length] at HI HOK hmsn hntn
     clear hkn
     have HLX : Hid (LxI w0 X L A c wr) := ⟨HI10.out.bel.trans (HI.out.bel.mono HRB.out), HI.out.layr, HI.out.gxr⟩
     have HBT : Hid (Bx wr Y 45 (.slice A6 (runS L (newS L) rs).ls.length c6) (.slice A7 (runS L (newS L) rs).ms.length c7) (.slice A8 (runS L (newS L) rs).nt.length c8) (runS L (newS L) rs)) := ⟨HI.out.blk, HI.out.st.now⟩
     clear HI HIL HRS6 HI10
     generalize runS L (newS L) rs = St at *
     have hstf := ok_f HOK.out (by omega) (by omega) (by omega) (by omega)
     have HSF := Lib.hid hstf
     have HRW : Hid (∀ W, Below wr.heap.size wr W → RcdV W W.heap.size (.agg #[.int .u64 gen0, .int .u64 seq0, .slice Bw ws0.length bw, .slice Bm ms0.length bm, .slice Bn nt0.length bn]) ⟨gen0, seq0, ws0, ms0, nt0⟩) := fun W hW => (HR0.out.below (HLX.out.below hW).bel (Nat.le_refl _)).more (HLX.out.below hW).bel.size
     have HAR : Hid (applyR L St ⟨gen0, seq0, ws0, ms0, nt0⟩ = applyS L St ⟨gen0, seq0, ws0, ms0, nt0⟩) := by
      unfold applyR
      rw [Hid, if_pos HOK.out]
     have HPWF : Hid (∀ m ∈ St.ms, PlWf m.to) := rp_wf HX.out.ok (stOk_ms HOK.out)
     have HAPP : Hid (∀ W, Below wr.heap.size wr W → Calls Tryz.prog 19 #[.agg #[.int .i64 L.disks, .slice A L.n c, .int .i64 L.tiles, .int .i64 L.spare], .agg #[.slice A6 St.ls.length c6, .slice A7 St.ms.length c7, .slice A8 St.nt.length c8], .agg #[.int .u64 gen0, .int .u64 seq0, .slice Bw ws0.length bw, .slice Bm ms0.length bm, .slice Bn nt0.length bn]] W fun e w' => (∃ v', e = .returned (.tuple #[v', .int .i64 (applyS L St ⟨gen0, seq0, ws0, ms0, nt0⟩).2]) ∧ StE (fun k => k < W.heap.size) w' v' (applyS L St ⟨gen0, seq0, ws0, ms0, nt0⟩).1) ∧ Below W.heap.size W w' ∧ Below wr.heap.size wr w') := fun W hW => by
      have h := rApply (c := c) W HX.out (HLX.out.below hW).gs (HBT.out.below hW).st (HRW.out W hW) (Nat.le_refl _) HPWF.out HROK0.out hstf.n1 (by have := hstf.n2; omega) (by have := hstf.n3; omega)
      unfold layAgg at h
      rw [HAR.out] at h
      exact h.mono fun e w' hh => ⟨hh.1, hh.2, hW.trans (hh.2.mono hW.size)⟩
     have HAP2 : Hid (∀ W, Below wr.heap.size wr W → Calls Tryz.prog 18 #[.agg #[.int .i64 L.disks, .slice A L.n c, .int .i64 L.tiles, .int .i64 L.spare], .agg #[.slice A6 St.ls.length c6, .slice A7 St.ms.length c7, .slice A8 St.nt.length c8], .agg #[.int .u64 gen0, .int .u64 seq0, .slice Bw ws0.length bw, .slice Bm ms0.length bm, .slice Bn nt0.length bn]] W fun e w' => (∃ v', e = .returned (.tuple #[v', .int .i64 (applyS L St ⟨gen0, seq0, ws0, ms0, nt0⟩).2]) ∧ StK (fun _ => False) w' v' (applyS L St ⟨gen0, seq0, ws0, ms0, nt0⟩).1) ∧ Below W.heap.size W w') := fun W hW => by
      have h := r50apply (c := c) (fun _ => False) W HX.out (HLX.out.below hW).gs ((HBT.out.below hW).st.stk (Nat.le_refl _) (fun _ _ e => e.elim)) (fun _ e => e.elim) (HRW.out W hW) (Nat.le_refl _) HROK0.out hstf.n1 (by have := hstf.n2; omega) (by have := hstf.n3; omega)
      unfold layAgg at h
      rw [HAR.out] at h
      exact h
     have HNO := Lib.hid (fun h => applyS_ok (L := L) (S := St) (r := ⟨gen0, seq0, ws0, ms0, nt0⟩) HOK.out h)
     have HNZ := Lib.hid (fun h => applyS_zero (L := L) (S := St) (r := ⟨gen0, seq0, ws0, ms0, nt0⟩) h)
     obtain ⟨Sn, er, hap⟩ : ∃ Sn er, applyS L St ⟨gen0, seq0, ws0, ms0, nt0⟩ = (Sn, er) := ⟨_, _, rfl⟩
     rw [hap] at HAPP HAP2 HNO HNZ
     simp only at HAPP HAP2 HNO HNZ
     have HFR : Hid (∀ W, Below wr.heap.size wr W → Calls Tryz.prog 20 #[.agg #[.slice A6 St.ls.length c6, .slice A7 St.ms.length c7, .slice A8 St.nt.length c8]] W fun e w' => e = .returned (.agg #[.slice A6 St.ls.length c6, .slice A7 St.ms.length c7, .slice A8 St.nt.length c8]) ∧ Below W.heap.size W w' ∧ Below wr.heap.size wr w') := fun W hW => (lfrom_any _ _ _ W ⟨_, _, _, rfl⟩ ⟨_, _, _, rfl⟩ ⟨_, _, _, rfl⟩).mono fun e w' hh => ⟨hh.1, hh.2, hW.trans (hh.2.mono hW.size)⟩
     have HKS : Hid (∀ W, Below wr.heap.size wr W → (W.cell? ⟨X, 0, none⟩ = some (.int .i64 (L.disks : Int)) ∧ W.cell? ⟨X, 1, none⟩ = some (.slice A L.n c) ∧ W.cell? ⟨X, 2, none⟩ = some (.int .i64 (L.tiles : Int)) ∧ W.cell? ⟨X, 3, none⟩ = some (.int .i64 (L.spare : Int)) ∧ W.cell? ⟨Y, 0, none⟩ = some (.slice A6 St.ls.length c6) ∧ W.cell? ⟨Y, 1, none⟩ = some (.slice A7 St.ms.length c7) ∧ W.cell? ⟨Y, 2, none⟩ = some (.slice A8 St.nt.length c8) ∧ W.cell? ⟨w.heap.size, 0, none⟩ = some (.int .u64 gen0) ∧ W.cell? ⟨w.heap.size, 1, none⟩ = some (.int .u64 seq0) ∧ W.cell? ⟨w.heap.size, 2, none⟩ = some (.slice Bw ws0.length bw) ∧ W.cell? ⟨w.heap.size, 3, none⟩ = some (.slice Bm ms0.length bm) ∧ W.cell? ⟨w.heap.size, 4, none⟩ = some (.slice Bn nt0.length bn))) := fun W hW => by
      obtain ⟨l0, l1, l2, l3⟩ := (HLX.out.below hW).lay.cells
      obtain ⟨y0, y1, y2⟩ := (HBT.out.below hW).cells
      have hp := ((HLX.out.below hW).bel.block _ HPL.out).trans HP0.out
      exact ⟨l0, l1, l2, l3, y0, y1, y2, by rw [cell_of_row _ _ _ _ _ _ hp]; rfl, by rw [cell_of_row _ _ _ _ _ _ hp]; rfl, by rw [cell_of_row _ _ _ _ _ _ hp]; rfl, by rw [cell_of_row _ _ _ _ _ _ hp]; rfl, by rw [cell_of_row _ _ _ _ _ _ hp]; rfl⟩
     clear hap HAR HRW HPWF
     go_upto_region 19 with (fail)
     go_cut [15, 16] (fun s15 s16 wx => StQ wr 41 Sn er s15 s16 wx)
     case first =>
      clear HAP2 HSF HROK HROK0 HNO HNZ
      go_region_held3 (fun W => W.cell? ⟨X, 0, none⟩ = some (.int .i64 (L.disks : Int)) ∧ W.cell? ⟨X, 1, none⟩ = some (.slice A L.n c) ∧ W.cell? ⟨X, 2, none⟩ = some (.int .i64 (L.tiles : Int)) ∧ W.cell? ⟨X, 3, none⟩ = some (.int .i64 (L.spare : Int)) ∧ W.cell? ⟨Y, 0, none⟩ = some (.slice A6 St.ls.length c6) ∧ W.cell? ⟨Y, 1, none⟩ = some (.slice A7 St.ms.length c7) ∧ W.cell? ⟨Y, 2, none⟩ = some (.slice A8 St.nt.length c8) ∧ W.cell? ⟨w.heap.size, 0, none⟩ = some (.int .u64 gen0) ∧ W.cell? ⟨w.heap.size, 1, none⟩ = some (.int .u64 seq0) ∧ W.cell? ⟨w.heap.size, 2, none⟩ = some (.slice Bw ws0.length bw) ∧ W.cell? ⟨w.heap.size, 3, none⟩ = some (.slice Bm ms0.length bm) ∧ W.cell? ⟨w.heap.size, 4, none⟩ = some (.slice Bn nt0.length bn))
       (first | with_reducible exact HKS.out _ (Below.refl wr.heap.size wr) | with_reducible exact HKS.out _ (Below.refl wr.heap.size wr).drew | with_reducible exact HKS.out _ ((Below.refl wr.heap.size wr).alloc (Nat.le_refl _) _) | with_reducible exact HKS.out _ ((Below.refl wr.heap.size wr).alloc (Nat.le_refl _) _).drew | with_reducible exact HKS.out _ hbF | with_reducible exact HKS.out _ hbF.drew | with_reducible exact HKS.out _ (hbF.alloc hbF.size _) | with_reducible exact HKS.out _ (hbF.alloc hbF.size _).drew | with_reducible exact HKS.out _ hbB | with_reducible exact HKS.out _ (hbB.alloc hbB.size _) | with_reducible exact HKS.out _ (((hbB.setCell (Nat.le_refl _) _).setCell (Nat.le_refl _) _).setCell (Nat.le_refl _) _) | with_reducible exact HKS.out _ (((hbB.setCell hbF.size _).setCell hbF.size _).setCell hbF.size _) | with_reducible exact HKS.out _ ((((hbB.alloc hbB.size _).setCell hbB.size _).setCell hbB.size _).setCell hbB.size _) | (trace_state; fail))
       (first
        | (go_at_call 20; first
         | ((first | with_reducible refine (HFR.out _ (Below.refl wr.heap.size wr).drew).mono ?_ | with_reducible refine (HFR.out _ (Below.refl wr.heap.size wr)).mono ?_); rintro e wF ⟨rfl, hbP, hbF⟩)
         | ((first | with_reducible refine (HFR.out _ ((Below.refl wr.heap.size wr).alloc (Nat.le_refl _) _).drew).mono ?_ | with_reducible refine (HFR.out _ ((Below.refl wr.heap.size wr).alloc (Nat.le_refl _) _)).mono ?_); rintro e wF ⟨rfl, hbP, hbF⟩; have hzF : wF.heap[wr.heap.size]? = some (.cells #[.slice none 0 0, .slice none 0 0, .slice none 0 0] 41 (0, 0)) := (hbP.block _ (by simp)).trans (heap_alloc_new wr _); have hlF : wr.heap.size < wF.heap.size := (Array.getElem?_eq_some_iff.1 hzF).1)
         | (trace_state; fail))
        | (go_at_call 19; first
         | ((first | with_reducible refine (HAPP.out _ hbF.drew).mono ?_ | with_reducible refine (HAPP.out _ hbF).mono ?_); rintro e wB ⟨⟨vB, rfl, hse⟩, hbQ, hbB⟩; obtain ⟨D1, d1, D2, d2, D3, d3, rfl, -⟩ := hse.now.form; have hzB : wB.heap[wr.heap.size]? = some (.cells #[.slice none 0 0, .slice none 0 0, .slice none 0 0] 41 (0, 0)) := (hbQ.block _ (by exact hlF)).trans hzF; obtain ⟨z0, z1, z2⟩ := zero3 hzB; have f0 := frozen_blk hzB 0; have f1 := frozen_blk hzB 1; have f2 := frozen_blk hzB 2)
         | ((first | with_reducible refine (HAPP.out _ hbF.drew).mono ?_ | with_reducible refine (HAPP.out _ hbF).mono ?_); rintro e wB ⟨⟨vB, rfl, hse⟩, hbQ, hbB⟩; obtain ⟨D1, d1, D2, d2, D3, d3, rfl, -⟩ := hse.now.form)
         | ((first | with_reducible refine (HAPP.out _ (hbF.alloc hbF.size _).drew).mono ?_ | with_reducible refine (HAPP.out _ (hbF.alloc hbF.size _)).mono ?_); rintro e wB ⟨⟨vB, rfl, hse⟩, hbQ, hbB⟩; obtain ⟨D1, d1, D2, d2, D3, d3, rfl, -⟩ := hse.now.form; have hzB : wB.heap[wF.heap.size]? = some (.cells #[.slice none 0 0, .slice none 0 0, .slice none 0 0] 41 (0, 0)) := (hbQ.block _ (by simp)).trans (heap_alloc_new wF _); obtain ⟨z0, z1, z2⟩ := zero3 hzB; have f0 := frozen_blk hzB 0; have f1 := frozen_blk hzB 1; have f2 := frozen_blk hzB 2)
         | (trace_state; fail))
        | fail)
      all_goals
       go_wp2_with fail
       go_meet
       ·first
         | exact StQ.early hse hbB hzB (by first | exact hlF | simp) (by first | exact Nat.le_refl _ | exact hbF.size)
         | exact StQ.late hse hbB
         | (trace_state; fail)
     obtain ⟨D, D1, d1, D2, d2, D3, d3, rfl, rfl, hbx, hbC⟩ := hcut
     have HBX2 := Lib.hid hbx
     have HLX2 := Lib.hid (HLX.out.below hbC)
     have HBT2 := Lib.hid (HBT.out.below hbC)
     have HCA := Lib.hid (HAP2.out wc hbC)
     obtain ⟨l0, l1, l2, l3, y0, y1, y2, p0, p1, p2, p3, p4⟩ := HKS.out wc hbC
     clear hbx hbC HAP2 HKS HAPP HFR HLX HBT
     generalize wc = w12 at *
     go_wp2_with fail
     refine HCA.out.mono ?_
     rintro e w13 ⟨⟨v13, rfl, hse⟩, hb13⟩
     obtain ⟨C1, e1, C2, e2, C3, e3, rfl, hsv⟩ := hse.now.form
     have HSV := Lib.hid hsv
     have HLX3 := Lib.hid (HLX2.out.below hb13)
     have HBX3 := Lib.hid (HBX2.out.below hb13)
     have HBT3 := Lib.hid (HBT2.out.below hb13)
     clear hsv hse hb13 HCA HLX2 HBX2 HBT2 l0 l1 l2 l3 y0 y1 y2 p0 p1 p2 p3 p4
     go_upto_region 21 with (fail)
     have HBE4 : Hid (Bx (w13.alloc (.cells #[.slice C1 Sn.ls.length e1, .slice C2 Sn.ms.length e2, .slice C3 Sn.nt.length e3] 45)) w13.heap.size 45 (.slice C1 Sn.ls.length e1) (.slice C2 Sn.ms.length e2) (.slice C3 Sn.nt.length e3) Sn) := Bx.made HSV.out _
     have HLX4 : Hid (LxI w0 X L A c (w13.alloc (.cells #[.slice C1 Sn.ls.length e1, .slice C2 Sn.ms.length e2, .slice C3 Sn.nt.length e3] 45))) := HLX3.out.below below_laid
     have HBX4 : Hid (Bx (w13.alloc (.cells #[.slice C1 Sn.ls.length e1, .slice C2 Sn.ms.length e2, .slice C3 Sn.nt.length e3] 45)) D 41 (.slice D1 Sn.ls.length d1) (.slice D2 Sn.ms.length d2) (.slice D3 Sn.nt.length d3) Sn) := HBX3.out.below below_laid
     have HBT4 : Hid (Bx (w13.alloc (.cells #[.slice C1 Sn.ls.length e1, .slice C2 Sn.ms.length e2, .slice C3 Sn.nt.length e3] 45)) Y 45 (.slice A6 St.ls.length c6) (.slice A7 St.ms.length c7) (.slice A8 St.nt.length c8) St) := HBT3.out.below below_laid
     generalize w13.alloc _ = w14 at *
     generalize w13.heap.size = E at *
     clear HSV HLX3 HBX3 HBT3
     have HSN : Hid (StF Sn) := by
      by_cases h0 : er = 0
      ·obtain ⟨g1, g2, g3⟩ := HNO.out h0
       have h1 := HSF.out.n2
       exact ok_f g1 (by omega) (by omega) (by omega) (by omega)
      ·rw [HNZ.out h0]
       exact StF.zero
     have X4 := fun d xs => (HBX4.out.below (below_regrown w14 d xs)).cells
     have E4 := fun d xs => (HBE4.out.below (below_regrown w14 d xs)).cells
     have T4 := fun d xs => (HBT4.out.below (below_regrown w14 d xs)).cells
     have L4 := fun d xs => (HLX4.out.below (below_regrown w14 d xs)).lay.cells
     have KT := Lib.hid (fun d xs => lto_any (.slice D1 Sn.ls.length d1) (.slice D2 Sn.ms.length d2) (.slice D3 Sn.nt.length d3) (Sort.grow (redrawn w14 d) xs) ⟨_, _, _, rfl⟩ ⟨_, _, _, rfl⟩ ⟨_, _, _, rfl⟩)
     have KF := Lib.hid (fun d xs => lfrom_any (.slice A6 St.ls.length c6) (.slice A7 St.ms.length c7) (.slice A8 St.nt.length c8) (Sort.grow (redrawn w14 d) xs) ⟨_, _, _, rfl⟩ ⟨_, _, _, rfl⟩ ⟨_, _, _, rfl⟩)
     have KS := Lib.hid (fun d xs => r50same (Sort.grow (redrawn w14 d) xs) (HBX4.out.below (below_regrown w14 d xs)).st (HBE4.out.below (below_regrown w14 d xs)).st (Nat.le_refl _) HSN.out.lv (by have := HSN.out.n1; omega) (by have := HSN.out.n2; omega) (by have := HSN.out.n3; omega))
     have hvt := fun d xs => rvalidS (c := c) (Sort.grow (redrawn w14 d) xs) HX.out (HLX4.out.below (below_regrown w14 d xs)).gs (HBT4.out.below (below_regrown w14 d xs)).st (rp_wf HX.out.ok (stOk_ms HOK.out)) (Nat.le_refl _) HSF.out.n1 (by have := HSF.out.n2; omega) (by have := HSF.out.n3; omega)
     unfold layAgg at hvt
     rw [HOK.out] at hvt
     have KV := Lib.hid hvt
     clear hvt
     by_cases her : er = 0
     ·subst her
      obtain ⟨g1, -, -⟩ := HNO.out rfl
      have hva := fun d xs => rvalidS (c := c) (Sort.grow (redrawn w14 d) xs) HX.out (HLX4.out.below (below_regrown w14 d xs)).gs (HBX4.out.below (below_regrown w14 d xs)).st (rp_wf HX.out.ok (stOk_ms g1)) (Nat.le_refl _) HSN.out.n1 (by have := HSN.out.n2; omega) (by have := HSN.out.n3; omega)
      unfold layAgg at hva
      rw [g1] at hva
      have KA := Lib.hid hva
      clear hva g1 HNO HNZ
      refine quiet_below (by kernel_rfl) (by kernel_rfl) ?_
      repeat (go_big_quiet_step (first | (go_at_call 17; exact Calls.regrown_of (KT.out _ _)) | (go_at_call 20; exact Calls.regrown_of (KF.out _ _)) | (go_at_call 16; exact Calls.regrown_of (KS.out _ _)) | (go_at_call 21; first | with_reducible exact Calls.regrown_of (KV.out _ _) | with_reducible exact Calls.regrown_of (KA.out _ _))))
      refine wpQuiet_nil ?_
      intro w15 hb15
      have HF := Lib.hid (HLX4.out.below hb15).bel
      clear X4 E4 T4 L4 KT KF KS KV KA hb15
      go_wp2
      go_ret
      exact ⟨rfl, HB0.out.trans (HF.out.mono HB0.out.size)⟩
     ·have f1 : (er != 0) = true := by simpa using her
      have f2 : (er == 0) = false := by simpa using her
      clear HNO HNZ her
      refine quiet_below (by kernel_rfl) (by kernel_rfl) ?_
      repeat (go_big_quiet_step (first | (go_at_call 17; exact Calls.regrown_of (KT.out _ _)) | (go_at_call 20; exact Calls.regrown_of (KF.out _ _)) | (go_at_call 16; exact Calls.regrown_of (KS.out _ _)) | (go_at_call 21; exact Calls.regrown_of (KV.out _ _))))
      refine wpQuiet_nil ?_
      intro w15 hb15
      have HF := Lib.hid (HLX4.out.below hb15).bel
      clear X4 E4 T4 L4 KT KF KS KV hb15
      go_wp2
      go_ret
      exact ⟨rfl, HB0.out.trans (HF.out.mono HB0.out.size)⟩
    case pos =>
     have hkI : (k : Int) < (rs.length : Int) := by omega
     have hk0 : ¬ (k : Int) < 0 := by omega
     obtain ⟨r, hrk⟩ : ∃ r, rs[k]? = some r := ⟨_, List.getElem?_eq_getElem hkn⟩
     have HROR := Lib.hid (HROK.out r (List.mem_of_getElem? hrk))
     have HSN := Lib.hid (runS_succ (L := L) (S := newS L) hrk)
     obtain ⟨b, off, Aw, cw, Am, cm, An, cn, rfl, hbB0, hcl⟩ := RcsS.at2 (HRS6.out.below HI.out.bel HRB.out) hrk (Nat.le_trans HRB.out (Nat.le_of_lt HIL.out.2))
     have HCL := Lib.hid hcl
     obtain ⟨x0, x1, x2, x3, x4, -⟩ := hcl wr (Below.refl _ _)
     generalize runS L (newS L) (rs.take k) = Sk at *
     obtain ⟨gen, seq, ws, ms, nt⟩ := r
     simp only at x0 x1 x2 x3 x4 HCL HROR HSN
     have HCA := Lib.hid (fun (W : World) (hW : Below wr.heap.size wr W) => HI.out.apply HX.out (rv := .agg #[.int .u64 gen, .int .u64 seq, .slice Aw ws.length cw, .slice Am ms.length cm, .slice An nt.length cn]) (r := ⟨gen, seq, ws, ms, nt⟩) HOK.out (by omega) (by omega) HROR.out ((HCL.out wr (Below.refl _ _)).2.2.2.2.2.1.more (Nat.le_trans HRB.out (Nat.le_of_lt HIL.out.2))) hW)
     unfold stepS at HSN
     obtain ⟨Sn, er, hap⟩ : ∃ Sn er, applyS L Sk ⟨gen, seq, ws, ms, nt⟩ = (Sn, er) := ⟨_, _, rfl⟩
     rw [hap] at HSN HCA
     simp only at HSN HCA
     clear hcl hap hrk
     have HKS : Hid (∀ W, Below wr.heap.size wr W → (W.cell? ⟨X, 0, none⟩ = some (.int .i64 (L.disks : Int)) ∧ W.cell? ⟨X, 1, none⟩ = some (.slice A L.n c) ∧ W.cell? ⟨X, 2, none⟩ = some (.int .i64 (L.tiles : Int)) ∧ W.cell? ⟨X, 3, none⟩ = some (.int .i64 (L.spare : Int)) ∧ W.cell? ⟨Y, 0, none⟩ = some (.slice A6 Sk.ls.length c6) ∧ W.cell? ⟨Y, 1, none⟩ = some (.slice A7 Sk.ms.length c7) ∧ W.cell? ⟨Y, 2, none⟩ = some (.slice A8 Sk.nt.length c8) ∧ W.cell? ⟨b, off + k * 5, none⟩ = some (.int .u64 gen) ∧ W.cell? ⟨b, off + k * 5 + 1, none⟩ = some (.int .u64 seq) ∧ W.cell? ⟨b, off + k * 5 + 2, none⟩ = some (.slice Aw ws.length cw) ∧ W.cell? ⟨b, off + k * 5 + 3, none⟩ = some (.slice Am ms.length cm) ∧ W.cell? ⟨b, off + k * 5 + 4, none⟩ = some (.slice An nt.length cn))) := fun W hW => by
      have hI2 := HI.out.call hW
      obtain ⟨l0, l1, l2, l3⟩ := LayB.cells (L := L) hI2.layr
      obtain ⟨m0, m1, m2⟩ := hI2.cells
      obtain ⟨y0, y1, y2, y3, y4, -⟩ := HCL.out W hW
      exact ⟨l0, l1, l2, l3, m0, m1, m2, y0, y1, y2, y3, y4⟩
     clear x0 x1 x2 x3 x4
     go_upto_region 15 with (fail)
     go_cut [13, 14] (fun s13 s14 wx => RuQ (fun k => k = Y) wr Sn er s13 s14 wx)
     case first =>
      have HFL : Hid (∀ k, (fun k => k = Y) k → k < wr.heap.size) := fun k e => by have h := HIL.out.2; have e1 : k = Y := e; omega
      clear HSN HCL HRS6 HROK HROR HOK
      go_region_held3 (fun W => W.cell? ⟨X, 0, none⟩ = some (.int .i64 (L.disks : Int)) ∧ W.cell? ⟨X, 1, none⟩ = some (.slice A L.n c) ∧ W.cell? ⟨X, 2, none⟩ = some (.int .i64 (L.tiles : Int)) ∧ W.cell? ⟨X, 3, none⟩ = some (.int .i64 (L.spare : Int)) ∧ W.cell? ⟨Y, 0, none⟩ = some (.slice A6 Sk.ls.length c6) ∧ W.cell? ⟨Y, 1, none⟩ = some (.slice A7 Sk.ms.length c7) ∧ W.cell? ⟨Y, 2, none⟩ = some (.slice A8 Sk.nt.length c8) ∧ W.cell? ⟨b, off + k * 5, none⟩ = some (.int .u64 gen) ∧ W.cell? ⟨b, off + k * 5 + 1, none⟩ = some (.int .u64 seq) ∧ W.cell? ⟨b, off + k * 5 + 2, none⟩ = some (.slice Aw ws.length cw) ∧ W.cell? ⟨b, off + k * 5 + 3, none⟩ = some (.slice Am ms.length cm) ∧ W.cell? ⟨b, off + k * 5 + 4, none⟩ = some (.slice An nt.length cn))
       (first | with_reducible exact HKS.out _ (Below.refl wr.heap.size wr) | with_reducible exact HKS.out _ (Below.refl wr.heap.size wr).drew | with_reducible exact HKS.out _ ((Below.refl wr.heap.size wr).alloc (Nat.le_refl _) _) | with_reducible exact HKS.out _ ((Below.refl wr.heap.size wr).alloc (Nat.le_refl _) _).drew | with_reducible exact HKS.out _ hbB | with_reducible exact HKS.out _ (hbB.alloc hbB.size _) | with_reducible exact HKS.out _ (((hbB.setCell (Nat.le_refl _) _).setCell (Nat.le_refl _) _).setCell (Nat.le_refl _) _) | with_reducible exact HKS.out _ ((((hbB.alloc hbB.size _).setCell hbB.size _).setCell hbB.size _).setCell hbB.size _) | (trace_state; fail))
       (first
        | (go_at_call 18; first
         | ((first | with_reducible refine (HCA.out _ (Below.refl wr.heap.size wr).drew).mono ?_ | with_reducible refine (HCA.out _ (Below.refl wr.heap.size wr)).mono ?_); rintro e wB ⟨⟨vB, rfl, hsB⟩, hbQ, hbB⟩; obtain ⟨D1, e1, D2, e2, D3, e3, rfl, -⟩ := hsB.now.form)
         | ((first | with_reducible refine (HCA.out _ ((Below.refl wr.heap.size wr).alloc (Nat.le_refl _) _).drew).mono ?_ | with_reducible refine (HCA.out _ ((Below.refl wr.heap.size wr).alloc (Nat.le_refl _) _)).mono ?_); rintro e wB ⟨⟨vB, rfl, hsB⟩, hbQ, hbB⟩; obtain ⟨D1, e1, D2, e2, D3, e3, rfl, -⟩ := hsB.now.form; have hz : wB.heap[wr.heap.size]? = some (.cells #[.slice none 0 0, .slice none 0 0, .slice none 0 0] 45 (0, 0)) := (hbQ.block _ (by simp)).trans (heap_alloc_new wr _); obtain ⟨z0, z1, z2⟩ := zero3 hz; have f0 := frozen_blk hz 0; have f1 := frozen_blk hz 1; have f2 := frozen_blk hz 2)
         | (trace_state; fail))
        | fail)
      all_goals
       go_wp2_with fail
       go_meet
       ·first
         | exact RuQ.early hsB (by simp) HFL.out hbB hz
         | exact RuQ.late hsB (by simp) HFL.out hbB
         | (trace_state; fail)
     obtain ⟨D, D1, d1, D2, d2, D3, d3, rfl, rfl, hDl, hDr, hDs, hDb⟩ := hcut
     have HI2 := Lib.hid (HI.out.call hDb)
     have HDS := Lib.hid hDs
     have dd0 : wc.cell? ⟨D, 0, none⟩ = some (.slice D1 Sn.ls.length d1) := by rw [cell_of_row _ _ _ _ _ _ hDr]; rfl
     have dd1 : wc.cell? ⟨D, 1, none⟩ = some (.slice D2 Sn.ms.length d2) := by rw [cell_of_row _ _ _ _ _ _ hDr]; rfl
     have dd2 : wc.cell? ⟨D, 2, none⟩ = some (.slice D3 Sn.nt.length d3) := by rw [cell_of_row _ _ _ _ _ _ hDr]; rfl
     clear hDl hDr hDs hDb HKS HCA HI HIL
     generalize wc = w7 at *
     by_cases her : er = 0
     ·subst her
      have HT : Hid (runS L (newS L) (rs.take (k + 1)) = Sn) := by rw [Hid, HSN.out]; simp
      obtain ⟨s0, s1, s2⟩ := HI2.out.cells
      have f0 := frozen_blk HI2.out.blk 0
      have f1 := frozen_blk HI2.out.blk 1
      have f2 := frozen_blk HI2.out.blk 2
      have HNX := Lib.hid (HI2.out.next (Below.refl _ _) HDS.out)
      clear HSN HI2 HDS
      go_wp2
      go_roundw
      case rel => exact ⟨k + 1, by omega, by go_num, _, _, _, by rw [HT.out]; exact HNX.out⟩
      case measure => simp [intOf] <;> omega
     ·have g1 : (er == 0) = false := by simpa using her
      have HT : Hid (runS L (newS L) (rs.take (k + 1)) = Sk) := by rw [Hid, HSN.out, if_neg her]
      clear HSN HDS dd0 dd1 dd2 her
      go_wp2
      go_roundw
      case rel => exact ⟨k + 1, by omega, by go_num, _, _, _, by rw [HT.out]; exact HI2.out⟩
      case measure => simp [intOf] <;> omega
end Go.Proofs.YtjgjofepedcfnaaGreat
