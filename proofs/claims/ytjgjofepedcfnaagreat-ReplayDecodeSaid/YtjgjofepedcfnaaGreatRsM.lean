/- Walk of tegulalaw50.ReplayDecode. -/
import Derived.Test.YtjgjofepedcfnaaGreatRsL
import Derived.Test.YtjgjofepedcfnaaGreatRqX
import Derived.Test.YtjgjofepedcfnaaGreatOpnR
namespace Go.Proofs.YtjgjofepedcfnaaGreat
open Go.RowKit
theorem decP_few {L : LayD} {l : List Nat} (hw : L.w ≤ 16) (hG : L.G ≤ 100) (hl : l.length ≤ 80000) : StF (decP L l).1 := by
 unfold decP decF
 split
 ·rename_i h
  have h1 : (dM L l).1.length ≤ 1600 := by
   have : (dM L l).1.length = (dN L l).1 := mvP_len _ _
   have := rdC_most (dA L l).2 (L.G * L.w)
   have : L.G * L.w ≤ 100 * 16 := Nat.mul_le_mul hG hw
   have : (dN L l).1 = (rdC (L.G * L.w) (dA L l).2).1 := rfl
   omega
  have h2 : (dT L l).1.length ≤ 80000 := by
   have g1 : (dT L l).1.length = (dH L l).1 := ntS_len _
   have g2 : (dH L l).1 ≤ (rdL (dM L l).2).length := rdC_most _ _
   have g3 : (rdL (dM L l).2).length ≤ (rdL (dN L l).2.2).length := mvP_le _ _
   have g4 : (rdL (dN L l).2.2).length ≤ (rdL (dA L l).2).length := rdC_le _ _
   have g5 : (rdL (dA L l).2).length ≤ l.length := lsS_le L.w (some l) L.G
   omega
  exact ok_f h.2 hw (by omega) (Nat.le_trans h1 (by decide)) (Nat.le_trans h2 (by decide))
 ·exact StF.zero
theorem small_G (x : Nat) : (smallL (kL x)).G ≤ 100 := by
 obtain ⟨w, r, lam, h1, h2, h3, h4, h0, h9, h5, h6, h7⟩ := small_des (kL x)
 have ht := kL_tiles x
 have hn : (smallL (kL x)).n ≤ 30 := by show (smallDes (kL x)).2.length ≤ 30; omega
 unfold LayD.G
 rw [ht]
 have : (1 + x / 4 % 2) * (smallL (kL x)).n ≤ 2 * 30 := Nat.mul_le_mul (by omega) hn
 rw [Nat.mul_comm] at this
 first | omega | (rw [Nat.mul_comm]; omega)
set_option maxHeartbeats 2000000 in
set_option maxRecDepth 100000 in
theorem rdec_zero (A : Option Addr) (n c : Nat) (w : World) : Calls Tryz.prog 29 #[.agg #[.int .i64 0, .slice none 0 0, .int .i64 0, .int .i64 0], .slice A n c] w fun r w' => r = .returned (.tuple #[.agg #[.slice none 0 0, .slice none 0 0, .slice none 0 0], .slice none 0 0, .int .i64 5]) ∧ Below w.heap.size w w' := by
 have HVZ := Lib.hid (fun W => lvalid_zero W)
 go_enter Tryz.func29, Tryz.ntmps29
 go_upto_region 1 with (fail)
 obtain ⟨w1, hw1', ha, hc, hb, hz⟩ := two_laid w (.cells #[.int .i64 0, .slice none 0 0, .int .i64 0, .int .i64 0] 36) (.cells #[.slice none 0 0, .slice none 0 0, .slice none 0 0] 41)
 rw [hw1']
 have HC := Lib.hid hc
 have HB := Lib.hid hb
 have hz1 : w.heap.size + 2 ≤ w1.heap.size := Nat.le_of_eq hz.symm
 have l0 : w1.cell? ⟨w.heap.size, 0, none⟩ = some (.int .i64 0) := by rw [cell_of_row _ _ _ _ _ _ ha]; rfl
 have l1 : w1.cell? ⟨w.heap.size, 1, none⟩ = some (.slice none 0 0) := by rw [cell_of_row _ _ _ _ _ _ ha]; rfl
 have l2 : w1.cell? ⟨w.heap.size, 2, none⟩ = some (.int .i64 0) := by rw [cell_of_row _ _ _ _ _ _ ha]; rfl
 have l3 : w1.cell? ⟨w.heap.size, 3, none⟩ = some (.int .i64 0) := by rw [cell_of_row _ _ _ _ _ _ ha]; rfl
 clear ha hc hb hz hw1'
 go_wp2_with fail
 refine (HVZ.out w1).mono ?_
 rintro r w2 ⟨rfl, hb2⟩
 have HC2 := Lib.hid ((hb2.block _ (by omega)).trans HC.out)
 have HB2 := Lib.hid (HB.out.trans (hb2.mono HB.out.size))
 have r0 : w2.cell? ⟨w.heap.size + 1, 0, none⟩ = some (.slice none 0 0) := by rw [cell_of_row _ _ _ _ _ _ HC2.out]; rfl
 have r1 : w2.cell? ⟨w.heap.size + 1, 1, none⟩ = some (.slice none 0 0) := by rw [cell_of_row _ _ _ _ _ _ HC2.out]; rfl
 have r2 : w2.cell? ⟨w.heap.size + 1, 2, none⟩ = some (.slice none 0 0) := by rw [cell_of_row _ _ _ _ _ _ HC2.out]; rfl
 have f0 := frozen_blk HC2.out 0
 have f1 := frozen_blk HC2.out 1
 have f2 := frozen_blk HC2.out 2
 have HBF : Hid (Below w.heap.size w (((w2.setCell ⟨w.heap.size + 1, 0, none⟩ (.slice none 0 0)).setCell ⟨w.heap.size + 1, 1, none⟩ (.slice none 0 0)).setCell ⟨w.heap.size + 1, 2, none⟩ (.slice none 0 0))) := ((HB2.out.setCell (by simp) _).setCell (by simp) _).setCell (by simp) _
 clear hb2 HC HB hz1 l0 l1 l2 l3 HVZ HC2
 go_wp2
 (try simp only [Exit.inBlock, Exit.then])
 refine bodyPost_ret (v := .tuple #[.agg #[.slice none 0 0, .slice none 0 0, .slice none 0 0], .slice none 0 0, .int .i64 5]) ?_ rfl ⟨rfl, HBF.out⟩
 rw [results_cell_tmp2 rfl]
 go_simp
set_option maxHeartbeats 8000000 in
set_option maxRecDepth 100000 in
theorem lreplayDecode (n0 : Nat) (hn0 : n0 < 256) (A0 : Option Addr) (l : List Nat) (c0 : Nat) (w : World) (hb : BytS w w.heap.size A0 l) (hc : ∀ b ∈ l, b < 256) (hlm : l.length ≤ maxLen) :
  Calls Tryz.prog 8 #[.int .u8 (n0 : Int), .slice A0 l.length c0] w fun r w' => r = .returned (.bool true) ∧ Below w.heap.size w w' := by
 have HX := Lib.hid (small_layX (kL n0))
 have hG := small_G n0
 have HSM : Hid (∀ W, Calls Tryz.prog 13 #[.int .u8 (n0 : Int)] W fun r w' => SmkP n0 W r w') := fun W => r50small n0 hn0 W
 unfold SmkP at HSM
 generalize smallL (kL n0) = L at *
 have HAW : Hid (∀ W, Calls Tryz.prog 10 #[] W fun r w' => r = .returned (.bool true) ∧ Below W.heap.size W w') := fun W => lawake W
 have HY := Lib.hid hb
 have HC := Lib.hid hc
 have HLM : Hid (l.length ≤ 9223372036854775807) := hlm
 clear hb hc hlm
 go_enter Tryz.func8, Tryz.ntmps8
 go_wp2_with fail
 refine (HAW.out w).mono ?_
 rintro r w1 ⟨rfl, hb1⟩
 have HB1 := Lib.hid hb1
 clear hb1 HAW
 by_cases hl : 1500 < l.length
 case pos =>
  have hlI : (1500 : Int) < (l.length : Int) := by omega
  clear hl
  go_wp2
  go_ret
  exact ⟨rfl, HB1.out⟩
 case neg =>
  have hlI : ¬ (1500 : Int) < (l.length : Int) := by omega
  have hlay := HX.out.ok
  have hw16 := hlay.w
  go_wp2_with fail
  refine (HSM.out w1).mono ?_
  rintro r w4 ⟨A, c, rfl, hgs, hb4⟩
  unfold layAgg
  have HB4 := Lib.hid (HB1.out.trans (hb4.mono HB1.out.size))
  have HGS := Lib.hid hgs
  clear hgs hb4 HSM HB1
  go_upto_region 6 with (fail)
  generalize hW5 : w4.alloc _ = w5
  have HI5 : Hid (LxI w w4.heap.size L A c w5) := by
   refine ⟨?_, ?_, ?_⟩
   ·rw [← hW5]; exact HB4.out.trans (below_laid.mono HB4.out.size)
   ·rw [← hW5]; exact heap_alloc_new w4 _
   ·rw [← hW5]; exact HGS.out.below below_laid (Nat.le_refl _)
  clear hW5 HGS HB4
  generalize w4.heap.size = X at *
  have HTF : Hid (StF (decP L l).1) := decP_few (by omega) hG (by omega)
  have HY5 : Hid (∀ W, LxI w X L A c W → BytS W W.heap.size A0 l) := fun W hW => (HY.out.below' hW.bel (Nat.le_refl _)).more hW.bel.size
  have HDC : Hid (∀ W, LxI w X L A c W → Calls Tryz.prog 29 #[.agg #[.int .i64 L.disks, .slice A L.n c, .int .i64 L.tiles, .int .i64 L.spare], .slice A0 l.length c0] W fun e w' => DecR W (decP L l) e w' ∧ Below W.heap.size W w') := fun W hW => rDecode (c := c) (cb := c0) W HX.out hW.gs (Nat.le_refl _) (HY5.out W hW) (by omega) HC.out hG
  have HDR : Hid (∀ W, LxI w X L A c W → Calls Tryz.prog 30 #[.agg #[.int .i64 L.disks, .slice A L.n c, .int .i64 L.tiles, .int .i64 L.spare], .slice A0 l.length c0] W fun e w' => DecR W (decP L l) e w' ∧ Below W.heap.size W w') := fun W hW => r50Decode (c := c) (cb := c0) W HX.out hW.gs (Nat.le_refl _) (HY5.out W hW) (by omega) HC.out hG
  unfold DecR at HDC HDR
  generalize decP L l = T at *
  obtain ⟨Sd, ud, ed⟩ := T
  simp only at HTF HDC HDR
  clear HY5 HY HC HLM hl hlay hw16
  obtain ⟨l0, l1, l2, l3⟩ := HI5.out.lay.cells
  go_wp2_with fail
  refine (HDC.out w5 HI5.out).mono ?_
  rintro r w6 ⟨⟨v, Au, cu, rfl, hse, hsb⟩, hb6⟩
  obtain ⟨D1, d1, D2, d2, D3, d3, rfl, -⟩ := hse.now.form
  have HI6 := Lib.hid (HI5.out.below hb6)
  have HSE := Lib.hid hse.now
  have HSB := Lib.hid hsb.now
  clear hse hsb hb6 HI5 l0 l1 l2 l3 HDC
  go_upto_region 7 with (fail)
  have HI7 : Hid (LxI w X L A c (w6.alloc (.cells #[.slice D1 Sd.ls.length d1, .slice D2 Sd.ms.length d2, .slice D3 Sd.nt.length d3] 41))) := HI6.out.below below_laid
  have HBD : Hid (Bx (w6.alloc (.cells #[.slice D1 Sd.ls.length d1, .slice D2 Sd.ms.length d2, .slice D3 Sd.nt.length d3] 41)) w6.heap.size 41 (.slice D1 Sd.ls.length d1) (.slice D2 Sd.ms.length d2) (.slice D3 Sd.nt.length d3) Sd) := Bx.made HSE.out _
  have HUB : Hid (BytS (w6.alloc (.cells #[.slice D1 Sd.ls.length d1, .slice D2 Sd.ms.length d2, .slice D3 Sd.nt.length d3] 41)) (w6.alloc (.cells #[.slice D1 Sd.ls.length d1, .slice D2 Sd.ms.length d2, .slice D3 Sd.nt.length d3] 41)).heap.size Au ud) := byt_keep HSB.out below_laid
  generalize w6.alloc _ = w7 at *
  generalize w6.heap.size = Y at *
  clear HSE HSB HI6
  obtain ⟨l0, l1, l2, l3⟩ := HI7.out.lay.cells
  go_wp2_with fail
  refine (HDR.out w7 HI7.out).mono ?_
  rintro r w8 ⟨⟨v, Av, cv, rfl, hse, hsb⟩, hb8⟩
  obtain ⟨E1, f1, E2, f2, E3, f3, rfl, -⟩ := hse.now.form
  have HI8 := Lib.hid (HI7.out.below hb8)
  have HBD8 := Lib.hid (HBD.out.below hb8)
  have HUB8 := Lib.hid (byt_keep HUB.out hb8)
  have HSE := Lib.hid hse.now
  have HSB := Lib.hid hsb.now
  clear hse hsb hb8 HI7 HBD HUB l0 l1 l2 l3 HDR
  go_upto_region 8 with (fail)
  have HI9 : Hid (LxI w X L A c (w8.alloc (.cells #[.slice E1 Sd.ls.length f1, .slice E2 Sd.ms.length f2, .slice E3 Sd.nt.length f3] 45))) := HI8.out.below below_laid
  have HBD9 : Hid (Bx (w8.alloc (.cells #[.slice E1 Sd.ls.length f1, .slice E2 Sd.ms.length f2, .slice E3 Sd.nt.length f3] 45)) Y 41 (.slice D1 Sd.ls.length d1) (.slice D2 Sd.ms.length d2) (.slice D3 Sd.nt.length d3) Sd) := HBD8.out.below below_laid
  have HBE9 : Hid (Bx (w8.alloc (.cells #[.slice E1 Sd.ls.length f1, .slice E2 Sd.ms.length f2, .slice E3 Sd.nt.length f3] 45)) w8.heap.size 45 (.slice E1 Sd.ls.length f1) (.slice E2 Sd.ms.length f2) (.slice E3 Sd.nt.length f3) Sd) := Bx.made HSE.out _
  have HUB9 : Hid (BytS (w8.alloc (.cells #[.slice E1 Sd.ls.length f1, .slice E2 Sd.ms.length f2, .slice E3 Sd.nt.length f3] 45)) (w8.alloc (.cells #[.slice E1 Sd.ls.length f1, .slice E2 Sd.ms.length f2, .slice E3 Sd.nt.length f3] 45)).heap.size Au ud) := byt_keep HUB8.out below_laid
  have HVB9 : Hid (BytS (w8.alloc (.cells #[.slice E1 Sd.ls.length f1, .slice E2 Sd.ms.length f2, .slice E3 Sd.nt.length f3] 45)) (w8.alloc (.cells #[.slice E1 Sd.ls.length f1, .slice E2 Sd.ms.length f2, .slice E3 Sd.nt.length f3] 45)).heap.size Av ud) := byt_keep HSB.out below_laid
  generalize w8.alloc _ = w9 at *
  generalize w8.heap.size = Z at *
  clear HSE HSB HI8 HBD8 HUB8
  have HZD := Lib.hid (rdec_zero A0 l.length c0 w9)
  go_wp2_with fail
  refine HZD.out.mono ?_
  rintro r w10 ⟨rfl, hb10⟩
  go_upto_region 9 with (fail)
  have hb11 : Below w9.heap.size w9 (w10.alloc (.cells #[.slice none 0 0, .slice none 0 0, .slice none 0 0] 41)) := hb10.alloc hb10.size _
  generalize w10.alloc _ = w11 at *
  have HB11 : Hid (Below w.heap.size w w11) := HI9.out.bel.trans (hb11.mono HI9.out.bel.size)
  have HBD11 := Lib.hid (HBD9.out.below hb11)
  have HBE11 := Lib.hid (HBE9.out.below hb11)
  have HUB11 := Lib.hid (byt_keep HUB9.out hb11)
  have HVB11 := Lib.hid (byt_keep HVB9.out hb11)
  clear hb10 hb11 HZD HI9 HBD9 HBE9 HUB9 HVB9
  have X11 := fun d xs => (HBD11.out.below (below_regrown w11 d xs)).cells
  have Y11 := fun d xs => (HBE11.out.below (below_regrown w11 d xs)).cells
  have KT := Lib.hid (fun d xs => lto_any (.slice D1 Sd.ls.length d1) (.slice D2 Sd.ms.length d2) (.slice D3 Sd.nt.length d3) (Sort.grow (redrawn w11 d) xs) ⟨_, _, _, rfl⟩ ⟨_, _, _, rfl⟩ ⟨_, _, _, rfl⟩)
  have KS := Lib.hid (fun d xs => r50same (Sort.grow (redrawn w11 d) xs) (HBD11.out.below (below_regrown w11 d xs)).st (HBE11.out.below (below_regrown w11 d xs)).st (Nat.le_refl _) HTF.out.lv (by have := HTF.out.n1; omega) (by have := HTF.out.n2; omega) (by have := HTF.out.n3; omega))
  have KU := fun d xs => conv_nt (P := Tryz.prog) (src := 26) (dst := 9) Tryz.underlying26 Tryz.underlying5 Tryz.underlying9 (RdS.below' HUB11.out (below_regrown w11 d xs) (Nat.le_refl _)) cu
  have KV := fun d xs => conv_nt (P := Tryz.prog) (src := 26) (dst := 9) Tryz.underlying26 Tryz.underlying5 Tryz.underlying9 (RdS.below' HVB11.out (below_regrown w11 d xs) (Nat.le_refl _)) cv
  generalize strOfNums (ud.map fun x : Nat => (x : Int)) = sv at *
  refine quiet_below (by kernel_rfl) (by kernel_rfl) ?_
  repeat (go_big_quiet_step (first | (go_at_call 17; exact Calls.regrown_of (KT.out _ _)) | (go_at_call 16; exact Calls.regrown_of (KS.out _ _))))
  refine wpQuiet_nil ?_
  intro w12 hb12
  have HBF := Lib.hid (HB11.out.trans (hb12.mono HB11.out.size))
  clear X11 Y11 KT KS KU KV hb12 HB11 HBD11 HBE11 HUB11 HVB11
  go_wp2
  go_ret
  exact ⟨rfl, HBF.out⟩
end Go.Proofs.YtjgjofepedcfnaaGreat
