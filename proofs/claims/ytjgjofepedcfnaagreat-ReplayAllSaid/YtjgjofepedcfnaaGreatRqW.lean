/- Walk of tegulalaw50.ReplayAll. -/
import Derived.Test.YtjgjofepedcfnaaGreatRqV
namespace Go.Proofs.YtjgjofepedcfnaaGreat
open Go.RowKit
attribute [local go_sem] run_eq_block
set_option maxHeartbeats 4000000 in
set_option maxRecDepth 100000 in
theorem lreplayAll (n0 : Nat) (hn0 : n0 < 256) (rs : List Rcd) (Ar : Option Addr) (cr : Nat) (w : World) (hrs : RcsS w w.heap.size Ar rs) (hin : ∀ r ∈ rs, r.seq < 18446744073709551616 ∧ ∀ x ∈ r.ws, x.d.ok) (hlen : rs.length ≤ 9223372036854775807) :
  Calls Tryz.prog 5 #[.int .u8 (n0 : Int), .slice Ar rs.length cr] w fun r w' => r = .returned (.bool true) ∧ Below w.heap.size w w' := by
 have HX := Lib.hid (small_layX (kL n0))
 have HSM : Hid (∀ W, Calls Tryz.prog 13 #[.int .u8 (n0 : Int)] W fun r w' => SmkP n0 W r w') := fun W => r50small n0 hn0 W
 unfold SmkP at HSM
 generalize smallL (kL n0) = L at *
 have HAW : Hid (∀ W, Calls Tryz.prog 10 #[] W fun r w' => r = .returned (.bool true) ∧ Below W.heap.size W w') := fun W => lawake W
 have HFW : Hid (∀ W, Below w.heap.size w W → Calls Tryz.prog 11 #[.slice Ar rs.length cr] W fun e w' => e = .returned (.bool (fewB rs)) ∧ Below W.heap.size W w') := fun W hW => lfew W (hrs.below hW (Nat.le_refl _)) hW.size hlen
 have HFT := Lib.hid (fun h => few_ok (rs := rs) h hin)
 have HRS := Lib.hid hrs
 obtain ⟨fb, hfb⟩ : ∃ q, fewB rs = q := ⟨_, rfl⟩
 rw [hfb] at HFW HFT
 clear hrs hin hfb hlen
 go_enter Tryz.func5, Tryz.ntmps5
 go_wp2_with fail
 refine (HAW.out w).mono ?_
 rintro r w1 ⟨rfl, hb1⟩
 have HB1 := Lib.hid hb1
 clear hb1 HAW
 go_wp2_with fail
 refine (HFW.out w1 HB1.out).mono ?_
 rintro r w2 ⟨rfl, hb2⟩
 have HB2 := Lib.hid (HB1.out.trans (hb2.mono HB1.out.size))
 clear hb2 HFW HB1
 cases fb with
 | false =>
  go_wp2
  go_ret
  exact ⟨rfl, HB2.out⟩
 | true =>
  obtain ⟨hlen, hrok⟩ := HFT.out rfl
  have HROK := Lib.hid hrok
  have hlay := HX.out.ok
  have hw16 := hlay.w
  have hG := hlay.G
  clear HFT hrok
  go_wp2_with fail
  refine (HSM.out w2).mono ?_
  rintro r w3 ⟨A, c, rfl, hgs, hb3⟩
  unfold layAgg
  have HB3 := Lib.hid (HB2.out.trans (hb3.mono HB2.out.size))
  have HGS := Lib.hid hgs
  clear hgs hb3 HSM HB2
  go_upto_region 6 with (fail)
  generalize hW4 : w3.alloc _ = w4
  have HI4 : Hid (LxI w w3.heap.size L A c w4) := by
   refine ⟨?_, ?_, ?_⟩
   ·rw [← hW4]; exact HB3.out.trans (below_laid.mono HB3.out.size)
   ·rw [← hW4]; exact heap_alloc_new w3 _
   ·rw [← hW4]; exact HGS.out.below below_laid (Nat.le_refl _)
  have HXL : Hid (w.heap.size ≤ w3.heap.size) := HB3.out.size
  clear hW4 HGS HB3
  generalize w3.heap.size = X at *
  have HNW := Lib.hid (fun (W : World) (h : LxI w X L A c W) => r50new (c := c) W HX.out h.gs (Nat.le_refl _) (by omega) (by omega) (by omega))
  unfold layAgg at HNW
  obtain ⟨l0, l1, l2, l3⟩ := HI4.out.lay.cells
  go_wp2_with fail
  refine (HNW.out w4 HI4.out).mono ?_
  rintro r w5 ⟨⟨A', c', rfl, hls⟩, hb5⟩
  have HI5 := Lib.hid (HI4.out.below hb5)
  have HLS := Lib.hid (LvS.stv (c := c') hls)
  clear hls hb5 HNW HI4 l0 l1 l2 l3
  go_upto_region 7 with (fail)
  have HBX6 : Hid (Bx (w5.alloc (.cells #[.slice A' L.G c', .slice none 0 0, .slice none 0 0] 45)) w5.heap.size 45 (.slice A' L.G c') (.slice none 0 0) (.slice none 0 0) (newS L)) := Bx.made HLS.out _
  have HI6 : Hid (LxI w X L A c (w5.alloc (.cells #[.slice A' L.G c', .slice none 0 0, .slice none 0 0] 45))) := HI5.out.below below_laid
  generalize w5.alloc _ = w6 at *
  generalize w5.heap.size = Y at *
  clear HLS HI5
  have HFR : Hid (∀ W, Below w6.heap.size w6 W → Calls Tryz.prog 20 #[.agg #[.slice A' L.G c', .slice none 0 0, .slice none 0 0]] W fun e w' => e = .returned (.agg #[.slice A' L.G c', .slice none 0 0, .slice none 0 0]) ∧ Below W.heap.size W w' ∧ Below w6.heap.size w6 w') := fun W hW => (lfrom_any _ _ _ W ⟨_, _, _, rfl⟩ ⟨_, _, _, rfl⟩ ⟨_, _, _, rfl⟩).mono fun e w' hh => ⟨hh.1, hh.2, hW.trans (hh.2.mono hW.size)⟩
  have HAL : Hid (∀ W, Below w6.heap.size w6 W → Calls Tryz.prog 24 #[.agg #[.int .i64 L.disks, .slice A L.n c, .int .i64 L.tiles, .int .i64 L.spare], .agg #[.slice A' L.G c', .slice none 0 0, .slice none 0 0], .slice Ar rs.length cr] W fun e w' => AllV (fun k => k < W.heap.size) (allR L (newS L) rs).1 (allR L (newS L) rs).2 (allW rs) w' e ∧ Below W.heap.size W w' ∧ Below w6.heap.size w6 w') := fun W hW => by
   have hI := HI6.out.below hW
   have hN := newS_f (L := L) (by omega) (by omega)
   have h := rAll (c := c) (cr := cr) W HX.out hI.gs (HBX6.out.below hW).st (fun m hm => by cases hm) ((HRS.out.below hI.bel (Nat.le_refl _)).more hI.bel.size) HROK.out (Nat.le_refl _) hlen hN.n1 hN.n2 hN.n3
   unfold layAgg at h
   exact h.mono fun e w' hh => ⟨hh.1.v, hh.2, hW.trans (hh.2.mono hW.size)⟩
  have HA2 : Hid (∀ W, Below w6.heap.size w6 W → Calls Tryz.prog 25 #[.agg #[.int .i64 L.disks, .slice A L.n c, .int .i64 L.tiles, .int .i64 L.spare], .agg #[.slice A' L.G c', .slice none 0 0, .slice none 0 0], .slice Ar rs.length cr] W fun e w' => AllV (fun _ => False) (allR L (newS L) rs).1 (allR L (newS L) rs).2 (allW rs) w' e ∧ Below W.heap.size W w') := fun W hW => by
   have hI := HI6.out.below hW
   have hN := newS_f (L := L) (by omega) (by omega)
   have h := r50all (c := c) (cr := cr) W HX.out hI.gs (HBX6.out.below hW).st ((HRS.out.below hI.bel (Nat.le_refl _)).more hI.bel.size) HROK.out (Nat.le_refl _) hlen hN.n1 hN.n2 hN.n3
   unfold layAgg at h
   exact h.mono fun e w' hh => ⟨hh.1.v, hh.2⟩
  have HSF := Lib.hid (allR_few (L := L) (S := newS L) (rs := rs) (by omega) (by omega) hlen (by simp [newS]) (by simp [newS]))
  obtain ⟨Sf, er, hap⟩ : ∃ Sf er, allR L (newS L) rs = (Sf, er) := ⟨_, _, rfl⟩
  rw [hap] at HAL HA2 HSF
  simp only at HAL HA2 HSF
  have HKS : Hid (∀ W, Below w6.heap.size w6 W → (W.cell? ⟨X, 0, none⟩ = some (.int .i64 (L.disks : Int)) ∧ W.cell? ⟨X, 1, none⟩ = some (.slice A L.n c) ∧ W.cell? ⟨X, 2, none⟩ = some (.int .i64 (L.tiles : Int)) ∧ W.cell? ⟨X, 3, none⟩ = some (.int .i64 (L.spare : Int)) ∧ W.cell? ⟨Y, 0, none⟩ = some (.slice A' L.G c') ∧ W.cell? ⟨Y, 1, none⟩ = some (.slice none 0 0) ∧ W.cell? ⟨Y, 2, none⟩ = some (.slice none 0 0))) := fun W hW => by
   obtain ⟨l0, l1, l2, l3⟩ := (HI6.out.below hW).lay.cells
   obtain ⟨y0, y1, y2⟩ := (HBX6.out.below hW).cells
   exact ⟨l0, l1, l2, l3, y0, y1, y2⟩
  clear hap
  go_cut [8, 9, 10] (fun s8 s9 s10 wx => AlQ w6 41 Sf er (allW rs) s8 s9 s10 wx)
  case first =>
   clear HA2 HSF HRS HROK
   go_region_held3 (fun W => W.cell? ⟨X, 0, none⟩ = some (.int .i64 (L.disks : Int)) ∧ W.cell? ⟨X, 1, none⟩ = some (.slice A L.n c) ∧ W.cell? ⟨X, 2, none⟩ = some (.int .i64 (L.tiles : Int)) ∧ W.cell? ⟨X, 3, none⟩ = some (.int .i64 (L.spare : Int)) ∧ W.cell? ⟨Y, 0, none⟩ = some (.slice A' L.G c') ∧ W.cell? ⟨Y, 1, none⟩ = some (.slice none 0 0) ∧ W.cell? ⟨Y, 2, none⟩ = some (.slice none 0 0))
    (first | with_reducible exact HKS.out _ (Below.refl w6.heap.size w6) | with_reducible exact HKS.out _ (Below.refl w6.heap.size w6).drew | with_reducible exact HKS.out _ ((Below.refl w6.heap.size w6).alloc (Nat.le_refl _) _) | with_reducible exact HKS.out _ ((Below.refl w6.heap.size w6).alloc (Nat.le_refl _) _).drew | with_reducible exact HKS.out _ hbF | with_reducible exact HKS.out _ hbF.drew | with_reducible exact HKS.out _ (hbF.alloc hbF.size _) | with_reducible exact HKS.out _ (hbF.alloc hbF.size _).drew | with_reducible exact HKS.out _ hbB | with_reducible exact HKS.out _ (hbB.alloc hbB.size _) | with_reducible exact HKS.out _ (((hbB.setCell (Nat.le_refl _) _).setCell (Nat.le_refl _) _).setCell (Nat.le_refl _) _) | with_reducible exact HKS.out _ (((hbB.setCell hbF.size _).setCell hbF.size _).setCell hbF.size _) | with_reducible exact HKS.out _ ((((hbB.alloc hbB.size _).setCell hbB.size _).setCell hbB.size _).setCell hbB.size _) | (trace_state; fail))
    (first
     | (go_at_call 20; first
      | ((first | with_reducible refine (HFR.out _ (Below.refl w6.heap.size w6).drew).mono ?_ | with_reducible refine (HFR.out _ (Below.refl w6.heap.size w6)).mono ?_); rintro e wF ⟨rfl, hbP, hbF⟩)
      | ((first | with_reducible refine (HFR.out _ ((Below.refl w6.heap.size w6).alloc (Nat.le_refl _) _).drew).mono ?_ | with_reducible refine (HFR.out _ ((Below.refl w6.heap.size w6).alloc (Nat.le_refl _) _)).mono ?_); rintro e wF ⟨rfl, hbP, hbF⟩; have hzF : wF.heap[w6.heap.size]? = some (.cells #[.slice none 0 0, .slice none 0 0, .slice none 0 0] 41 (0, 0)) := (hbP.block _ (by simp)).trans (heap_alloc_new w6 _); have hlF : w6.heap.size < wF.heap.size := (Array.getElem?_eq_some_iff.1 hzF).1)
      | (trace_state; fail))
     | (go_at_call 24; first
      | ((first | with_reducible refine (HAL.out _ hbF.drew).mono ?_ | with_reducible refine (HAL.out _ hbF).mono ?_); rintro e wB ⟨⟨vB, At, ts, ct, rfl, hse, hpw, hs1, hs0⟩, hbQ, hbB⟩; obtain ⟨D1, d1, D2, d2, D3, d3, rfl, -⟩ := hse.now.form; have hzB : wB.heap[w6.heap.size]? = some (.cells #[.slice none 0 0, .slice none 0 0, .slice none 0 0] 41 (0, 0)) := (hbQ.block _ (by exact hlF)).trans hzF; obtain ⟨z0, z1, z2⟩ := zero3 hzB; have f0 := frozen_blk hzB 0; have f1 := frozen_blk hzB 1; have f2 := frozen_blk hzB 2)
      | ((first | with_reducible refine (HAL.out _ hbF.drew).mono ?_ | with_reducible refine (HAL.out _ hbF).mono ?_); rintro e wB ⟨⟨vB, At, ts, ct, rfl, hse, hpw, hs1, hs0⟩, hbQ, hbB⟩; obtain ⟨D1, d1, D2, d2, D3, d3, rfl, -⟩ := hse.now.form)
      | ((first | with_reducible refine (HAL.out _ (hbF.alloc hbF.size _).drew).mono ?_ | with_reducible refine (HAL.out _ (hbF.alloc hbF.size _)).mono ?_); rintro e wB ⟨⟨vB, At, ts, ct, rfl, hse, hpw, hs1, hs0⟩, hbQ, hbB⟩; obtain ⟨D1, d1, D2, d2, D3, d3, rfl, -⟩ := hse.now.form; have hzB : wB.heap[wF.heap.size]? = some (.cells #[.slice none 0 0, .slice none 0 0, .slice none 0 0] 41 (0, 0)) := (hbQ.block _ (by simp)).trans (heap_alloc_new wF _); obtain ⟨z0, z1, z2⟩ := zero3 hzB; have f0 := frozen_blk hzB 0; have f1 := frozen_blk hzB 1; have f2 := frozen_blk hzB 2)
      | (trace_state; fail))
     | fail)
   all_goals
    go_wp2_with fail
    go_meet
    ·first
      | exact AlQ.early hse hpw hs1 hs0 hbB hzB (by first | exact hlF | simp) (by first | exact Nat.le_refl _ | exact hbF.size)
      | exact AlQ.late hse hpw hs1 hs0 hbB
      | (trace_state; fail)
  obtain ⟨D, D1, d1, D2, d2, D3, d3, At, ts, ct, rfl, rfl, rfl, hbx, hpw, hs1, hs0, hbC⟩ := hcut
  have HBX7 := Lib.hid hbx
  have HPW7 := Lib.hid hpw
  have hwl := ts_big HROK.out hlen hs1 hs0
  have HS1 := Lib.hid hs1
  have HS0 := Lib.hid hs0
  have HI7 := Lib.hid (HI6.out.below hbC)
  have HBC := Lib.hid hbC
  have HCA := Lib.hid (HA2.out wc hbC)
  obtain ⟨l0, l1, l2, l3, y0, y1, y2⟩ := HKS.out wc hbC
  clear hbx hpw hs1 hs0 hbC HA2 HKS HAL HFR HI6 HBX6
  generalize wc = w7 at *
  go_wp2_with fail
  refine HCA.out.mono ?_
  rintro e w8 ⟨⟨v8, Ae, te, ce, rfl, hse, hpe, he1, he0⟩, hb8⟩
  obtain ⟨C1, e1, C2, e2, C3, e3, rfl, hsv⟩ := hse.now.form
  have HSV := Lib.hid hsv
  have HPE := Lib.hid hpe.now
  have HI8 := Lib.hid (HI7.out.below hb8)
  have HBX8 := Lib.hid (HBX7.out.below hb8)
  have HPW8 := Lib.hid (pws_keep HPW7.out hb8)
  have hte : te = ts := by
   by_cases h0 : er = 0
   ·exact srt_unique (he1 h0) (HS1.out h0)
   ·rw [he0 h0, HS0.out h0]
  subst hte
  clear hsv hse hpe he1 he0 hb8 HS1 HS0 HCA HI7 HBX7 HPW7 l0 l1 l2 l3 y0 y1 y2
  go_upto_region 9 with (fail)
  have HBE9 : Hid (Bx (w8.alloc (.cells #[.slice C1 Sf.ls.length e1, .slice C2 Sf.ms.length e2, .slice C3 Sf.nt.length e3] 45)) w8.heap.size 45 (.slice C1 Sf.ls.length e1) (.slice C2 Sf.ms.length e2) (.slice C3 Sf.nt.length e3) Sf) := Bx.made HSV.out _
  have HI9 : Hid (LxI w X L A c (w8.alloc (.cells #[.slice C1 Sf.ls.length e1, .slice C2 Sf.ms.length e2, .slice C3 Sf.nt.length e3] 45))) := HI8.out.below below_laid
  have HBX9 : Hid (Bx (w8.alloc (.cells #[.slice C1 Sf.ls.length e1, .slice C2 Sf.ms.length e2, .slice C3 Sf.nt.length e3] 45)) D 41 (.slice D1 Sf.ls.length d1) (.slice D2 Sf.ms.length d2) (.slice D3 Sf.nt.length d3) Sf) := HBX8.out.below below_laid
  have HPW9 : Hid (PwS (w8.alloc (.cells #[.slice C1 Sf.ls.length e1, .slice C2 Sf.ms.length e2, .slice C3 Sf.nt.length e3] 45)) (w8.alloc (.cells #[.slice C1 Sf.ls.length e1, .slice C2 Sf.ms.length e2, .slice C3 Sf.nt.length e3] 45)).heap.size At te) := pws_keep HPW8.out below_laid
  have HPE9 : Hid (PwS (w8.alloc (.cells #[.slice C1 Sf.ls.length e1, .slice C2 Sf.ms.length e2, .slice C3 Sf.nt.length e3] 45)) (w8.alloc (.cells #[.slice C1 Sf.ls.length e1, .slice C2 Sf.ms.length e2, .slice C3 Sf.nt.length e3] 45)).heap.size Ae te) := pws_keep HPE.out below_laid
  generalize w8.alloc _ = w9 at *
  generalize w8.heap.size = Z at *
  clear HSV HPE HI8 HBX8 HPW8
  have X9 := fun d xs => (HBX9.out.below (below_regrown w9 d xs)).cells
  have Y9 := fun d xs => (HBE9.out.below (below_regrown w9 d xs)).cells
  have KT := Lib.hid (fun d xs => lto_any (.slice D1 Sf.ls.length d1) (.slice D2 Sf.ms.length d2) (.slice D3 Sf.nt.length d3) (Sort.grow (redrawn w9 d) xs) ⟨_, _, _, rfl⟩ ⟨_, _, _, rfl⟩ ⟨_, _, _, rfl⟩)
  have KS := Lib.hid (fun d xs => r50same (Sort.grow (redrawn w9 d) xs) (HBX9.out.below (below_regrown w9 d xs)).st (HBE9.out.below (below_regrown w9 d xs)).st (Nat.le_refl _) HSF.out.lv (by have := HSF.out.n1; omega) (by have := HSF.out.n2; omega) (by have := HSF.out.n3; omega))
  refine quiet_below (by kernel_rfl) (by kernel_rfl) ?_
  repeat (go_big_quiet_step (first | (go_at_call 17; exact Calls.regrown_of (KT.out _ _)) | (go_at_call 16; exact Calls.regrown_of (KS.out _ _))))
  refine wpQuiet_nil ?_
  intro w10 hb10
  have HB10 := Lib.hid (HI9.out.bel.trans (hb10.mono HI9.out.bel.size))
  have HPW10 := Lib.hid (pws_keep HPW9.out hb10)
  have HPE10 := Lib.hid (pws_keep HPE9.out hb10)
  clear X9 Y9 KT KS hb10 HBE9 HI9 HBX9 HPW9 HPE9
  go_wp2
  go_loopw [63] (fun s63 wr => ∃ k : Nat, k ≤ te.length ∧ s63 = .int .i64 k ∧ Below w10.heap.size w10 wr) (fun s63 _ => te.length - (intOf s63).toNat)
  case atStart => exact ⟨0, by omega, rfl, Below.refl _ _⟩
  case round =>
   obtain ⟨k, hk, rfl, hb⟩ := hrel
   have HB := Lib.hid hb
   by_cases hkn : k < te.length
   ·have hkI : (k : Int) < (te.length : Int) := by omega
    have hk0 : ¬ (k : Int) < 0 := by omega
    obtain ⟨x, hxk⟩ : ∃ x, te[k]? = some x := ⟨_, List.getElem?_eq_getElem hkn⟩
    obtain ⟨b1, o1, rfl, -, hc1⟩ := PwS.at_ (RdS.below' HPW10.out hb (Nat.le_refl _)) hxk
    obtain ⟨b2, o2, rfl, -, hc2⟩ := PwS.at_ (RdS.below' HPE10.out hb (Nat.le_refl _)) hxk
    obtain ⟨xg, xp, xv, ⟨q0, q1, q2, q3, q4, q5, q6, q7⟩⟩ := x
    have x0 := hc1 0 _ rfl
    have x1 := hc1 1 _ rfl
    have x2 := hc1 2 _ rfl
    have x3 := hc1 3 _ rfl
    have x4 := hc1 4 _ rfl
    have x5 := hc1 5 _ rfl
    have x6 := hc1 6 _ rfl
    have x7 := hc1 7 _ rfl
    have x8 := hc1 8 _ rfl
    have x9 := hc1 9 _ rfl
    have x10 := hc1 10 _ rfl
    have y0 := hc2 0 _ rfl
    have y1 := hc2 1 _ rfl
    have y2 := hc2 2 _ rfl
    have y3 := hc2 3 _ rfl
    have y4 := hc2 4 _ rfl
    have y5 := hc2 5 _ rfl
    have y6 := hc2 6 _ rfl
    have y7 := hc2 7 _ rfl
    have y8 := hc2 8 _ rfl
    have y9 := hc2 9 _ rfl
    have y10 := hc2 10 _ rfl
    simp only [Nat.add_zero] at x0 y0
    clear hc1 hc2 hxk hb
    go_wp2_with fail
    go_quiet (fail)
    go_wp2
    go_roundw
    case rel => exact ⟨k + 1, by omega, by go_num, below_drewN HB.out _⟩
    case measure => simp [intOf] <;> omega
   ·have hkI : ¬ (k : Int) < (te.length : Int) := by omega
    clear hb
    go_wp2
    go_ret
    exact ⟨rfl, HB10.out.trans (HB.out.mono HB10.out.size)⟩
end Go.Proofs.YtjgjofepedcfnaaGreat
