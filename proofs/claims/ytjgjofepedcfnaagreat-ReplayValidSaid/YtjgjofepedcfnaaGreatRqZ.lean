/- Walk of tegulalaw50.ReplayValid. -/
import Derived.Test.YtjgjofepedcfnaaGreatRqX
import Derived.Test.YtjgjofepedcfnaaGreatOpnR
namespace Go.Proofs.YtjgjofepedcfnaaGreat
open Go.RowKit
set_option maxHeartbeats 1000000 in
set_option maxRecDepth 100000 in
theorem rnew_zero (w : World) : Calls Tryz.prog 14 #[.agg #[.int .i64 0, .slice none 0 0, .int .i64 0, .int .i64 0]] w fun r w' => r = .returned (.tuple #[.agg #[.slice none 0 0, .slice none 0 0, .slice none 0 0], .int .i64 1]) ∧ Below w.heap.size w w' := by
 have HVZ := Lib.hid (fun W => lvalid_zero W)
 go_enter Tryz.func14, Tryz.ntmps14
 go_upto_region 1 with (fail)
 obtain ⟨w1, hw1', ha, hc, hb, hz⟩ := two_laid w (.cells #[.int .i64 0, .slice none 0 0, .int .i64 0, .int .i64 0] 36) (.cells #[.slice none 0 0, .slice none 0 0, .slice none 0 0] 41)
 rw [hw1']
 have HC := Lib.hid hc
 have HB := Lib.hid hb
 have hz1 : w.heap.size + 2 ≤ w1.heap.size := Nat.le_of_eq hz.symm
 have l0 : w1.cell? ⟨w.heap.size, 0, none⟩ = some (.int .i64 0) := by rw [cell_of_row _ _ _ _ _ _ ha]; rfl
 have l1 : w1.cell? ⟨w.heap.size, 1, none⟩ = some (.slice none 0 0) := by rw [cell_of_row _ _ _ _ _ _ ha]; rfl
 have l2 : w1.cell? ⟨w.heap.size, 2, none⟩ = some (.int .i64 0) := by rw [cell_of_row _ _ _ _ _ _ ha]; rfl
 have l3 : w1.cell? ⟨w.heap.size, 3, none⟩ = some (.int .i64 0) := by rw [cell_of_row _ _ _ _ _ _ ha]; rfl
 clear ha hc hb hz hw1'
 go_wp2_with fail
 refine (HVZ.out w1).mono ?_
 rintro r w2 ⟨rfl, hb2⟩
 have HC2 := Lib.hid ((hb2.block _ (by omega)).trans HC.out)
 have HB2 := Lib.hid (HB.out.trans (hb2.mono HB.out.size))
 obtain ⟨z0, z1, z2⟩ := zero3 HC2.out
 have f0 := frozen_blk HC2.out 0
 have f1 := frozen_blk HC2.out 1
 have f2 := frozen_blk HC2.out 2
 have HBF : Hid (Below w.heap.size w (((w2.setCell ⟨w.heap.size + 1, 0, none⟩ (.slice none 0 0)).setCell ⟨w.heap.size + 1, 1, none⟩ (.slice none 0 0)).setCell ⟨w.heap.size + 1, 2, none⟩ (.slice none 0 0))) := ((HB2.out.setCell (by simp) _).setCell (by simp) _).setCell (by simp) _
 clear hb2 HC HB hz1 l0 l1 l2 l3 HVZ HC2
 go_wp2
 (try simp only [Exit.inBlock, Exit.then])
 refine bodyPost_ret (v := .tuple #[.agg #[.slice none 0 0, .slice none 0 0, .slice none 0 0], .int .i64 1]) ?_ rfl ⟨rfl, HBF.out⟩
 rw [results_cell_tmp rfl]
 go_simp
set_option maxHeartbeats 1000000 in
set_option maxRecDepth 100000 in
theorem rvalid_zero (A1 A2 A3 : Option Addr) (n1 n2 n3 c1 c2 c3 : Nat) (w : World) : Calls Tryz.prog 21 #[.agg #[.int .i64 0, .slice none 0 0, .int .i64 0, .int .i64 0], .agg #[.slice A1 n1 c1, .slice A2 n2 c2, .slice A3 n3 c3]] w fun r w' => r = .returned (.bool false) ∧ Below w.heap.size w w' := by
 go_enter Tryz.func21, Tryz.ntmps21
 go_upto_region 1 with (fail)
 obtain ⟨w1, hw1', ha, hc, hb, hz⟩ := two_laid w (.cells #[.int .i64 0, .slice none 0 0, .int .i64 0, .int .i64 0] 36) (.cells #[.slice A1 n1 c1, .slice A2 n2 c2, .slice A3 n3 c3] 41)
 rw [hw1']
 have HB := Lib.hid hb
 have Q : ∀ d xs, (Sort.grow (redrawn w1 d) xs).cell? ⟨w.heap.size, 0, none⟩ = some (.int .i64 0) ∧ (Sort.grow (redrawn w1 d) xs).cell? ⟨w.heap.size, 1, none⟩ = some (.slice none 0 0) ∧ (Sort.grow (redrawn w1 d) xs).cell? ⟨w.heap.size, 2, none⟩ = some (.int .i64 0) ∧ (Sort.grow (redrawn w1 d) xs).cell? ⟨w.heap.size, 3, none⟩ = some (.int .i64 0) := fun d xs => by
  have hq := ((below_regrown w1 d xs).block _ (by omega)).trans ha
  exact ⟨by rw [cell_of_row _ _ _ _ _ _ hq]; rfl, by rw [cell_of_row _ _ _ _ _ _ hq]; rfl, by rw [cell_of_row _ _ _ _ _ _ hq]; rfl, by rw [cell_of_row _ _ _ _ _ _ hq]; rfl⟩
 have KV := Lib.hid (fun d xs => lvalid_zero (Sort.grow (redrawn w1 d) xs))
 clear ha hc hb hz hw1'
 refine quiet_below (by kernel_rfl) (by kernel_rfl) ?_
 repeat (go_big_quiet_step (first | (go_at_call 34; exact Calls.regrown_of (KV.out _ _))))
 refine wpQuiet_nil ?_
 intro w2 hb2
 have HB2 := Lib.hid (HB.out.trans (hb2.mono HB.out.size))
 clear Q KV hb2
 go_wp2
 go_ret
 exact ⟨rfl, HB2.out⟩
theorem app0 {L : LayD} {S : St} : (applyR L S ⟨0, 1, [], [], []⟩).2 = if stOk L S = true then 0 else 1 := by
 unfold applyR
 by_cases h : stOk L S = true
 ·rw [if_pos h, if_pos h]
  rfl
 ·rw [if_neg h, if_neg h]
set_option maxHeartbeats 8000000 in
set_option maxRecDepth 100000 in
theorem lreplayValid (n0 : Nat) (hn0 : n0 < 256) (sv : Value) (S : St) (w : World) (hs : StV w w.heap.size sv S) (hwf : ∀ m ∈ S.ms, MvWfS m) (hls : S.ls.length ≤ maxLen) :
  Calls Tryz.prog 4 #[.int .u8 (n0 : Int), sv] w fun r w' => r = .returned (.bool true) ∧ Below w.heap.size w w' := by
 have HX := Lib.hid (small_layX (kL n0))
 have HSM : Hid (∀ W, Calls Tryz.prog 13 #[.int .u8 (n0 : Int)] W fun r w' => SmkP n0 W r w') := fun W => r50small n0 hn0 W
 unfold SmkP at HSM
 generalize smallL (kL n0) = L at *
 have HAW : Hid (∀ W, Calls Tryz.prog 10 #[] W fun r w' => r = .returned (.bool true) ∧ Below W.heap.size W w') := fun W => lawake W
 obtain ⟨B1, b1, B2, b2, B3, b3, rfl, hs⟩ := hs.form
 have HPW : Hid (∀ m ∈ S.ms, PlWf m.to) := fun m hm => (hwf m hm).2.2
 have HST := Lib.hid hs
 have HLN : Hid (S.ls.length ≤ 9223372036854775807) := hls
 clear hs hwf hls
 go_enter Tryz.func4, Tryz.ntmps4
 go_upto_region 1 with (fail)
 generalize hW0 : w.alloc _ = w0
 have HB0 : Hid (Below w.heap.size w w0) := by rw [← hW0]; exact below_laid
 have HP0 : Hid (Bx w0 w.heap.size 45 (.slice B1 S.ls.length b1) (.slice B2 S.ms.length b2) (.slice B3 S.nt.length b3) S) := by rw [← hW0]; exact Bx.made HST.out _
 have HPL : Hid (w.heap.size < w0.heap.size) := HP0.out.lt
 clear hW0 HST
 go_wp2_with fail
 refine (HAW.out w0).mono ?_
 rintro r w1 ⟨rfl, hb1⟩
 have HB1 := Lib.hid hb1
 clear hb1 HAW
 have hlay := HX.out.ok
 have hw16 := hlay.w
 have hG := hlay.G
 go_wp2_with fail
 refine (HSM.out w1).mono ?_
 rintro r w4 ⟨A, c, rfl, hgs, hb4⟩
 unfold layAgg
 have HB4 := Lib.hid (HB1.out.trans (hb4.mono HB1.out.size))
 have HGS := Lib.hid hgs
 clear hgs hb4 HSM HB1
 go_upto_region 4 with (fail)
 generalize hW5 : w4.alloc _ = w5
 have HI5 : Hid (LxI w0 w4.heap.size L A c w5) := by
  refine ⟨?_, ?_, ?_⟩
  ·rw [← hW5]; exact HB4.out.trans (below_laid.mono HB4.out.size)
  ·rw [← hW5]; exact heap_alloc_new w4 _
  ·rw [← hW5]; exact HGS.out.below below_laid (Nat.le_refl _)
 clear hW5 HGS HB4
 generalize w4.heap.size = X at *
 have HP5 := Lib.hid (HP0.out.below HI5.out.bel)
 have HFI := Lib.hid (r50fits (a0 := .int .i64 L.disks) (a1 := .slice A L.n c) (a2 := .int .i64 L.tiles) (a3 := .int .i64 L.spare) w5 HP5.out.st (Nat.le_refl _) (by have := HLN.out; omega))
 have HFT : Hid (fitsB S = true → S.ls.length ≤ 100 ∧ S.ms.length ≤ 50 ∧ S.nt.length ≤ 30) := fun h => by
  unfold fitsB at h
  simp only [Bool.and_eq_true, decide_eq_true_eq] at h
  exact ⟨h.1.1.2, h.1.2, h.2⟩
 obtain ⟨fb, hfb⟩ : ∃ q, fitsB S = q := ⟨_, rfl⟩
 rw [hfb] at HFI HFT
 obtain ⟨l0, l1, l2, l3⟩ := HI5.out.lay.cells
 obtain ⟨p0, p1, p2⟩ := HP5.out.cells
 clear hfb
 go_wp2_with fail
 refine HFI.out.mono ?_
 rintro r w6 ⟨rfl, hb6⟩
 have HI6 := Lib.hid (HI5.out.below hb6)
 have HP6 := Lib.hid (HP5.out.below hb6)
 clear hb6 HFI HI5 HP5 l0 l1 l2 l3 p0 p1 p2
 cases fb with
 | false =>
  go_wp2
  go_ret
  exact ⟨rfl, HB0.out.trans (HI6.out.bel.mono HB0.out.size)⟩
 | true =>
  obtain ⟨k1, k2, k3⟩ := HFT.out rfl
  have HVS : Hid (∀ W, Below w6.heap.size w6 W → Calls Tryz.prog 21 #[.agg #[.int .i64 L.disks, .slice A L.n c, .int .i64 L.tiles, .int .i64 L.spare], .agg #[.slice B1 S.ls.length b1, .slice B2 S.ms.length b2, .slice B3 S.nt.length b3]] W fun r w' => r = .returned (.bool (stOk L S)) ∧ Below W.heap.size W w') := fun W hW => by
   have h := rvalidS (c := c) W HX.out (HI6.out.below hW).gs (HP6.out.below hW).st HPW.out (Nat.le_refl _) (by omega) (by omega) (by omega)
   unfold layAgg at h
   exact h
  have HV5 : Hid (∀ W, Below w6.heap.size w6 W → Calls Tryz.prog 23 #[.agg #[.int .i64 L.disks, .slice A L.n c, .int .i64 L.tiles, .int .i64 L.spare], .agg #[.slice B1 S.ls.length b1, .slice B2 S.ms.length b2, .slice B3 S.nt.length b3]] W fun r w' => r = .returned (.bool (stOk L S)) ∧ Below W.heap.size W w') := fun W hW => by
   have h := r50valid (c := c) W HX.out (HI6.out.below hW).gs (HP6.out.below hW).st (Nat.le_refl _) (by omega) (by omega) (by omega)
   unfold layAgg at h
   exact h
  have HAPP : Hid (∀ W, Below w6.heap.size w6 W → Calls Tryz.prog 19 #[.agg #[.int .i64 L.disks, .slice A L.n c, .int .i64 L.tiles, .int .i64 L.spare], .agg #[.slice B1 S.ls.length b1, .slice B2 S.ms.length b2, .slice B3 S.nt.length b3], .agg #[.int .u64 0, .int .u64 1, .slice none 0 0, .slice none 0 0, .slice none 0 0]] W fun e w' => (∃ q1 q2 q3 n1 n2 n3 k1 k2 k3, e = .returned (.tuple #[.agg #[.slice q1 n1 k1, .slice q2 n2 k2, .slice q3 n3 k3], .int .i64 (if stOk L S = true then 0 else 1)])) ∧ Below W.heap.size W w' ∧ Below w6.heap.size w6 w') := fun W hW => by
   have h := rApply (c := c) (r := ⟨0, 1, [], [], []⟩) W HX.out (HI6.out.below hW).gs (HP6.out.below hW).st (⟨none, 0, none, 0, none, 0, rfl, RdS.nil _ _ _ _, RdS.nil _ _ _ _, RdS.nil _ _ _ _⟩) (Nat.le_refl _) HPW.out ⟨by decide, by decide, by decide, by decide, fun x hx => by cases hx⟩ (by omega) (by omega) (by omega)
   unfold layAgg at h
   rw [app0] at h
   refine h.mono fun e w' hh => ⟨?_, hh.2, hW.trans (hh.2.mono hW.size)⟩
   obtain ⟨⟨v, rfl, hv⟩, -⟩ := hh
   obtain ⟨q1, k1, q2, k2, q3, k3, rfl, -⟩ := hv.now.form
   exact ⟨_, _, _, _, _, _, _, _, _, rfl⟩
  obtain ⟨ok, hok⟩ : ∃ q, stOk L S = q := ⟨_, rfl⟩
  rw [hok] at HVS HV5 HAPP
  have HFR : Hid (∀ W, Below w6.heap.size w6 W → Calls Tryz.prog 20 #[.agg #[.slice B1 S.ls.length b1, .slice B2 S.ms.length b2, .slice B3 S.nt.length b3]] W fun e w' => e = .returned (.agg #[.slice B1 S.ls.length b1, .slice B2 S.ms.length b2, .slice B3 S.nt.length b3]) ∧ Below W.heap.size W w' ∧ Below w6.heap.size w6 w') := fun W hW => (lfrom_any _ _ _ W ⟨_, _, _, rfl⟩ ⟨_, _, _, rfl⟩ ⟨_, _, _, rfl⟩).mono fun e w' hh => ⟨hh.1, hh.2, hW.trans (hh.2.mono hW.size)⟩
  have KF := Lib.hid (fun d xs => lfrom_any (.slice B1 S.ls.length b1) (.slice B2 S.ms.length b2) (.slice B3 S.nt.length b3) (Sort.grow (redrawn w6 d) xs) ⟨_, _, _, rfl⟩ ⟨_, _, _, rfl⟩ ⟨_, _, _, rfl⟩)
  have KV := Lib.hid (fun d xs => HVS.out (Sort.grow (redrawn w6 d) xs) (below_regrown w6 d xs))
  have X6 := fun d xs => (HI6.out.below (below_regrown w6 d xs)).lay.cells
  have P6 := fun d xs => (HP6.out.below (below_regrown w6 d xs)).cells
  clear hok HVS
  go_upto_region 6 with (fail)
  refine quiet_below (by kernel_rfl) (by kernel_rfl) ?_
  repeat (go_big_quiet_step (first | (go_at_call 20; exact Calls.regrown_of (KF.out _ _)) | (go_at_call 21; exact Calls.regrown_of (KV.out _ _))))
  refine wpQuiet_nil ?_
  intro w7 hb7
  have HKS : Hid (∀ W, Below w7.heap.size w7 W → (W.cell? ⟨X, 0, none⟩ = some (.int .i64 (L.disks : Int)) ∧ W.cell? ⟨X, 1, none⟩ = some (.slice A L.n c) ∧ W.cell? ⟨X, 2, none⟩ = some (.int .i64 (L.tiles : Int)) ∧ W.cell? ⟨X, 3, none⟩ = some (.int .i64 (L.spare : Int)) ∧ W.cell? ⟨w.heap.size, 0, none⟩ = some (.slice B1 S.ls.length b1) ∧ W.cell? ⟨w.heap.size, 1, none⟩ = some (.slice B2 S.ms.length b2) ∧ W.cell? ⟨w.heap.size, 2, none⟩ = some (.slice B3 S.nt.length b3))) := fun W hW => by
   obtain ⟨l0, l1, l2, l3⟩ := (HI6.out.below (hb7.trans (hW.mono hb7.size))).lay.cells
   obtain ⟨y0, y1, y2⟩ := (HP6.out.below (hb7.trans (hW.mono hb7.size))).cells
   exact ⟨l0, l1, l2, l3, y0, y1, y2⟩
  have HAPQ : Hid (∀ W, Below w7.heap.size w7 W → Calls Tryz.prog 19 #[.agg #[.int .i64 L.disks, .slice A L.n c, .int .i64 L.tiles, .int .i64 L.spare], .agg #[.slice B1 S.ls.length b1, .slice B2 S.ms.length b2, .slice B3 S.nt.length b3], .agg #[.int .u64 0, .int .u64 1, .slice none 0 0, .slice none 0 0, .slice none 0 0]] W fun e w' => (∃ q1 q2 q3 n1 n2 n3 k1 k2 k3, e = .returned (.tuple #[.agg #[.slice q1 n1 k1, .slice q2 n2 k2, .slice q3 n3 k3], .int .i64 (if ok = true then 0 else 1)])) ∧ Below W.heap.size W w' ∧ Below w7.heap.size w7 w') := fun W hW => (HAPP.out W (hb7.trans (hW.mono hb7.size))).mono fun e w' hh => ⟨hh.1, hh.2.1, hW.trans (hh.2.1.mono hW.size)⟩
  have HFR7 : Hid (∀ W, Below w7.heap.size w7 W → Calls Tryz.prog 20 #[.agg #[.slice B1 S.ls.length b1, .slice B2 S.ms.length b2, .slice B3 S.nt.length b3]] W fun e w' => e = .returned (.agg #[.slice B1 S.ls.length b1, .slice B2 S.ms.length b2, .slice B3 S.nt.length b3]) ∧ Below W.heap.size W w' ∧ Below w7.heap.size w7 w') := fun W hW => (HFR.out W (hb7.trans (hW.mono hb7.size))).mono fun e w' hh => ⟨hh.1, hh.2.1, hW.trans (hh.2.1.mono hW.size)⟩
  have HI7 := Lib.hid (HI6.out.below hb7)
  have HP7 := Lib.hid (HP6.out.below hb7)
  have HV7 : Hid (∀ W, Below w7.heap.size w7 W → Calls Tryz.prog 23 #[.agg #[.int .i64 L.disks, .slice A L.n c, .int .i64 L.tiles, .int .i64 L.spare], .agg #[.slice B1 S.ls.length b1, .slice B2 S.ms.length b2, .slice B3 S.nt.length b3]] W fun r w' => r = .returned (.bool ok) ∧ Below W.heap.size W w') := fun W hW => HV5.out W (hb7.trans (hW.mono hb7.size))
  clear X6 P6 KF KV HAPP HFR HI6 HP6 HV5 hb7
  go_upto_region 7 with (fail)
  go_cut [8] (fun s8 wx => s8 = .int .i64 (if ok = true then 0 else 1) ∧ Below w7.heap.size w7 wx)
  case first =>
   clear HV7 HI7 HP7
   generalize (if ok = true then (0 : Int) else 1) = er at *
   go_region_held3 (fun W => W.cell? ⟨X, 0, none⟩ = some (.int .i64 (L.disks : Int)) ∧ W.cell? ⟨X, 1, none⟩ = some (.slice A L.n c) ∧ W.cell? ⟨X, 2, none⟩ = some (.int .i64 (L.tiles : Int)) ∧ W.cell? ⟨X, 3, none⟩ = some (.int .i64 (L.spare : Int)) ∧ W.cell? ⟨w.heap.size, 0, none⟩ = some (.slice B1 S.ls.length b1) ∧ W.cell? ⟨w.heap.size, 1, none⟩ = some (.slice B2 S.ms.length b2) ∧ W.cell? ⟨w.heap.size, 2, none⟩ = some (.slice B3 S.nt.length b3))
    (first | with_reducible exact HKS.out _ (Below.refl w7.heap.size w7) | with_reducible exact HKS.out _ (Below.refl w7.heap.size w7).drew | with_reducible exact HKS.out _ ((Below.refl w7.heap.size w7).alloc (Nat.le_refl _) _) | with_reducible exact HKS.out _ ((Below.refl w7.heap.size w7).alloc (Nat.le_refl _) _).drew | with_reducible exact HKS.out _ hbF | with_reducible exact HKS.out _ hbF.drew | with_reducible exact HKS.out _ (hbF.alloc hbF.size _) | with_reducible exact HKS.out _ (hbF.alloc hbF.size _).drew | with_reducible exact HKS.out _ hbB | with_reducible exact HKS.out _ (hbB.alloc hbB.size _) | with_reducible exact HKS.out _ (((hbB.setCell (Nat.le_refl _) _).setCell (Nat.le_refl _) _).setCell (Nat.le_refl _) _) | with_reducible exact HKS.out _ (((hbB.setCell hbF.size _).setCell hbF.size _).setCell hbF.size _) | with_reducible exact HKS.out _ ((((hbB.alloc hbB.size _).setCell hbB.size _).setCell hbB.size _).setCell hbB.size _) | (trace_state; fail))
    (first
     | (go_at_call 20; first
      | ((first | with_reducible refine (HFR7.out _ (Below.refl w7.heap.size w7).drew).mono ?_ | with_reducible refine (HFR7.out _ (Below.refl w7.heap.size w7)).mono ?_); rintro e wF ⟨rfl, hbP, hbF⟩)
      | ((first | with_reducible refine (HFR7.out _ ((Below.refl w7.heap.size w7).alloc (Nat.le_refl _) _).drew).mono ?_ | with_reducible refine (HFR7.out _ ((Below.refl w7.heap.size w7).alloc (Nat.le_refl _) _)).mono ?_); rintro e wF ⟨rfl, hbP, hbF⟩; have hzF : wF.heap[w7.heap.size]? = some (.cells #[.slice none 0 0, .slice none 0 0, .slice none 0 0] 41 (0, 0)) := (hbP.block _ (by simp)).trans (heap_alloc_new w7 _); have hlF : w7.heap.size < wF.heap.size := (Array.getElem?_eq_some_iff.1 hzF).1)
      | (trace_state; fail))
     | (go_at_call 19; first
      | ((first | with_reducible refine (HAPQ.out _ hbF.drew).mono ?_ | with_reducible refine (HAPQ.out _ hbF).mono ?_); rintro e wB ⟨⟨q1, q2, q3, n1, n2, n3, k1, k2, k3, rfl⟩, hbQ, hbB⟩; have hzB : wB.heap[w7.heap.size]? = some (.cells #[.slice none 0 0, .slice none 0 0, .slice none 0 0] 41 (0, 0)) := (hbQ.block _ (by exact hlF)).trans hzF; obtain ⟨z0, z1, z2⟩ := zero3 hzB; have f0 := frozen_blk hzB 0; have f1 := frozen_blk hzB 1; have f2 := frozen_blk hzB 2)
      | ((first | with_reducible refine (HAPQ.out _ hbF.drew).mono ?_ | with_reducible refine (HAPQ.out _ hbF).mono ?_); rintro e wB ⟨⟨q1, q2, q3, n1, n2, n3, k1, k2, k3, rfl⟩, hbQ, hbB⟩)
      | ((first | with_reducible refine (HAPQ.out _ (hbF.alloc hbF.size _).drew).mono ?_ | with_reducible refine (HAPQ.out _ (hbF.alloc hbF.size _)).mono ?_); rintro e wB ⟨⟨q1, q2, q3, n1, n2, n3, k1, k2, k3, rfl⟩, hbQ, hbB⟩; have hzB : wB.heap[wF.heap.size]? = some (.cells #[.slice none 0 0, .slice none 0 0, .slice none 0 0] 41 (0, 0)) := (hbQ.block _ (by simp)).trans (heap_alloc_new wF _); obtain ⟨z0, z1, z2⟩ := zero3 hzB; have f0 := frozen_blk hzB 0; have f1 := frozen_blk hzB 1; have f2 := frozen_blk hzB 2)
      | (trace_state; fail))
     | fail)
   all_goals
    go_wp2_with fail
    go_meet
    ·refine ⟨rfl, ?_⟩
     first
      | exact ((hbB.setCell (Nat.le_refl _) _).setCell (Nat.le_refl _) _).setCell (Nat.le_refl _) _
      | exact ((hbB.setCell hbF.size _).setCell hbF.size _).setCell hbF.size _
      | exact hbB.alloc hbB.size _
      | (trace_state; fail)
  obtain ⟨rfl, hbC⟩ := hcut
  have HI8 := Lib.hid (HI7.out.below hbC)
  have HP8 := Lib.hid (HP7.out.below hbC)
  have HV8 : Hid (∀ W, Below wc.heap.size wc W → Calls Tryz.prog 23 #[.agg #[.int .i64 L.disks, .slice A L.n c, .int .i64 L.tiles, .int .i64 L.spare], .agg #[.slice B1 S.ls.length b1, .slice B2 S.ms.length b2, .slice B3 S.nt.length b3]] W fun r w' => r = .returned (.bool ok) ∧ Below W.heap.size W w') := fun W hW => HV7.out W (hbC.trans (hW.mono hbC.size))
  clear hbC HI7 HP7 HV7 HKS HAPQ HFR7
  generalize wc = w8 at *
  generalize her : (if ok = true then (0 : Int) else 1) = er at *
  have HER := Lib.hid her
  clear her
  go_wp2_with fail
  refine (rnew_zero w8).mono ?_
  rintro r w9 ⟨rfl, hb9⟩
  have HI9 := Lib.hid (HI8.out.below hb9)
  have HP9 := Lib.hid (HP8.out.below hb9)
  have HV9 : Hid (∀ W, Below w9.heap.size w9 W → Calls Tryz.prog 23 #[.agg #[.int .i64 L.disks, .slice A L.n c, .int .i64 L.tiles, .int .i64 L.spare], .agg #[.slice B1 S.ls.length b1, .slice B2 S.ms.length b2, .slice B3 S.nt.length b3]] W fun r w' => r = .returned (.bool ok) ∧ Below W.heap.size W w') := fun W hW => HV8.out W (hb9.trans (hW.mono hb9.size))
  clear hb9 HI8 HP8 HV8
  go_upto_region 9 with (fail)
  have hba : Below w9.heap.size w9 (w9.alloc (.cells #[.slice none 0 0, .slice none 0 0, .slice none 0 0] 41)) := below_laid
  have HI10 := Lib.hid (HI9.out.below hba)
  have HP10 := Lib.hid (HP9.out.below hba)
  have HV10 := Lib.hid (HV9.out _ hba)
  clear hba HI9 HP9 HV9
  generalize w9.alloc _ = w10 at *
  obtain ⟨l0, l1, l2, l3⟩ := HI10.out.lay.cells
  obtain ⟨p0, p1, p2⟩ := HP10.out.cells
  go_wp2_with fail
  refine HV10.out.mono ?_
  rintro r w11 ⟨rfl, hb11⟩
  have HI11 := Lib.hid (HI10.out.below hb11)
  have HP11 := Lib.hid (HP10.out.below hb11)
  clear hb11 HI10 HP10 HV10 l0 l1 l2 l3 p0 p1 p2
  obtain ⟨p0, p1, p2⟩ := HP11.out.cells
  have HF := Lib.hid (lfrom_any (.slice B1 S.ls.length b1) (.slice B2 S.ms.length b2) (.slice B3 S.nt.length b3) w11 ⟨_, _, _, rfl⟩ ⟨_, _, _, rfl⟩ ⟨_, _, _, rfl⟩)
  have HZV := Lib.hid (fun W => rvalid_zero B1 B2 B3 S.ls.length S.ms.length S.nt.length b1 b2 b3 W)
  cases ok
  all_goals
   have he := HER.out.symm
   simp only [Bool.false_eq_true, if_false, if_true] at he
   subst he
   clear HER
   go_wp2_with fail
   refine HF.out.mono ?_
   rintro r w12 ⟨rfl, hb12⟩
   have HB12 := Lib.hid (HI11.out.bel.trans (hb12.mono HI11.out.bel.size))
   clear hb12
   go_wp2_with fail
   refine (HZV.out w12).mono ?_
   rintro r w13 ⟨rfl, hb13⟩
   have HB13 := Lib.hid (HB12.out.trans (hb13.mono HB12.out.size))
   clear hb13 p0 p1 p2
   go_wp2
   go_ret
   exact ⟨rfl, HB0.out.trans (HB13.out.mono HB0.out.size)⟩
end Go.Proofs.YtjgjofepedcfnaaGreat
