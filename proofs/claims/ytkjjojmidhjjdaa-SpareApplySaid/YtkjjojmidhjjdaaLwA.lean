/- Walk of tegulalaw22.SpareApply. -/
import Derived.Test.YtkjjojmidhjjdaaLwS
namespace Go.Proofs.Ytkjjojmidhjjdaa
open Go.RowKit

set_option maxHeartbeats 8000000 in
set_option maxRecDepth 100000 in
theorem spareapply_any (n : Nat) (hn : n < 65536) (raw : List Nat) (Ar : Option Addr) (cr : Nat) (m : Mv) (hwm : PlWf m.to) (w : World) (hR : BytR w w.heap.size Ar raw) (h256 : ∀ x ∈ raw, x < 256) :
    Calls Try.prog 4 #[.int .u16 (n : Int), .slice Ar raw.length cr, m.agg] w fun r w' => r = .returned (.bool true) ∧ Below w.heap.size w w' := by
  have HA := Lib.hid (fun W => awake_any W)
  have HSM := Lib.hid (fun W => small_any n hn W)
  have HX : Hid (LayX (smallL n)) := small_layX n
  have HR := Lib.hid hR
  clear hR
  by_cases h20 : 20 < raw.length
  · have h20I : (20 : Int) < (raw.length : Int) := by omega
    go_enter Try.func4, Try.ntmps4
    go_wp2_with fail
    refine (HA.out _).mono ?_
    rintro r w1 ⟨rfl, hb1⟩
    have hb : Below w.heap.size w w1 := below_laid.trans (hb1.mono (by simp))
    go_wp2
    go_ret
    exact ⟨rfl, hb⟩
  have h20I : ¬ (20 : Int) < (raw.length : Int) := by omega
  have HMC := Lib.hid (fun (w0 : World) (X : Nat) (A : Option Addr) (c : Nat) (W : World) (h : LwI w0 X (smallL n) A c W) (hR : BytR w0 w0.heap.size Ar raw) => moves_call (cr := cr) HX.out h hR h256 (by omega))
  have HSL := Lib.hid (fun (w0 w1 w2 : World) (r : Ending) (hb : Below w0.heap.size w0 w1) (h : SmlP n w1 r w2) => small_laid hb h)
  have HOK : Hid (MvOk (smallL n) (movesL (smallL n) raw)) := moves_ok _ _
  have HLN : Hid ((movesL (smallL n) raw).length ≤ 20) := by have := moves_len (smallL n) raw; exact Nat.le_trans this (by omega)
  clear h256
  unfold layAgg at HMC HSL
  generalize SmlP n = SP at HSM HSL
  clear hn
  obtain ⟨L, hL⟩ : ∃ L, smallL n = L := ⟨_, rfl⟩
  rw [hL] at HX HMC HSL HOK HLN
  obtain ⟨ms, hms⟩ : ∃ ms, movesL L raw = ms := ⟨_, rfl⟩
  rw [hms] at HMC HOK HLN
  have HWF : Hid (∀ x ∈ ms, PlWf x.to) := wf_moves HX.out.ok HOK.out
  have HVM : Hid (validM L ms = true) := ok_valid HOK.out
  unfold Mv.agg
  clear hL hms
  go_enter Try.func4, Try.ntmps4
  go_wp2_with fail
  generalize hW0 : w.alloc _ = w0
  have hbx : MvB w0 w.heap.size m := by rw [← hW0]; exact MvB.made' w m
  have hb0 : Below w.heap.size w w0 := by rw [← hW0]; exact below_laid
  have hR0 : BytR w0 w0.heap.size Ar raw := (RdS.below' HR.out hb0 (Nat.le_refl _)).more hb0.size
  have HR0 := Lib.hid hR0
  have HB0 := Lib.hid hb0
  have HBX := Lib.hid hbx
  have HZ0 : Hid (w.heap.size < w0.heap.size) := blk_lt hbx
  clear hW0 hb0 hR0 hbx HR
  refine (HA.out w0).mono ?_
  rintro r w1 ⟨rfl, hb1⟩
  have HB1 := Lib.hid hb1
  clear hb1 HA
  go_wp2_with fail
  refine (HSM.out w1).mono ?_
  rintro r w2 hsm
  obtain ⟨A, c, rfl, -, hi3⟩ := HSL.out w0 w1 w2 r HB1.out hsm
  have HI3 := Lib.hid hi3
  clear hsm hi3 HSL HSM HB1
  go_upto_region 6 with (fail)
  generalize w2.alloc _ = w3 at *
  generalize w2.heap.size = X at *
  obtain ⟨l0, l1, l2, l3⟩ := HI3.out.lay.cells
  go_wp2_with fail
  refine (HMC.out w0 X A c w3 HI3.out HR0.out).mono ?_
  rintro r w4 ⟨Am, cm, rfl, hj4⟩
  have HJ4 := Lib.hid hj4
  clear hj4 l0 l1 l2 l3 HI3 HMC HR0
  have hln := HLN.out
  have hBX := fun (W : World) (h : LwJ w0 X L A c Am ms W) => (HBX.out.below h.bel HZ0.out).cells
  have HBC := Lib.hid hBX
  clear hBX
  go_wp2_with fail
  refine (copied_any (c := cm) w4 HJ4.out.mv (Nat.le_refl _) (by omega)).mono ?_
  rintro r w5 ⟨⟨v5, rfl, hown5⟩, hb5⟩
  have HJ5 := Lib.hid (HJ4.out.below hb5)
  obtain ⟨A5, c5, rfl, -, -⟩ := hown5.form
  rw [List.length_map] at hown5 ⊢
  have HO5 := Lib.hid hown5
  clear hown5 hb5
  obtain ⟨l0, l1, l2, l3⟩ := HJ5.out.lay.cells
  obtain ⟨m0, m1, m2, m3⟩ := HBC.out w5 HJ5.out
  have ha := sApply_any (L := L) (A := A) (Am := A5) (B := w5.heap.size) (c := c) (cm := c5) (ms := ms) m w5 HX.out HJ5.out.gs HO5.out.reads HWF.out hwm (Nat.le_refl _) (by omega)
  have hap : appR L ms m = applyL L ms m := by unfold appR; rw [HVM.out]; rfl
  rw [hap] at ha
  unfold layAgg Mv.agg at ha
  have HAC := Lib.hid ha
  obtain ⟨xr, hxr⟩ : ∃ xr, applyL L ms m = xr := ⟨_, rfl⟩
  have hr22 := fun (W : World) (h : LwJ w0 X L A c Am ms W) => r22apply (L := L) (A := A) (Am := Am) (B := W.heap.size) (c := c) (cm := cm) (ms := ms) m W HX.out h.gs h.mv (Nat.le_refl _) (by omega)
  unfold layAgg Mv.agg at hr22
  rw [hxr] at hr22 HAC
  have HRC := Lib.hid hr22
  have HXL : Hid (xr.1.length ≤ 30) := by
    have := apply_len L ms m
    rw [hxr] at this
    exact Nat.le_trans this (by omega)
  clear ha hap hr22 hxr
  go_wp2_with fail
  refine HAC.out.mono ?_
  rintro r w6 ⟨⟨v6, rfl, hown6⟩, hb6⟩
  have HJ6 := Lib.hid (HJ5.out.below hb6)
  have HO6 := Lib.hid (HO5.out.below hb6)
  obtain ⟨A6, c6, rfl, -, -⟩ := hown6.form
  rw [List.length_map] at hown6 ⊢
  have HP6 := Lib.hid hown6
  clear hown6 hb6 l0 l1 l2 l3 m0 m1 m2 m3 HAC HJ5 HO5
  obtain ⟨l0, l1, l2, l3⟩ := HJ6.out.lay.cells
  obtain ⟨m0, m1, m2, m3⟩ := HBC.out w6 HJ6.out
  go_wp2_with fail
  refine (HRC.out w6 HJ6.out).mono ?_
  rintro r w7 ⟨⟨v7, rfl, hown7⟩, hb7⟩
  have HJ7 := Lib.hid (HJ6.out.below hb7)
  have HO7 := Lib.hid (HO6.out.below hb7)
  have HP7 := Lib.hid (HP6.out.below hb7)
  obtain ⟨A7, c7, rfl, -, -⟩ := hown7.form
  rw [List.length_map] at hown7 ⊢
  have HQ7 := Lib.hid hown7
  clear hown7 hb7 l0 l1 l2 l3 m0 m1 m2 m3 HRC HJ6 HO6 HP6 HBC
  have hs1 := r22same (a := xr.1) (b := xr.1) (c1 := c6) (c2 := c7) w7 HP7.out.reads HQ7.out.reads (by have := HXL.out; omega) (by have := HXL.out; omega) (Nat.le_refl _) (Nat.le_refl _)
  have HS1 := Lib.hid hs1
  clear hs1
  go_wp2_with fail
  refine HS1.out.mono ?_
  rintro r w8 ⟨hr8, hb8⟩
  obtain rfl : r = .returned (.bool true) := by rw [hr8]; simp
  have HJ8 := Lib.hid (HJ7.out.below hb8)
  have hs2 := r22same (a := ms) (b := ms) (c1 := c5) (c2 := cm) w8 (HO7.out.below hb8).reads HJ8.out.mv (by omega) (by omega) (Nat.le_refl _) (Nat.le_refl _)
  have HS2 := Lib.hid hs2
  clear hs2 hb8 HS1 hr8
  go_wp2_with fail
  refine HS2.out.mono ?_
  rintro r w9 ⟨hr9, hb9⟩
  obtain rfl : r = .returned (.bool true) := by rw [hr9]; simp
  have HJ9 := Lib.hid (HJ8.out.below hb9)
  clear hr9 hb9
  go_wp2
  go_ret
  exact ⟨rfl, HB0.out.trans (HJ9.out.bel.mono HB0.out.size)⟩
end Go.Proofs.Ytkjjojmidhjjdaa
