/- Walk of tegulalaw22.SpareWhere. -/
import Derived.Test.YtkjjojmidhjjdaaLwS
namespace Go.Proofs.Ytkjjojmidhjjdaa
open Go.RowKit

set_option maxHeartbeats 8000000 in
set_option maxRecDepth 100000 in
theorem sparewhere_any (n : Nat) (hn : n < 65536) (raw : List Nat) (Ar : Option Addr) (cr : Nat) (g p : Int) (w : World) (hR : BytR w w.heap.size Ar raw) (h256 : ∀ x ∈ raw, x < 256) :
    Calls Try.prog 5 #[.int .u16 (n : Int), .slice Ar raw.length cr, .agg #[.int .i64 g, .int .i64 p]] w fun r w' => r = .returned (.bool true) ∧ Below w.heap.size w w' := by
  have HA := Lib.hid (fun W => awake_any W)
  have HSM := Lib.hid (fun W => small_any n hn W)
  have HX : Hid (LayX (smallL n)) := small_layX n
  have HR := Lib.hid hR
  clear hR
  by_cases h20 : 20 < raw.length
  · have h20I : (20 : Int) < (raw.length : Int) := by omega
    go_enter Try.func5, Try.ntmps5
    go_wp2_with fail
    refine (HA.out _).mono ?_
    rintro r w1 ⟨rfl, hb1⟩
    have hb : Below w.heap.size w w1 := below_laid.trans (hb1.mono (by simp))
    go_wp2
    go_ret
    exact ⟨rfl, hb⟩
  have h20I : ¬ (20 : Int) < (raw.length : Int) := by omega
  have HMC := Lib.hid (fun (w0 : World) (X : Nat) (A : Option Addr) (c : Nat) (W : World) (h : LwI w0 X (smallL n) A c W) (hR : BytR w0 w0.heap.size Ar raw) => moves_call (cr := cr) HX.out h hR h256 (by omega))
  have HSL := Lib.hid (fun (w0 w1 w2 : World) (r : Ending) (hb : Below w0.heap.size w0 w1) (h : SmlP n w1 r w2) => small_laid hb h)
  have HOK : Hid (MvOk (smallL n) (movesL (smallL n) raw)) := moves_ok _ _
  have HLN : Hid ((movesL (smallL n) raw).length ≤ 20) := by have := moves_len (smallL n) raw; exact Nat.le_trans this (by omega)
  clear h256
  unfold layAgg at HMC HSL
  generalize SmlP n = SP at HSM HSL
  clear hn
  obtain ⟨L, hL⟩ : ∃ L, smallL n = L := ⟨_, rfl⟩
  rw [hL] at HX HMC HSL HOK HLN
  obtain ⟨ms, hms⟩ : ∃ ms, movesL L raw = ms := ⟨_, rfl⟩
  rw [hms] at HMC HOK HLN
  have HWF : Hid (∀ x ∈ ms, PlWf x.to) := wf_moves HX.out.ok HOK.out
  have HVM : Hid (validM L ms = true) := ok_valid HOK.out
  clear hL hms
  go_enter Try.func5, Try.ntmps5
  go_wp2_with fail
  generalize hW0 : w.alloc _ = w0
  have hbx : w0.heap[w.heap.size]? = some (.cells #[.int .i64 g, .int .i64 p] 53) := by rw [← hW0]; exact heap_alloc_new w _
  have hb0 : Below w.heap.size w w0 := by rw [← hW0]; exact below_laid
  have hR0 : BytR w0 w0.heap.size Ar raw := (RdS.below' HR.out hb0 (Nat.le_refl _)).more hb0.size
  have HR0 := Lib.hid hR0
  have HB0 := Lib.hid hb0
  have HBX := Lib.hid hbx
  have HZ0 : Hid (w.heap.size < w0.heap.size) := blk_lt hbx
  clear hW0 hb0 hR0 hbx HR
  refine (HA.out w0).mono ?_
  rintro r w1 ⟨rfl, hb1⟩
  have HB1 := Lib.hid hb1
  clear hb1 HA
  go_wp2_with fail
  refine (HSM.out w1).mono ?_
  rintro r w2 hsm
  obtain ⟨A, c, rfl, -, hi3⟩ := HSL.out w0 w1 w2 r HB1.out hsm
  have HI3 := Lib.hid hi3
  clear hsm hi3 HSL HSM HB1
  go_upto_region 6 with (fail)
  generalize w2.alloc _ = w3 at *
  generalize w2.heap.size = X at *
  obtain ⟨l0, l1, l2, l3⟩ := HI3.out.lay.cells
  go_wp2_with fail
  refine (HMC.out w0 X A c w3 HI3.out HR0.out).mono ?_
  rintro r w4 ⟨Am, cm, rfl, hj4⟩
  have HJ4 := Lib.hid hj4
  clear hj4 l0 l1 l2 l3 HI3 HMC HR0
  have hln := HLN.out
  have HBC : Hid (∀ W, LwJ w0 X L A c Am ms W → W.heap[w.heap.size]? = some (.cells #[.int .i64 g, .int .i64 p] 53)) := fun W h => (h.bel.block _ HZ0.out).trans HBX.out
  have hwh := fun (W : World) (h : LwJ w0 X L A c Am ms W) => sWhere_any (L := L) (A := A) (Am := Am) (B := W.heap.size) (c := c) (cm := cm) (ms := ms) g p W HX.out h.gs h.mv HWF.out (Nat.le_refl _) (by omega)
  have his := fun (W : World) (h : LwJ w0 X L A c Am ms W) => r21is (L := L) (A := A) (B := W.heap.size) (c := c) g p W HX.out h.gs (Nat.le_refl _)
  unfold layAgg at hwh his
  have HWC := Lib.hid hwh
  have HIC := Lib.hid his
  clear hwh his
  obtain ⟨l0, l1, l2, l3⟩ := HJ4.out.lay.cells
  have x0 : w4.cell? ⟨w.heap.size, 0, none⟩ = some (.int .i64 g) := by rw [cell_of_row _ _ _ _ _ _ (HBC.out w4 HJ4.out)]; rfl
  have x1 : w4.cell? ⟨w.heap.size, 1, none⟩ = some (.int .i64 p) := by rw [cell_of_row _ _ _ _ _ _ (HBC.out w4 HJ4.out)]; rfl
  go_wp2_with fail
  refine (HWC.out w4 HJ4.out).mono ?_
  rintro r w5 ⟨hr5, hb5⟩
  have HJ5 := Lib.hid (HJ4.out.below hb5)
  have HW5 : Hid (WheP L ms g p r) := hr5
  clear hr5 hb5 l0 l1 l2 l3 x0 x1 HJ4 HWC
  by_cases hp : isP L g p = true
  · obtain rfl := HW5.out.2.2 HVM.out hp
    obtain ⟨a, b, rfl, rfl, ha, hb⟩ := isP_nat hp
    rw [hp] at HIC
    have hr2 := fun (W : World) (h : LwJ w0 X L A c Am ms W) => r22where (L := L) (A := A) (Am := Am) (B := W.heap.size) (c := c) (cm := cm) (ms := ms) a b W HX.out h.gs h.mv (Nat.le_refl _) ha hb (by omega)
    unfold layAgg at hr2
    obtain ⟨t, ht⟩ : ∃ t, whereL L ms a b = t := ⟨_, rfl⟩
    rw [ht] at hr2 ⊢
    clear ht hp ha hb HW5
    obtain ⟨td, tb⟩ := t
    unfold Plc.agg at hr2 ⊢
    have HRC := Lib.hid hr2
    clear hr2
    go_upto_region 8 with (fail)
    generalize hW6 : w5.alloc _ = w6
    have HP6 : Hid (PlB w6 w5.heap.size ⟨td, tb⟩) := by rw [← hW6]; exact heap_alloc_new w5 _
    have HJ6 : Hid (LwJ w0 X L A c Am ms w6) := by rw [← hW6]; exact Lib.hid (HJ5.out.below below_laid)
    generalize w5.heap.size = Y at *
    clear hW6 HJ5
    obtain ⟨l0, l1, l2, l3⟩ := HJ6.out.lay.cells
    have x0 : w6.cell? ⟨w.heap.size, 0, none⟩ = some (.int .i64 a) := by rw [cell_of_row _ _ _ _ _ _ (HBC.out w6 HJ6.out)]; rfl
    have x1 : w6.cell? ⟨w.heap.size, 1, none⟩ = some (.int .i64 b) := by rw [cell_of_row _ _ _ _ _ _ (HBC.out w6 HJ6.out)]; rfl
    go_wp2_with fail
    refine (HIC.out w6 HJ6.out).mono ?_
    rintro r w7 ⟨rfl, hb7⟩
    have HJ7 := Lib.hid (HJ6.out.below hb7)
    have HP7 := Lib.hid (HP6.out.below hb7 HP6.out.lt)
    clear hb7 l0 l1 l2 l3 x0 x1 HJ6 HP6 HIC
    have X7 := fun d xs => (HJ7.out.below (below_regrown w7 d xs)).lay.cells
    have Y7 := fun d xs => (HP7.out.below (below_regrown w7 d xs) HP7.out.lt).cells
    have Z7 : ∀ d xs, (Sort.grow (redrawn w7 d) xs).cell? ⟨w.heap.size, 0, none⟩ = some (.int .i64 a) := fun d xs => by rw [cell_of_row _ _ _ _ _ _ (HBC.out _ (HJ7.out.below (below_regrown w7 d xs)))]; rfl
    have Z8 : ∀ d xs, (Sort.grow (redrawn w7 d) xs).cell? ⟨w.heap.size, 1, none⟩ = some (.int .i64 b) := fun d xs => by rw [cell_of_row _ _ _ _ _ _ (HBC.out _ (HJ7.out.below (below_regrown w7 d xs)))]; rfl
    have KR := Lib.hid (fun d xs => HRC.out (Sort.grow (redrawn w7 d) xs) (HJ7.out.below (below_regrown w7 d xs)))
    go_upto_region 10 with (fail)
    refine quiet_below (by kernel_rfl) (by kernel_rfl) ?_
    repeat (go_big_quiet_step (first | (go_at_call 22; exact Calls.regrown_of (KR.out _ _))))
    refine wpQuiet_nil ?_
    intro wa hba
    have HE := Lib.hid (HB0.out.trans ((HJ7.out.bel.trans (hba.mono HJ7.out.bel.size)).mono HB0.out.size))
    clear X7 Y7 Z7 Z8 KR hba
    go_wp2
    go_ret
    exact ⟨rfl, HE.out⟩
  · have hpf : isP L g p = false := by simpa using hp
    obtain rfl := HW5.out.2.1 HVM.out hpf
    rw [hpf] at HIC
    clear hp hpf HW5
    unfold Plc.agg
    go_upto_region 8 with (fail)
    generalize hW6 : w5.alloc _ = w6
    have HP6 : Hid (PlB w6 w5.heap.size ⟨0, 0⟩) := by rw [← hW6]; exact heap_alloc_new w5 _
    have HJ6 : Hid (LwJ w0 X L A c Am ms w6) := by rw [← hW6]; exact Lib.hid (HJ5.out.below below_laid)
    generalize w5.heap.size = Y at *
    clear hW6 HJ5
    obtain ⟨l0, l1, l2, l3⟩ := HJ6.out.lay.cells
    have x0 : w6.cell? ⟨w.heap.size, 0, none⟩ = some (.int .i64 g) := by rw [cell_of_row _ _ _ _ _ _ (HBC.out w6 HJ6.out)]; rfl
    have x1 : w6.cell? ⟨w.heap.size, 1, none⟩ = some (.int .i64 p) := by rw [cell_of_row _ _ _ _ _ _ (HBC.out w6 HJ6.out)]; rfl
    go_wp2_with fail
    refine (HIC.out w6 HJ6.out).mono ?_
    rintro r w7 ⟨rfl, hb7⟩
    have HJ7 := Lib.hid (HJ6.out.below hb7)
    obtain ⟨y0, y1, -, -⟩ := (HP6.out.below hb7 HP6.out.lt).cells
    have HE := Lib.hid (HB0.out.trans (HJ7.out.bel.mono HB0.out.size))
    clear hb7 l0 l1 l2 l3 x0 x1 HJ6 HP6 HIC
    go_wp2
    go_ret
    exact ⟨rfl, HE.out⟩
end Go.Proofs.Ytkjjojmidhjjdaa
