/- Walk of tegulalaw22.SpareChoose. -/
import Derived.Test.YtkjjojmidhjjdaaLwS
namespace Go.Proofs.Ytkjjojmidhjjdaa
open Go.RowKit

set_option maxHeartbeats 8000000 in
set_option maxRecDepth 100000 in
theorem sparechoose_any (n : Nat) (hn : n < 65536) (raw : List Nat) (Ar : Option Addr) (cr : Nat) (x : Int) (y : Nat) (hy : y < 65536) (w : World) (hR : BytR w w.heap.size Ar raw) (h256 : ∀ x ∈ raw, x < 256) :
    Calls Try.prog 3 #[.int .u16 (n : Int), .slice Ar raw.length cr, .agg #[.int .i64 x, .int .u16 (y : Int)]] w fun r w' => r = .returned (.bool true) ∧ Below w.heap.size w w' := by
  have HA := Lib.hid (fun W => awake_any W)
  have HSM := Lib.hid (fun W => small_any n hn W)
  have HX : Hid (LayX (smallL n)) := small_layX n
  have HR := Lib.hid hR
  clear hR
  by_cases h20 : 20 < raw.length
  · have h20I : (20 : Int) < (raw.length : Int) := by omega
    go_enter Try.func3, Try.ntmps3
    go_wp2_with fail
    refine (HA.out _).mono ?_
    rintro r w1 ⟨rfl, hb1⟩
    have hb : Below w.heap.size w w1 := below_laid.trans (hb1.mono (by simp))
    go_wp2
    go_ret
    exact ⟨rfl, hb⟩
  have h20I : ¬ (20 : Int) < (raw.length : Int) := by omega
  have HMC := Lib.hid (fun (w0 : World) (X : Nat) (A : Option Addr) (c : Nat) (W : World) (h : LwI w0 X (smallL n) A c W) (hR : BytR w0 w0.heap.size Ar raw) => moves_call (cr := cr) HX.out h hR h256 (by omega))
  have HSL := Lib.hid (fun (w0 w1 w2 : World) (r : Ending) (hb : Below w0.heap.size w0 w1) (h : SmlP n w1 r w2) => small_laid hb h)
  have HOK : Hid (MvOk (smallL n) (movesL (smallL n) raw)) := moves_ok _ _
  have HD13 : Hid ((smallL n).disks ≤ 13) := small_d13 n
  have HLN : Hid ((movesL (smallL n) raw).length ≤ 20) := by have := moves_len (smallL n) raw; exact Nat.le_trans this (by omega)
  clear h256
  unfold layAgg at HMC HSL
  generalize SmlP n = SP at HSM HSL
  clear hn
  obtain ⟨L, hL⟩ : ∃ L, smallL n = L := ⟨_, rfl⟩
  rw [hL] at HX HMC HSL HOK HLN HD13
  obtain ⟨ms, hms⟩ : ∃ ms, movesL L raw = ms := ⟨_, rfl⟩
  rw [hms] at HMC HOK HLN
  have HWF : Hid (∀ x ∈ ms, PlWf x.to) := wf_moves HX.out.ok HOK.out
  have HVM : Hid (validM L ms = true) := ok_valid HOK.out
  clear hL hms
  go_enter Try.func3, Try.ntmps3
  go_wp2_with fail
  generalize hW0 : w.alloc _ = w0
  have hbx : w0.heap[w.heap.size]? = some (.cells #[.int .i64 x, .int .u16 (y : Int)] 25) := by rw [← hW0]; exact heap_alloc_new w _
  have hb0 : Below w.heap.size w w0 := by rw [← hW0]; exact below_laid
  have hR0 : BytR w0 w0.heap.size Ar raw := (RdS.below' HR.out hb0 (Nat.le_refl _)).more hb0.size
  have HR0 := Lib.hid hR0
  have HB0 := Lib.hid hb0
  have HBX := Lib.hid hbx
  have HZ0 : Hid (w.heap.size < w0.heap.size) := blk_lt hbx
  clear hW0 hb0 hR0 hbx HR
  refine (HA.out w0).mono ?_
  rintro r w1 ⟨rfl, hb1⟩
  have HB1 := Lib.hid hb1
  clear hb1 HA
  go_wp2_with fail
  refine (HSM.out w1).mono ?_
  rintro r w2 hsm
  obtain ⟨A, c, rfl, -, hi3⟩ := HSL.out w0 w1 w2 r HB1.out hsm
  have HI3 := Lib.hid hi3
  clear hsm hi3 HSL HSM HB1
  go_upto_region 6 with (fail)
  generalize w2.alloc _ = w3 at *
  generalize w2.heap.size = X at *
  obtain ⟨l0, l1, l2, l3⟩ := HI3.out.lay.cells
  go_wp2_with fail
  refine (HMC.out w0 X A c w3 HI3.out HR0.out).mono ?_
  rintro r w4 ⟨Am, cm, rfl, hj4⟩
  have HJ4 := Lib.hid hj4
  clear hj4 l0 l1 l2 l3 HI3 HMC HR0
  have hln := HLN.out
  have HBC : Hid (∀ W, LwJ w0 X L A c Am ms W → W.heap[w.heap.size]? = some (.cells #[.int .i64 x, .int .u16 (y : Int)] 25)) := fun W h => (h.bel.block _ HZ0.out).trans HBX.out
  have hcx : ∀ W, LwJ w0 X L A c Am ms W → W.cell? ⟨w.heap.size, 0, none⟩ = some (.int .i64 x) ∧ W.cell? ⟨w.heap.size, 1, none⟩ = some (.int .u16 (y : Int)) := fun W h =>
    ⟨by rw [cell_of_row _ _ _ _ _ _ (HBC.out W h)]; rfl, by rw [cell_of_row _ _ _ _ _ _ (HBC.out W h)]; rfl⟩
  have HCX := Lib.hid hcx
  clear hcx HBC HBX
  obtain ⟨l0, l1, l2, l3⟩ := HJ4.out.lay.cells
  obtain ⟨x0, x1⟩ := HCX.out w4 HJ4.out
  have HMK := Lib.hid (marks_any L.disks y HD13.out hy w4)
  go_wp2_with fail
  refine HMK.out.mono ?_
  rintro r w5 ⟨⟨v5, rfl, hown5⟩, hb5⟩
  have hdl : (marksL L.disks y).length = L.disks := marks_len y L.disks
  obtain ⟨dl, hdd⟩ : ∃ dl, marksL L.disks y = dl := ⟨_, rfl⟩
  rw [hdd] at hown5 hdl
  clear hdd
  obtain ⟨Ad, cd, rfl, -, -⟩ := hown5.form
  have hrl : (rowsB dl).length = L.disks := by rw [← hdl]; simp [rowsB]
  have HJ5 := Lib.hid (HJ4.out.below hb5)
  have hD5 : BoolS w5 w5.heap.size Ad dl := hown5.reads
  rw [hrl]
  have HDL := Lib.hid hdl
  have HD5 := Lib.hid hD5
  clear hown5 hb5 hrl hD5 hdl l0 l1 l2 l3 x0 x1 HMK HJ4
  have hch := sChoose_any (L := L) (A := A) (Am := Am) (Ad := Ad) (B := w5.heap.size) (c := c) (cm := cm) (cd := cd) (ms := ms) (dead := dl) x w5 HX.out HJ5.out.gs HJ5.out.mv HWF.out HD5.out (by have := HD13.out; rw [HDL.out]; omega) (Nat.le_refl _) (by omega)
  rw [HDL.out] at hch
  have HR1 : Hid (x < 0 → choR L ms x dl = (⟨0, 0⟩, 2)) := fun h => by
    unfold choR
    rw [if_neg (by rintro (h1 | h1); (rw [HVM.out] at h1; cases h1); exact h1 HDL.out), if_pos]
    have : decide (0 ≤ x) = false := by rw [decide_eq_false_iff_not]; omega
    rw [this]
    rfl
  have HR2 : Hid ((L.G : Int) ≤ x → choR L ms x dl = (⟨0, 0⟩, 2)) := fun h => by
    unfold choR
    rw [if_neg (by rintro (h1 | h1); (rw [HVM.out] at h1; cases h1); exact h1 HDL.out), if_pos]
    have : decide (x < (L.G : Int)) = false := by rw [decide_eq_false_iff_not]; omega
    rw [this]
    exact Bool.and_false _
  have HR3 : Hid (0 ≤ x → x < (L.G : Int) → choR L ms x dl = match chooseL L ms x dl with | none => (⟨0, 0⟩, 11) | some t => (t, 0)) := fun h h' => by
    have hb : (decide (0 ≤ x) && decide (x < (L.G : Int))) = true := by rw [Bool.and_eq_true]; exact ⟨by rw [decide_eq_true_iff]; exact h, by rw [decide_eq_true_iff]; exact h'⟩
    unfold choR
    rw [if_neg (by rintro (h1 | h1); (rw [HVM.out] at h1; cases h1); exact h1 HDL.out), if_neg (by rw [hb]; decide)] <;> rfl
  obtain ⟨⟨⟨td, tb⟩, te⟩, hcr⟩ : ∃ q, choR L ms x dl = q := ⟨_, rfl⟩
  rw [hcr] at hch HR1 HR2 HR3
  unfold layAgg Plc.agg at hch
  have HCH := Lib.hid hch
  have HGC : Hid (∀ W, LwJ w0 X L A c Am ms W → Calls Try.prog 14 #[.agg #[.int .i64 (L.disks : Int), .slice A L.n c, .int .i64 (L.tiles : Int), .int .i64 (L.spare : Int)]] W fun r w' => r = .returned (.int .i64 (L.G : Int)) ∧ Below W.heap.size W w') := fun W _ => r21groups (L := L) (A := A) (c := c) W HX.out
  clear hch hcr
  obtain ⟨l0, l1, l2, l3⟩ := HJ5.out.lay.cells
  obtain ⟨x0, x1⟩ := HCX.out w5 HJ5.out
  go_wp2_with fail
  refine HCH.out.mono ?_
  rintro r w6 ⟨rfl, hb6⟩
  have HJ6 := Lib.hid (HJ5.out.below hb6)
  have HD6 : Hid (BoolS w6 w6.heap.size Ad dl) := (RdS.below' HD5.out hb6 (Nat.le_refl _)).more hb6.size
  clear hb6 l0 l1 l2 l3 x0 x1 HJ5 HD5 HCH
  go_upto_region 9 with (fail)
  generalize hW7 : w6.alloc _ = w7
  have HP7 : Hid (PlB w7 w6.heap.size ⟨td, tb⟩) := by rw [← hW7]; exact heap_alloc_new w6 _
  have HJ7 : Hid (LwJ w0 X L A c Am ms w7) := by rw [← hW7]; exact Lib.hid (HJ6.out.below below_laid)
  have HD7 : Hid (BoolS w7 w7.heap.size Ad dl) := by rw [← hW7]; exact (RdS.below' HD6.out below_laid (Nat.le_refl _)).more (by simp)
  generalize w6.heap.size = Y at *
  clear hW7 HJ6 HD6
  have X7 := fun d xs => (HJ7.out.below (below_regrown w7 d xs)).lay.cells
  have Y7 := fun d xs => (HP7.out.below (below_regrown w7 d xs) HP7.out.lt).cells
  have Z7 := fun d xs => HCX.out _ (HJ7.out.below (below_regrown w7 d xs))
  have KG := Lib.hid (fun d xs => HGC.out (Sort.grow (redrawn w7 d) xs) (HJ7.out.below (below_regrown w7 d xs)))
  by_cases hx0 : x < 0
  · have hq := HR1.out hx0
    cases hq
    have f1 : decide (x < 0) = true := by rw [decide_eq_true_iff]; exact hx0
    clear hx0 HR1 HR2 HR3
    refine quiet_below (by kernel_rfl) (by kernel_rfl) ?_
    repeat (go_big_quiet_step (first | (go_at_call 14; exact Calls.regrown_of (KG.out _ _))))
    refine wpQuiet_nil ?_
    intro wa hba
    have HE := Lib.hid (HB0.out.trans ((HJ7.out.bel.trans (hba.mono HJ7.out.bel.size)).mono HB0.out.size))
    obtain ⟨y0, y1, -, -⟩ := (HP7.out.below hba HP7.out.lt).cells
    clear X7 Y7 Z7 KG hba
    go_wp2
    go_ret
    exact ⟨rfl, HE.out⟩
  · have f1 : decide (x < 0) = false := by rw [decide_eq_false_iff_not]; exact hx0
    by_cases hxg : x < (L.G : Int)
    case neg =>
      have hq := HR2.out (by omega)
      cases hq
      have f2 : decide ((L.G : Int) ≤ x) = true := by rw [decide_eq_true_iff]; omega
      clear hx0 hxg HR1 HR2 HR3
      refine quiet_below (by kernel_rfl) (by kernel_rfl) ?_
      repeat (go_big_quiet_step (first | (go_at_call 14; exact Calls.regrown_of (KG.out _ _))))
      refine wpQuiet_nil ?_
      intro wa hba
      have HE := Lib.hid (HB0.out.trans ((HJ7.out.bel.trans (hba.mono HJ7.out.bel.size)).mono HB0.out.size))
      obtain ⟨y0, y1, -, -⟩ := (HP7.out.below hba HP7.out.lt).cells
      clear X7 Y7 Z7 KG hba
      go_wp2
      go_ret
      exact ⟨rfl, HE.out⟩
    case pos =>
      obtain ⟨a, rfl⟩ : ∃ a : Nat, x = (a : Int) := ⟨x.toNat, by omega⟩
      have ha : a < L.G := by omega
      have HRR := Lib.hid (HR3.out (by omega) hxg)
      have f2 : decide (L.G ≤ a) = false := by rw [decide_eq_false_iff_not]; omega
      have f3 : decide ((L.G : Int) ≤ (a : Int)) = false := by rw [decide_eq_false_iff_not]; omega
      have hrc := fun (W : World) (h : LwJ w0 X L A c Am ms W) (hD : BoolS W W.heap.size Ad dl) => r22choose (L := L) (A := A) (Am := Am) (Ad := Ad) (B := W.heap.size) (c := c) (cm := cm) (cd := cd) (ms := ms) (dead := dl) a W HX.out HOK.out h.gs h.mv hD HDL.out (Nat.le_refl _) ha (by omega)
      rw [HDL.out] at hrc
      unfold layAgg at hrc
      have HRC := Lib.hid hrc
      obtain ⟨oc, hoc⟩ : ∃ oc, chooseL L ms (a : Int) dl = oc := ⟨_, rfl⟩
      rw [hoc] at HRR HRC
      clear hoc hrc hx0 hxg HR1 HR2 HR3 ha
      refine quiet_below (by kernel_rfl) (by kernel_rfl) ?_
      repeat (go_big_quiet_step (first | (go_at_call 14; exact Calls.regrown_of (KG.out _ _))))
      refine wpQuiet_nil ?_
      intro w8 hba
      have HJ8 := Lib.hid (HJ7.out.below hba)
      have HP8 := Lib.hid (HP7.out.below hba HP7.out.lt)
      have HD8 : Hid (BoolS w8 w8.heap.size Ad dl) := (RdS.below' HD7.out hba (Nat.le_refl _)).more hba.size
      clear X7 Y7 Z7 KG hba HJ7 HP7 HD7
      obtain ⟨l0, l1, l2, l3⟩ := HJ8.out.lay.cells
      obtain ⟨x0, x1⟩ := HCX.out w8 HJ8.out
      go_wp2_with fail
      refine (HRC.out w8 HJ8.out HD8.out).mono ?_
      rintro r w9 ⟨hr9, hb9⟩
      have HJ9 := Lib.hid (HJ8.out.below hb9)
      have HP9 := Lib.hid (HP8.out.below hb9 HP8.out.lt)
      have HR9 : Hid (ChoP oc r) := hr9
      clear hr9 hb9 l0 l1 l2 l3 x0 x1 HJ8 HP8 HD8 HRC
      cases oc with
      | none =>
        obtain ⟨⟨ud, ub⟩, rfl⟩ := HR9.out.2 rfl
        have hq := HRR.out
        cases hq
        unfold Plc.agg
        go_upto_region 12 with (fail)
        generalize hW10 : w9.alloc _ = w10
        have HJ10 : Hid (LwJ w0 X L A c Am ms w10) := by rw [← hW10]; exact Lib.hid (HJ9.out.below below_laid)
        have HP10 : Hid (PlB w10 Y ⟨0, 0⟩) := by rw [← hW10]; exact HP9.out.below below_laid HP9.out.lt
        clear hW10 HJ9 HP9
        obtain ⟨y0, y1, -, -⟩ := HP10.out.cells
        have HE := Lib.hid (HB0.out.trans (HJ10.out.bel.mono HB0.out.size))
        clear HRR HR9
        go_wp2
        go_ret
        exact ⟨rfl, HE.out⟩
      | some t =>
        obtain rfl := HR9.out.1 t rfl
        have hq := HRR.out
        cases hq
        unfold Plc.agg
        go_upto_region 12 with (fail)
        generalize hW10 : w9.alloc _ = w10
        have HJ10 : Hid (LwJ w0 X L A c Am ms w10) := by rw [← hW10]; exact Lib.hid (HJ9.out.below below_laid)
        have HP10 : Hid (PlB w10 Y ⟨td, tb⟩) := by rw [← hW10]; exact HP9.out.below below_laid HP9.out.lt
        have HQ10 : Hid (PlB w10 w9.heap.size ⟨td, tb⟩) := by rw [← hW10]; exact heap_alloc_new w9 _
        clear hW10 HJ9 HP9
        obtain ⟨y0, y1, -, -⟩ := HP10.out.cells
        obtain ⟨z0, z1, -, -⟩ := HQ10.out.cells
        have HE := Lib.hid (HB0.out.trans (HJ10.out.bel.mono HB0.out.size))
        clear HRR HR9
        go_wp2
        go_ret
        exact ⟨rfl, HE.out⟩
end Go.Proofs.Ytkjjojmidhjjdaa
