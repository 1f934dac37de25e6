/- Walk of tegulalaw22.SpareOnDisk. -/
import Derived.Test.YtkjjojmidhjjdaaGreatLwS
import Derived.Test.YtkjjojmidhjjdaaGreatOdN
import Derived.Test.YtkjjojmidhjjdaaGreatSmD
namespace Go.Proofs.YtkjjojmidhjjdaaGreat
open Go.RowKit

def RndO (n : Nat) (wl : World) (s : Value) (wr : World) : Prop := ∃ i : Nat, i ≤ n ∧ s = .int .i64 i ∧ Below wl.heap.size wl wr
/-- a piece read from a list -/
theorem pair_at {w : World} {B : Nat} {A : Option Addr} {l : List (Nat × Nat)} (h : RdS w B 2 A (l.map memN)) {k : Nat} {x : Nat × Nat} (hx : l[k]? = some x) : ∃ b off, A = some ⟨b, off, none⟩ ∧ b < B ∧ w.cell? ⟨b, off + k * 2, none⟩ = some (.int .i64 (x.1 : Int)) ∧ w.cell? ⟨b, off + k * 2 + 1, none⟩ = some (.int .i64 (x.2 : Int)) := by
  have hk := (List.getElem?_eq_some_iff.1 hx).1
  obtain ⟨b, off, rfl, hb, hc⟩ := h.2 (by simp; omega)
  have hr : (l.map memN)[k]? = some (memN x) := by rw [List.getElem?_map, hx]; rfl
  exact ⟨b, off, rfl, hb, by simpa using hc k _ hr 0 _ rfl, by simpa using hc k _ hr 1 _ rfl⟩
set_option maxHeartbeats 8000000 in
set_option maxRecDepth 100000 in
theorem spareondisk_any (n : Nat) (hn : n < 65536) (raw : List Nat) (Ar : Option Addr) (cr : Nat) (d : Int) (w : World) (hR : BytR w w.heap.size Ar raw) (h256 : ∀ x ∈ raw, x < 256) :
    Calls Tryz.prog 3 #[.int .u16 (n : Int), .slice Ar raw.length cr, .int .i64 d] w fun r w' => r = .returned (.bool true) ∧ Below w.heap.size w w' := by
  have HA := Lib.hid (fun W => awake_any W)
  have HSM := Lib.hid (fun W => small_any n hn W)
  have HX : Hid (LayX (smallL n)) := small_layX n
  have HR := Lib.hid hR
  clear hR
  by_cases h20 : 20 < raw.length
  · have h20I : (20 : Int) < (raw.length : Int) := by omega
    go_enter Tryz.func3, Tryz.ntmps3
    go_wp2_with fail
    refine (HA.out _).mono ?_
    rintro r w1 ⟨rfl, hb1⟩
    have hb : Below w.heap.size w w1 := hb1
    go_wp2
    go_ret
    exact ⟨rfl, hb⟩
  have h20I : ¬ (20 : Int) < (raw.length : Int) := by omega
  have HMC := Lib.hid (fun (w0 : World) (X : Nat) (A : Option Addr) (c : Nat) (W : World) (h : LwI w0 X (smallL n) A c W) (hR : BytR w0 w0.heap.size Ar raw) => moves_call (cr := cr) HX.out h hR h256 (by omega))
  have HSL := Lib.hid (fun (w0 w1 w2 : World) (r : Ending) (hb : Below w0.heap.size w0 w1) (h : SmlP n w1 r w2) => small_laid hb h)
  have HOK : Hid (MvOk (smallL n) (movesL (smallL n) raw)) := moves_ok _ _
  have HLN : Hid ((movesL (smallL n) raw).length ≤ 20) := by have := moves_len (smallL n) raw; exact Nat.le_trans this (by omega)
  clear h256
  unfold layAgg at HMC HSL
  generalize SmlP n = SP at HSM HSL
  clear hn
  obtain ⟨L, hL⟩ : ∃ L, smallL n = L := ⟨_, rfl⟩
  rw [hL] at HX HMC HSL HOK HLN
  obtain ⟨ms, hms⟩ : ∃ ms, movesL L raw = ms := ⟨_, rfl⟩
  rw [hms] at HMC HOK HLN
  have HWF : Hid (∀ x ∈ ms, PlWf x.to) := wf_moves HX.out.ok HOK.out
  have HVM : Hid (validM L ms = true) := ok_valid HOK.out
  clear hL hms
  go_enter Tryz.func3, Tryz.ntmps3
  have HB0 : Hid (Below w.heap.size w w) := Below.refl _ _
  have HR0 := HR
  clear HR
  go_wp2_with fail
  refine (HA.out w).mono ?_
  rintro r w1 ⟨rfl, hb1⟩
  have HB1 := Lib.hid hb1
  clear hb1 HA
  go_wp2_with fail
  refine (HSM.out w1).mono ?_
  rintro r w2 hsm
  obtain ⟨A, c, rfl, -, hi3⟩ := HSL.out w w1 w2 r HB1.out hsm
  have HI3 := Lib.hid hi3
  clear hsm hi3 HSL HSM HB1
  go_upto_region 6 with (fail)
  generalize w2.alloc _ = w3 at *
  generalize w2.heap.size = X at *
  obtain ⟨l0, l1, l2, l3⟩ := HI3.out.lay.cells
  go_wp2_with fail
  refine (HMC.out w X A c w3 HI3.out HR0.out).mono ?_
  rintro r w4 ⟨Am, cm, rfl, hj4⟩
  have HJ4 := Lib.hid hj4
  clear hj4 l0 l1 l2 l3 HI3 HMC HR0
  have hln := HLN.out
  have hod := fun (W : World) (h : LwJ w X L A c Am ms W) => sOnDisk_any (L := L) (A := A) (Am := Am) (B := W.heap.size) (c := c) (cm := cm) (ms := ms) d W HX.out h.gs h.mv HWF.out (Nat.le_refl _) (by omega)
  have hus := fun (W : World) (h : LwJ w X L A c Am ms W) => sUsed_any (L := L) (A := A) (Am := Am) (B := W.heap.size) (c := c) (cm := cm) (ms := ms) d W HX.out h.gs h.mv HWF.out (Nat.le_refl _) (by omega)
  have hru := fun (W : World) (h : LwJ w X L A c Am ms W) => r22used (L := L) (A := A) (Am := Am) (B := W.heap.size) (c := c) (cm := cm) (ms := ms) d W HX.out h.gs h.mv (Nat.le_refl _) (by omega) HOK.out.sep
  have hro := fun (W : World) (h : LwJ w X L A c Am ms W) => r22on (L := L) (A := A) (Am := Am) (B := W.heap.size) (c := c) (cm := cm) (ms := ms) d W HX.out h.gs h.mv (Nat.le_refl _) (by omega)
  unfold layAgg at hod hus hru hro
  have HOD := Lib.hid hod
  have HUS := Lib.hid hus
  have HRU := Lib.hid hru
  have HRO := Lib.hid hro
  clear hod hus hru hro
  obtain ⟨l0, l1, l2, l3⟩ := HJ4.out.lay.cells
  go_wp2_with fail
  refine (HOD.out w4 HJ4.out).mono ?_
  rintro r w5 ⟨hr5, hb5⟩
  have HJ5 := Lib.hid (HJ4.out.below hb5)
  have HR5 : Hid (OdkP L ms d w4.heap.size w5 r) := hr5
  clear hr5 hb5 l0 l1 l2 l3 HJ4 HOD
  by_cases hin : 0 ≤ d ∧ d < (L.disks : Int)
  case neg =>
    have f0 : (decide (0 ≤ d) && decide (d < (L.disks : Int))) = false := by
      rw [Bool.and_eq_false_iff, decide_eq_false_iff_not, decide_eq_false_iff_not]
      omega
    obtain rfl := HR5.out.2.1 HVM.out f0
    have HF0 := Lib.hid f0
    clear f0 HR5
    obtain ⟨l0, l1, l2, l3⟩ := HJ5.out.lay.cells
    go_wp2_with fail
    refine (HUS.out w5 HJ5.out).mono ?_
    rintro r w6 ⟨hr6, hb6⟩
    obtain rfl := hr6.2.1 HVM.out HF0.out
    have HJ6 := Lib.hid (HJ5.out.below hb6)
    clear hr6 hb6 l0 l1 l2 l3 HJ5 HUS
    obtain ⟨l0, l1, l2, l3⟩ := HJ6.out.lay.cells
    have HE := Lib.hid HJ6.out.bel
    by_cases h1 : d < 0
    · have f1 : decide (d < 0) = true := by rw [decide_eq_true_iff]; exact h1
      clear h1 hin
      go_wp2
      go_ret
      exact ⟨rfl, HE.out⟩
    · have f1 : decide (d < 0) = false := by rw [decide_eq_false_iff_not]; exact h1
      have f2 : decide ((L.disks : Int) ≤ d) = true := by rw [decide_eq_true_iff]; omega
      have f2' : decide (d ≥ (L.disks : Int)) = true := by rw [decide_eq_true_iff]; omega
      clear h1 hin
      go_wp2
      go_ret
      exact ⟨rfl, HE.out⟩
  case pos =>
    have f0 : (decide (0 ≤ d) && decide (d < (L.disks : Int))) = true := by rw [Bool.and_eq_true]; exact ⟨by rw [decide_eq_true_iff]; exact hin.1, by rw [decide_eq_true_iff]; exact hin.2⟩
    have HF0 := Lib.hid f0
    obtain ⟨e, rfl⟩ : ∃ e : Nat, d = (e : Int) := ⟨d.toNat, by omega⟩
    have hed : e < L.disks := by omega
    obtain ⟨v, ts, rfl, hown, hp, hs⟩ := HR5.out.2.2 HVM.out f0
    rw [Int.toNat_natCast] at hp
    obtain rfl := sort_on HX.out.ok HOK.out hed hp hs
    rw [← memN_toI] at hown
    have hol : (onL L ms (e : Int)).length ≤ 65536 := by
      rw [onL_to]
      exact Nat.le_trans (onTo_len L ms (e : Int) L.G) (Nat.le_trans (Nat.mul_le_mul HX.out.ok.G HX.out.ok.w.2) (by decide))
    have hul := used_len L ms (e : Int)
    have hsp : L.spare ≤ 65536 := by
      have := HX.out.ok.blocks
      unfold LayD.blocks at this
      omega
    obtain ⟨ol, hoo⟩ : ∃ ol, onL L ms (e : Int) = ol := ⟨_, rfl⟩
    obtain ⟨ul, huu⟩ : ∃ ul, usedL L ms (e : Int) = ul := ⟨_, rfl⟩
    rw [hoo] at hown hol
    rw [huu] at hul
    have hru' := fun (W : World) (h : LwJ w X L A c Am ms W) => HRU.out W h
    have hro' := fun (W : World) (h : LwJ w X L A c Am ms W) => HRO.out W h
    rw [huu] at hru'
    rw [hoo] at hro'
    have HRU2 := Lib.hid hru'
    have HRO2 := Lib.hid hro'
    have HUE : Hid (∀ B w' r, UseP L ms (e : Int) B w' r → ∃ v, r = .returned (.tuple #[v, .int .i64 0]) ∧ OwS w' B 3 1 v (ul.map icell)) := fun B w' r h => by
      have h2 := h.2.2 HVM.out HF0.out
      rw [huu] at h2
      exact h2
    obtain ⟨A9, c9, rfl, -, -⟩ := hown.form
    rw [List.length_map] at hown ⊢
    have HO5 := Lib.hid hown
    clear hown hp hs f0 hin HR5 hoo huu hru' hro' HRU HRO
    obtain ⟨l0, l1, l2, l3⟩ := HJ5.out.lay.cells
    go_wp2_with fail
    refine (HUS.out w5 HJ5.out).mono ?_
    rintro r w6 ⟨hr6, hb6⟩
    obtain ⟨v6, rfl, hown6⟩ := HUE.out _ _ _ hr6
    obtain ⟨A6, c6, rfl, -, -⟩ := hown6.form
    rw [List.length_map] at hown6 ⊢
    have HU6 : Hid (IntS w6 w6.heap.size A6 ul) := hown6.reads
    have HJ6 := Lib.hid (HJ5.out.below hb6)
    have HO6 := Lib.hid (HO5.out.below hb6)
    clear hr6 hown6 hb6 l0 l1 l2 l3 HJ5 HO5 HUS HUE
    have f1 : decide ((e : Int) < 0) = false := by rw [decide_eq_false_iff_not]; omega
    have f2 : decide (L.disks ≤ e) = false := by rw [decide_eq_false_iff_not]; omega
    have f3 : decide ((L.disks : Int) ≤ (e : Int)) = false := by rw [decide_eq_false_iff_not]; omega
    obtain ⟨l0, l1, l2, l3⟩ := HJ6.out.lay.cells
    go_wp2_with fail
    refine (HRO2.out w6 HJ6.out).mono ?_
    rintro r w7 ⟨⟨v7, rfl, hown7⟩, hb7⟩
    obtain ⟨A7, c7, rfl, -, -⟩ := hown7.form
    rw [List.length_map] at hown7 ⊢
    have hq7 := hown7.reads
    have HQ7 : Hid (RdS w7 w7.heap.size 2 A7 (ol.map memN)) := hq7
    have HJ7 := Lib.hid (HJ6.out.below hb7)
    have HO7 := Lib.hid (HO6.out.below hb7)
    have HU7 : Hid (IntS w7 w7.heap.size A6 ul) := (RdS.below' HU6.out hb7 (Nat.le_refl _)).more hb7.size
    clear hown7 hq7 hb7 l0 l1 l2 l3 HJ6 HO6 HU6 HRO2 f1 f2 f3
    obtain ⟨l0, l1, l2, l3⟩ := HJ7.out.lay.cells
    go_wp2_with fail
    refine (HRU2.out w7 HJ7.out).mono ?_
    rintro r w8 ⟨⟨v8, rfl, hown8⟩, hb8⟩
    obtain ⟨A8, c8, rfl, -, -⟩ := hown8.form
    rw [List.length_map] at hown8 ⊢
    have HU8 : Hid (IntS w8 w8.heap.size A8 ul) := hown8.reads
    have HJ8 := Lib.hid (HJ7.out.below hb8)
    have HO8 := Lib.hid (HO7.out.below hb8)
    have HQ8 : Hid (RdS w8 w8.heap.size 2 A7 (ol.map memN)) := (RdS.below' HQ7.out hb8 (Nat.le_refl _)).more hb8.size
    have HT8 : Hid (IntS w8 w8.heap.size A6 ul) := (RdS.below' HU7.out hb8 (Nat.le_refl _)).more hb8.size
    clear hown8 hb8 l0 l1 l2 l3 HJ7 HO7 HQ7 HU7 HRU2
    have HSI := Lib.hid (sameints_any (a := ul) (b := ul) (c1 := c6) (c2 := c8) w8 HT8.out HU8.out (by omega) (by omega) (Nat.le_refl _) (Nat.le_refl _))
    go_wp2_with fail
    refine HSI.out.mono ?_
    rintro r w9 ⟨hr9, hb9⟩
    obtain rfl : r = .returned (.bool true) := by rw [hr9]; simp
    have HJ9 := Lib.hid (HJ8.out.below hb9)
    have HO9 : Hid (RdS w9 w9.heap.size 2 A9 (ol.map memN)) := (HO8.out.below hb9).reads
    have HQ9 : Hid (RdS w9 w9.heap.size 2 A7 (ol.map memN)) := (RdS.below' HQ8.out hb9 (Nat.le_refl _)).more hb9.size
    clear hr9 hb9 HSI HJ8 HO8 HQ8 HT8 HU8
    go_wp2
    go_loopw [14] (fun s14 wr => RndO ol.length w9 s14 wr) (fun s14 _ => ol.length - (intOf s14).toNat)
    case atStart => exact ⟨0, by omega, rfl, Below.refl _ _⟩
    case round =>
      obtain ⟨i, hi, rfl, hb⟩ := hrel
      have HB := Lib.hid hb
      by_cases hio : i < ol.length
      case neg =>
        have hiI : ¬ (i : Int) < (ol.length : Int) := by omega
        have HE := Lib.hid (HJ9.out.bel.trans (hb.mono HJ9.out.bel.size))
        clear hb
        go_wp2
        go_ret
        exact ⟨rfl, HE.out⟩
      case pos =>
        have hiI : (i : Int) < (ol.length : Int) := by omega
        obtain ⟨x, hx⟩ := at_some hio
        obtain ⟨b1, o1, rfl, -, q0, q1⟩ := pair_at (RdS.below' HO9.out hb (Nat.le_refl _)) hx
        obtain ⟨b2, o2, rfl, -, p0, p1⟩ := pair_at (RdS.below' HQ9.out hb (Nat.le_refl _)) hx
        clear hx hb
        go_wp2_with fail
        go_quiet (fail)
        go_wp2
        go_roundw
        case rel => exact ⟨i + 1, by omega, by go_num, below_drewN HB.out _⟩
        case measure => simp [intOf] <;> omega
end Go.Proofs.YtkjjojmidhjjdaaGreat
