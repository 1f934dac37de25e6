/- Walk of tegularef22.On: the pieces on a disk, by group and piece. -/
import Derived.Test.YteglnekkkhpikaaGreatGOdd
namespace Go.Proofs.YteglnekkkhpikaaGreat
open Go.RowKit

theorem elemPair : Elem Tryz.prog 55 57 2 16 := Elem.mk (z := .agg #[.int .i64 0, .int .i64 0]) Tryz.underlying55 (by kernel_rfl) (by decide) rfl
def onIn (L : LayD) (ms : List Mv) (d : Int) (g i : Nat) : List (Nat × Nat) := ((List.range i).filter fun (k : Nat) => (whereL L ms g k).disk == d).map fun k => (g, k)
def onTo (L : LayD) (ms : List Mv) (d : Int) (g : Nat) : List (Nat × Nat) := (List.range g).flatMap fun k => onIn L ms d k L.w
theorem onL_to (L : LayD) (ms : List Mv) (d : Int) : onL L ms d = onTo L ms d L.G := rfl
theorem onTo_succ (L : LayD) (ms : List Mv) (d : Int) (g : Nat) : onTo L ms d (g + 1) = onTo L ms d g ++ onIn L ms d g L.w := by
  unfold onTo
  rw [List.range_succ, List.flatMap_append]
  simp
theorem onIn_yes {L : LayD} {ms : List Mv} {d : Int} {g i : Nat} (h : (whereL L ms g i).disk = d) : onIn L ms d g (i + 1) = onIn L ms d g i ++ [(g, i)] := by
  unfold onIn
  rw [List.range_succ, List.filter_append, List.map_append]
  simp [List.filter, h]
theorem onIn_no {L : LayD} {ms : List Mv} {d : Int} {g i : Nat} (h : (whereL L ms g i).disk ≠ d) : onIn L ms d g (i + 1) = onIn L ms d g i := by
  unfold onIn
  have h2 : ((whereL L ms g i).disk == d) = false := by simpa using h
  rw [List.range_succ, List.filter_append, List.map_append]
  simp [List.filter, h2]
theorem onIn_len (L : LayD) (ms : List Mv) (d : Int) (g i : Nat) : (onIn L ms d g i).length ≤ i := by
  unfold onIn
  rw [List.length_map]
  exact Nat.le_trans (List.length_filter_le _ _) (by simp)
theorem onTo_len (L : LayD) (ms : List Mv) (d : Int) (g : Nat) : (onTo L ms d g).length ≤ g * L.w := by
  induction g with
  | zero => simp [onTo]
  | succ g ih =>
    rw [onTo_succ, List.length_append, Nat.succ_mul]
    have := onIn_len L ms d g L.w
    omega
def OnR (L : LayD) (ms : List Mv) (d : Int) (w0 : World) (s7 s8 : Value) (wr : World) : Prop := ∃ g : Nat, g ≤ L.G ∧ s8 = .int .i64 g ∧ OwS wr w0.heap.size 57 2 s7 ((onTo L ms d g).map memN) ∧ Below w0.heap.size w0 wr
def OnS (L : LayD) (ms : List Mv) (d : Int) (w0 : World) (g : Nat) (s7 s9 : Value) (wr : World) : Prop := ∃ i : Nat, i ≤ L.w ∧ s9 = .int .i64 i ∧ OwS wr w0.heap.size 57 2 s7 ((onTo L ms d g ++ onIn L ms d g i).map memN) ∧ Below w0.heap.size w0 wr
set_option maxHeartbeats 8000000 in
set_option maxRecDepth 100000 in
theorem r22on {L : LayD} {A Am : Option Addr} {B c cm : Nat} {ms : List Mv} (d : Int) (w : World) (hx : LayX L) (hv : GsV w B A L.gs) (hM : MvS w B Am ms) (hB : B ≤ w.heap.size) (hlen : ms.length ≤ 1000000) :
    Calls Tryz.prog 22 #[layAgg L A c, .slice Am ms.length cm, .int .i64 d] w fun r w' => (∃ v, r = .returned v ∧ OwS w' w.heap.size 57 2 v ((onL L ms d).map memN)) ∧ Below w.heap.size w w' := by
  have HV := Lib.hid hv
  have HM := Lib.hid hM
  have hG := hx.ok.G
  have hw16 := hx.ok.w
  have hww := fun (W : World) hv hB => r21width (L := L) (A := A) (B := B) (c := c) W hx hv hB
  have hwg := fun (W : World) => r21groups (L := L) (A := A) (c := c) W hx
  have hwr := fun (g i : Nat) (hg : g < L.G) (hi : i < L.w) (W : World) hv hM hB => r22where (L := L) (A := A) (Am := Am) (B := B) (c := c) (cm := cm) (ms := ms) g i W hx hv hM hB hg hi hlen
  have HRES := Lib.hid (onL_to L ms d)
  unfold layAgg at *
  unfold Plc.agg at hwr
  have HWW := Lib.hid hww
  have HWG := Lib.hid hwg
  have HWR := Lib.hid hwr
  clear hv hM hww hwg hwr
  go_enter Tryz.func22, Tryz.ntmps22
  go_wp2
  generalize hW0 : w.alloc _ = w0
  have hl0 : LayB w0 w.heap.size L A c := by rw [← hW0]; exact LayB.made w L A c
  have hb0 : Below w.heap.size w w0 := by rw [← hW0]; exact below_laid
  have HL0 := Lib.hid hl0
  have HB0 := Lib.hid hb0
  clear hW0 hl0 hb0
  go_loopw [7, 8, 9] (fun s7 s8 _ wr => OnR L ms d w0 s7 s8 wr) (fun _ s8 _ _ => L.G - (intOf s8).toNat)
  case atStart => exact ⟨0, by omega, rfl, OwS.nil _ _ _ _, Below.refl _ _⟩
  case round =>
    obtain ⟨g, hg, rfl, hown, hb⟩ := hrel
    obtain ⟨A7, c7, rfl, -, -⟩ := hown.form
    rw [List.length_map] at hown ⊢
    have HO := Lib.hid hown
    have HB := Lib.hid hb
    have HLR := Lib.hid (HL0.out.below hb HL0.out.lt)
    clear hown hb
    obtain ⟨l0, l1, l2, l3⟩ := HLR.out.cells
    go_wp2_with fail
    refine (HWG.out wr).mono ?_
    rintro r w1 ⟨rfl, hb1⟩
    have HB1 := Lib.hid (HB.out.trans (hb1.mono HB.out.size))
    have HO1 := Lib.hid (HO.out.below hb1)
    have HL1 := Lib.hid (HLR.out.below hb1 HLR.out.lt)
    clear hb1 l0 l1 l2 l3 HB HO HLR
    by_cases hgG : g < L.G
    case neg =>
      have hgI : ¬ (g : Int) < (L.G : Int) := by omega
      obtain rfl : g = L.G := by omega
      have HO2 : Hid (OwS w1 w.heap.size 57 2 (.slice A7 (onTo L ms d L.G).length c7) ((onL L ms d).map memN)) := by rw [HRES.out]; exact HO1.out.mono HB0.out.size
      have HE := Lib.hid (HB0.out.trans (HB1.out.mono HB0.out.size))
      go_wp2
      go_ret
      exact ⟨⟨_, rfl, HO2.out⟩, HE.out⟩
    case pos =>
      have hgI : (g : Int) < (L.G : Int) := by omega
      have HST := Lib.hid (onTo_succ L ms d g)
      have htl : (onTo L ms d g).length ≤ 65536 := Nat.le_trans (onTo_len L ms d g) (Nat.le_trans (Nat.mul_le_mul (show g ≤ 4096 by omega) hw16.2) (by decide))
      obtain ⟨tl, htle⟩ : ∃ tl, onTo L ms d g = tl := ⟨_, rfl⟩
      rw [htle] at HO1 HST htl ⊢
      generalize wr = wo at *
      go_wp2
      go_loopw [7, 9] (fun s7 s9 wr => OnS L ms d w0 g s7 s9 wr) (fun _ s9 _ => L.w - (intOf s9).toNat)
      case atStart => exact ⟨0, by omega, rfl, by rw [htle]; simpa [onIn] using HO1.out, HB1.out⟩
      case round =>
        obtain ⟨i, hi, rfl, hown, hb⟩ := hrel
        rw [htle] at hown
        have hil := onIn_len L ms d g i
        have HY : Hid ((whereL L ms g i).disk = d → tl ++ onIn L ms d g (i + 1) = (tl ++ onIn L ms d g i) ++ [(g, i)]) := fun h => by rw [onIn_yes h, List.append_assoc]
        have HN : Hid ((whereL L ms g i).disk ≠ d → tl ++ onIn L ms d g (i + 1) = tl ++ onIn L ms d g i) := fun h => by rw [onIn_no h]
        have HSW : Hid (i = L.w → onTo L ms d (g + 1) = tl ++ onIn L ms d g i) := fun h => by rw [h]; exact HST.out
        have hal : (tl ++ onIn L ms d g i).length ≤ 70000 := by rw [List.length_append]; omega
        obtain ⟨cu, hcu⟩ : ∃ cu, tl ++ onIn L ms d g i = cu := ⟨_, rfl⟩
        rw [hcu] at hown HY HN HSW hal
        obtain ⟨A8, c8, rfl, -, -⟩ := hown.form
        rw [List.length_map] at hown ⊢
        clear hcu hil
        have HO2 := Lib.hid hown
        have HB2 := Lib.hid hb
        have HLR := Lib.hid (HL0.out.below hb HL0.out.lt)
        have HW2 := Lib.hid (HB0.out.trans (hb.mono HB0.out.size))
        clear hown hb
        obtain ⟨l0, l1, l2, l3⟩ := HLR.out.cells
        go_wp2_with fail
        refine (HWW.out wr (HV.out.below HW2.out hB) (Nat.le_trans hB HW2.out.size)).mono ?_
        rintro r w3 ⟨rfl, hb3⟩
        have HB3 := Lib.hid (HB2.out.trans (hb3.mono HB2.out.size))
        have HO3 := Lib.hid (HO2.out.below hb3)
        have HL3 := Lib.hid (HLR.out.below hb3 HLR.out.lt)
        have HW3 := Lib.hid (HW2.out.trans (hb3.mono HW2.out.size))
        clear hb3 l0 l1 l2 l3 HB2 HO2 HLR HW2
        by_cases hiw : i < L.w
        case neg =>
          have hiI : ¬ (i : Int) < (L.w : Int) := by omega
          have HSE := Lib.hid (HSW.out (by omega))
          clear HY HN HSW
          go_wp2
          go_roundw
          case rel => exact ⟨g + 1, by omega, by go_num, by rw [HSE.out]; exact HO3.out, HB3.out⟩
          case measure => simp [intOf] <;> omega
        case pos =>
          have hiI : (i : Int) < (L.w : Int) := by omega
          have hw22 := HWR.out g i hgG hiw w3 (HV.out.below HW3.out hB) (HM.out.below' HW3.out hB) (Nat.le_trans hB HW3.out.size)
          obtain ⟨⟨td, tb⟩, ht⟩ : ∃ t, whereL L ms g i = t := ⟨_, rfl⟩
          rw [ht] at hw22 HY HN
          simp only at hw22 HY HN
          clear HSW
          have HC := Lib.hid hw22
          have hfd := fun k x b W => field38 k x b W
          clear hw22 ht
          obtain ⟨l0, l1, l2, l3⟩ := HL3.out.cells
          go_wp2_with fail
          refine HC.out.mono ?_
          rintro r w4 ⟨rfl, hb4⟩
          have HB4 := Lib.hid (HB3.out.trans (hb4.mono HB3.out.size))
          have HO4 := Lib.hid (HO3.out.below hb4)
          have hs4 := HB4.out.size
          clear hb4 l0 l1 l2 l3 HC HB3 HO3 HL3 HW3
          by_cases hdd : td = d
          · have f1 : (td == d) = true := by simpa using hdd
            have HR := Lib.hid (HY.out hdd)
            clear hdd HY HN
            go_wp2_with (at_builtin; refine wpList_ap1 rfl (.tmp 30) (.tmp 34) _ rfl elemPair rfl HO4.out (memN (g, i)) _ (by rfl) w4.heap.size (by rfl) (by rfl) (memN_one (g, i)) (by rw [List.length_map]; simp [maxLen]; omega) (by rw [List.length_map]; omega) (by omega) ?_)
            rintro v1 w5 hown1 hg1 -
            have HO5 : Hid (OwS w5 w0.heap.size 57 2 v1 ((cu ++ [(g, i)]).map memN)) := by
              rw [Hid, List.map_append]
              exact hown1
            have HB5 : Hid (Below w0.heap.size w0 w5) := (HB4.out.alloc HB4.out.size _).grown hg1 (by simp; omega) (fun q hq => (HO4.out.lt hq).1)
            clear hown1 hg1
            go_wp2
            go_roundw
            case rel => exact ⟨i + 1, by omega, by go_num, by rw [htle, HR.out]; exact HO5.out, HB5.out⟩
            case measure => simp [intOf] <;> omega
          · have f1 : (td == d) = false := by simpa using hdd
            have HR := Lib.hid (HN.out hdd)
            clear hdd HY HN
            go_wp2
            go_roundw
            case rel => exact ⟨i + 1, by omega, by go_num, by rw [htle, HR.out]; exact HO4.out, HB4.out⟩
            case measure => simp [intOf] <;> omega
end Go.Proofs.YteglnekkkhpikaaGreat
