/- Walk of tegularef23.Helpers: the pieces of a group on disks in service, by disk.
Walk of tegularef23.from: the helpers that are not left out.
Tasks in memory: a list of the callee's own, each with its list of pieces.
Walk of tegularef23.Same on two equal lists of tasks. -/
import Derived.Test.YteglnekkkhpikaaGreatGPlp
import Derived.Test.YteglnekkkhpikaaGreatSpY
import Derived.Test.YteglnekkkhpikaaGreatTwE
import Derived.Test.YteglnekkkhpikaaGreatGTab
namespace Go.Proofs.YteglnekkkhpikaaGreat
open Go.RowKit

def hpIn (L : LayD) (ms : List Mv) (g : Nat) (dead : List Bool) (d i : Nat) : List (Nat × Nat) := ((List.range i).filter fun (k : Nat) => !(dead[d]?.getD false) && (whereL L ms g k).disk == (d : Int)).map fun k => (d, k)
def hpTo (L : LayD) (ms : List Mv) (g : Nat) (dead : List Bool) (d : Nat) : List (Nat × Nat) := (List.range d).flatMap fun k => hpIn L ms g dead k L.w
theorem helpP_to (L : LayD) (ms : List Mv) (g : Nat) (dead : List Bool) : helpP L ms g dead = hpTo L ms g dead L.disks := rfl
theorem hpTo_succ (L : LayD) (ms : List Mv) (g : Nat) (dead : List Bool) (d : Nat) : hpTo L ms g dead (d + 1) = hpTo L ms g dead d ++ hpIn L ms g dead d L.w := by
  unfold hpTo
  rw [List.range_succ, List.flatMap_append]
  simp
theorem hpIn_step (L : LayD) (ms : List Mv) (g : Nat) (dead : List Bool) (d i : Nat) : hpIn L ms g dead d (i + 1) = hpIn L ms g dead d i ++ if !(dead[d]?.getD false) && (whereL L ms g i).disk == (d : Int) then [(d, i)] else [] := by
  unfold hpIn
  rw [List.range_succ, List.filter_append, List.map_append]
  congr 1
  simp only [List.filter_cons, List.filter_nil]
  split <;> rfl
theorem hpIn_len (L : LayD) (ms : List Mv) (g : Nat) (dead : List Bool) (d i : Nat) : (hpIn L ms g dead d i).length ≤ i := by
  unfold hpIn
  rw [List.length_map]
  exact Nat.le_trans (List.length_filter_le _ _) (by simp)
theorem hpTo_len (L : LayD) (ms : List Mv) (g : Nat) (dead : List Bool) (d : Nat) : (hpTo L ms g dead d).length ≤ d * L.w := by
  induction d with
  | zero => simp [hpTo]
  | succ d ih =>
    rw [hpTo_succ, List.length_append, Nat.succ_mul]
    have := hpIn_len L ms g dead d L.w
    omega
def sndC (x : Nat × Nat) : List Value := [.int .i64 (x.2 : Int)]
theorem sndC_icell (l : List (Nat × Nat)) : l.map sndC = (nInts (l.map Prod.snd)).map icell := by
  unfold nInts
  rw [List.map_map, List.map_map]
  rfl
def HpR (L : LayD) (ms : List Mv) (g : Nat) (dead : List Bool) (w0 : World) (s9 s10 : Value) (wr : World) : Prop := ∃ d : Nat, d ≤ L.disks ∧ s10 = .int .i64 d ∧ OwS wr w0.heap.size 3 1 s9 ((hpTo L ms g dead d).map sndC) ∧ Below w0.heap.size w0 wr
def HpS (L : LayD) (ms : List Mv) (g : Nat) (dead : List Bool) (w0 : World) (d : Nat) (s9 s11 : Value) (wr : World) : Prop := ∃ i : Nat, i ≤ L.w ∧ s11 = .int .i64 i ∧ OwS wr w0.heap.size 3 1 s9 ((hpTo L ms g dead d ++ hpIn L ms g dead d i).map sndC) ∧ Below w0.heap.size w0 wr
set_option maxHeartbeats 8000000 in
set_option maxRecDepth 100000 in
theorem r23helpers {L : LayD} {A Am Ad : Option Addr} {B c cm cd : Nat} {ms : List Mv} {dead : List Bool} (g : Nat) (w : World) (hx : LayX L) (hv : GsV w B A L.gs) (hM : MvS w B Am ms) (hD : BoolS w B Ad dead) (hdl : dead.length = L.disks) (hB : B ≤ w.heap.size) (hg : g < L.G) (hlen : ms.length ≤ 1000000) :
    Calls Tryz.prog 35 #[layAgg L A c, .slice Am ms.length cm, .int .i64 (g : Int), .slice Ad L.disks cd] w fun r w' => (∃ v, r = .returned v ∧ OwS w' w.heap.size 3 1 v ((nInts (helpL L ms g dead)).map icell)) ∧ Below w.heap.size w w' := by
  have HV := Lib.hid hv
  have HM := Lib.hid hM
  have HD := Lib.hid hD
  have HDL := Lib.hid hdl
  have hd60 := hx.ok.disks
  have hw16 := hx.ok.w
  have hww := fun (W : World) hv hB => r21width (L := L) (A := A) (B := B) (c := c) W hx hv hB
  have hwr := fun (i : Nat) (hi : i < L.w) (W : World) hv hM hB => r22where (L := L) (A := A) (Am := Am) (B := B) (c := c) (cm := cm) (ms := ms) g i W hx hv hM hB hg hi hlen
  have HRES : Hid ((nInts (helpL L ms g dead)).map icell = (hpTo L ms g dead L.disks).map sndC) := by rw [Hid, sndC_icell]; rfl
  unfold layAgg at *
  unfold Plc.agg at hwr
  have HWW := Lib.hid hww
  have HWR := Lib.hid hwr
  clear hv hM hD hww hwr hdl
  go_enter Tryz.func35, Tryz.ntmps35
  go_wp2
  generalize hW0 : w.alloc _ = w0
  have hl0 : LayB w0 w.heap.size L A c := by rw [← hW0]; exact LayB.made w L A c
  have hb0 : Below w.heap.size w w0 := by rw [← hW0]; exact below_laid
  have HL0 := Lib.hid hl0
  have HB0 := Lib.hid hb0
  clear hW0 hl0 hb0
  go_loopw [9, 10, 11] (fun s9 s10 _ wr => HpR L ms g dead w0 s9 s10 wr) (fun _ s10 _ _ => L.disks - (intOf s10).toNat)
  case atStart => exact ⟨0, by omega, rfl, OwS.nil _ _ _ _, Below.refl _ _⟩
  case round =>
    obtain ⟨d, hd, rfl, hown, hb⟩ := hrel
    obtain ⟨A7, c7, rfl, -, -⟩ := hown.form
    rw [List.length_map] at hown ⊢
    have HO1 := Lib.hid hown
    have HB1 := Lib.hid hb
    have HL1 := Lib.hid (HL0.out.below hb HL0.out.lt)
    clear hown hb
    obtain ⟨l0, l1, l2, l3⟩ := HL1.out.cells
    by_cases hdd : d < L.disks
    case neg =>
      have hdI : ¬ (d : Int) < (L.disks : Int) := by omega
      obtain rfl : d = L.disks := by omega
      have HO2 : Hid (OwS wr w.heap.size 3 1 (.slice A7 (hpTo L ms g dead L.disks).length c7) ((nInts (helpL L ms g dead)).map icell)) := by rw [HRES.out]; exact HO1.out.mono HB0.out.size
      have HE := Lib.hid (HB0.out.trans (HB1.out.mono HB0.out.size))
      go_wp2
      go_ret
      exact ⟨⟨_, rfl, HO2.out⟩, HE.out⟩
    case pos =>
      have hdI : (d : Int) < (L.disks : Int) := by omega
      have HST := Lib.hid (hpTo_succ L ms g dead d)
      have htl : (hpTo L ms g dead d).length ≤ 1000 := Nat.le_trans (hpTo_len L ms g dead d) (Nat.le_trans (Nat.mul_le_mul (show d ≤ 60 by omega) hw16.2) (by decide))
      obtain ⟨tl, htle⟩ : ∃ tl, hpTo L ms g dead d = tl := ⟨_, rfl⟩
      obtain ⟨bv, hbv⟩ := at_some (l := dead) (i := d) (by rw [HDL.out]; exact hdd)
      have hbg : dead[d]?.getD false = bv := by rw [hbv]; rfl
      obtain ⟨bd, od, hAd, hbd, -⟩ := BoolS.at_ HD.out hbv
      subst hAd
      have HDC : Hid (∀ W, Below w.heap.size w W → W.cell? ⟨bd, od + d, none⟩ = some (.bool bv)) := fun W hW => by
        obtain ⟨b', o', e, -, h⟩ := BoolS.at_ (RdS.below' HD.out hW hB) hbv
        cases e
        exact h
      rw [htle] at HO1 HST htl ⊢
      clear hbv
      go_wp2
      clear l0 l1 l2 l3
      generalize wr = wo at *
      go_loopw [9, 11] (fun s9 s11 wr => HpS L ms g dead w0 d s9 s11 wr) (fun _ s11 _ => L.w - (intOf s11).toNat)
      case atStart => exact ⟨0, by omega, rfl, by rw [htle]; simpa [hpIn] using HO1.out, HB1.out⟩
      case round =>
        obtain ⟨i, hi, rfl, hown, hb⟩ := hrel
        rw [htle] at hown
        have hil := hpIn_len L ms g dead d i
        have HSI : Hid (tl ++ hpIn L ms g dead d (i + 1) = (tl ++ hpIn L ms g dead d i) ++ if !bv && (whereL L ms g i).disk == (d : Int) then [(d, i)] else []) := by rw [Hid, hpIn_step, hbg, List.append_assoc]
        have HSW : Hid (i = L.w → hpTo L ms g dead (d + 1) = tl ++ hpIn L ms g dead d i) := fun h => by rw [h]; exact HST.out
        have hal : (tl ++ hpIn L ms g dead d i).length ≤ 2000 := by rw [List.length_append]; omega
        obtain ⟨cu, hcu⟩ : ∃ cu, tl ++ hpIn L ms g dead d i = cu := ⟨_, rfl⟩
        rw [hcu] at hown HSI HSW hal
        obtain ⟨A8, c8, rfl, -, -⟩ := hown.form
        rw [List.length_map] at hown ⊢
        clear hcu hil
        have HO2 := Lib.hid hown
        have HB2 := Lib.hid hb
        have HLR := Lib.hid (HL0.out.below hb HL0.out.lt)
        have HW2 := Lib.hid (HB0.out.trans (hb.mono HB0.out.size))
        clear hown hb
        obtain ⟨l0, l1, l2, l3⟩ := HLR.out.cells
        go_wp2_with fail
        refine (HWW.out wr (HV.out.below HW2.out hB) (Nat.le_trans hB HW2.out.size)).mono ?_
        rintro r w3 ⟨rfl, hb3⟩
        have HB3 := Lib.hid (HB2.out.trans (hb3.mono HB2.out.size))
        have HO3 := Lib.hid (HO2.out.below hb3)
        have HL3 := Lib.hid (HLR.out.below hb3 HLR.out.lt)
        have HW3 := Lib.hid (HW2.out.trans (hb3.mono HW2.out.size))
        clear hb3 l0 l1 l2 l3 HB2 HO2 HLR HW2
        by_cases hiw : i < L.w
        case neg =>
          have hiI : ¬ (i : Int) < (L.w : Int) := by omega
          have HSE := Lib.hid (HSW.out (by omega))
          clear HSI HSW
          go_wp2
          go_roundw
          case rel => exact ⟨d + 1, by omega, by go_num, by rw [HSE.out]; exact HO3.out, HB3.out⟩
          case measure => simp [intOf] <;> omega
        case pos =>
          have hiI : (i : Int) < (L.w : Int) := by omega
          have hw22 := HWR.out i hiw w3 (HV.out.below HW3.out hB) (HM.out.below' HW3.out hB) (Nat.le_trans hB HW3.out.size)
          obtain ⟨⟨td, tb⟩, ht⟩ : ∃ t, whereL L ms g i = t := ⟨_, rfl⟩
          rw [ht] at hw22 HSI
          simp only at hw22 HSI
          have HC := Lib.hid hw22
          have hfd := fun k x b W => field38 k x b W
          have dc := HDC.out w3 HW3.out
          clear hw22 ht HSW
          obtain ⟨l0, l1, l2, l3⟩ := HL3.out.cells
          cases bv
          case true =>
            have hR := HSI.out
            simp only [Bool.not_true, Bool.false_and, Bool.false_eq_true, if_false, List.append_nil] at hR
            have HR := Lib.hid hR
            clear HSI hR
            go_wp2
            go_roundw
            case rel => exact ⟨i + 1, by omega, by go_num, by rw [htle, HR.out]; exact HO3.out, HB3.out⟩
            case measure => simp [intOf] <;> omega
          case false =>
            go_wp2_with fail
            refine HC.out.mono ?_
            rintro r w4 ⟨rfl, hb4⟩
            have HB4 := Lib.hid (HB3.out.trans (hb4.mono HB3.out.size))
            have HO4 := Lib.hid (HO3.out.below hb4)
            have hs4 := HB4.out.size
            clear hb4 l0 l1 l2 l3 HC HB3 HO3 HL3 HW3 dc
            by_cases hdq : td = (d : Int)
            · have f1 : (td == (d : Int)) = true := by simpa using hdq
              have hR := HSI.out
              rw [f1] at hR
              simp only [Bool.not_false, Bool.and_self, if_true] at hR
              have HR := Lib.hid hR
              clear hdq HSI hR
              go_wp2_with (at_builtin; refine wpList_ap1 rfl (.tmp 40) (.tmp 42) _ rfl elemIntS rfl HO4.out (sndC (d, i)) _ (by rfl) w4.heap.size (by rfl) (by rfl) (icellOneS _) (by rw [List.length_map]; simp [maxLen]; omega) (by rw [List.length_map]; omega) (by omega) ?_)
              rintro v1 w5 hown1 hg1 -
              have HO5 : Hid (OwS w5 w0.heap.size 3 1 v1 ((cu ++ [(d, i)]).map sndC)) := by
                rw [Hid, List.map_append]
                exact hown1
              have HB5 : Hid (Below w0.heap.size w0 w5) := (HB4.out.alloc HB4.out.size _).grown hg1 (by simp; omega) (fun q hq => (HO4.out.lt hq).1)
              clear hown1 hg1
              go_wp2
              go_roundw
              case rel => exact ⟨i + 1, by omega, by go_num, by rw [htle, HR.out]; exact HO5.out, HB5.out⟩
              case measure => simp [intOf] <;> omega
            · have f1 : (td == (d : Int)) = false := by simpa using hdq
              have hR := HSI.out
              rw [f1] at hR
              simp only [Bool.and_false, Bool.false_eq_true, if_false, List.append_nil] at hR
              have HR := Lib.hid hR
              clear hdq HSI hR
              go_wp2
              go_roundw
              case rel => exact ⟨i + 1, by omega, by go_num, by rw [htle, HR.out]; exact HO4.out, HB4.out⟩
              case measure => simp [intOf] <;> omega
end Go.Proofs.YteglnekkkhpikaaGreat
namespace Go.Proofs.YteglnekkkhpikaaGreat
open Go.RowKit

/-- the marks behind j of the places that are left out -/
def mkO (L : LayD) (g n j : Nat) : List Bool := (List.range n).map fun k => (List.range j).any fun j => (g / L.n + j) % n == k
theorem mkO_zero (L : LayD) (g n : Nat) : mkO L g n 0 = List.replicate n false := by
  unfold mkO
  apply List.ext_getElem?
  intro k
  rw [List.getElem?_map, List.getElem?_replicate]
  by_cases hk : k < n
  · rw [List.getElem?_range hk, if_pos hk]
    rfl
  · rw [List.getElem?_eq_none (by simpa using hk), if_neg hk]
    rfl
theorem mkO_at {L : LayD} {g n j k : Nat} (hk : k < n) : (mkO L g n j)[k]? = some ((List.range j).any fun j => (g / L.n + j) % n == k) := by
  unfold mkO
  rw [List.getElem?_map, List.getElem?_range hk]
  rfl
theorem mkO_succ {L : LayD} {g n j : Nat} (hn : 0 < n) : mkO L g n (j + 1) = (mkO L g n j).set ((g / L.n + j) % n) true := by
  apply List.ext_getElem?
  intro k
  by_cases hk : k < n
  · rw [mkO_at hk]
    by_cases he : (g / L.n + j) % n = k
    · rw [he, List.getElem?_set_self (by simpa [mkO] using hk), List.range_succ, List.any_append]
      simp [he]
    · rw [List.getElem?_set_ne he, mkO_at hk, List.range_succ, List.any_append]
      simp [he]
  · rw [List.getElem?_eq_none (by simpa [mkO] using hk), List.getElem?_eq_none (by simpa [mkO] using hk)]
theorem mkO_len (L : LayD) (g n j : Nat) : (mkO L g n j).length = n := by simp [mkO]
def fvIn (L : LayD) (hs : List Nat) (g i k : Nat) : List Nat := ((List.range k).filter fun k => (hs[k]? == some i) && !outF L g hs.length k).map fun _ => i
def fvTo (L : LayD) (hs : List Nat) (g i : Nat) : List Nat := (List.range i).flatMap fun i => fvIn L hs g i hs.length
theorem fromV_to (L : LayD) (hs : List Nat) (g : Nat) : fromV L hs g = fvTo L hs g L.w := rfl
theorem fvTo_succ (L : LayD) (hs : List Nat) (g i : Nat) : fvTo L hs g (i + 1) = fvTo L hs g i ++ fvIn L hs g i hs.length := by
  unfold fvTo
  rw [List.range_succ, List.flatMap_append]
  simp
theorem fvIn_step (L : LayD) (hs : List Nat) (g i k : Nat) : fvIn L hs g i (k + 1) = fvIn L hs g i k ++ if (hs[k]? == some i) && !outF L g hs.length k then [i] else [] := by
  unfold fvIn
  rw [List.range_succ, List.filter_append, List.map_append]
  congr 1
  simp only [List.filter_cons, List.filter_nil]
  split <;> rfl
theorem fvIn_len (L : LayD) (hs : List Nat) (g i k : Nat) : (fvIn L hs g i k).length ≤ k := by
  unfold fvIn
  rw [List.length_map]
  exact Nat.le_trans (List.length_filter_le _ _) (by simp)
theorem fvTo_len (L : LayD) (hs : List Nat) (g i : Nat) : (fvTo L hs g i).length ≤ i * hs.length := by
  induction i with
  | zero => simp [fvTo]
  | succ i ih =>
    rw [fvTo_succ, List.length_append, Nat.succ_mul]
    have := fvIn_len L hs g i hs.length
    omega
def natC (x : Nat) : List Value := [.int .i64 (x : Int)]
theorem natC_icell (l : List Nat) : l.map natC = (nInts l).map icell := by
  unfold nInts
  rw [List.map_map]
  rfl
/-- what from answers -/
def FromP (L : LayD) (hs : List Nat) (g B : Nat) (w' : World) (r : Ending) : Prop :=
  (hs.length < L.w - 3 → r = .returned (.slice none 0 0)) ∧ (¬ hs.length < L.w - 3 → ∃ v, r = .returned v ∧ OwS w' B 3 1 v ((fromV L hs g).map natC))
def FrO (L : LayD) (g n : Nat) (w2 : World) (s10 : Value) (wr : World) : Prop := ∃ j : Nat, j ≤ n - (L.w - 3) ∧ s10 = .int .i64 j ∧ OwS wr w2.heap.size 4 1 (.slice (some ⟨w2.heap.size, 0, none⟩) n n) (rowsB (mkO L g n j)) ∧ Below w2.heap.size w2 wr
def FrR (L : LayD) (hs : List Nat) (g : Nat) (w3 : World) (s11 s12 : Value) (wr : World) : Prop := ∃ i : Nat, i ≤ L.w ∧ s12 = .int .i64 i ∧ OwS wr w3.heap.size 3 1 s11 ((fvTo L hs g i).map natC) ∧ Below w3.heap.size w3 wr
def FrS (L : LayD) (hs : List Nat) (g : Nat) (w3 : World) (i : Nat) (s11 s13 : Value) (wr : World) : Prop := ∃ k : Nat, k ≤ hs.length ∧ s13 = .int .i64 k ∧ OwS wr w3.heap.size 3 1 s11 ((fvTo L hs g i ++ fvIn L hs g i k).map natC) ∧ Below w3.heap.size w3 wr
set_option maxHeartbeats 8000000 in
set_option maxRecDepth 100000 in
theorem r23from {L : LayD} {A Ah : Option Addr} {B c ch : Nat} {hs : List Nat} (g : Nat) (w : World) (hx : LayX L) (hv : GsV w B A L.gs) (hH : IntS w B Ah (nInts hs)) (hn : hs.length ≤ 16) (hB : B ≤ w.heap.size) (hg : g < L.G) :
    Calls Tryz.prog 34 #[layAgg L A c, .slice Ah hs.length ch, .int .i64 (g : Int)] w fun r w' => FromP L hs g w.heap.size w' r ∧ Below w.heap.size w w' := by
  have HV := Lib.hid hv
  have HH := Lib.hid hH
  have hw16 := hx.ok.w
  have hG := hx.ok.G
  have hn0 := hx.ok.n
  have hww := fun (W : World) hv hB => r21width (L := L) (A := A) (B := B) (c := c) W hx hv hB
  have HDEF : Hid (∀ w' r, FromP L hs g w.heap.size w' r ↔ (hs.length < L.w - 3 → r = .returned (.slice none 0 0)) ∧ (¬ hs.length < L.w - 3 → ∃ v, r = .returned v ∧ OwS w' w.heap.size 3 1 v ((fromV L hs g).map natC))) := fun _ _ => Iff.rfl
  generalize FromP L hs g = FP at *
  unfold layAgg at *
  have HWW := Lib.hid hww
  have k1 : IntKind.i64.wrap ((L.w : Int) - 3) = ((L.w - 3 : Nat) : Int) := by rw [IntWalk.i64_in _ (by omega)]; omega
  obtain ⟨need, hneed⟩ : ∃ need, L.w - 3 = need := ⟨_, rfl⟩
  obtain ⟨n, hnn⟩ : ∃ n, hs.length = n := ⟨_, rfl⟩
  rw [hneed] at k1 HDEF
  rw [hnn] at HDEF hn ⊢
  clear hv hH hww
  go_enter Tryz.func34, Tryz.ntmps34
  go_wp2_with fail
  generalize hW0 : w.alloc _ = w0
  have hl0 : LayB w0 w.heap.size L A c := by rw [← hW0]; exact LayB.made w L A c
  have hb0 : Below w.heap.size w w0 := by rw [← hW0]; exact below_laid
  clear hW0
  refine (HWW.out w0 (HV.out.below hb0 hB) (Nat.le_trans hB hb0.size)).mono ?_
  rintro r w2 ⟨rfl, hb2⟩
  have HL2 := Lib.hid (hl0.below hb2 hl0.lt)
  have HB2 := Lib.hid (hb0.trans (hb2.mono hb0.size))
  clear hl0 hb0 hb2
  by_cases hlt : n < need
  case pos =>
    have hltI : (n : Int) < (need : Int) := by omega
    have HRR : Hid (FP w.heap.size w2 (.returned (.slice none 0 0))) := (HDEF.out _ _).2 ⟨fun _ => rfl, fun h => absurd hlt h⟩
    clear hlt
    go_wp2
    go_ret
    exact ⟨HRR.out, HB2.out⟩
  case neg =>
    have hltI : ¬ (n : Int) < (need : Int) := by omega
    have hn1 : 0 < n := by omega
    have HDE2 : Hid (∀ w' v, OwS w' w.heap.size 3 1 v ((fromV L hs g).map natC) → FP w.heap.size w' (.returned v)) := fun w' v h => (HDEF.out _ _).2 ⟨fun h2 => absurd h2 hlt, fun _ => ⟨v, rfl, h⟩⟩
    have hmk : ∀ W : World, (Instr.makeSlice 35 (.int .i64 (n : Int)) (.int .i64 (n : Int))).run Tryz.prog W = .ok (.slice (some ⟨W.heap.size, 0, none⟩) n n) (W.alloc (.cells (madeCells #[.bool false] n) 4)) := fun W => make_boolsS W n (by omega)
    have k2 : IntKind.i64.wrap ((n : Int) - (need : Int)) = ((n - need : Nat) : Int) := by rw [IntWalk.i64_in _ (by omega)]; omega
    obtain ⟨t, ht⟩ : ∃ t, g / L.n = t := ⟨_, rfl⟩
    have htb : t ≤ 4096 := by rw [← ht]; exact Nat.le_trans (Nat.div_le_self _ _) (by omega)
    have k3 : Int.tdiv (g : Int) (L.n : Int) = (t : Int) := by rw [← ht]; exact tdiv_nat _ _
    have k4 : ¬ (L.n : Int) = 0 := by omega
    have k5 : ¬ L.n = 0 := by omega
    have k6 : IntKind.i64.wrap (t : Int) = (t : Int) := IntWalk.i64_in _ (by omega)
    have k7 : ¬ (n : Int) = 0 := by omega
    have k8 : ¬ n = 0 := by omega
    obtain ⟨m, hm⟩ : ∃ m, n - need = m := ⟨_, rfl⟩
    rw [hm] at k2
    clear hlt
    go_wp2
    have H0 : Hid (FrO L g n w2 (.int .i64 0) (w2.alloc (.cells (madeCells #[.bool false] n) 4))) := ⟨0, by omega, rfl, by rw [mkO_zero]; exact made_falses w2 n (by omega), below_laid⟩
    have hwl : w.heap.size < w2.heap.size := HL2.out.lt
    generalize w2.alloc _ = w3 at *
    clear hmk
    go_loopw [10] (fun s10 wr => FrO L g n w2 s10 wr) (fun s10 _ => m - (intOf s10).toNat)
    case atStart => exact H0.out
    case round =>
      clear H0
      obtain ⟨j, hj, rfl, hown, hb⟩ := hrel
      rw [hneed, hm] at hj
      have HO := Lib.hid hown
      have HB := Lib.hid hb
      have hll := (HL2.out.below hb HL2.out.lt).cells
      obtain ⟨l0, l1, l2, l3⟩ := hll
      clear hown hb
      by_cases hjm : j < m
      case pos =>
        have hjI : (j : Int) < (m : Int) := by omega
        have hkk : (t + j) % n < n := Nat.mod_lt _ hn1
        have q1 : IntKind.i64.wrap ((t : Int) + (j : Int)) = ((t + j : Nat) : Int) := by rw [IntWalk.i64_in _ (by omega)]; omega
        have q2 : Int.tmod ((t + j : Nat) : Int) (n : Int) = (((t + j) % n : Nat) : Int) := tmod_nat _ _
        have HMS : Hid (mkO L g n (j + 1) = (mkO L g n j).set ((t + j) % n) true) := by rw [← ht]; exact mkO_succ hn1
        obtain ⟨bv, hbv⟩ := at_some (l := mkO L g n j) (i := (t + j) % n) (by rw [mkO_len]; exact hkk)
        have hrk : (rowsB (mkO L g n j))[(t + j) % n]? = some [.bool bv] := by unfold rowsB; rw [List.getElem?_map, hbv]; rfl
        generalize mkO L g n j = mk at *
        generalize (t + j) % n = kk at *
        generalize t + j = tj at *
        have q3 : IntKind.i64.wrap (kk : Int) = (kk : Int) := IntWalk.i64_in _ (by omega)
        have hkI : (kk : Int) < (n : Int) := by omega
        have uc : wr.cell? ⟨w2.heap.size, kk, none⟩ = some (.bool bv) := by
          have hz := HO.out.reads.2 (by have := (List.getElem?_eq_some_iff.1 hrk).1; omega)
          obtain ⟨b, off, ee, -, h⟩ := hz
          cases ee
          have h' := h kk _ hrk 0 _ rfl
          simpa using h'
        have hst := HO.out.set (k := kk) (j := 0) hrk (by omega) (.bool true)
        simp only [Nat.mul_one, Nat.add_zero] at hst
        have HST := Lib.hid hst
        have uf := HO.out.frozen kk
        have HO2 : Hid (OwS (wr.setCell ⟨w2.heap.size, kk, none⟩ (.bool true)) w2.heap.size 4 1 (.slice (some ⟨w2.heap.size, 0, none⟩) n n) (rowsB (mk.set kk true))) := by
          have h := HST.out.1
          unfold rowsB at h ⊢
          rw [List.map_set]
          exact h
        have HB3 : Hid (Below w2.heap.size w2 (wr.setCell ⟨w2.heap.size, kk, none⟩ (.bool true))) := HB.out.setCell (Nat.le_refl _) _
        clear hst hrk hbv HST
        go_wp2
        go_roundw
        case rel => exact ⟨j + 1, by rw [hneed, hm]; omega, by go_num, by rw [HMS.out]; exact HO2.out, HB3.out⟩
        case measure => simp [intOf] <;> omega
      case neg =>
        have hjI : ¬ (j : Int) < (m : Int) := by omega
        obtain rfl : j = m := by omega
        have HOU : Hid (∀ k, k < n → (mkO L g n j)[k]? = some (outF L g n k)) := fun k hk => by
          rw [mkO_at hk]
          unfold outF
          rw [hneed, hm]
        have HRD : Hid (∀ W k, Below wr.heap.size wr W → k < n → W.cell? ⟨w2.heap.size, k, none⟩ = some (.bool (outF L g n k))) := fun W k hW hk => by
          have hr : (rowsB (mkO L g n j))[k]? = some [.bool (outF L g n k)] := by unfold rowsB; rw [List.getElem?_map, HOU.out k hk]; rfl
          obtain ⟨b, off, ee, -, h⟩ := (RdS.below' HO.out.reads hW (Nat.le_refl _)).2 (by rw [List.length_pos_iff_exists_mem]; exact ⟨_, List.mem_of_getElem? hr⟩)
          cases ee
          have h' := h k _ hr 0 _ rfl
          simpa using h'
        have HBW := Lib.hid (HB2.out.trans (HB.out.mono HB2.out.size))
        have HLW := Lib.hid (HL2.out.below HB.out HL2.out.lt)
        clear l0 l1 l2 l3 HO HB HOU
        generalize wr = wp at *
        go_wp2
        go_loopw [11, 12, 13] (fun s11 s12 _ wr => FrR L hs g wp s11 s12 wr) (fun _ s12 _ _ => L.w - (intOf s12).toNat)
        case atStart => exact ⟨0, by omega, rfl, OwS.nil _ _ _ _, Below.refl _ _⟩
        case round =>
          obtain ⟨i, hi, rfl, hown, hb⟩ := hrel
          obtain ⟨A7, c7, rfl, -, -⟩ := hown.form
          rw [List.length_map] at hown ⊢
          have HO := Lib.hid hown
          have HB := Lib.hid hb
          have HLR := Lib.hid (HLW.out.below hb HLW.out.lt)
          have HWR := Lib.hid (HBW.out.trans (hb.mono HBW.out.size))
          clear hown hb
          obtain ⟨l0, l1, l2, l3⟩ := HLR.out.cells
          go_wp2_with fail
          refine (HWW.out wr (HV.out.below HWR.out hB) (Nat.le_trans hB HWR.out.size)).mono ?_
          rintro r w4 ⟨rfl, hb4⟩
          have HB4 := Lib.hid (HB.out.trans (hb4.mono HB.out.size))
          have HO4 := Lib.hid (HO.out.below hb4)
          have HW4 := Lib.hid (HWR.out.trans (hb4.mono HWR.out.size))
          clear hb4 l0 l1 l2 l3 HB HO HLR HWR
          by_cases hiw : i < L.w
          case neg =>
            have hiI : ¬ (i : Int) < (L.w : Int) := by omega
            have hiw2 : i = L.w := by omega
            have HRR : Hid (FP w.heap.size w4 (.returned (.slice A7 (fvTo L hs g i).length c7))) := HDE2.out w4 _ (by rw [fromV_to, ← hiw2]; exact HO4.out.mono HBW.out.size)
            clear hiw2
            go_wp2
            go_ret
            exact ⟨HRR.out, HW4.out⟩
          case pos =>
            have hiI : (i : Int) < (L.w : Int) := by omega
            have HST := Lib.hid (fvTo_succ L hs g i)
            rw [hnn] at HST
            have htl : (fvTo L hs g i).length ≤ 1000 := Nat.le_trans (fvTo_len L hs g i) (Nat.le_trans (Nat.mul_le_mul (show i ≤ 16 by omega) (show hs.length ≤ 16 by omega)) (by decide))
            obtain ⟨tl, htle⟩ : ∃ tl, fvTo L hs g i = tl := ⟨_, rfl⟩
            rw [htle] at HO4 HST htl ⊢
            generalize wr = wo at *
            go_wp2
            go_loopw [11, 13] (fun s11 s13 wr => FrS L hs g wp i s11 s13 wr) (fun _ s13 _ => n - (intOf s13).toNat)
            case atStart => exact ⟨0, by omega, rfl, by rw [htle]; simpa [fvIn] using HO4.out, HB4.out⟩
            case round =>
              obtain ⟨k, hk, rfl, hown, hb⟩ := hrel
              rw [htle] at hown
              rw [hnn] at hk
              have hil := fvIn_len L hs g i k
              have HSI : Hid (tl ++ fvIn L hs g i (k + 1) = (tl ++ fvIn L hs g i k) ++ if (hs[k]? == some i) && !outF L g n k then [i] else []) := by rw [Hid, fvIn_step, hnn, List.append_assoc]
              have HSW : Hid (k = n → fvTo L hs g (i + 1) = tl ++ fvIn L hs g i k) := fun h => by rw [h]; exact HST.out
              have hal : (tl ++ fvIn L hs g i k).length ≤ 2000 := by rw [List.length_append]; omega
              obtain ⟨cu, hcu⟩ : ∃ cu, tl ++ fvIn L hs g i k = cu := ⟨_, rfl⟩
              rw [hcu] at hown HSI HSW hal
              obtain ⟨A8, c8, rfl, -, -⟩ := hown.form
              rw [List.length_map] at hown ⊢
              clear hcu hil
              have HO2 := Lib.hid hown
              have HB5 := Lib.hid hb
              have HWK := Lib.hid (HBW.out.trans (hb.mono HBW.out.size))
              by_cases hkn : k < n
              case neg =>
                have hkI : ¬ (k : Int) < (n : Int) := by omega
                have HSE := Lib.hid (HSW.out (by omega))
                clear hown hb HSI HSW
                go_wp2
                go_roundw
                case rel => exact ⟨i + 1, by omega, by go_num, by rw [HSE.out]; exact HO2.out, HB5.out⟩
                case measure => simp [intOf] <;> omega
              case pos =>
                have hkI : (k : Int) < (n : Int) := by omega
                obtain ⟨y, hy⟩ := at_some (l := hs) (i := k) (by rw [hnn]; exact hkn)
                obtain ⟨bh, oh, rfl, -, hc⟩ := nints_at (RdS.below' HH.out HWK.out hB) hy
                have oc := HRD.out wr k hb hkn
                rw [hy] at HSI
                obtain ⟨ov, hov⟩ : ∃ ov, outF L g n k = ov := ⟨_, rfl⟩
                rw [hov] at HSI oc
                clear hown hb hy hov HSW
                by_cases hyi : y = i
                · subst hyi
                  cases ov
                  · have hR := HSI.out
                    simp only [beq_self_eq_true, Bool.not_false, Bool.and_self, if_true] at hR
                    have HR := Lib.hid hR
                    have hs5 := HB5.out.size
                    clear HSI hR
                    go_wp2_with (at_builtin; refine wpList_ap1 rfl (.tmp 67) (.tmp 69) _ rfl elemIntS rfl HO2.out (natC y) _ (by rfl) wr.heap.size (by rfl) (by rfl) (icellOneS _) (by rw [List.length_map]; simp [maxLen]; omega) (by rw [List.length_map]; omega) (by omega) ?_)
                    rintro v1 w5 hown1 hg1 -
                    have HO5 : Hid (OwS w5 wp.heap.size 3 1 v1 ((cu ++ [y]).map natC)) := by
                      rw [Hid, List.map_append]
                      exact hown1
                    have HB6 : Hid (Below wp.heap.size wp w5) := (HB5.out.alloc HB5.out.size _).grown hg1 (by simp; omega) (fun q hq => (HO2.out.lt hq).1)
                    clear hown1 hg1
                    go_wp2
                    go_roundw
                    case rel => exact ⟨k + 1, by omega, by go_num, by rw [htle, HR.out]; exact HO5.out, HB6.out⟩
                    case measure => simp [intOf] <;> omega
                  · have hR := HSI.out
                    simp only [Bool.not_true, Bool.and_false, Bool.false_eq_true, if_false, List.append_nil] at hR
                    have HR := Lib.hid hR
                    clear HSI hR
                    go_wp2
                    go_roundw
                    case rel => exact ⟨k + 1, by omega, by go_num, by rw [htle, HR.out]; exact HO2.out, HB5.out⟩
                    case measure => simp [intOf] <;> omega
                · have f1 : ((y : Int) == (i : Int)) = false := by simp; omega
                  have f2 : (y == i) = false := by simp; omega
                  have f3 : decide (y = i) = false := by simp; omega
                  have hR := HSI.out
                  have h0 : (some y == some i) = false := by simpa using hyi
                  rw [h0] at hR
                  simp only [Bool.false_and, Bool.false_eq_true, if_false, List.append_nil] at hR
                  have HR := Lib.hid hR
                  clear HSI hR h0 hyi
                  go_wp2
                  go_roundw
                  case rel => exact ⟨k + 1, by omega, by go_num, by rw [htle, HR.out]; exact HO2.out, HB5.out⟩
                  case measure => simp [intOf] <;> omega
end Go.Proofs.YteglnekkkhpikaaGreat
namespace Go.Proofs.YteglnekkkhpikaaGreat
open Go.RowKit

def natR (l : List Nat) : List (List Value) := l.map fun (x : Nat) => [.int .i64 (x : Int)]
def tskRow (p : Option Addr × Nat) (t : Tsk) : List Value := [.int .i64 (t.g : Int), .int .i64 (t.p : Int), .slice p.1 t.frm.length p.2, .int .i64 t.to.disk, .int .i64 t.to.block]
def tskRows (vs : List (Option Addr × Nat)) (ts : List Tsk) : List (List Value) := (vs.zip ts).map fun x => tskRow x.1 x.2
/-- tasks that the callee owns: the list, and the pieces of each -/
def TskW (w : World) (B : Nat) (v : Value) (vs : List (Option Addr × Nat)) (ts : List Tsk) : Prop := vs.length = ts.length ∧ OwS w B 52 5 v (tskRows vs ts) ∧
  ∀ (i : Nat) (p : Option Addr × Nat) (t : Tsk), vs[i]? = some p → ts[i]? = some t → OwS w B 3 1 (.slice p.1 t.frm.length p.2) (natR t.frm)
def TskO (w : World) (B : Nat) (v : Value) (ts : List Tsk) : Prop := ∃ vs, TskW w B v vs ts
/-- tasks that can be read -/
def TskS (w : World) (B : Nat) (A : Option Addr) (ts : List Tsk) : Prop := ∃ vs : List (Option Addr × Nat), vs.length = ts.length ∧ RdS w B 5 A (tskRows vs ts) ∧
  ∀ (i : Nat) (p : Option Addr × Nat) (t : Tsk), vs[i]? = some p → ts[i]? = some t → RdS w B 1 p.1 (natR t.frm)
section
variable {w w' w1 : World} {B C : Nat} {v v1 : Value} {vs : List (Option Addr × Nat)} {ts : List Tsk}
theorem TskW.nil (w : World) (B : Nat) : TskW w B (.slice none 0 0) [] [] := ⟨rfl, OwS.nil _ _ _ _, fun i p t h => by simp at h⟩
theorem TskW.below (h : TskW w B v vs ts) (hb : Below w.heap.size w w') : TskW w' B v vs ts := ⟨h.1, h.2.1.below hb, fun i p t h1 h2 => (h.2.2 i p t h1 h2).below hb⟩
theorem TskW.mono (h : TskW w C v vs ts) (hB : B ≤ C) : TskW w B v vs ts := ⟨h.1, h.2.1.mono hB, fun i p t h1 h2 => (h.2.2 i p t h1 h2).mono hB⟩
theorem TskO.below (h : TskO w B v ts) (hb : Below w.heap.size w w') : TskO w' B v ts := by
  obtain ⟨vs, h⟩ := h
  exact ⟨vs, h.below hb⟩
theorem TskO.mono (h : TskO w C v ts) (hB : B ≤ C) : TskO w B v ts := by
  obtain ⟨vs, h⟩ := h
  exact ⟨vs, h.mono hB⟩
theorem tskRows_len (hl : vs.length = ts.length) : (tskRows vs ts).length = ts.length := by
  unfold tskRows
  simp [hl]
theorem tskRows_push {p : Option Addr × Nat} {t : Tsk} (hl : vs.length = ts.length) : tskRows (vs ++ [p]) (ts ++ [t]) = tskRows vs ts ++ [tskRow p t] := by
  unfold tskRows
  rw [List.zip_append hl, List.map_append]
  rfl
theorem TskW.push (h : TskW w B v vs ts) {p : Option Addr × Nat} {t : Tsk} (hg : OwS w B 3 1 (.slice p.1 t.frm.length p.2) (natR t.frm)) (ho : OwS w1 B 52 5 v1 (tskRows vs ts ++ [tskRow p t]))
    (hk : w.grownBy w1 v.ownBlock) : TskW w1 B v1 (vs ++ [p]) (ts ++ [t]) := by
  have hkeep : ∀ {q : Option Addr × Nat} {x : List Nat}, OwS w B 3 1 (.slice q.1 x.length q.2) (natR x) → OwS w1 B 3 1 (.slice q.1 x.length q.2) (natR x) := fun hx => hx.kept hk (hx.ne h.2.1 (by decide))
  refine ⟨by simp [h.1], by rw [tskRows_push h.1]; exact ho, fun i q x hq hx => ?_⟩
  rcases Nat.lt_trichotomy i vs.length with hi | hi | hi
  · rw [List.getElem?_append_left hi] at hq
    rw [List.getElem?_append_left (by rw [← h.1]; exact hi)] at hx
    exact hkeep (h.2.2 i q x hq hx)
  · subst hi
    rw [h.1] at hx
    simp at hq hx
    subst hq hx
    exact hkeep hg
  · have := (List.getElem?_eq_some_iff.1 hq).1
    simp at this
    omega
theorem TskO.form (h : TskO w B v ts) : ∃ A c, v = .slice A ts.length c := by
  obtain ⟨vs, h1, h2, -⟩ := h
  obtain ⟨A, c, e, -, -⟩ := h2.form
  rw [tskRows_len h1] at e
  exact ⟨A, c, e⟩
theorem TskO.reads {A : Option Addr} {n c : Nat} (h : TskO w B (.slice A n c) ts) : TskS w w.heap.size A ts := by
  obtain ⟨vs, h1, h2, h3⟩ := h
  have hf := h2.form
  obtain ⟨A', c', e, -⟩ := hf
  injection e with e1 e2 e3
  rw [e1, e2] at h2
  refine ⟨vs, h1, by rw [e1]; exact h2.reads, fun i p t hp ht => ?_⟩
  have h4 := h3 i p t hp ht
  obtain ⟨A2, c2, e', -⟩ := h4.form
  injection e' with f1 f2 f3
  rw [f1, f2] at h4
  rw [f1]
  exact h4.reads
theorem TskS.below {A : Option Addr} (h : TskS w B A ts) (hb : Below C w w') (hC : B ≤ C) : TskS w' B A ts := by
  obtain ⟨vs, h1, h2, h3⟩ := h
  exact ⟨vs, h1, RdS.below' h2 hb hC, fun i p t hp ht => RdS.below' (h3 i p t hp ht) hb hC⟩
theorem TskS.more {A : Option Addr} (h : TskS w B A ts) (hB : B ≤ C) : TskS w C A ts := by
  obtain ⟨vs, h1, h2, h3⟩ := h
  exact ⟨vs, h1, RdS.more h2 hB, fun i p t hp ht => RdS.more (h3 i p t hp ht) hB⟩
/-- a task read -/
theorem TskS.at_ {A : Option Addr} (h : TskS w B A ts) {k : Nat} {t : Tsk} (ht : ts[k]? = some t) : ∃ b off Af cf, A = some ⟨b, off, none⟩ ∧ b < B ∧ RdS w B 1 Af (natR t.frm) ∧ w.cell? ⟨b, off + k * 5, none⟩ = some (.int .i64 (t.g : Int)) ∧ w.cell? ⟨b, off + k * 5 + 1, none⟩ = some (.int .i64 (t.p : Int)) ∧ w.cell? ⟨b, off + k * 5 + 2, none⟩ = some (.slice Af t.frm.length cf) ∧ w.cell? ⟨b, off + k * 5 + 3, none⟩ = some (.int .i64 t.to.disk) ∧ w.cell? ⟨b, off + k * 5 + 4, none⟩ = some (.int .i64 t.to.block) := by
  obtain ⟨vs, h1, h2, h3⟩ := h
  have hk := (List.getElem?_eq_some_iff.1 ht).1
  obtain ⟨p, hp⟩ : ∃ p, vs[k]? = some p := ⟨_, List.getElem?_eq_getElem (by omega)⟩
  obtain ⟨b, off, rfl, hb, hc⟩ := h2.2 (by rw [tskRows_len h1]; omega)
  have hz : (vs.zip ts)[k]? = some (p, t) := by rw [List.getElem?_zip_eq_some]; exact ⟨hp, ht⟩
  have hr : (tskRows vs ts)[k]? = some (tskRow p t) := by unfold tskRows; rw [List.getElem?_map, hz]; rfl
  exact ⟨b, off, p.1, p.2, rfl, hb, h3 k p t hp ht, hc k _ hr 0 _ rfl, hc k _ hr 1 _ rfl, hc k _ hr 2 _ rfl, hc k _ hr 3 _ rfl, hc k _ hr 4 _ rfl⟩
end
end Go.Proofs.YteglnekkkhpikaaGreat
namespace Go.Proofs.YteglnekkkhpikaaGreat
open Go.RowKit

def CntR (n : Nat) (wl : World) (s : Value) (wr : World) : Prop := ∃ i : Nat, i ≤ n ∧ s = .int .i64 i ∧ Below wl.heap.size wl wr
/-- a number of a task -/
theorem nat_atR {w : World} {B : Nat} {A : Option Addr} {l : List Nat} (h : RdS w B 1 A (natR l)) {k x : Nat} (hx : l[k]? = some x) : ∃ b off, A = some ⟨b, off, none⟩ ∧ b < B ∧ w.cell? ⟨b, off + k, none⟩ = some (.int .i64 (x : Int)) := by
  have hk := (List.getElem?_eq_some_iff.1 hx).1
  obtain ⟨b, off, rfl, hb, hc⟩ := h.2 (by unfold natR; simp; omega)
  have hr : (natR l)[k]? = some [.int .i64 (x : Int)] := by unfold natR; rw [List.getElem?_map, hx]; rfl
  exact ⟨b, off, rfl, hb, by simpa using hc k _ hr 0 _ rfl⟩
set_option maxHeartbeats 8000000 in
set_option maxRecDepth 100000 in
theorem r23same {A1 A2 : Option Addr} {B1 B2 c1 c2 : Nat} {ts : List Tsk} (w : World) (h1 : TskS w B1 A1 ts) (h2 : TskS w B2 A2 ts) (hlen : ts.length ≤ 1000000) (hfl : ∀ t ∈ ts, t.frm.length ≤ 1000000) (hB1 : B1 ≤ w.heap.size) (hB2 : B2 ≤ w.heap.size) :
    Calls Tryz.prog 14 #[.slice A1 ts.length c1, .slice A2 ts.length c2] w fun r w' => r = .returned (.bool true) ∧ Below w.heap.size w w' := by
  have H1 := Lib.hid h1
  have H2 := Lib.hid h2
  have HF := Lib.hid hfl
  clear h1 h2 hfl
  have hll : ((ts.length : Int) != (ts.length : Int)) = false := by simp
  go_enter Tryz.func14, Tryz.ntmps14
  go_wp2
  go_loopw [5] (fun s5 wr => CntR ts.length w s5 wr) (fun s5 _ => ts.length - (intOf s5).toNat)
  case atStart => exact ⟨0, by omega, rfl, Below.refl _ _⟩
  case round =>
    obtain ⟨k, hk, rfl, hb⟩ := hrel
    have HB := Lib.hid hb
    by_cases hka : k < ts.length
    case neg =>
      have hkI : ¬ (k : Int) < (ts.length : Int) := by omega
      clear hb
      go_wp2
      go_ret
      exact ⟨rfl, HB.out⟩
    case pos =>
      have hkI : (k : Int) < (ts.length : Int) := by omega
      obtain ⟨t, ht⟩ := at_some hka
      obtain ⟨b1, o1, Af1, cf1, rfl, hl1, hr1, x0, x1, x2, x3, x4⟩ := H1.out.at_ ht
      obtain ⟨b2, o2, Af2, cf2, rfl, hl2, hr2, y0, y1, y2, y3, y4⟩ := H2.out.at_ ht
      have HR1 := Lib.hid hr1
      have HR2 := Lib.hid hr2
      have hfn := HF.out t (List.mem_of_getElem? ht)
      have HX2 : Hid (∀ W, Below w.heap.size w W → W.cell? ⟨b1, o1 + k * 5 + 2, none⟩ = some (.slice Af1 t.frm.length cf1) ∧ W.cell? ⟨b2, o2 + k * 5 + 2, none⟩ = some (.slice Af2 t.frm.length cf2)) := fun W hW =>
        ⟨(hW.cell (p := ⟨b1, _, none⟩) (show b1 < w.heap.size by omega)).trans x2, (hW.cell (p := ⟨b2, _, none⟩) (show b2 < w.heap.size by omega)).trans y2⟩
      have z0 := (hb.cell (p := ⟨b1, _, none⟩) (show b1 < w.heap.size by omega)).trans x0
      have z1 := (hb.cell (p := ⟨b1, _, none⟩) (show b1 < w.heap.size by omega)).trans x1
      have z3 := (hb.cell (p := ⟨b1, _, none⟩) (show b1 < w.heap.size by omega)).trans x3
      have z4 := (hb.cell (p := ⟨b1, _, none⟩) (show b1 < w.heap.size by omega)).trans x4
      have v0 := (hb.cell (p := ⟨b2, _, none⟩) (show b2 < w.heap.size by omega)).trans y0
      have v1 := (hb.cell (p := ⟨b2, _, none⟩) (show b2 < w.heap.size by omega)).trans y1
      have v3 := (hb.cell (p := ⟨b2, _, none⟩) (show b2 < w.heap.size by omega)).trans y3
      have v4 := (hb.cell (p := ⟨b2, _, none⟩) (show b2 < w.heap.size by omega)).trans y4
      obtain ⟨z2, v2⟩ := HX2.out wr hb
      obtain ⟨g, p, fr, ⟨td, tb⟩⟩ := t
      simp only at z0 z1 z2 z3 z4 v0 v1 v2 v3 v4 hfn HR1 HR2 HX2
      have hn1 : ((g : Int) != (g : Int)) = false := by simp
      have hn2 : ((p : Int) != (p : Int)) = false := by simp
      have hn3 : ((fr.length : Int) != (fr.length : Int)) = false := by simp
      clear hb hr1 hr2 ht x0 x1 x2 x3 x4 y0 y1 y2 y3 y4
      go_wp2_with fail
      go_quiet (fail)
      generalize hwd : wr.drewN _ = w3
      have hbx : Below wr.heap.size wr w3 := by rw [← hwd]; exact below_drewN (Below.refl _ _) _
      have HB3 := Lib.hid (HB.out.trans (hbx.mono HB.out.size))
      clear hwd hbx z0 z1 z2 z3 z4 v0 v1 v2 v3 v4 HB
      go_wp2
      go_loopw [6] (fun s6 wr => CntR fr.length w3 s6 wr) (fun s6 _ => fr.length - (intOf s6).toNat)
      case atStart => exact ⟨0, by omega, rfl, Below.refl _ _⟩
      case round =>
        obtain ⟨j, hj, rfl, hb⟩ := hrel
        have HBJ := Lib.hid hb
        have HWJ := Lib.hid (HB3.out.trans (hb.mono HB3.out.size))
        obtain ⟨z2, v2⟩ := HX2.out _ HWJ.out
        by_cases hjn : j < fr.length
        case neg =>
          have hjI : ¬ (j : Int) < (fr.length : Int) := by omega
          clear hb
          go_wp2
          go_roundw
          case rel => exact ⟨k + 1, by omega, by go_num, HWJ.out⟩
          case measure => simp [intOf] <;> omega
        case pos =>
          have hjI : (j : Int) < (fr.length : Int) := by omega
          obtain ⟨x, hx⟩ := at_some hjn
          obtain ⟨b3, o3, rfl, -, q1⟩ := nat_atR (RdS.below' HR1.out HWJ.out hB1) hx
          obtain ⟨b4, o4, rfl, -, q2⟩ := nat_atR (RdS.below' HR2.out HWJ.out hB2) hx
          have hn4 : ((x : Int) != (x : Int)) = false := by simp
          clear hb hx
          go_wp2_with fail
          go_quiet (fail)
          go_wp2
          go_roundw
          case rel => exact ⟨j + 1, by omega, by go_num, below_drewN HBJ.out _⟩
          case measure => simp [intOf] <;> omega
end Go.Proofs.YteglnekkkhpikaaGreat
