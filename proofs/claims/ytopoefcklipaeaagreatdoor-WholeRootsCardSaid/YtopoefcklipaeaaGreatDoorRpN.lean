/- Walk of record.Valid. -/
import Derived.Test.YtopoefcklipaeaaGreatDoorGRj
namespace Go.Proofs.YtopoefcklipaeaaGreatDoor
open Go.RowKit
set_option maxHeartbeats 1000000 in
set_option maxRecDepth 100000 in
theorem rvalid {B : Nat} {v : Value} {r : Rcd} (w : World) (h : RcdV w B v r) (hB : B ≤ w.heap.size) (h1 : r.ws.length ≤ 9223372036854775807) (h2 : r.ms.length ≤ 9223372036854775807) (h3 : r.nt.length ≤ 9223372036854775807) (hs : r.seq < 18446744073709551616) :
  Calls Tryz.prog 71 #[v] w fun e w' => e = .returned (.bool (rcdB r)) ∧ Below w.heap.size w w' := by
 obtain ⟨A, c, A', c', A'', c'', rfl, hw, hm, hn⟩ := h
 obtain ⟨gen, seq, ws, ms, nt⟩ := r
 simp only at hw hm hn h1 h2 h3 hs ⊢
 by_cases hq : decide (1 ≤ seq) && decide (ws.length ≤ 64) && decide (ms.length ≤ 64) && decide (nt.length ≤ 256)
 case neg =>
  have HF : Hid (rcdB ⟨gen, seq, ws, ms, nt⟩ = false) := by
   unfold Hid rcdB
   simp only [Bool.not_eq_true] at hq
   simp only [hq, Bool.false_and]
  obtain ⟨q, hqq⟩ : ∃ q, rcdB ⟨gen, seq, ws, ms, nt⟩ = q := ⟨_, rfl⟩
  rw [hqq] at HF ⊢
  have hq2 : ¬ (1 ≤ seq ∧ ws.length ≤ 64 ∧ ms.length ≤ 64 ∧ nt.length ≤ 256) := by simpa using hq
  have hb : Below w.heap.size w (w.alloc (.cells #[.int .u64 gen, .int .u64 seq, .slice A ws.length c, .slice A' ms.length c', .slice A'' nt.length c''] 42)) := below_laid
  clear hq hqq hw hm hn
  by_cases a1 : (seq : Int) < 1
  ·go_enter Tryz.func71, Tryz.ntmps71
   go_wp2
   go_ret
   exact ⟨by rw [HF.out]; rfl, hb⟩
  ·by_cases a2 : (64 : Int) < (ws.length : Int)
   ·go_enter Tryz.func71, Tryz.ntmps71
    go_wp2
    go_ret
    exact ⟨by rw [HF.out]; rfl, hb⟩
   ·by_cases a3 : (64 : Int) < (ms.length : Int)
    ·go_enter Tryz.func71, Tryz.ntmps71
     go_wp2
     go_ret
     exact ⟨by rw [HF.out]; rfl, hb⟩
    ·have a4 : (256 : Int) < (nt.length : Int) := by omega
     go_enter Tryz.func71, Tryz.ntmps71
     go_wp2
     go_ret
     exact ⟨by rw [HF.out]; rfl, hb⟩
 case pos =>
  simp only [Bool.and_eq_true, decide_eq_true_eq] at hq
  obtain ⟨⟨⟨q1, q2⟩, q3⟩, q4⟩ := hq
  have HR : Hid (rcdB ⟨gen, seq, ws, ms, nt⟩ = (ws.all wrB && ms.all mvB)) := by
   unfold Hid rcdB
   simp [q1, q2, q3, q4]
  obtain ⟨q, hqq⟩ : ∃ q, rcdB ⟨gen, seq, ws, ms, nt⟩ = q := ⟨_, rfl⟩
  rw [hqq] at HR ⊢
  have HW := Lib.hid hw
  have HM := Lib.hid hm
  have a1 : ¬ (seq : Int) < 1 := by omega
  have a2 : ¬ (64 : Int) < (ws.length : Int) := by omega
  have a3 : ¬ (64 : Int) < (ms.length : Int) := by omega
  have a4 : ¬ (256 : Int) < (nt.length : Int) := by omega
  clear hqq hw hm hn
  go_enter Tryz.func71, Tryz.ntmps71
  go_upto_region 3 with (fail)
  have hbx := heap_alloc_new w (.cells #[.int .u64 gen, .int .u64 seq, .slice A ws.length c, .slice A' ms.length c', .slice A'' nt.length c''] 42)
  have hb : Below w.heap.size w (w.alloc (.cells #[.int .u64 gen, .int .u64 seq, .slice A ws.length c, .slice A' ms.length c', .slice A'' nt.length c''] 42)) := below_laid
  have hz : w.heap.size < (w.alloc (.cells #[.int .u64 gen, .int .u64 seq, .slice A ws.length c, .slice A' ms.length c', .slice A'' nt.length c''] 42)).heap.size := by simp
  have HB := Lib.hid hb
  have HX := Lib.hid hbx
  generalize w.alloc _ = w1 at *
  have c2 : w1.cell? ⟨w.heap.size, 2, none⟩ = some (.slice A ws.length c) := by rw [cell_of_row _ _ _ _ _ _ hbx]; rfl
  clear hb hbx
  go_wp2
  go_loopw [4, 31] (fun s4 s31 wr => ∃ k : Nat, k ≤ ws.length ∧ s31 = .int .i64 k ∧ (ws.take k).all wrB = true ∧ Below w1.heap.size w1 wr) (fun _ s31 _ => ws.length - (intOf s31).toNat)
  case atStart => exact ⟨0, by omega, rfl, rfl, Below.refl _ _⟩
  case round =>
   obtain ⟨k, hk, rfl, hall, hbw⟩ := hrel
   have HA := Lib.hid hall
   have HBW := Lib.hid hbw
   have hzw := hbw.size
   clear hall hbw
   by_cases hkn : k < ws.length
   case neg =>
    have hkI : ¬ (k : Int) < (ws.length : Int) := by omega
    obtain rfl : k = ws.length := by omega
    have HWA : Hid (ws.all wrB = true) := by have h0 := HA.out; rwa [List.take_of_length_le (Nat.le_refl _)] at h0
    rw [HWA.out, Bool.true_and] at HR
    have hbx2 := (HBW.out.block _ hz).trans HX.out
    have c3 : wr.cell? ⟨w.heap.size, 3, none⟩ = some (.slice A' ms.length c') := by rw [cell_of_row _ _ _ _ _ _ hbx2]; rfl
    clear hkn hkI c2 hbx2
    go_wp2
    generalize wr = wo at *
    go_loopw [6, 45] (fun s6 s45 wr => ∃ k : Nat, k ≤ ms.length ∧ s45 = .int .i64 k ∧ (ms.take k).all mvB = true ∧ Below w1.heap.size w1 wr) (fun _ s45 _ => ms.length - (intOf s45).toNat)
    case atStart => exact ⟨0, by omega, rfl, rfl, HBW.out⟩
    case round =>
     obtain ⟨k, hk2, rfl, hall, hbw⟩ := hrel
     have HA2 := Lib.hid hall
     have HBW2 := Lib.hid hbw
     have hzw2 := hbw.size
     clear hall hbw c3
     by_cases hkn : k < ms.length
     case neg =>
      have hkI : ¬ (k : Int) < (ms.length : Int) := by omega
      obtain rfl : k = ms.length := by omega
      have HQT : Hid (q = true) := by have h0 := HA2.out; rw [List.take_of_length_le (Nat.le_refl _)] at h0; rw [Hid, HR.out, h0]
      have HBB := Lib.hid (HB.out.trans (HBW2.out.mono (by omega)))
      go_wp2
      go_ret
      exact ⟨by rw [HQT.out]; rfl, HBB.out⟩
     case pos =>
      have hkI : (k : Int) < (ms.length : Int) := by omega
      have hk0 : ¬ (k : Int) < 0 := by omega
      obtain ⟨m, hm⟩ : ∃ m, ms[k]? = some m := ⟨_, List.getElem?_eq_getElem hkn⟩
      obtain ⟨bb, off, rfl, hbb, x0, x1, x2, x3⟩ := MvS.at_ ((HM.out.below' HB.out hB).below' HBW2.out (by omega)) hm
      obtain ⟨g, p, ⟨d, b⟩⟩ := m
      have HMM := Lib.hid hm
      have HTK : Hid ((ms.take (k + 1)).all mvB = (pieceB g p && placeB d b)) := by
       have h0 := HA2.out
       unfold Hid
       rw [List.take_add_one, hm, List.all_append, h0]
       simp [mvB]
      have HQF : Hid ((pieceB g p && placeB d b) = false → q = false) := fun hf => by
       have hmem := List.mem_of_getElem? HMM.out
       rw [HR.out, List.all_eq_false]
       exact ⟨_, hmem, by simpa [mvB] using hf⟩
      clear hm
      have hbn := HBW2.out.alloc hzw2 (.cells #[.int .i64 g, .int .i64 p, .int .i64 d, .int .i64 b] 196)
      have HBN := Lib.hid hbn
      have hzn := hbn.size
      clear hbn
      go_wp2_with fail
      refine (rpiece g p _).mono ?_
      rintro e w5 ⟨rfl, rfl⟩
      cases hpb : pieceB g p with
      | false =>
       have HBB := Lib.hid (HB.out.trans (HBN.out.mono (by omega)))
       have HQ2 := Lib.hid (HQF.out (by rw [hpb]; rfl))
       go_wp2
       go_ret
       exact ⟨by rw [HQ2.out]; rfl, HBB.out⟩
      | true =>
       go_wp2_with fail
       refine (rplace d b _).mono ?_
       rintro e w6 ⟨rfl, hb6⟩
       have HB6 := Lib.hid (HBN.out.trans (hb6.mono hzn))
       clear hb6
       cases hqb : placeB d b with
       | true =>
        rw [hpb, hqb] at HTK
        go_wp2
        go_round
        case rel => exact ⟨k + 1, by omega, by go_num, HTK.out, HB6.out⟩
        case measure => simp [intOf] <;> omega
       | false =>
        have HBB := Lib.hid (HB.out.trans (HB6.out.mono (by omega)))
        have HQ2 := Lib.hid (HQF.out (by rw [hpb, hqb]; rfl))
        go_wp2
        go_ret
        exact ⟨by rw [HQ2.out]; rfl, HBB.out⟩
   case pos =>
    have hkI : (k : Int) < (ws.length : Int) := by omega
    have hk0 : ¬ (k : Int) < 0 := by omega
    obtain ⟨m, hm⟩ : ∃ m, ws[k]? = some m := ⟨_, List.getElem?_eq_getElem hkn⟩
    obtain ⟨bb, off, rfl, hbb, hc⟩ := PwS.at_ ((HW.out.below' HB.out hB).below' HBW.out (by omega)) hm
    obtain ⟨g, p, v, ⟨b0, b1, b2, b3, b4, b5, b6, b7⟩⟩ := m
    have HMM := Lib.hid hm
    have HTK : Hid ((ws.take (k + 1)).all wrB = pieceB g p) := by
     have h0 := HA.out
     unfold Hid
     rw [List.take_add_one, hm, List.all_append, h0]
     simp [wrB]
    have x0 := hc 0 _ rfl
    have x1 := hc 1 _ rfl
    have x2 := hc 2 _ rfl
    have x3 := hc 3 _ rfl
    have x4 := hc 4 _ rfl
    have x5 := hc 5 _ rfl
    have x6 := hc 6 _ rfl
    have x7 := hc 7 _ rfl
    have x8 := hc 8 _ rfl
    have x9 := hc 9 _ rfl
    have x10 := hc 10 _ rfl
    simp only [Nat.add_zero] at x0
    clear hc hm
    have hbn := HBW.out.alloc hzw (.cells #[.int .i64 g, .int .i64 p, .int .u64 v, .int .u8 b0, .int .u8 b1, .int .u8 b2, .int .u8 b3, .int .u8 b4, .int .u8 b5, .int .u8 b6, .int .u8 b7] 190)
    have HBN := Lib.hid hbn
    clear hbn
    go_wp2_with fail
    refine (rpiece g p _).mono ?_
    rintro e w5 ⟨rfl, rfl⟩
    cases hpb : pieceB g p with
    | true =>
     rw [hpb] at HTK
     go_wp2
     go_round
     case rel => exact ⟨k + 1, by omega, by go_num, HTK.out, HBN.out⟩
     case measure => simp [intOf] <;> omega
    | false =>
     have HQF : Hid (q = false) := by
      have hmem := List.mem_of_getElem? HMM.out
      have : ws.all wrB = false := by
       rw [List.all_eq_false]
       exact ⟨_, hmem, by simp [wrB, hpb]⟩
      rw [Hid, HR.out, this]
      rfl
     have HBB := Lib.hid (HB.out.trans (HBN.out.mono (by omega)))
     go_wp2
     go_ret
     exact ⟨by rw [HQF.out]; rfl, HBB.out⟩
end Go.Proofs.YtopoefcklipaeaaGreatDoor
