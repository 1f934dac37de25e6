/- Walk of tegularef50.Encode. -/
import Derived.Test.YtjgjofepedcfnaaGreatRsB
namespace Go.Proofs.YtjgjofepedcfnaaGreat
open Go.RowKit
theorem cell4 {W : World} {Y a b c d i x : Nat} {t : TypeId} (h : W.heap[Y]? = some (.cells #[.int .i64 (a : Int), .int .i64 (b : Int), .int .i64 (c : Int), .int .i64 (d : Int)] t (0, 0))) (hx : [a, b, c, d][i]? = some x) : W.cell? ⟨Y, i, none⟩ = some (.int .i64 (x : Int)) := by
 rw [cell_of_row _ _ _ _ _ _ h]
 rcases i with _ | _ | _ | _ | _ <;> simp at hx <;> simp [hx]
theorem mvE4 (a b c d : Nat) : mvE ⟨a, b, ⟨c, d⟩⟩ = [a, b, c, d].flatMap uvB := by simp [mvE]
set_option maxHeartbeats 4000000 in
set_option maxRecDepth 100000 in
theorem r50Encode {B cu : Nat} {v : Value} {S : St} {Au : Option Addr} {u : List Nat} (w : World) (h : StV w B v S) (hB : B ≤ w.heap.size) (hu : BytS w B Au u) (hk : EncOk S u) :
  Calls Tryz.prog 32 #[v, .slice Au u.length cu] w fun r w' => BytP (encS S u) w' r ∧ Below w.heap.size w w' := by
 obtain ⟨A1, c1, A2, c2, A3, c3, rfl, hls, hms, hnt⟩ := h
 obtain ⟨ls, ms, nt⟩ := S
 obtain ⟨k0, k1, k2, k3, k4, k5, k6, k7⟩ := hk
 simp only at hls hms hnt k0 k1 k2 k3 k4 k5 ⊢
 obtain ⟨T5, hT5⟩ : ∃ T, bsB u = T := ⟨_, rfl⟩
 obtain ⟨T4, hT4⟩ : ∃ T, nt.flatMap bsB ++ T5 = T := ⟨_, rfl⟩
 obtain ⟨T3, hT3⟩ : ∃ T, uvB nt.length ++ T4 = T := ⟨_, rfl⟩
 obtain ⟨T2, hT2⟩ : ∃ T, ms.flatMap mvE ++ T3 = T := ⟨_, rfl⟩
 obtain ⟨T1, hT1⟩ : ∃ T, uvB ms.length ++ T2 = T := ⟨_, rfl⟩
 obtain ⟨E, hE⟩ : ∃ E, encS ⟨ls, ms, nt⟩ u = E := ⟨_, rfl⟩
 have HE : Hid (ls.flatMap lfE ++ T1 = E) := by rw [Hid, ← hE, ← hT1, ← hT2, ← hT3, ← hT4, ← hT5]; rfl
 rw [hE] at k7 ⊢
 have HT1 := Lib.hid hT1
 have HT2 := Lib.hid hT2
 have HT3 := Lib.hid hT3
 have HT4 := Lib.hid hT4
 have HT5 := Lib.hid hT5
 have HLE : Hid (∀ R T : List Nat, R ++ T = E → R.length ≤ 900000) := fun R T e => by have := congrArg List.length e; rw [List.length_append] at this; omega
 have HLS := Lib.hid hls
 have HMS := Lib.hid hms
 have HNT := Lib.hid hnt
 have HU := Lib.hid hu
 have K1 := Lib.hid k1
 have K2 := Lib.hid k2
 have K4 := Lib.hid k4
 have hcm := conv_nn ms.length (by omega)
 have hcn := conv_nn nt.length (by omega)
 clear hls hms hnt hu k1 k2 k4 k7 hE hT1 hT2 hT3 hT4 hT5
 go_enter Tryz.func32, Tryz.ntmps32
 go_upto_region 1 with (fail)
 generalize hW0 : w.alloc _ = w0
 have HB0 : Hid (Below w.heap.size w w0) := by rw [← hW0]; exact below_laid
 have HP0 : Hid (w0.heap[w.heap.size]? = some (.cells #[.slice A1 ls.length c1, .slice A2 ms.length c2, .slice A3 nt.length c3] 45 (0, 0))) := by rw [← hW0]; exact heap_alloc_new w _
 have hs0 : w0.heap.size = w.heap.size + 1 := by rw [← hW0]; simp
 have HPC : Hid (∀ W, Below w0.heap.size w0 W → W.cell? ⟨w.heap.size, 0, none⟩ = some (.slice A1 ls.length c1) ∧ W.cell? ⟨w.heap.size, 1, none⟩ = some (.slice A2 ms.length c2) ∧ W.cell? ⟨w.heap.size, 2, none⟩ = some (.slice A3 nt.length c3)) := fun W hW => by
  have hh := (hW.block _ (by omega)).trans HP0.out
  exact ⟨by rw [cell_of_row _ _ _ _ _ _ hh]; rfl, by rw [cell_of_row _ _ _ _ _ _ hh]; rfl, by rw [cell_of_row _ _ _ _ _ _ hh]; rfl⟩
 have HBW : Hid (∀ W, Below w0.heap.size w0 W → Below w.heap.size w W) := fun W hW => HB0.out.trans (hW.mono (by omega))
 clear hW0
 go_wp2
 go_loopw [5, 6] (fun s5 s6 wr => ∃ k : Nat, k ≤ ls.length ∧ s6 = .int .i64 k ∧ ∃ R A c, s5 = .slice A R.length c ∧ R ++ ((ls.drop k).flatMap lfE ++ T1) = E ∧ BytS wr wr.heap.size A R ∧ Below w0.heap.size w0 wr) (fun _ s6 _ => ls.length - (intOf s6).toNat)
 case atStart => exact ⟨0, by omega, rfl, [], none, 0, rfl, HE.out, RdS.nil _ _ _ _, Below.refl _ _⟩
 case round =>
  obtain ⟨k, hk, rfl, R, A, c, rfl, he, hby, hb⟩ := hrel
  have HR := Lib.hid he
  have HY := Lib.hid hby
  have HB := Lib.hid hb
  obtain ⟨q0, q1, q2⟩ := HPC.out wr hb
  clear he hby hb HE
  by_cases hkn : k < ls.length
  case neg =>
   have hkI : ¬ (k : Int) < (ls.length : Int) := by omega
   obtain rfl : k = ls.length := by omega
   rw [drop_end, List.nil_append, ← HT1.out] at HR
   have HC1 := Lib.hid (uint09C (A := A) (c := c) ms.length wr HY.out (Nat.le_refl _) (by omega) (HLE.out _ _ HR.out))
   have HR1 : Hid ((R ++ uvB ms.length) ++ T2 = E) := by rw [Hid, List.append_assoc]; exact HR.out
   generalize R ++ uvB ms.length = R1 at *
   clear hkn HLS K1 HT1 HR HY
   go_wp2_with fail
   refine HC1.out.mono ?_
   rintro e w1 ⟨⟨B1, d1, rfl, hn1, -⟩, hb1⟩
   have HN1 := Lib.hid hn1
   have HB1 := Lib.hid (HB.out.trans (hb1.mono HB.out.size))
   clear hn1 HC1 hb1 HB q0 q1 q2
   go_wp2
   go_loopw [5, 8] (fun s5 s8 wr => ∃ k : Nat, k ≤ ms.length ∧ s8 = .int .i64 k ∧ ∃ R A c, s5 = .slice A R.length c ∧ R ++ ((ms.drop k).flatMap mvE ++ T3) = E ∧ BytS wr wr.heap.size A R ∧ Below w0.heap.size w0 wr) (fun _ s8 _ => ms.length - (intOf s8).toNat)
   case atStart => exact ⟨0, by omega, rfl, R1, B1, d1, rfl, by have := HR1.out; rw [← HT2.out] at this; exact this, HN1.out, HB1.out⟩
   case round =>
    obtain ⟨k, hk, rfl, R, A, c, rfl, he, hby, hb⟩ := hrel
    have HR := Lib.hid he
    have HY := Lib.hid hby
    have HB := Lib.hid hb
    obtain ⟨q0, q1, q2⟩ := HPC.out wr hb
    clear he hby hb HR1 HN1 HB1
    by_cases hkn : k < ms.length
    case neg =>
     have hkI : ¬ (k : Int) < (ms.length : Int) := by omega
     obtain rfl : k = ms.length := by omega
     rw [drop_end, List.nil_append, ← HT3.out] at HR
     have HC1 := Lib.hid (uint09C (A := A) (c := c) nt.length wr HY.out (Nat.le_refl _) (by omega) (HLE.out _ _ HR.out))
     have HR1 : Hid ((R ++ uvB nt.length) ++ T4 = E) := by rw [Hid, List.append_assoc]; exact HR.out
     generalize R ++ uvB nt.length = R2 at *
     clear hkn HMS K2 HT2 HT3 HR HY
     go_wp2_with fail
     refine HC1.out.mono ?_
     rintro e w2 ⟨⟨B2, d2, rfl, hn1, -⟩, hb1⟩
     have HN1 := Lib.hid hn1
     have HB1 := Lib.hid (HB.out.trans (hb1.mono HB.out.size))
     clear hn1 HC1 hb1 HB q0 q1 q2
     go_wp2
     go_loopw [5, 12] (fun s5 s12 wr => ∃ k : Nat, k ≤ nt.length ∧ s12 = .int .i64 k ∧ ∃ R A c, s5 = .slice A R.length c ∧ R ++ ((nt.drop k).flatMap bsB ++ T5) = E ∧ BytS wr wr.heap.size A R ∧ Below w0.heap.size w0 wr) (fun _ s12 _ => nt.length - (intOf s12).toNat)
     case atStart => exact ⟨0, by omega, rfl, R2, B2, d2, rfl, by have := HR1.out; rw [← HT4.out] at this; exact this, HN1.out, HB1.out⟩
     case round =>
      obtain ⟨k, hk, rfl, R, A, c, rfl, he, hby, hb⟩ := hrel
      have HR := Lib.hid he
      have HY := Lib.hid hby
      have HB := Lib.hid hb
      have HW := Lib.hid (HBW.out wr hb)
      obtain ⟨q0, q1, q2⟩ := HPC.out wr hb
      clear he hby hb HR1 HN1 HB1
      by_cases hkn : k < nt.length
      case neg =>
       have hkI : ¬ (k : Int) < (nt.length : Int) := by omega
       obtain rfl : k = nt.length := by omega
       rw [drop_end, List.nil_append, ← HT5.out] at HR
       have hur : BytS wr wr.heap.size Au u := (HU.out.below' HW.out hB).more (Nat.le_trans hB HW.out.size)
       have HC1 := Lib.hid (bytes09C (A := A) (c := c) (cx := cu) wr HY.out hur (Nat.le_refl _) (HLE.out _ _ HR.out) k6)
       rw [HR.out] at HC1
       clear hkn HNT K4 hur HY
       go_wp2_with fail
       refine HC1.out.mono ?_
       rintro e w3 ⟨⟨A9, c9, rfl, h9, h9'⟩, hb3⟩
       have H9 : Hid (BytP E w3 (.returned (.slice A9 E.length c9))) := ⟨A9, c9, rfl, h9, h9'⟩
       have HB3 := Lib.hid (HW.out.trans (hb3.mono HW.out.size))
       clear h9 h9' hb3 q0 q1 q2
       go_wp2
       go_ret
       exact ⟨H9.out, HB3.out⟩
      case pos =>
       have hkI : (k : Int) < (nt.length : Int) := by omega
       have hk0 : ¬ (k : Int) < 0 := by omega
       obtain ⟨x, hx⟩ : ∃ x, nt[k]? = some x := ⟨_, List.getElem?_eq_getElem hkn⟩
       obtain ⟨b, o, Ai, ci, rfl, hbB, hc, hxr⟩ := (HNT.out.below HW.out hB).at_ hx
       have hxl := K4.out x (List.mem_of_getElem? hx)
       have HDR : Hid ((nt.drop k).flatMap bsB = bsB x ++ (nt.drop (k + 1)).flatMap bsB) := drop_flat bsB hx
       have HRN : Hid ((R ++ bsB x) ++ ((nt.drop (k + 1)).flatMap bsB ++ T5) = E) := by
        rw [Hid, ← HR.out, HDR.out]
        simp only [List.append_assoc]
       have HC1 := Lib.hid (bytes09C (A := A) (c := c) (cx := ci) wr HY.out (hxr.more (Nat.le_trans hB HW.out.size)) (Nat.le_refl _) (HLE.out _ _ HR.out) hxl)
       generalize R ++ bsB x = R9 at *
       clear hx hxr hxl HDR HR HY
       go_wp2_with fail
       refine HC1.out.mono ?_
       rintro e w3 ⟨⟨A9, c9, rfl, h9, -⟩, hb3⟩
       have HN9 := Lib.hid h9
       have HB9 := Lib.hid (HB.out.trans (hb3.mono HB.out.size))
       clear h9 hb3 HC1 HB q0 q1 q2 hc
       go_wp2
       go_roundw
       case rel => exact ⟨k + 1, by omega, by go_num, R9, A9, c9, rfl, HRN.out, HN9.out, HB9.out⟩
       case measure => simp [intOf] <;> omega
    case pos =>
     have hkI : (k : Int) < (ms.length : Int) := by omega
     have hk0 : ¬ (k : Int) < 0 := by omega
     have HW := Lib.hid (HBW.out wr HB.out)
     obtain ⟨x, hx⟩ : ∃ x, ms[k]? = some x := ⟨_, List.getElem?_eq_getElem hkn⟩
     obtain ⟨b, o, rfl, hbB, hc0, hc1, hc2, hc3⟩ := MvS.at_ (HMS.out.below' HW.out hB) hx
     obtain ⟨ma, mb, mc, md, rfl, na, nb, nc, nd⟩ := K2.out x (List.mem_of_getElem? hx)
     obtain ⟨T0, hT0⟩ : ∃ T, (ms.drop (k + 1)).flatMap mvE ++ T3 = T := ⟨_, rfl⟩
     have HT0 := Lib.hid hT0
     have HRN : Hid (R ++ ([ma, mb, mc, md].flatMap uvB ++ T0) = E) := by
      rw [Hid, ← HR.out, drop_flat mvE hx, mvE4, ← hT0]
      simp only [List.append_assoc]
     simp only at hc0 hc1 hc2 hc3
     have HX4 : Hid (∀ x ∈ [ma, mb, mc, md], x < 9223372036854775808) := fun x hx => by
      simp only [List.mem_cons, List.not_mem_nil, or_false] at hx
      rcases hx with rfl | rfl | rfl | rfl <;> assumption
     have hzw := HW.out.size
     clear hx HR hT0 na nb nc nd
     go_upto_region 14 with (fail)
     have hbl0 : Below wr.heap.size wr (wr.alloc (.cells #[.int .i64 (ma : Int), .int .i64 (mb : Int), .int .i64 (mc : Int), .int .i64 (md : Int)] 89)) := below_laid
     have hlx := heap_alloc_new wr (.cells #[.int .i64 (ma : Int), .int .i64 (mb : Int), .int .i64 (mc : Int), .int .i64 (md : Int)] 89)
     generalize wr.alloc _ = w2 at *
     have m0 : w2.cell? ⟨wr.heap.size, 0, none⟩ = some (.int .i64 (ma : Int)) := by rw [cell_of_row _ _ _ _ _ _ hlx]; rfl
     have m1 : w2.cell? ⟨wr.heap.size, 1, none⟩ = some (.int .i64 (mb : Int)) := by rw [cell_of_row _ _ _ _ _ _ hlx]; rfl
     have m2 : w2.cell? ⟨wr.heap.size, 2, none⟩ = some (.int .i64 (mc : Int)) := by rw [cell_of_row _ _ _ _ _ _ hlx]; rfl
     have m3 : w2.cell? ⟨wr.heap.size, 3, none⟩ = some (.int .i64 (md : Int)) := by rw [cell_of_row _ _ _ _ _ _ hlx]; rfl
     have HB2 := Lib.hid (HB.out.trans (hbl0.mono HB.out.size))
     have HY2 := Lib.hid (byt_keep HY.out hbl0)
     clear hbl0 hlx hc0 hc1 hc2 hc3 HB HY HW hzw q0 q1 q2
     go_upto_region 15 with (fail)
     have hbl0 : Below w2.heap.size w2 (w2.alloc (.cells #[.int .i64 (ma : Int), .int .i64 (mb : Int), .int .i64 (mc : Int), .int .i64 (md : Int)] 127)) := below_laid
     have hlx := heap_alloc_new w2 (.cells #[.int .i64 (ma : Int), .int .i64 (mb : Int), .int .i64 (mc : Int), .int .i64 (md : Int)] 127)
     have hzx : w2.heap.size < (w2.alloc (.cells #[.int .i64 (ma : Int), .int .i64 (mb : Int), .int .i64 (mc : Int), .int .i64 (md : Int)] 127)).heap.size := by simp
     generalize w2.alloc _ = w4 at *
     have HY4 := Lib.hid (byt_keep HY2.out hbl0)
     have HB4 := Lib.hid (HB2.out.trans (hbl0.mono HB2.out.size))
     have HL4 : Hid (∀ W, Below w4.heap.size w4 W → ∀ (i x : Nat), [ma, mb, mc, md][i]? = some x → W.cell? ⟨w2.heap.size, i, none⟩ = some (.int .i64 (x : Int))) := fun W hW i x hx => cell4 ((hW.block _ hzx).trans hlx) hx
     clear hbl0 hlx hzx HB2 HY2 m0 m1 m2 m3
     generalize hl4 : [ma, mb, mc, md] = l4 at *
     have N4 : Hid (l4.length = 4) := by rw [← hl4]; rfl
     clear hl4
     generalize hq : w2.heap.size = q at *
     clear hq w2
     generalize hq9 : wr.heap.size = q9 at *
     clear hq9 wr
     go_wp2
     go_loopw [5, 11] (fun s5 s11 wr => ∃ i : Nat, i ≤ 4 ∧ s11 = .int .i64 i ∧ ∃ R A c, s5 = .slice A R.length c ∧ R ++ ((l4.drop i).flatMap uvB ++ T0) = E ∧ BytS wr wr.heap.size A R ∧ Below w4.heap.size w4 wr) (fun _ s11 _ => 4 - (intOf s11).toNat)
     case atStart => exact ⟨0, by omega, rfl, R, A, c, rfl, HRN.out, HY4.out, Below.refl _ _⟩
     case round =>
      obtain ⟨i, hi, rfl, R, A, c, rfl, he, hby, hb⟩ := hrel
      have HR := Lib.hid he
      have HY := Lib.hid hby
      have HB := Lib.hid hb
      clear he hby hb HRN HY4
      by_cases hin : i < 4
      case neg =>
       have hiI : ¬ (i : Int) < 4 := by omega
       have HRE : Hid (R ++ ((ms.drop (k + 1)).flatMap mvE ++ T3) = E) := by
        rw [Hid, HT0.out, ← HR.out, List.drop_of_length_le (by have := N4.out; omega)]
        rfl
       have HBX := Lib.hid (HB4.out.trans (HB.out.mono HB4.out.size))
       clear HR HB hin
       go_wp2
       go_roundw
       case rel => exact ⟨k + 1, by omega, by go_num, R, A, c, rfl, HRE.out, HY.out, HBX.out⟩
       case measure => simp [intOf] <;> omega
      case pos =>
       have hiI : (i : Int) < 4 := by omega
       have hi0 : ¬ (i : Int) < 0 := by omega
       obtain ⟨x, hx⟩ : ∃ x, l4[i]? = some x := ⟨_, List.getElem?_eq_getElem (by have := N4.out; omega)⟩
       have hxc := HL4.out wr HB.out i x hx
       have hxn := HX4.out x (List.mem_of_getElem? hx)
       have hcv := conv_nn x hxn
       have HRX : Hid ((R ++ uvB x) ++ ((l4.drop (i + 1)).flatMap uvB ++ T0) = E) := by
        rw [Hid, ← HR.out, drop_flat uvB hx]
        simp only [List.append_assoc]
       have HC1 := Lib.hid (uint09C (A := A) (c := c) x wr HY.out (Nat.le_refl _) (by omega) (HLE.out _ _ HR.out))
       generalize R ++ uvB x = R9 at *
       clear hx hxn HR HY
       go_wp2_with fail
       refine HC1.out.mono ?_
       rintro e w5 ⟨⟨A9, c9, rfl, h9, -⟩, hb3⟩
       have HN9 := Lib.hid h9
       have HB9 := Lib.hid (HB.out.trans (hb3.mono HB.out.size))
       clear h9 hb3 HC1 HB hxc hcv
       go_wp2
       go_roundw
       case rel => exact ⟨i + 1, by omega, by go_num, R9, A9, c9, rfl, HRX.out, HN9.out, HB9.out⟩
       case measure => simp [intOf] <;> omega
  case pos =>
   have hkI : (k : Int) < (ls.length : Int) := by omega
   have hk0 : ¬ (k : Int) < 0 := by omega
   have HW := Lib.hid (HBW.out wr HB.out)
   obtain ⟨x, hx⟩ : ∃ x, ls[k]? = some x := ⟨_, List.getElem?_eq_getElem hkn⟩
   obtain ⟨bl, ol, ua, ub, rfl, hbB, hca, hcb, hlf⟩ := LvS.at_ (HLS.out.below HW.out hB) hx
   obtain ⟨⟨hx1, hx0⟩, hx2, hx3⟩ := K1.out x (List.mem_of_getElem? hx)
   have HDR : Hid ((ls.drop k).flatMap lfE = lfE x ++ (ls.drop (k + 1)).flatMap lfE) := drop_flat lfE hx
   obtain ⟨vs, ss⟩ := x
   obtain ⟨Av, cv, As, cs, he, hv1, hv2, -, -⟩ := hlf
   simp only at hx0 hx1 hx2 hx3 hv1 hv2 he
   obtain ⟨rfl, rfl⟩ : ua = .slice Av vs.length cv ∧ ub = .slice As ss.length cs := by
    injection he with he
    have e0 := congrArg (fun x => x[0]?) he
    have e1 := congrArg (fun x => x[1]?) he
    simp at e0 e1
    exact ⟨e0, e1⟩
   obtain ⟨T0, hT0⟩ : ∃ T, (ls.drop (k + 1)).flatMap lfE ++ T1 = T := ⟨_, rfl⟩
   have HT0 := Lib.hid hT0
   have HRN : Hid (R ++ ((vs.zip ss).flatMap prE ++ T0) = E) := by
    rw [Hid, ← HR.out, HDR.out, ← hT0]
    simp only [lfE, List.append_assoc]
   have X2 := Lib.hid hx2
   have X3 := Lib.hid hx3
   have X1 := Lib.hid hx1
   have HV1 := Lib.hid hv1
   have HV2 := Lib.hid hv2
   have hzw : w.heap.size ≤ wr.heap.size := HW.out.size
   have HLC : Hid (∀ W, Below wr.heap.size wr W → W.cell? ⟨bl, ol + k * 2, none⟩ = some (.slice Av vs.length cv) ∧ W.cell? ⟨bl, ol + k * 2 + 1, none⟩ = some (.slice As ss.length cs)) := fun W hW => ⟨(hW.cell (p := ⟨bl, ol + k * 2, none⟩) (by show bl < _; omega)).trans hca, (hW.cell (p := ⟨bl, ol + k * 2 + 1, none⟩) (by show bl < _; omega)).trans hcb⟩
   clear hT0 HDR he hx hx2 hx3 HR hx1 hv1 hv2 hca hcb
   generalize hwo : wr = wo at *
   clear hwo wr
   go_wp2
   clear q0 q1 q2
   go_loopw [5, 7] (fun s5 s7 wr => ∃ j : Nat, j ≤ vs.length ∧ s7 = .int .i64 j ∧ ∃ R A c, s5 = .slice A R.length c ∧ R ++ (((vs.zip ss).drop j).flatMap prE ++ T0) = E ∧ BytS wr wr.heap.size A R ∧ Below wo.heap.size wo wr) (fun _ s7 _ => vs.length - (intOf s7).toNat)
   case atStart => exact ⟨0, by omega, rfl, R, A, c, rfl, HRN.out, HY.out, Below.refl _ _⟩
   case round =>
    obtain ⟨j, hj, rfl, R, A, c, rfl, he, hby, hb⟩ := hrel
    have HR := Lib.hid he
    have HYR := Lib.hid hby
    have HBR := Lib.hid hb
    obtain ⟨q0, q1, q2⟩ := HPC.out wr (HB.out.trans (hb.mono HB.out.size))
    obtain ⟨m0, m1⟩ := HLC.out wr hb
    clear he hby hb HRN HY
    by_cases hjn : j < vs.length
    case neg =>
     have hjI : ¬ (j : Int) < (vs.length : Int) := by omega
     have HRE : Hid (R ++ ((ls.drop (k + 1)).flatMap lfE ++ T1) = E) := by
      rw [Hid, HT0.out, ← HR.out, List.drop_of_length_le (by rw [List.length_zip]; omega)]
      rfl
     have HBX := Lib.hid (HB.out.trans (HBR.out.mono HB.out.size))
     clear HR HB hjn HBR
     go_wp2
     go_roundw
     case rel => exact ⟨k + 1, by omega, by go_num, R, A, c, rfl, HRE.out, HYR.out, HBX.out⟩
     case measure => simp [intOf] <;> omega
    case pos =>
     have hjI : (j : Int) < (vs.length : Int) := by omega
     have hj0 : ¬ (j : Int) < 0 := by omega
     have hjS : (j : Int) < (ss.length : Int) := by have := X1.out; omega
     obtain ⟨xv, hxv⟩ : ∃ x, vs[j]? = some x := ⟨_, List.getElem?_eq_getElem hjn⟩
     obtain ⟨xs, hxs⟩ : ∃ x, ss[j]? = some x := ⟨_, List.getElem?_eq_getElem (by have := X1.out; omega)⟩
     have hBo : B ≤ wo.heap.size := Nat.le_trans hB hzw
     obtain ⟨bv, ov, rfl, hbv, hcv⟩ := U64S.at_ (HV1.out.below' HBR.out hBo) hxv
     obtain ⟨bs, os, rfl, hbs, hcs⟩ := U64S.at_ (HV2.out.below' HBR.out hBo) hxs
     have hnv := X2.out xv (List.mem_of_getElem? hxv)
     have hns := X3.out xs (List.mem_of_getElem? hxs)
     have HRN : Hid ((R ++ uvB xv ++ uvB xs) ++ (((vs.zip ss).drop (j + 1)).flatMap prE ++ T0) = E) := by
      rw [Hid, ← HR.out, drop_flat prE (zip_at hxv hxs)]
      simp only [prE, List.append_assoc]
     have hl1 := HLE.out _ _ HRN.out
     have hwz : wo.heap.size ≤ wr.heap.size := HBR.out.size
     obtain ⟨R1, hR1⟩ : ∃ R1, R ++ uvB xv = R1 := ⟨_, rfl⟩
     obtain ⟨R2, hR2⟩ : ∃ R2, R1 ++ uvB xs = R2 := ⟨_, rfl⟩
     rw [hR1, hR2] at HRN hl1
     have hl0 : R.length ≤ R1.length := by rw [← hR1, List.length_append]; omega
     have hl2 : R1.length ≤ R2.length := by rw [← hR2, List.length_append]; omega
     have HS1 : Hid (∀ W, Below wr.heap.size wr W → Calls Tryz.prog 78 #[.slice A R.length c, .int .u64 (xv : Int)] W fun r w' => (∃ A' c', r = .returned (.slice A' R1.length c') ∧ BytS w' w'.heap.size A' R1) ∧ Below wr.heap.size wr w') := fun W hW =>
      (uint09C (c := c) xv W (byt_keep HYR.out hW) (Nat.le_refl _) hnv (by omega)).mono fun r w' hh => by
       obtain ⟨⟨A', c', rfl, hr, -⟩, hb⟩ := hh
       rw [hR1] at hr ⊢
       exact ⟨⟨A', c', rfl, hr⟩, hW.trans (hb.mono hW.size)⟩
     have HS2 : Hid (∀ (A' : Option Addr) (c' : Nat) (W : World), BytS W W.heap.size A' R1 → Below wr.heap.size wr W → Calls Tryz.prog 78 #[.slice A' R1.length c', .int .u64 (xs : Int)] W fun r w' => (∃ A2 c2, r = .returned (.slice A2 R2.length c2) ∧ BytS w' w'.heap.size A2 R2) ∧ Below wr.heap.size wr w') := fun A' c' W h hW =>
      (uint09C (c := c') xs W h (Nat.le_refl _) hns (by omega)).mono fun r w' hh => by
       obtain ⟨⟨A2, c2, rfl, hr, -⟩, hb⟩ := hh
       rw [hR2] at hr ⊢
       exact ⟨⟨A2, c2, rfl, hr⟩, hW.trans (hb.mono hW.size)⟩
     have HKS : Hid (∀ W, Below wr.heap.size wr W → (W.cell? ⟨w.heap.size, 0, none⟩ = some (.slice (some ⟨bl, ol, none⟩) ls.length c1) ∧ W.cell? ⟨bl, ol + k * 2, none⟩ = some (.slice (some ⟨bv, ov, none⟩) vs.length cv) ∧ W.cell? ⟨bl, ol + k * 2 + 1, none⟩ = some (.slice (some ⟨bs, os, none⟩) ss.length cs) ∧ W.cell? ⟨bv, ov + j, none⟩ = some (.int .u64 (xv : Int)) ∧ W.cell? ⟨bs, os + j, none⟩ = some (.int .u64 (xs : Int)))) := fun W hW => by
      have hWo := HBR.out.trans (hW.mono HBR.out.size)
      exact ⟨(HPC.out W (HB.out.trans (hWo.mono HB.out.size))).1, (HLC.out W hWo).1, (HLC.out W hWo).2, (hW.cell (p := ⟨bv, ov + j, none⟩) (by show bv < _; omega)).trans hcv, (hW.cell (p := ⟨bs, os + j, none⟩) (by show bs < _; omega)).trans hcs⟩
     clear hcv hcs hxv hxs HR hR1 hR2 hl0 hl1 hl2 hnv hns
     go_upto_region 8 with (fail)
     clear q0 q1 q2 m0 m1
     go_region_held3 (fun W => W.cell? ⟨w.heap.size, 0, none⟩ = some (.slice (some ⟨bl, ol, none⟩) ls.length c1) ∧ W.cell? ⟨bl, ol + k * 2, none⟩ = some (.slice (some ⟨bv, ov, none⟩) vs.length cv) ∧ W.cell? ⟨bl, ol + k * 2 + 1, none⟩ = some (.slice (some ⟨bs, os, none⟩) ss.length cs) ∧ W.cell? ⟨bv, ov + j, none⟩ = some (.int .u64 (xv : Int)) ∧ W.cell? ⟨bs, os + j, none⟩ = some (.int .u64 (xs : Int)))
      (first | with_reducible exact HKS.out _ (Below.refl wr.heap.size wr) | with_reducible exact HKS.out _ (Below.refl wr.heap.size wr).drew | with_reducible exact HKS.out _ hPb | with_reducible exact HKS.out _ hPb.drew | with_reducible exact HKS.out _ hZb | (trace_state; fail))
      (first
       | (go_at_call 78; first
        | ((with_reducible refine (HS1.out _ (Below.refl wr.heap.size wr).drew).mono ?_); rintro r y1 ⟨⟨A3, c3, rfl, hR3⟩, hPb⟩)
        | ((with_reducible refine (HS1.out _ (Below.refl wr.heap.size wr)).mono ?_); rintro r y1 ⟨⟨A3, c3, rfl, hR3⟩, hPb⟩)
        | ((with_reducible refine (HS2.out A3 c3 _ hR3 hPb).mono ?_); rintro r y2 ⟨⟨A5, c5, rfl, hR5⟩, hZb⟩)
        | ((with_reducible refine (HS2.out A3 c3 _ (byt_keep hR3 (Below.refl _ _).drew) hPb.drew).mono ?_); rintro r y2 ⟨⟨A5, c5, rfl, hR5⟩, hZb⟩)
        | (trace_state; fail))
       | fail)
     all_goals
      have HR5 := Lib.hid hR5
      have HB5 := Lib.hid (HBR.out.trans (hZb.mono HBR.out.size))
      clear hR5 hZb hR3 hPb HS1 HS2 HKS HYR HBR
      go_wp2
      go_roundw
      case rel => exact ⟨j + 1, by omega, by go_num, R2, A5, c5, rfl, HRN.out, HR5.out, HB5.out⟩
      case measure => simp [intOf] <;> omega
end Go.Proofs.YtjgjofepedcfnaaGreat
