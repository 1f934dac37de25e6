/- Walk of tegulalaw22.SpareReturns. -/
import Derived.Test.YtkjjojmidhjjdaaLwS
namespace Go.Proofs.Ytkjjojmidhjjdaa
open Go.RowKit

theorem any_succ (F : Nat → Bool) (k : Nat) : (List.range (k + 1)).any F = ((List.range k).any F || F k) := by
  rw [List.range_succ, List.any_append]
  simp
theorem without_in {ms : List Mv} {g p : Int} {i : Nat} {x : Mv} (hx : ms[i]? = some x) (h : ¬ (x.g = g ∧ x.p = p)) : without (ms.take (i + 1)) g p = without (ms.take i) g p ++ [x] := by
  unfold without
  rw [List.take_add_one, hx]
  simp only [Option.toList_some, List.filter_append]
  have : (!(x.g == g && x.p == p)) = true := by
    simp only [Bool.not_eq_true', Bool.and_eq_false_iff, beq_eq_false_iff_ne]
    omega
  simp [List.filter, this]
theorem without_out {ms : List Mv} {g p : Int} {i : Nat} {x : Mv} (hx : ms[i]? = some x) (h : x.g = g ∧ x.p = p) : without (ms.take (i + 1)) g p = without (ms.take i) g p := by
  unfold without
  rw [List.take_add_one, hx]
  simp only [Option.toList_some, List.filter_append]
  have : (!(x.g == g && x.p == p)) = false := by simpa using h
  simp [List.filter, this]
def OccR (n : Nat) (oc : Nat → Bool) (w6 : World) (s12 s13 : Value) (wr : World) : Prop := ∃ k : Nat, k ≤ n ∧ s13 = .int .i64 k ∧ s12 = .bool (oc k) ∧ Below w6.heap.size w6 wr
def WanR (ms : List Mv) (g p : Int) (wt : World) (s14 s15 : Value) (wr : World) : Prop := ∃ i : Nat, i ≤ ms.length ∧ s15 = .int .i64 i ∧ OwS wr wt.heap.size 47 4 s14 ((without (ms.take i) g p).map Mv.cells) ∧ Below wt.heap.size wt wr
theorem wf_neg : (Lit.int .i64 (-1)).wf = true := by decide
theorem without_le (ms : List Mv) (g p : Int) : (without ms g p).length ≤ ms.length := List.length_filter_le _ _
set_option maxHeartbeats 8000000 in
set_option maxRecDepth 100000 in
theorem sparereturns_any (n : Nat) (hn : n < 65536) (raw : List Nat) (Ar : Option Addr) (cr : Nat) (mg mp md mb : Int) (hwm : PlWf ⟨md, mb⟩) (w : World) (hR : BytR w w.heap.size Ar raw) (h256 : ∀ x ∈ raw, x < 256) :
    Calls Try.prog 7 #[.int .u16 (n : Int), .slice Ar raw.length cr, .agg #[.int .i64 mg, .int .i64 mp, .int .i64 md, .int .i64 mb]] w fun r w' => r = .returned (.bool true) ∧ Below w.heap.size w w' := by
  have HA := Lib.hid (fun W => awake_any W)
  have HSM := Lib.hid (fun W => small_any n hn W)
  have HX : Hid (LayX (smallL n)) := small_layX n
  have HR := Lib.hid hR
  clear hR
  by_cases h20 : 20 < raw.length
  · have h20I : (20 : Int) < (raw.length : Int) := by omega
    go_enter Try.func7, Try.ntmps7
    go_wp2_with fail
    refine (HA.out _).mono ?_
    rintro r w1 ⟨rfl, hb1⟩
    have hb : Below w.heap.size w w1 := below_laid.trans (hb1.mono (by simp))
    go_wp2
    go_ret
    exact ⟨rfl, hb⟩
  have h20I : ¬ (20 : Int) < (raw.length : Int) := by omega
  have HMC := Lib.hid (fun (w0 : World) (X : Nat) (A : Option Addr) (c : Nat) (W : World) (h : LwI w0 X (smallL n) A c W) (hR : BytR w0 w0.heap.size Ar raw) => moves_call (cr := cr) HX.out h hR h256 (by omega))
  have HSL := Lib.hid (fun (w0 w1 w2 : World) (r : Ending) (hb : Below w0.heap.size w0 w1) (h : SmlP n w1 r w2) => small_laid hb h)
  have HOK : Hid (MvOk (smallL n) (movesL (smallL n) raw)) := moves_ok _ _
  have HLN : Hid ((movesL (smallL n) raw).length ≤ 20) := by have := moves_len (smallL n) raw; exact Nat.le_trans this (by omega)
  clear h256
  unfold layAgg at HMC HSL
  generalize SmlP n = SP at HSM HSL
  clear hn
  obtain ⟨L, hL⟩ : ∃ L, smallL n = L := ⟨_, rfl⟩
  rw [hL] at HX HMC HSL HOK HLN
  obtain ⟨ms, hms⟩ : ∃ ms, movesL L raw = ms := ⟨_, rfl⟩
  rw [hms] at HMC HOK HLN
  have HWF : Hid (∀ x ∈ ms, PlWf x.to) := wf_moves HX.out.ok HOK.out
  have HVM : Hid (validM L ms = true) := ok_valid HOK.out
  clear hL hms
  go_enter Try.func7, Try.ntmps7
  go_wp2_with fail
  generalize hW0 : w.alloc _ = w0
  have hbx : MvB w0 w.heap.size ⟨mg, mp, ⟨md, mb⟩⟩ := by rw [← hW0]; exact MvB.made' w ⟨mg, mp, ⟨md, mb⟩⟩
  have hb0 : Below w.heap.size w w0 := by rw [← hW0]; exact below_laid
  have hR0 : BytR w0 w0.heap.size Ar raw := (RdS.below' HR.out hb0 (Nat.le_refl _)).more hb0.size
  have HR0 := Lib.hid hR0
  have HB0 := Lib.hid hb0
  have HBX := Lib.hid hbx
  have HZ0 : Hid (w.heap.size < w0.heap.size) := blk_lt hbx
  clear hW0 hb0 hR0 hbx HR
  refine (HA.out w0).mono ?_
  rintro r w1 ⟨rfl, hb1⟩
  have HB1 := Lib.hid hb1
  clear hb1 HA
  go_wp2_with fail
  refine (HSM.out w1).mono ?_
  rintro r w2 hsm
  obtain ⟨A, c, rfl, -, hi3⟩ := HSL.out w0 w1 w2 r HB1.out hsm
  have HI3 := Lib.hid hi3
  clear hsm hi3 HSL HSM HB1
  go_upto_region 6 with (fail)
  generalize w2.alloc _ = w3 at *
  generalize w2.heap.size = X at *
  obtain ⟨l0, l1, l2, l3⟩ := HI3.out.lay.cells
  go_wp2_with fail
  refine (HMC.out w0 X A c w3 HI3.out HR0.out).mono ?_
  rintro r w4 ⟨Am, cm, rfl, hj4⟩
  have HJ4 := Lib.hid hj4
  clear hj4 l0 l1 l2 l3 HI3 HMC HR0
  have hln := HLN.out
  have hBX := fun (W : World) (h : LwJ w0 X L A c Am ms W) => (HBX.out.below h.bel HZ0.out).cells
  simp only at hBX
  have HBC := Lib.hid hBX
  clear hBX HBX
  obtain ⟨⟨xo, xe⟩, hxr⟩ : ∃ q, applyL L ms ⟨mg, mp, ⟨md, mb⟩⟩ = q := ⟨_, rfl⟩
  have HXR := Lib.hid hxr
  have hxl : xo.length ≤ 30 := by
    have := apply_len L ms ⟨mg, mp, ⟨md, mb⟩⟩
    rw [hxr] at this
    exact Nat.le_trans this (by omega)
  obtain ⟨l0, l1, l2, l3⟩ := HJ4.out.lay.cells
  obtain ⟨m0, m1, m2, m3⟩ := HBC.out w4 HJ4.out
  have ha := sApply_any (L := L) (A := A) (Am := Am) (B := w4.heap.size) (c := c) (cm := cm) (ms := ms) ⟨mg, mp, ⟨md, mb⟩⟩ w4 HX.out HJ4.out.gs HJ4.out.mv HWF.out hwm (Nat.le_refl _) (by omega)
  have hap : appR L ms ⟨mg, mp, ⟨md, mb⟩⟩ = (xo, xe) := by unfold appR; rw [HVM.out]; exact hxr
  rw [hap] at ha
  unfold layAgg Mv.agg at ha
  simp only at ha
  have HAC := Lib.hid ha
  clear ha hap hxr
  go_wp2_with fail
  refine HAC.out.mono ?_
  rintro r w5 ⟨⟨v5, rfl, hown5⟩, hb5⟩
  have HJ5 := Lib.hid (HJ4.out.below hb5)
  clear l0 l1 l2 l3 m0 m1 m2 m3 HAC HJ4 hb5
  by_cases e0 : xe = 0
  case neg =>
    obtain rfl := apply_err HXR.out e0
    have f1 : (xe == 0) = false := by simpa using e0
    obtain ⟨A6, c6, rfl, -, -⟩ := hown5.form
    have HE := Lib.hid (HB0.out.trans (HJ5.out.bel.mono HB0.out.size))
    clear hown5
    go_wp2
    go_ret
    exact ⟨rfl, HE.out⟩
  subst e0
  obtain ⟨hip, -, hokx, -⟩ := apply_ok HXR.out
  simp only at hip
  obtain ⟨g, p, rfl, rfl, hgl, hpl⟩ := isP_nat hip
  have HOKX := Lib.hid hokx
  obtain ⟨wo, hwo⟩ : ∃ wo, without ms (g : Int) (p : Int) = wo := ⟨_, rfl⟩
  have HWO := Lib.hid hwo
  have hw16 := HX.out.ok.w
  have hwl : wo.length ≤ 20 := by rw [← hwo]; exact Nat.le_trans (without_le _ _ _) hln
  obtain ⟨hm, hhm⟩ : ∃ hm, homeL L g p = hm := ⟨_, rfl⟩
  have hwb : PlWf ⟨-1, mb⟩ := ⟨wf_neg, hwm.2⟩
  have hr21 := fun (W : World) (h : LwJ w0 X L A c Am ms W) => r21home (L := L) (A := A) (B := W.heap.size) (c := c) g p W HX.out h.gs (Nat.le_refl _) hgl hpl
  rw [hhm] at hr21
  obtain ⟨hmd, hmb⟩ := hm
  unfold layAgg Plc.agg at hr21
  simp only at hr21
  have HHC := Lib.hid hr21
  have hAB := fun (Ax : Option Addr) (cx : Nat) (q : List Mv) (hq : MvOk L q) (hql : q.length ≤ 30) (W : World) (h : LwJ w0 X L A c Am ms W) (hM : MvS W W.heap.size Ax q) => sApply_any (L := L) (A := A) (Am := Ax) (B := W.heap.size) (c := c) (cm := cx) (ms := q) ⟨(g : Int), (p : Int), ⟨-1, mb⟩⟩ W HX.out h.gs hM (wf_moves HX.out.ok hq) hwb (Nat.le_refl _) (by omega)
  unfold layAgg Mv.agg at hAB
  simp only at hAB
  have HAB := Lib.hid hAB
  have HBK : Hid (backM ⟨(g : Int), (p : Int), ⟨md, mb⟩⟩ = ⟨(g : Int), (p : Int), ⟨-1, mb⟩⟩) := rfl
  have HA2 : Hid (∀ q, MvOk L q → appR L q ⟨(g : Int), (p : Int), ⟨-1, mb⟩⟩ = applyL L q ⟨(g : Int), (p : Int), ⟨-1, mb⟩⟩) := fun q hq => by unfold appR; rw [ok_valid hq]; rfl
  obtain ⟨A6, c6, rfl, -, -⟩ := hown5.form
  rw [List.length_map] at hown5 ⊢
  have HO5 := Lib.hid hown5
  have HIP := Lib.hid hip
  clear hown5 hr21 hAB hip
  go_upto_region 10 with (fail)
  obtain ⟨m0, m1, m2, m3⟩ := HBC.out w5 HJ5.out
  go_upto_region 11 with (fail)
  generalize hW6 : w5.alloc _ = w6
  have HK6 : Hid (MvB w6 w5.heap.size ⟨(g : Int), (p : Int), ⟨-1, mb⟩⟩) := by rw [← hW6]; exact MvB.made' w5 ⟨(g : Int), (p : Int), ⟨-1, mb⟩⟩
  have HJ6 : Hid (LwJ w0 X L A c Am ms w6) := by rw [← hW6]; exact Lib.hid (HJ5.out.below below_laid)
  have HO6 : Hid (OwS w6 w4.heap.size 47 4 (.slice A6 xo.length c6) (xo.map Mv.cells)) := by rw [← hW6]; exact HO5.out.alloc _
  generalize w5.heap.size = Y at *
  clear hW6 HJ5 HO5 m0 m1 m2 m3
  generalize w4.heap.size = b9 at *
  obtain ⟨m0, m1, m2, m3⟩ := HBC.out w6 HJ6.out
  by_cases d1 : md = -1
  case' pos =>
    have f1 : (md == -1) = true := by simpa using d1
    obtain ⟨hs1, hs2, hs3⟩ := ret_self HXR.out HOK.out.ord d1
    rw [HBK.out] at hs3
    simp only [Int.toNat_natCast] at hs1 hs2 hs3
    rw [hwo] at hs1
    obtain rfl : wo = xo := hs1.symm
    rw [hhm] at hs2
    have HWH := Lib.hid hs2
    have HR9 := Lib.hid hs3
    have HOKW := HOKX
    subst d1
    clear hs2 hs3 hwo hhm hokx
    go_upto_region 22 with (fail)
    clear m0 m1 m2 m3 HXR HBK
    have HJT := HJ6
    have HOT := HO6
    have HKT := HK6
    clear HJ6 HO6 HK6
    generalize w6 = wt at *
    generalize A6 = A9 at *
    generalize c6 = c9 at *
    generalize b9 = bT at *
  case' neg =>
    have f1 : (md == -1) = false := by simpa using d1
    have f1' : (md != -1) = true := by simpa using d1
    obtain ⟨hs1, hs2, hs3⟩ := ret_back HX.out.ok HXR.out HOK.out.ord d1
    rw [HBK.out] at hs1 hs3
    simp only [Int.toNat_natCast] at hs1 hs2 hs3
    rw [hwo] at hs1 hs2 hs3
    rw [hhm] at hs1 hs2
    obtain ⟨F, hF⟩ : ∃ F : Nat → Bool, F = fun (k : Nat) => !((k : Int) == (p : Int)) && (whereL L xo (g : Int) k).disk == hmd := ⟨_, rfl⟩
    rw [← hF] at hs1
    have HF : Hid (∀ k : Nat, F k = (!((k : Int) == (p : Int)) && (whereL L xo (g : Int) k).disk == hmd)) := fun k => by rw [hF]
    obtain ⟨oc, hoc⟩ : ∃ oc : Nat → Bool, oc = fun k => (List.range k).any F := ⟨_, rfl⟩
    have HOS : Hid (∀ k, oc (k + 1) = (oc k || F k)) := fun k => by rw [hoc]; exact any_succ F k
    have HO0 : Hid (oc 0 = false) := by rw [hoc]; rfl
    have hs4 : applyL L xo ⟨(g : Int), (p : Int), ⟨-1, mb⟩⟩ = if oc L.w then ([], 1) else (wo, 0) := by rw [hs1, hoc]
    have HS4 := Lib.hid hs4
    have HWH := Lib.hid hs2
    have HR9 := Lib.hid hs3
    have HWW := Lib.hid (fun (W : World) (h : LwJ w0 X L A c Am ms W) => r21width (L := L) (A := A) (B := W.heap.size) (c := c) W HX.out h.gs (Nat.le_refl _))
    have HWR := Lib.hid (fun (k : Nat) (hk : k < L.w) (W : World) (h : LwJ w0 X L A c Am ms W) (hM : MvS W W.heap.size A6 xo) => r22where (L := L) (A := A) (Am := A6) (B := W.heap.size) (c := c) (cm := c6) (ms := xo) g k W HX.out h.gs hM (Nat.le_refl _) hgl hk (by omega))
    unfold layAgg Plc.agg at HWR
    unfold layAgg at HWW
    clear hs1 hs2 hs3 hs4 hwo hhm hokx hoc hF
    have hms6 := HO6.out.reads
    have HM6 : Hid (MvS w6 w6.heap.size A6 xo) := hms6
    clear hms6
    go_wp2
    clear m0 m1 m2 m3
    go_loopw [12, 13] (fun s12 s13 wr => OccR L.w oc w6 s12 s13 wr) (fun _ s13 _ => L.w - (intOf s13).toNat)
    case atStart => exact ⟨0, by omega, rfl, by rw [HO0.out], Below.refl _ _⟩
    case' round =>
      obtain ⟨k, hk, rfl, rfl, hb⟩ := hrel
      have HBR := Lib.hid hb
      have HJR := Lib.hid (HJ6.out.below hb)
      have HMR : Hid (MvS wr wr.heap.size A6 xo) := (RdS.below' HM6.out hb (Nat.le_refl _)).more hb.size
      obtain ⟨l0, l1, l2, l3⟩ := HJR.out.lay.cells
      go_wp2_with fail
      refine (HWW.out wr HJR.out).mono ?_
      rintro r w7 ⟨rfl, hb7⟩
      have HB7 := Lib.hid (HBR.out.trans (hb7.mono HBR.out.size))
      have HJ7 := Lib.hid (HJR.out.below hb7)
      have HM7 : Hid (MvS w7 w7.heap.size A6 xo) := (RdS.below' HMR.out hb7 (Nat.le_refl _)).more hb7.size
      clear l0 l1 l2 l3 hb hb7 HBR HJR HMR
      by_cases hkn : k < L.w
      case pos =>
        have hkI : (k : Int) < (L.w : Int) := by omega
        have HST := Lib.hid (HOS.out k)
        have hfk := HF.out k
        obtain ⟨⟨wd, wb⟩, hwk⟩ : ∃ t, whereL L xo (g : Int) k = t := ⟨_, rfl⟩
        have hw22 := HWR.out k hkn
        rw [hwk] at hw22 hfk
        simp only at hw22 hfk
        have HFK := Lib.hid hfk
        have X7 := fun d xs => (HJ7.out.below (below_regrown w7 d xs)).lay.cells
        have Z7 := fun d xs => HBC.out _ (HJ7.out.below (below_regrown w7 d xs))
        have KW := Lib.hid (fun d xs => hw22 (Sort.grow (redrawn w7 d) xs) (HJ7.out.below (below_regrown w7 d xs)) ((RdS.below' HM7.out (below_regrown w7 d xs) (Nat.le_refl _)).more (below_regrown w7 d xs).size))
        have KH := Lib.hid (fun d xs => HHC.out (Sort.grow (redrawn w7 d) xs) (HJ7.out.below (below_regrown w7 d xs)))
        clear hw22 hfk hwk
        obtain ⟨o1, ho1⟩ : ∃ o1, oc k = o1 := ⟨_, rfl⟩
        rw [ho1] at HST ⊢
        clear ho1
        cases o1
        case true =>
          go_upto_region 16 with (fail)
          refine quiet_below (by kernel_rfl) (by kernel_rfl) ?_
          repeat (go_big_quiet_step (first | (go_at_call 22; exact Calls.regrown_of (KW.out _ _)) | (go_at_call 26; exact Calls.regrown_of (KH.out _ _))))
          refine wpQuiet_nil ?_
          intro w8 hb8
          have HB8 := Lib.hid (HB7.out.trans (hb8.mono HB7.out.size))
          clear X7 Z7 KW KH hb8
          go_wp2
          go_roundw
          case rel =>
            first
              | exact ⟨k + 1, by omega, by go_num, by rw [HST.out]; rfl, HB8.out⟩
              | (repeat apply Exists.intro
                 apply And.intro
                 case right => (repeat' apply And.intro) <;> rfl
                 case left => exact ⟨k + 1, by omega, by go_num, by rw [HST.out]; rfl, HB8.out⟩)
          case measure => simp [intOf] <;> omega
        case false =>
          by_cases hkp : k = p
          case pos =>
            subst k
            have HFF : Hid (F p = false) := by rw [Hid, HFK.out]; simp
            have f0 : ((p : Int) != (p : Int)) = false := by simp
            go_upto_region 16 with (fail)
            refine quiet_below (by kernel_rfl) (by kernel_rfl) ?_
            repeat (go_big_quiet_step (first | (go_at_call 22; exact Calls.regrown_of (KW.out _ _)) | (go_at_call 26; exact Calls.regrown_of (KH.out _ _))))
            refine wpQuiet_nil ?_
            intro w8 hb8
            have HB8 := Lib.hid (HB7.out.trans (hb8.mono HB7.out.size))
            clear X7 Z7 KW KH hb8
            go_wp2
            go_roundw
            case rel =>
              first
                | exact ⟨p + 1, by omega, by go_num, by rw [HST.out, HFF.out]; rfl, HB8.out⟩
                | (repeat apply Exists.intro
                   apply And.intro
                   case right => (repeat' apply And.intro) <;> rfl
                   case left => exact ⟨p + 1, by omega, by go_num, by rw [HST.out, HFF.out]; rfl, HB8.out⟩)
            case measure => simp [intOf] <;> omega
          case neg =>
            have hfd := fun k x b W => field38 k x b W
            have f0 : ((k : Int) == (p : Int)) = false := by simp; omega
            have f00 : (k == p) = false := by simp; omega
            have f01 : ((k : Int) != (p : Int)) = true := by simp; omega
            have f02 : (k != p) = true := by simp; omega
            have f03 : decide (k = p) = false := by simp; omega
            have HKP := Lib.hid f0
            by_cases hdq : wd = hmd
            case pos =>
              have HFF : Hid (F k = true) := by rw [Hid, HFK.out, HKP.out, hdq]; simp
              have f4 : (wd == hmd) = true := by simpa using hdq
              clear hdq
              go_upto_region 16 with (fail)
              refine quiet_below (by kernel_rfl) (by kernel_rfl) ?_
              repeat (go_big_quiet_step (first | (go_at_call 22; exact Calls.regrown_of (KW.out _ _)) | (go_at_call 26; exact Calls.regrown_of (KH.out _ _))))
              refine wpQuiet_nil ?_
              intro w8 hb8
              have HB8 := Lib.hid (HB7.out.trans (hb8.mono HB7.out.size))
              clear X7 Z7 KW KH hb8
              go_wp2
              go_roundw
              case rel =>
                first
                  | exact ⟨k + 1, by omega, by go_num, by rw [HST.out, HFF.out]; rfl, HB8.out⟩
                  | (repeat apply Exists.intro
                     apply And.intro
                     case right => (repeat' apply And.intro) <;> rfl
                     case left => exact ⟨k + 1, by omega, by go_num, by rw [HST.out, HFF.out]; rfl, HB8.out⟩)
              case measure => simp [intOf] <;> omega
            case neg =>
              have f4 : (wd == hmd) = false := by simpa using hdq
              have HFF : Hid (F k = false) := by rw [Hid, HFK.out, HKP.out, f4]; simp
              clear hdq
              go_upto_region 16 with (fail)
              refine quiet_below (by kernel_rfl) (by kernel_rfl) ?_
              repeat (go_big_quiet_step (first | (go_at_call 22; exact Calls.regrown_of (KW.out _ _)) | (go_at_call 26; exact Calls.regrown_of (KH.out _ _))))
              refine wpQuiet_nil ?_
              intro w8 hb8
              have HB8 := Lib.hid (HB7.out.trans (hb8.mono HB7.out.size))
              clear X7 Z7 KW KH hb8
              go_wp2
              go_roundw
              case rel =>
                first
                  | exact ⟨k + 1, by omega, by go_num, by rw [HST.out, HFF.out]; rfl, HB8.out⟩
                  | (repeat apply Exists.intro
                     apply And.intro
                     case right => (repeat' apply And.intro) <;> rfl
                     case left => exact ⟨k + 1, by omega, by go_num, by rw [HST.out, HFF.out]; rfl, HB8.out⟩)
              case measure => simp [intOf] <;> omega
      case' neg =>
        have hkI : ¬ (k : Int) < (L.w : Int) := by omega
        obtain rfl : k = L.w := by omega
        have HK7 := Lib.hid (HK6.out.below HB7.out HK6.out.lt)
        have hab := HAB.out A6 c6 xo HOKX.out hxl w7 HJ7.out HM7.out
        rw [HA2.out xo HOKX.out, HS4.out] at hab
        obtain ⟨ob, hob⟩ : ∃ ob, oc L.w = ob := ⟨_, rfl⟩
        have hs4 := HS4.out
        rw [hob] at hab hs4 ⊢
        clear hob HF HOS HO0 HS4 HWW HWR HJ6 HO6 HM6
        obtain ⟨l0, l1, l2, l3⟩ := HJ7.out.lay.cells
        obtain ⟨n0, n1, n2, n3⟩ := HK7.out.cells
        cases ob
        case true =>
          simp only [if_true] at hab
          have HAc := Lib.hid hab
          clear hab hs4
          go_wp2_with fail
          refine HAc.out.mono ?_
          rintro r w8 ⟨⟨v8, rfl, hown8⟩, hb8⟩
          obtain ⟨A8, c8, rfl, -, -⟩ := hown8.form
          have HE := Lib.hid (HB0.out.trans ((HJ7.out.below hb8).bel.mono HB0.out.size))
          clear hown8 hb8 l0 l1 l2 l3 n0 n1 n2 n3 HAc
          go_wp2
          go_ret
          exact ⟨rfl, HE.out⟩
        case' false =>
          simp only [Bool.false_eq_true, if_false] at hab hs4
          obtain ⟨-, -, hokw, -⟩ := apply_ok hs4
          have HOKW := Lib.hid hokw
          have HAc := Lib.hid hab
          clear hab hs4 hokw
          go_wp2_with fail
          refine HAc.out.mono ?_
          rintro r wt ⟨⟨v8, rfl, hown8⟩, hb8⟩
          obtain ⟨A9, c9, rfl, -, -⟩ := hown8.form
          rw [List.length_map] at hown8 ⊢
          generalize hbT : w7.heap.size = bT at *
          have HOT := Lib.hid hown8
          rw [← hbT] at hb8
          have HJT := Lib.hid (HJ7.out.below hb8)
          have HKT := Lib.hid (HK7.out.below hb8 HK7.out.lt)
          clear hown8 hb8 hbT l0 l1 l2 l3 n0 n1 n2 n3 HAc HJ7 HM7 HK7 HB7
          go_upto_region 22 with (fail)
  all_goals
    clear hwm
    have hmt := HOT.out.reads
    have HMT : Hid (MvS wt wt.heap.size A9 wo) := hmt
    clear hmt
    go_wp2
    go_loopw [14, 15] (fun s14 s15 wr => WanR ms (g : Int) (p : Int) wt s14 s15 wr) (fun _ s15 _ => ms.length - (intOf s15).toNat)
    case atStart => exact ⟨0, by omega, rfl, OwS.nil _ _ _ _, Below.refl _ _⟩
    case round =>
      obtain ⟨i, hi, rfl, hown, hb⟩ := hrel
      obtain ⟨A14, c14, rfl, -, -⟩ := hown.form
      rw [List.length_map] at hown ⊢
      have HBR := Lib.hid hb
      have HJR := Lib.hid (HJT.out.below hb)
      by_cases hin : i < ms.length
      · have hinI : (i : Int) < (ms.length : Int) := by omega
        obtain ⟨x, hx⟩ := at_some hin
        have HIN : Hid (¬ (x.g = (g : Int) ∧ x.p = (p : Int)) → without (ms.take (i + 1)) (g : Int) (p : Int) = without (ms.take i) (g : Int) (p : Int) ++ [x]) := fun h => without_in hx h
        have HOU : Hid (x.g = (g : Int) ∧ x.p = (p : Int) → without (ms.take (i + 1)) (g : Int) (p : Int) = without (ms.take i) (g : Int) (p : Int)) := fun h => without_out hx h
        obtain ⟨bx, ox, hAm, -, q0, q1, q2, q3⟩ := MvS.at_ HJR.out.mv hx
        subst hAm
        have hwi : (without (ms.take i) (g : Int) (p : Int)).length ≤ 20 := by have := without_le (ms.take i) (g : Int) (p : Int); rw [List.length_take] at this; omega
        generalize without (ms.take i) (g : Int) (p : Int) = wi at *
        obtain ⟨m0, m1, m2, m3⟩ := HBC.out wr HJR.out
        have HO := Lib.hid hown
        have HQ : Hid (∀ n : Nat, (wr.drewN n).cell? ⟨bx, ox + i * 4, none⟩ = some (.int .i64 x.g) ∧ (wr.drewN n).cell? ⟨bx, ox + i * 4 + 1, none⟩ = some (.int .i64 x.p) ∧ (wr.drewN n).cell? ⟨bx, ox + i * 4 + 2, none⟩ = some (.int .i64 x.to.disk) ∧ (wr.drewN n).cell? ⟨bx, ox + i * 4 + 3, none⟩ = some (.int .i64 x.to.block)) := fun n => ⟨q0, q1, q2, q3⟩
        clear hx hown hb
        by_cases e1 : x.g = (g : Int) ∧ x.p = (p : Int)
        · have HR := Lib.hid (HOU.out e1)
          obtain ⟨e2, e3⟩ := e1
          rw [e2] at q0
          rw [e3] at q1
          clear e2 e3 HIN HOU HQ
          go_wp2_with fail
          go_quiet (fail)
          go_wp2
          go_roundw
          case rel =>
            first
              | exact ⟨i + 1, by omega, by go_num, by rw [HR.out]; exact HO.out.drewN _, below_drewN HBR.out _⟩
              | (repeat apply Exists.intro
                 apply And.intro
                 case right => (repeat' apply And.intro) <;> rfl
                 case left => exact ⟨i + 1, by omega, by go_num, by rw [HR.out]; exact HO.out.drewN _, below_drewN HBR.out _⟩)
          case measure => simp [intOf] <;> omega
        · have HR := Lib.hid (HIN.out e1)
          clear HIN HOU
          by_cases e2 : x.g = (g : Int)
          case' pos =>
            have e3 : ¬ x.p = (p : Int) := fun h => e1 ⟨e2, h⟩
            have f3 : (x.p == (p : Int)) = false := by simpa using e3
            have f3' : (x.p != (p : Int)) = true := by simpa using e3
            rw [e2] at q0
            clear e1 e2 e3
            go_wp2_with fail
            go_quiet (fail)
            clear f3 f3'
          case' neg =>
            have f3 : (x.g == (g : Int)) = false := by simpa using e2
            have f3' : (x.g != (g : Int)) = true := by simpa using e2
            clear e1 e2
            go_wp2_with fail
            go_quiet (fail)
            clear f3 f3'
          all_goals
            have hq := HQ.out nq
            have HOq : Hid (OwS (wr.drewN nq) wt.heap.size 47 4 (.slice A14 wi.length c14) (wi.map Mv.cells)) := HO.out.drewN nq
            have HBq : Hid (Below wt.heap.size wt (wr.drewN nq)) := below_drewN HBR.out nq
            clear HQ q0 q1 q2 q3 m0 m1 m2 m3 HO HBR HJR
            generalize wr.drewN nq = wq at *
            obtain ⟨q0, q1, q2, q3⟩ := hq
            have hsq := HBq.out.size
            go_wp2_with (at_builtin; refine wpList_ap1 rfl (.tmp 126) (.tmp 131) _ rfl elemMv rfl HOq.out x.cells _ (by rfl) wq.heap.size (by rfl) (by rfl) (Mv.one x) (by simp [maxLen]; omega) (by simp; omega) (by omega) ?_)
            rintro v1 w3' hown1 hg1 -
            have HO1 : Hid (OwS w3' wt.heap.size 47 4 v1 ((wi ++ [x]).map Mv.cells)) := by
              rw [Hid, List.map_append]
              exact hown1
            have HB1 : Hid (Below wt.heap.size wt w3') := (HBq.out.alloc HBq.out.size _).grown hg1 (by simp; omega) (fun q hq => (HOq.out.lt hq).1)
            clear hown1 hg1
            go_wp2
            go_roundw
            case rel =>
              first
                | exact ⟨i + 1, by omega, by go_num, by rw [HR.out]; exact HO1.out, HB1.out⟩
                | (repeat apply Exists.intro
                   apply And.intro
                   case right => (repeat' apply And.intro) <;> rfl
                   case left => exact ⟨i + 1, by omega, by go_num, by rw [HR.out]; exact HO1.out, HB1.out⟩)
            case measure => simp [intOf] <;> omega
      · have hinI : ¬ (i : Int) < (ms.length : Int) := by omega
        obtain rfl : i = ms.length := by omega
        rw [List.take_length, HWO.out] at hown ⊢
        have HO := Lib.hid hown
        have HMR : Hid (MvS wr wr.heap.size A9 wo) := (RdS.below' HMT.out hb (Nat.le_refl _)).more hb.size
        have HKR := Lib.hid (HKT.out.below hb HKT.out.lt)
        have HSM := Lib.hid (fun (W : World) (hW : Below wr.heap.size wr W) => r22same (a := wo) (b := wo) (c1 := c9) (c2 := c14) W ((RdS.below' HMR.out hW (Nat.le_refl _)).more hW.size) (HO.out.below hW).reads (by omega) (by omega) (Nat.le_refl _) (Nat.le_refl _))
        have hwh := sWhere_any (L := L) (A := A) (Am := A9) (B := wr.heap.size) (c := c) (cm := c9) (ms := wo) (g : Int) (p : Int) wr HX.out HJR.out.gs HMR.out (wf_moves HX.out.ok HOKW.out) (Nat.le_refl _) (by omega)
        unfold layAgg at hwh
        have HWC := Lib.hid hwh
        clear hown hb hwh
        obtain ⟨l0, l1, l2, l3⟩ := HJR.out.lay.cells
        obtain ⟨m0, m1, m2, m3⟩ := HBC.out wr HJR.out
        go_wp2_with fail
        refine HWC.out.mono ?_
        rintro r w8' ⟨hr8, hb8⟩
        have hr8' := hr8.2.2 (ok_valid HOKW.out) HIP.out
        rw [HWH.out] at hr8'
        obtain rfl := hr8'
        unfold Plc.agg
        have HJ8 := Lib.hid (HJR.out.below hb8)
        have HK8 := Lib.hid (HKR.out.below hb8 HKR.out.lt)
        have HM8 : Hid (MvS w8' w8'.heap.size A9 wo) := (RdS.below' HMR.out hb8 (Nat.le_refl _)).more hb8.size
        have HB8 := Lib.hid hb8
        clear hr8 hb8 l0 l1 l2 l3 m0 m1 m2 m3 HWC
        go_upto_region 29 with (fail)
        generalize hW9 : w8'.alloc _ = w9
        have HP9 : Hid (PlB w9 w8'.heap.size ⟨hmd, hmb⟩) := by rw [← hW9]; exact heap_alloc_new w8' _
        have hb9 : Below w8'.heap.size w8' w9 := by rw [← hW9]; exact below_laid
        have HJ9 := Lib.hid (HJ8.out.below hb9)
        have HK9 := Lib.hid (HK8.out.below hb9 HK8.out.lt)
        have HM9 : Hid (MvS w9 w9.heap.size A9 wo) := (RdS.below' HM8.out hb9 (Nat.le_refl _)).more hb9.size
        have HB9 := Lib.hid (HB8.out.trans (hb9.mono HB8.out.size))
        generalize w8'.heap.size = V at *
        clear hW9 hb9 HJ8 HK8 HM8 HB8
        have hab := HAB.out A9 c9 wo HOKW.out (by omega) w9 HJ9.out HM9.out
        rw [HA2.out wo HOKW.out, HR9.out] at hab
        have HAc := Lib.hid hab
        clear hab
        obtain ⟨l0, l1, l2, l3⟩ := HJ9.out.lay.cells
        obtain ⟨n0, n1, n2, n3⟩ := HK9.out.cells
        go_wp2_with fail
        refine HAc.out.mono ?_
        rintro r wa ⟨⟨v10, rfl, hown10⟩, hb10⟩
        obtain ⟨A10, c10, rfl, -, -⟩ := hown10.form
        have HJA := Lib.hid (HJ9.out.below hb10)
        have HPA := Lib.hid (HP9.out.below hb10 HP9.out.lt)
        have HBA := Lib.hid (HB9.out.trans (hb10.mono HB9.out.size))
        clear hown10 hb10 l0 l1 l2 l3 n0 n1 n2 n3 HAc HJ9 HK9 HM9 HB9 HP9
        go_upto_region 30 with (fail)
        have XA := fun d xs => (HJA.out.below (below_regrown wa d xs)).lay.cells
        have YA := fun d xs => (HPA.out.below (below_regrown wa d xs) HPA.out.lt).cells
        have ZA := fun d xs => HBC.out _ (HJA.out.below (below_regrown wa d xs))
        have KS : Hid (∀ d xs, Calls Try.prog 19 #[.slice A9 wo.length c9, .slice A14 wo.length c14] (Sort.grow (redrawn wa d) xs) fun r w' => r = .returned (.bool true) ∧ Below (Sort.grow (redrawn wa d) xs).heap.size (Sort.grow (redrawn wa d) xs) w') := fun d xs =>
          (HSM.out _ (HBA.out.trans ((below_regrown wa d xs).mono HBA.out.size))).mono fun r w' h => ⟨by rw [h.1]; simp, h.2⟩
        have KH := Lib.hid (fun d xs => HHC.out (Sort.grow (redrawn wa d) xs) (HJA.out.below (below_regrown wa d xs)))
        refine quiet_below (by kernel_rfl) (by kernel_rfl) ?_
        repeat (go_big_quiet_step (first | (go_at_call 19; exact Calls.regrown_of (KS.out _ _)) | (go_at_call 26; exact Calls.regrown_of (KH.out _ _))))
        refine wpQuiet_nil ?_
        intro wz hbz
        have HE := Lib.hid (HB0.out.trans ((HJA.out.below hbz).bel.mono HB0.out.size))
        clear XA YA ZA KS KH hbz
        go_wp2
        go_ret
        exact ⟨rfl, HE.out⟩
end Go.Proofs.Ytkjjojmidhjjdaa
