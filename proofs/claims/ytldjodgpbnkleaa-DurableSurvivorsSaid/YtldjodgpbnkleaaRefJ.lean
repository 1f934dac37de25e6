/- Walk of tegularef47's Check. -/
import Derived.Test.YtldjodgpbnkleaaRefI
import Derived.Test.YtldjodgpbnkleaaDurH
import Derived.Test.YtldjodgpbnkleaaStepAp
namespace Go.Proofs.Ytldjodgpbnkleaa
open Go.RowKit

theorem elemRFlt : Elem Try.prog 28 32 3 24 := Elem.mk (z := Flt.agg ⟨0, 0, 0⟩) Try.underlying28 (by kernel_rfl) (by decide) rfl
theorem zfind_get {α : Type} {p : α → Nat → Bool} {l : List α} {k : Nat} (h : zfind p l = some k) : ∃ x, l[k]? = some x := by
  unfold zfind at h
  rw [List.findIdx?_eq_some_iff_getElem] at h
  obtain ⟨hk, -⟩ := h
  rw [List.length_zipIdx] at hk
  exact ⟨l[k], List.getElem?_eq_getElem hk⟩
theorem srcO_get {os : List Opr} {r v : Int} {k : Nat} (h : srcO os r v = some k) : ∃ x, os[k]? = some x := by
  unfold srcO at h
  rw [List.findIdx?_eq_some_iff_getElem] at h
  obtain ⟨hk, -⟩ := h
  exact ⟨os[k], List.getElem?_eq_getElem hk⟩
def staleF (os : List Opr) (r : Opr) (si : Int) (tl : Opr → Bool) : Option Flt := (zfind (staB os r si tl) os).bind fun k => (os[k]?).map fun o => ⟨3, r.id, o.id⟩
def rjudge (os : List Opr) (r : Opr) : Option Flt :=
  match srcO os r.reg r.val with
  | none => if r.val ≠ 0 then some ⟨1, r.id, -1⟩ else staleF os r (-1) (fun _ => true)
  | some i => match os[i]? with
    | none => none
    | some so => if r.done < so.call then some ⟨2, r.id, so.id⟩ else staleF os r i (fun o => precB so o || decide (so.era < o.era))
def rfltOf (os : List Opr) (r : Opr) : Option Flt := if ansB r then rjudge os r else none
def rcheckD (l : List Ev) : Option (List Flt) := if rtraceD l then some ((rawOps l).filterMap (rfltOf (rawOps l))) else none
def RChkSome (w : World) (fs : List Flt) (e : Ending) (w' : World) : Prop := ∃ v, e = .returned (.tuple #[v, .int .i64 0]) ∧ OwS w' w.heap.size 32 3 v (fs.map Flt.cells) ∧ Below w.heap.size w w'
def RNone (w : World) (e : Ending) (w' : World) : Prop := e = .returned (.tuple #[.slice none 0 0, .int .i64 1]) ∧ Below w.heap.size w w'
def RChkPost (l : List Ev) (w : World) (e : Ending) (w' : World) : Prop := match rcheckD l with
  | none => RNone w e w'
  | some fs => RChkSome w fs e w'

set_option maxHeartbeats 1000000 in
set_option maxRecDepth 100000 in
theorem rcheck_not (l : List Ev) (A : Option Addr) (c B : Nat) (w : World) (h : EvS w B A l) (hB : B ≤ w.heap.size) (hlen : l.length ≤ 1000000) (hv : rtraceD l = false) :
    Calls Try.prog 17 #[.slice A l.length c] w (RNone w) := by
  have HC := Lib.hid (rtrace_any l A c B w h hB hlen)
  rw [hv] at HC
  clear hv
  go_enter Try.func17, Try.ntmps17
  go_wp2_with fail
  refine HC.out.mono ?_
  rintro r w1 ⟨rfl, hb1⟩
  go_wp2
  go_ret2
  exact ⟨rfl, hb1⟩

set_option maxHeartbeats 4000000 in
set_option maxRecDepth 100000 in
theorem rcheck_some (l : List Ev) (A : Option Addr) (c B : Nat) (w : World) (h : EvS w B A l) (hB : B ≤ w.heap.size) (hlen : l.length ≤ 1000000) (hv : rtraceD l = true) :
    Calls Try.prog 17 #[.slice A l.length c] w (RChkSome w ((rawOps l).filterMap (rfltOf (rawOps l)))) := by
  have HC := Lib.hid (rtrace_any l A c B w h hB hlen)
  rw [hv] at HC
  have hvl : validL l = true := by unfold rtraceD at hv; simp only [Bool.and_eq_true] at hv; exact hv.1
  have HCO := Lib.hid (fun w1 (hb : Below w.heap.size w w1) => refops_valid l A c B w1 (h.below' hb hB) (by have := hb.size; omega) hlen hvl)
  have hol := rawOps_len l
  clear hv hvl h
  generalize rawOps l = os at *
  go_enter Try.func17, Try.ntmps17
  go_wp2_with fail
  refine HC.out.mono ?_
  rintro r w0 ⟨rfl, hb0⟩
  have hz0 := hb0.size
  go_wp2_with fail
  refine (HCO.out _ hb0).mono ?_
  rintro r w1 ⟨v, rfl, hown, hb1'⟩
  have hb1 := hb0.trans (hb1'.mono hz0)
  clear HC HCO hb1' hb0
  obtain ⟨Av, cv, rfl, hlc, hcm⟩ := hown.form
  rw [List.length_map] at hlc ⊢
  have hops := hown.ops
  have hz1 := hb1.size
  clear hown
  go_wp2
  go_loopw [6, 7] (fun v i wr => ∃ k : Nat, k ≤ os.length ∧ i = .int .i64 k ∧ OwS wr w1.heap.size 32 3 v (((os.take k).filterMap (rfltOf os)).map Flt.cells) ∧ Below w1.heap.size w1 wr) (fun _ i _ => os.length - (intOf i).toNat)
  case atStart => exact ⟨0, by omega, rfl, OwS.nil _ _ _ _, Below.refl _ _⟩
  case round =>
    obtain ⟨k, hk, rfl, hout, hb⟩ := hrel
    have hz := hb.size
    by_cases hlt : k < os.length
    · have hops' := hops.below hb
      obtain ⟨b, off, o, rfl, hbB, ho, c0, c1, c2, c3, c4, c5, c6, c7⟩ := OpS.at_ hops' hlt
      have hkl : (k : Int) < (os.length : Int) := by omega
      have hbl : b < wr.heap.size := by omega
      have hTS : ((os.take (k + 1)).filterMap (rfltOf os)) = ((os.take k).filterMap (rfltOf os)) ++ (rfltOf os o).toList := by
        rw [take_snoc' ho, List.filterMap_append]
        cases hq : rfltOf os o <;> simp [hq]
      have HTS := Lib.hid hTS
      have hfl : ((os.take k).filterMap (rfltOf os)).length ≤ k := Nat.le_trans (List.length_filterMap_le _ _) (by simp; omega)
      have HOPS := Lib.hid (hops'.more (show w1.heap.size ≤ wr.heap.size from hz))
      have HO := Lib.hid ho
      have HA := Lib.hid (fun w => rread_any o w)
      have HSO := Lib.hid (fun W (hW : Below wr.heap.size wr W) => rsource_any os (some ⟨b, off, none⟩) cv wr.heap.size o W (HOPS.out.below hW) hW.size (by omega))
      have HST := Lib.hid (fun si tl (hs : SrcT os si tl) W (hW : Below wr.heap.size wr W) => stale_any os (some ⟨b, off, none⟩) cv wr.heap.size o si tl W (HOPS.out.below hW) hW.size (by omega) hs)
      have HFO : Hid (rfltOf os o = if ansB o then rjudge os o else none) := rfl
      have HJ : Hid (rjudge os o = match srcO os o.reg o.val with
  | none => if o.val ≠ 0 then some ⟨1, o.id, -1⟩ else staleF os o (-1) (fun _ => true)
  | some i => match os[i]? with
    | none => none
    | some so => if o.done < so.call then some ⟨2, o.id, so.id⟩ else staleF os o i (fun x => precB so x || decide (so.era < x.era))) := rfl
      clear hTS ho hops'
      obtain ⟨oid, oreg, oval, owr, oba, oera, oca, odo⟩ := o
      generalize hab : ansB ⟨oid, oreg, oval, owr, oba, oera, oca, odo⟩ = ab at *
      simp only [Opr.agg] at c0 c1 c2 c3 c4 c5 c6 c7 HA HSO HST HJ
      clear hab
      cases ab
      · have HQ : Hid (rfltOf os ⟨oid, oreg, oval, owr, oba, oera, oca, odo⟩ = none) := HFO.out
        go_wp2_with fail
        refine (HA.out _).mono ?_
        rintro r w2 ⟨rfl, hb2⟩
        have hb2' : Below wr.heap.size wr w2 := ((Below.refl _ _).alloc (Nat.le_refl _) _).trans (hb2.mono (by simp))
        go_wp2
        go_roundw
        case rel => exact ⟨k + 1, by omega, by go_num, by rw [HTS.out, HQ.out]; simpa using hout.below hb2', hb.trans (hb2'.mono hz)⟩
        case measure => simp [intOf]; omega
      · have HJ1 : Hid (rfltOf os ⟨oid, oreg, oval, owr, oba, oera, oca, odo⟩ = rjudge os ⟨oid, oreg, oval, owr, oba, oera, oca, odo⟩) := HFO.out
        go_wp2_with fail
        refine (HA.out _).mono ?_
        rintro r w2 ⟨rfl, hb2⟩
        have hb22 : Below wr.heap.size wr w2 := ((Below.refl _ _).alloc (Nat.le_refl _) _).trans (hb2.mono (by simp))
        have hxo := newBox hb2
        have hxl := heapLt hxo
        obtain ⟨q0, q1, q2, q3, q4, q5, q6, q7⟩ := boxR (o := ⟨oid, oreg, oval, owr, oba, oera, oca, odo⟩) hxo
        simp only at q0 q1 q2 q3 q4 q5 q6 q7
        have hout2 := hout.below hb22
        have HS1 := Lib.hid (HSO.out w2 hb22)
        clear c0 c1 c2 c3 c4 c5 c6 c7 hb2 HSO HA HFO
        go_wp2_with fail
        refine HS1.out.mono ?_
        rintro r w3 ⟨rfl, hb3⟩
        have hb23 := hb22.trans (hb3.mono hb22.size)
        have hout3 := hout2.below hb3
        have hxo3 := heapBelow hxo hb3
        clear q0 q1 q2 q3 q4 q5 q6 q7 HS1 hb3 hb22 hout2 hxo hxl
        obtain ⟨q0, q1, q2, q3, q4, q5, q6, q7⟩ := boxR (o := ⟨oid, oreg, oval, owr, oba, oera, oca, odo⟩) hxo3
        have hxl3 := heapLt hxo3
        simp only at q0 q1 q2 q3 q4 q5 q6 q7
        have hbr3 := hb.trans (hb23.mono hz)
        rcases hsr : srcO os oreg oval with _ | i
        · rw [hsr] at HJ
          have HSR := Lib.hid hsr
          clear hsr
          simp only [idxN]
          by_cases hv0 : oval = 0
          · subst hv0
            have HJ2 : Hid (rfltOf os ⟨oid, oreg, 0, owr, oba, oera, oca, odo⟩ = staleF os ⟨oid, oreg, 0, owr, oba, oera, oca, odo⟩ (-1) (fun _ => true)) := by unfold Hid; rw [HJ1.out, HJ.out]; rfl
            clear HJ HJ1
            have HSRC : SrcT os (-1) (fun _ => true) := .inl ⟨rfl, rfl⟩
            go_wp2_with fail
            go_quiet (fail)
            have HST2 := Lib.hid (HST.out _ _ HSRC (w3.drewN nq) (below_drewN hb23 _))
            have hxl3 := heapLt hxo3
            go_wp2_with fail
            clear q0 q1 q2 q3 q4 q5 q6 q7
            refine HST2.out.mono ?_
            rintro r w4 ⟨rfl, hb4⟩
            have hb24 := (below_drewN hb23 nq).trans (hb4.mono hb23.size)
            have hbr := hb.trans (hb24.mono hz)
            have hout4 := (hout3.drewN nq).below hb4
            have hxo4 := heapBelow (show (w3.drewN nq).heap[_]? = some _ from hxo3) hb4
            clear hb4 hxo3 hxl3
            rcases hzf : zfind (staB os ⟨oid, oreg, 0, owr, oba, oera, oca, odo⟩ (-1) (fun _ => true)) os with _ | k2
            · have HQ : Hid (rfltOf os ⟨oid, oreg, 0, owr, oba, oera, oca, odo⟩ = none) := by unfold Hid; rw [HJ2.out]; unfold staleF; rw [hzf]; rfl
              clear hzf
              simp only [idxN]
              go_wp2
              go_roundw
              case rel => exact ⟨k + 1, by omega, by go_num, by rw [HTS.out, HQ.out]; simpa using hout4, hbr⟩
              case measure => simp [intOf]; omega
            · obtain ⟨zo, hzo⟩ := zfind_get hzf
              have HQ : Hid (rfltOf os ⟨oid, oreg, 0, owr, oba, oera, oca, odo⟩ = some ⟨3, oid, zo.id⟩) := by unfold Hid; rw [HJ2.out]; unfold staleF; rw [hzf]; simp [hzo]
              clear hzf
              obtain ⟨e0, -⟩ := OpS.cells (HOPS.out.below' hb24 (Nat.le_refl _)) hzo
              obtain ⟨f0, -⟩ := boxR (o := ⟨oid, oreg, 0, owr, oba, oera, oca, odo⟩) hxo4
              have hxl4 := heapLt hxo4
              have hk2 : k2 < os.length := (List.getElem?_eq_some_iff.1 hzo).1
              have hk2' : (k2 : Int) < (os.length : Int) := by omega
              have hge : decide ((k2 : Int) ≥ 0) = true := by simp
              simp only at e0 f0
              clear hzo hxo4
              simp only [idxN]
              go_wp2_with fail
              go_region_law (refine step_ap1 (by rfl) (.tmp 77) (.tmp 86) _ (by rfl) elemRFlt (by rfl) (hout4.drewN 1) (Flt.cells ⟨3, oid, zo.id⟩) _ (by rfl) w4.heap.size (by rfl) (by rfl) (Flt.one _) (by simp [maxLen]; omega) (by simp; omega) hbr.size ?_; intro v4 w5 hown5 hg5 _)
              all_goals
                have hb15 : Below w1.heap.size w1 w5 := ((below_drewN hbr 1).alloc hbr.size _).grown hg5 (by have := hbr.size; simp; omega) (fun g hg => (hout4.lt hg).1)
                clear hg5
                go_wp2
                go_roundw
                case rel => exact ⟨k + 1, by omega, by go_num, by rw [HTS.out, HQ.out]; simpa using hown5, hb15⟩
                case measure => simp [intOf]; omega
          · have hv0' : (oval != 0) = true := by simp [hv0]
            have HQ : Hid (rfltOf os ⟨oid, oreg, oval, owr, oba, oera, oca, odo⟩ = some ⟨1, oid, -1⟩) := by unfold Hid; rw [HJ1.out, HJ.out]; simp [hv0]
            clear hv0 HJ HJ1 hxo3
            go_wp2_with (at_builtin; refine wpList_ap1 rfl (.tmp 42) (.tmp 46) _ rfl elemRFlt rfl hout3 (Flt.cells ⟨1, oid, -1⟩) _ rfl _ rfl (by simp) (Flt.one _) (by simp [maxLen]; omega) (by simp; omega) hbr3.size ?_)
            intro v4 w4 hown4 hg4 _
            have hb14 : Below w1.heap.size w1 w4 := (hbr3.alloc hbr3.size _).grown hg4 (by have := hbr3.size; simp; omega) (fun g hg => (hout3.lt hg).1)
            clear hg4
            go_wp2
            go_roundw
            case rel => exact ⟨k + 1, by omega, by go_num, by rw [HTS.out, HQ.out]; simpa using hown4, hb14⟩
            case measure => simp [intOf]; omega
        · obtain ⟨so, hso⟩ := srcO_get hsr
          rw [hsr] at HJ
          have HSR := Lib.hid hsr
          clear hsr
          simp only [hso] at HJ
          simp only [idxN]
          obtain ⟨s0, s1, s2, s3, s4, s5, s6, s7⟩ := OpS.cells (HOPS.out.below' hb23 (Nat.le_refl _)) hso
          have hil : i < os.length := (List.getElem?_eq_some_iff.1 hso).1
          have hil' : (i : Int) < (os.length : Int) := by omega
          have hi0 : decide ((i : Int) < 0) = false := by simp
          have hi1 : decide ((i : Int) ≥ 0) = true := by simp
          have HSRC : SrcT os (i : Int) (fun x => precB so x || decide (so.era < x.era)) := .inr ⟨i, so, rfl, hso, rfl⟩
          have HSRC' := Lib.hid HSRC
          clear hso HSRC
          by_cases hcd : odo < so.call
          · have hcd' : decide (so.call > odo) = true := by simpa using hcd
            have HQ : Hid (rfltOf os ⟨oid, oreg, oval, owr, oba, oera, oca, odo⟩ = some ⟨2, oid, so.id⟩) := by unfold Hid; rw [HJ1.out, HJ.out, if_pos hcd]
            clear HJ HJ1 hcd hxo3
            go_wp2_with fail
            go_quiet (fail)
            go_wp2_with fail
            go_region_law (refine step_ap1 (by rfl) (.tmp 60) (.tmp 69) _ (by rfl) elemRFlt (by rfl) (hout3.drewN (nq + 1)) (Flt.cells ⟨2, oid, so.id⟩) _ (by rfl) w3.heap.size (by rfl) (by rfl) (Flt.one _) (by simp [maxLen]; omega) (by simp; omega) hbr3.size ?_; intro v4 w4 hown4 hg4 _)
            all_goals
              have hb14 : Below w1.heap.size w1 w4 := ((below_drewN hbr3 (nq + 1)).alloc hbr3.size _).grown hg4 (by have := hbr3.size; simp; omega) (fun g hg => (hout3.lt hg).1)
              clear hg4
              go_wp2
              go_roundw
              case rel => exact ⟨k + 1, by omega, by go_num, by rw [HTS.out, HQ.out]; simpa using hown4, hb14⟩
              case measure => simp [intOf]; omega
          · have hcd' : decide (so.call > odo) = false := by simpa using hcd
            have HJ2 : Hid (rfltOf os ⟨oid, oreg, oval, owr, oba, oera, oca, odo⟩ = staleF os ⟨oid, oreg, oval, owr, oba, oera, oca, odo⟩ (i : Int) (fun x => precB so x || decide (so.era < x.era))) := by unfold Hid; rw [HJ1.out, HJ.out, if_neg hcd]
            clear HJ HJ1 hcd
            go_wp2_with fail
            go_quiet (fail)
            have HST2 := Lib.hid (HST.out _ _ HSRC'.out (w3.drewN nq) (below_drewN hb23 _))
            have hxl3 := heapLt hxo3
            go_wp2_with fail
            clear q0 q1 q2 q3 q4 q5 q6 q7 s0 s1 s2 s3 s4 s5 s6 s7
            refine HST2.out.mono ?_
            rintro r w4 ⟨rfl, hb4⟩
            have hb24 := (below_drewN hb23 nq).trans (hb4.mono hb23.size)
            have hbr := hb.trans (hb24.mono hz)
            have hout4 := (hout3.drewN nq).below hb4
            have hxo4 := heapBelow (show (w3.drewN nq).heap[_]? = some _ from hxo3) hb4
            clear hb4 hxo3 hxl3
            rcases hzf : zfind (staB os ⟨oid, oreg, oval, owr, oba, oera, oca, odo⟩ (i : Int) (fun x => precB so x || decide (so.era < x.era))) os with _ | k2
            · have HQ : Hid (rfltOf os ⟨oid, oreg, oval, owr, oba, oera, oca, odo⟩ = none) := by unfold Hid; rw [HJ2.out]; unfold staleF; rw [hzf]; rfl
              clear hzf
              simp only [idxN]
              go_wp2
              go_roundw
              case rel => exact ⟨k + 1, by omega, by go_num, by rw [HTS.out, HQ.out]; simpa using hout4, hbr⟩
              case measure => simp [intOf]; omega
            · obtain ⟨zo, hzo⟩ := zfind_get hzf
              have HQ : Hid (rfltOf os ⟨oid, oreg, oval, owr, oba, oera, oca, odo⟩ = some ⟨3, oid, zo.id⟩) := by unfold Hid; rw [HJ2.out]; unfold staleF; rw [hzf]; simp [hzo]
              clear hzf
              obtain ⟨e0, -⟩ := OpS.cells (HOPS.out.below' hb24 (Nat.le_refl _)) hzo
              obtain ⟨f0, -⟩ := boxR (o := ⟨oid, oreg, oval, owr, oba, oera, oca, odo⟩) hxo4
              have hxl4 := heapLt hxo4
              have hk2 : k2 < os.length := (List.getElem?_eq_some_iff.1 hzo).1
              have hk2' : (k2 : Int) < (os.length : Int) := by omega
              have hge : decide ((k2 : Int) ≥ 0) = true := by simp
              simp only at e0 f0
              clear hzo hxo4
              simp only [idxN]
              go_wp2_with fail
              go_region_law (refine step_ap1 (by rfl) (.tmp 77) (.tmp 86) _ (by rfl) elemRFlt (by rfl) (hout4.drewN 1) (Flt.cells ⟨3, oid, zo.id⟩) _ (by rfl) w4.heap.size (by rfl) (by rfl) (Flt.one _) (by simp [maxLen]; omega) (by simp; omega) hbr.size ?_; intro v4 w5 hown5 hg5 _)
              all_goals
                have hb15 : Below w1.heap.size w1 w5 := ((below_drewN hbr 1).alloc hbr.size _).grown hg5 (by have := hbr.size; simp; omega) (fun g hg => (hout4.lt hg).1)
                clear hg5
                go_wp2
                go_roundw
                case rel => exact ⟨k + 1, by omega, by go_num, by rw [HTS.out, HQ.out]; simpa using hown5, hb15⟩
                case measure => simp [intOf]; omega
    · obtain rfl : k = os.length := by omega
      rw [List.take_length] at hout
      go_wp2
      go_ret2
      exact ⟨_, rfl, hout.mono hz1, hb1.trans (hb.mono hz1)⟩

theorem rcheck_any (l : List Ev) (A : Option Addr) (c B : Nat) (w : World) (h : EvS w B A l) (hB : B ≤ w.heap.size) (hlen : l.length ≤ 1000000) :
    Calls Try.prog 17 #[.slice A l.length c] w (RChkPost l w) := by
  unfold RChkPost rcheckD
  rcases hv : rtraceD l with _ | _
  · exact rcheck_not l A c B w h hB hlen hv
  · exact rcheck_some l A c B w h hB hlen hv
end Go.Proofs.Ytldjodgpbnkleaa
