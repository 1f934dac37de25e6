/- Walk of tegularef47's Survivors; it answers what durable's Survivors answers. -/
import Derived.Test.YtldjodgpbnkleaaRefLaw
namespace Go.Proofs.Ytldjodgpbnkleaa
open Go.RowKit

def rsurB (os : List Opr) (cu : Int) (o : Opr) (k : Nat) : Bool := o.write && decide (o.era < cu) && survR os k o
def rsurTo (os : List Opr) (cu : Int) (k : Nat) : List Int := (((os.take k).zipIdx).filter fun q => rsurB os cu q.1 q.2).map fun q => q.1.id
theorem rsurTo_succ {os : List Opr} {cu : Int} {k : Nat} {o : Opr} (h : os[k]? = some o) : rsurTo os cu (k + 1) = rsurTo os cu k ++ (if rsurB os cu o k then [o.id] else []) := by
  unfold rsurTo
  have hk : k < os.length := (List.getElem?_eq_some_iff.1 h).1
  have ht : os.take (k + 1) = os.take k ++ [o] := by rw [List.take_add_one, h]; rfl
  rw [ht, List.zipIdx_append, List.filter_append, List.map_append]
  congr 1
  simp only [List.zipIdx_cons, List.zipIdx_nil, List.length_take, Nat.zero_add, Nat.min_eq_left (Nat.le_of_lt hk)]
  cases hq : rsurB os cu o k <;> simp [hq]
theorem rsurTo_len (os : List Opr) (cu : Int) (k : Nat) : (rsurTo os cu k).length ≤ k := by
  unfold rsurTo
  rw [List.length_map]
  exact Nat.le_trans (List.length_filter_le _ _) (by rw [List.length_zipIdx]; exact List.length_take_le _ _)
def rsurD (l : List Ev) : Option (List Int) := if rtraceD l then some (rsurTo (rawOps l) (cutsN l l.length) (rawOps l).length) else none
def RSurPost (l : List Ev) (w : World) (e : Ending) (w' : World) : Prop := match rsurD l with
  | none => RNone w e w'
  | some xs => SurSome w xs e w'

set_option maxHeartbeats 1000000 in
set_option maxRecDepth 100000 in
theorem rsurv_not (l : List Ev) (A : Option Addr) (c B : Nat) (w : World) (h : EvS w B A l) (hB : B ≤ w.heap.size) (hlen : l.length ≤ 1000000) (hv : rtraceD l = false) :
    Calls Try.prog 24 #[.slice A l.length c] w (RNone w) := by
  have HC := Lib.hid (rtrace_any l A c B w h hB hlen)
  rw [hv] at HC
  clear hv
  go_enter Try.func24, Try.ntmps24
  go_wp2_with fail
  refine HC.out.mono ?_
  rintro r w1 ⟨rfl, hb1⟩
  go_wp2
  go_ret2
  exact ⟨rfl, hb1⟩

set_option maxHeartbeats 4000000 in
set_option maxRecDepth 100000 in
theorem rsurv_some (l : List Ev) (A : Option Addr) (c B : Nat) (w : World) (h : EvS w B A l) (hB : B ≤ w.heap.size) (hlen : l.length ≤ 1000000) (hv : rtraceD l = true) :
    Calls Try.prog 24 #[.slice A l.length c] w (SurSome w (rsurTo (rawOps l) (cutsN l l.length) (rawOps l).length)) := by
  have HC := Lib.hid (rtrace_any l A c B w h hB hlen)
  rw [hv] at HC
  have hvl : validL l = true := by unfold rtraceD at hv; simp only [Bool.and_eq_true] at hv; exact hv.1
  have HCO := Lib.hid (fun w1 (hb : Below w.heap.size w w1) => refops_valid l A c B w1 (h.below' hb hB) (by have := hb.size; omega) hlen hvl)
  have hol := rawOps_len l
  clear hv hvl
  generalize rawOps l = os at *
  go_enter Try.func24, Try.ntmps24
  go_wp2_with fail
  refine HC.out.mono ?_
  rintro r w1 ⟨rfl, hb1⟩
  have hz1 := hb1.size
  clear HC
  go_wp2
  go_loopw [4, 5] (fun n i wr => ∃ k : Nat, k ≤ l.length ∧ i = .int .i64 k ∧ n = .int .i64 (cutsN l k) ∧ Below w1.heap.size w1 wr) (fun _ i _ => l.length - (intOf i).toNat)
  case atStart => exact ⟨0, by omega, rfl, rfl, Below.refl _ _⟩
  case round =>
    obtain ⟨k, hk, rfl, rfl, hb⟩ := hrel
    have hz := hb.size
    have hbd := cutsN_bd l k
    have hbw : Below w.heap.size w wr := hb1.trans (hb.mono hz1)
    by_cases hlt : k < l.length
    · obtain ⟨b', off', e, rfl, hbB, he, c0, c1, c2', c3, c4, c5⟩ := EvS.at_ (h.below' hbw hB) (k := k) hlt
      have HCS := Lib.hid (cutsN_succ he)
      clear he
      have hbl : b' < wr.heap.size := by omega
      by_cases h3 : e.kind = 3
      · rw [if_pos h3] at HCS
        have h3' : (e.kind == 3) = true := by simp [h3]
        clear h3
        go_wp2
        go_roundw
        case rel => exact ⟨k + 1, by omega, by go_num, by rw [HCS.out], hb⟩
        case measure => simp [intOf]; omega
      · rw [if_neg h3] at HCS
        have h3' : (e.kind == 3) = false := by simp [h3]
        clear h3
        go_wp2
        go_roundw
        case rel => exact ⟨k + 1, by omega, by go_num, by rw [HCS.out]; simp, hb⟩
        case measure => simp [intOf]; omega
    · obtain rfl : k = l.length := by omega
      generalize cutsN l l.length = cu at *
      obtain ⟨wc, rfl⟩ : ∃ wc : World, wc = wr := ⟨_, rfl⟩
      have hzc := hbw.size
      go_wp2_with fail
      refine (HCO.out _ hbw).mono ?_
      rintro r wo ⟨v, rfl, hown, hbo'⟩
      have hbo := hbw.trans (hbo'.mono hzc)
      clear hbo' HCO
      obtain ⟨Av, cv, rfl, hlc, hcm⟩ := hown.form
      rw [List.length_map] at hlc ⊢
      have hops := hown.ops
      have hzo := hbo.size
      clear hown
      go_wp2
      go_loopw [8, 9] (fun v i wr => ∃ k : Nat, k ≤ os.length ∧ i = .int .i64 k ∧ OwS wr wo.heap.size 3 1 v ((rsurTo os cu k).map icell) ∧ Below wo.heap.size wo wr) (fun _ i _ => os.length - (intOf i).toNat)
      case atStart => exact ⟨0, by omega, rfl, OwS.nil _ _ _ _, Below.refl _ _⟩
      case round =>
        obtain ⟨k, hk, rfl, hout, hbr⟩ := hrel
        have hzr := hbr.size
        by_cases hlt : k < os.length
        · have hops' := hops.below hbr
          obtain ⟨b, off, o, rfl, hbB, ho, c0, c1, c2', c3, c4, c5, c6, c7⟩ := OpS.at_ hops' hlt
          have hkl : (k : Int) < (os.length : Int) := by omega
          have hbl : b < wr.heap.size := by omega
          have HTS := Lib.hid (rsurTo_succ (cu := cu) ho)
          have hfl := rsurTo_len os cu k
          have HS := Lib.hid (survives_any os (some ⟨b, off, none⟩) cv wo.heap.size k o wr hops' hzr (by omega) ho)
          have HOPS := Lib.hid hops'
          have HO := Lib.hid ho
          have HV : Hid (rsurB os cu o k = (o.write && decide (o.era < cu) && survR os k o)) := rfl
          clear ho hops'
          obtain ⟨oid, oreg, oval, owr, oba, oera, oca, odo⟩ := o
          simp only at c0 c1 c2' c3 c4 c5 c6 c7 HV HTS
          generalize survR os k ⟨oid, oreg, oval, owr, oba, oera, oca, odo⟩ = sv at *
          cases owr
          · have HQ : Hid (rsurB os cu ⟨oid, oreg, oval, false, oba, oera, oca, odo⟩ k = false) := HV.out
            go_wp2_with fail
            go_roundw
            case rel => exact ⟨k + 1, by omega, by go_num, by rw [HTS.out, HQ.out]; simpa using hout, hbr⟩
            case measure => simp [intOf]; omega
          · by_cases hera : oera < cu
            · have hera' : decide (oera < cu) = true := by simpa using hera
              have HQ : Hid (rsurB os cu ⟨oid, oreg, oval, true, oba, oera, oca, odo⟩ k = sv) := by unfold Hid; rw [HV.out, hera']; rfl
              go_wp2_with fail
              refine HS.out.mono ?_
              rintro r w4 ⟨rfl, hb4⟩
              have hbr4 := hbr.trans (hb4.mono hzr)
              have hout4 := hout.below hb4
              have hz4 := hbr4.size
              have d0 := (OpS.cells (HOPS.out.below' hb4 hzr) HO.out).1
              simp only at d0
              have hbl4 : b < w4.heap.size := by omega
              clear c0 c1 c2' c3 c4 c5 c6 c7
              cases sv
              · go_wp2
                go_roundw
                case rel => exact ⟨k + 1, by omega, by go_num, by rw [HTS.out, HQ.out]; simpa using hout4, hbr4⟩
                case measure => simp [intOf]; omega
              · go_wp2_with (at_builtin; refine wpList_ap1 rfl (.tmp 57) (.tmp 63) _ rfl elemInt rfl hout4 (icell oid) _ rfl _ rfl (by simp) (by intro u hu; simp [icell] at hu; subst hu; rfl) (by simp [maxLen]; omega) (by simp; omega) hz4 ?_)
                intro v5 w5 hown5 hg5 _
                have hb5 : Below wo.heap.size wo w5 := (hbr4.alloc hz4 _).grown hg5 (by simp; omega) (fun g hg => (hout4.lt hg).1)
                clear hg5
                go_wp2
                go_roundw
                case rel => exact ⟨k + 1, by omega, by go_num, by rw [HTS.out, HQ.out]; simpa using hown5, hb5⟩
                case measure => simp [intOf]; omega
            · have hera' : decide (oera < cu) = false := by simpa using hera
              have HQ : Hid (rsurB os cu ⟨oid, oreg, oval, true, oba, oera, oca, odo⟩ k = false) := by unfold Hid; rw [HV.out, hera']; rfl
              go_wp2_with fail
              go_roundw
              case rel => exact ⟨k + 1, by omega, by go_num, by rw [HTS.out, HQ.out]; simpa using hout, hbr⟩
              case measure => simp [intOf]; omega
        · obtain rfl : k = os.length := by omega
          go_wp2
          go_ret2
          exact ⟨_, rfl, hout.mono hzo, hbo.trans (hbr.mono hzo)⟩

theorem rsurvivors_any (l : List Ev) (A : Option Addr) (c B : Nat) (w : World) (h : EvS w B A l) (hB : B ≤ w.heap.size) (hlen : l.length ≤ 1000000) :
    Calls Try.prog 24 #[.slice A l.length c] w (RSurPost l w) := by
  unfold RSurPost rsurD
  rcases hv : rtraceD l with _ | _
  · exact rsurv_not l A c B w h hB hlen hv
  · exact rsurv_some l A c B w h hB hlen hv

theorem rsurTo_all {os : List Opr} (h : ROk os) (cu : Int) (k : Nat) (hk : k ≤ os.length) : rsurTo os cu k = ((os.take k).filter (survB os cu)).map (·.id) := by
  induction k with
  | zero => simp [rsurTo]
  | succ k ih =>
    obtain ⟨o, ho⟩ : ∃ o, os[k]? = some o := ⟨os[k], List.getElem?_eq_getElem (by omega)⟩
    have ht : os.take (k + 1) = os.take k ++ [o] := by rw [List.take_add_one, ho]; rfl
    rw [rsurTo_succ ho, ih (by omega), ht, List.filter_append, List.map_append]
    congr 1
    have : survB os cu o = rsurB os cu o k := by unfold survB rsurB; rw [h.cert_eq ho]
    rw [← this]
    cases hq : survB os cu o <;> simp [hq]
theorem surv_eq (l : List Ev) : rsurD l = survD l := by
  unfold rsurD survD
  rw [parse_eq]
  unfold rtraceD
  cases hv : validL l
  · rfl
  · simp only [Bool.true_and, if_true]
    rw [(raw_ok hv).trac_eq, rsurTo_all (raw_ok hv) _ _ (Nat.le_refl _), List.take_length]
    rfl
end Go.Proofs.Ytldjodgpbnkleaa
