/- Walk of tegularef47's Traceable. -/
import Derived.Test.YtcgbnlhloopnfaaRefH
import Derived.Test.YtcgbnlhloopnfaaGRef
import Derived.Test.YtcgbnlhloopnfaaGPln
namespace Go.Proofs.Ytcgbnlhloopnfaa
open Go.RowKit

theorem OwS.ops {w : World} {base n c : Nat} {e : TypeId} {A : Option Addr} {l : List Opr} (h : OwS w base e 8 (.slice A n c) (l.map Opr.cells)) : OpS w w.heap.size A l := h.reads
theorem rawOps_len (l : List Ev) : (rawOps l).length ≤ l.length := (rawTo_bd l l.length).1

/-- a write that makes a history not traceable -/
def badT (os : List Opr) (o : Opr) (k : Nat) : Bool := o.write && (o.val == 0 || (os.take k).any (isSrc o.reg o.val))
def badA (os : List Opr) : Bool := os.zipIdx.any fun q => badT os q.1 q.2
def rtraceD (l : List Ev) : Bool := validL l && !badA (rawOps l)
theorem badA_stop {os : List Opr} {k : Nat} {o : Opr} (hx : os[k]? = some o) (hp : badT os o k = true) : badA os = true := zany_stop (p := badT os) hx hp
theorem badA_none {os : List Opr} (hno : ∀ j y, j < os.length → os[j]? = some y → badT os y j = false) : badA os = false := zany_none (p := badT os) hno
theorem takeany_none {os : List Opr} {p : Opr → Bool} {k : Nat} (hno : ∀ j o, j < k → os[j]? = some o → p o = false) : (os.take k).any p = false := by
  refine any_none fun j y hj hy => ?_
  have hjk : j < k := by simp at hj; omega
  rw [List.getElem?_take, if_pos hjk] at hy
  exact hno j y hjk hy
theorem takeany_stop {os : List Opr} {p : Opr → Bool} {k j : Nat} {o : Opr} (ho : os[j]? = some o) (hj : j < k) (hp : p o = true) : (os.take k).any p = true :=
  any_stop (k := j) (x := o) (by rw [List.getElem?_take, if_pos hj]; exact ho) hp

set_option maxHeartbeats 1000000 in
set_option maxRecDepth 100000 in
theorem rtrace_not (l : List Ev) (A : Option Addr) (c B : Nat) (w : World) (h : EvS w B A l) (hB : B ≤ w.heap.size) (hlen : l.length ≤ 1000000) (hv : validL l = false) :
    Calls Try.prog 23 #[.slice A l.length c] w fun e w' => e = .returned (.bool false) ∧ Below w.heap.size w w' := by
  have HC := Lib.hid (refops_not l A c B w h hB hlen hv)
  clear hv
  go_enter Try.func23, Try.ntmps23
  go_wp2_with fail
  refine HC.out.mono ?_
  rintro r w1 ⟨rfl, hb1⟩
  go_wp2
  refine wp_loop_rounds 1 ?_
  rw [rounds_succ]
  go_wp2
  go_ret
  exact ⟨rfl, hb1⟩

set_option maxHeartbeats 4000000 in
set_option maxRecDepth 100000 in
theorem rtrace_valid (l : List Ev) (A : Option Addr) (c B : Nat) (w : World) (h : EvS w B A l) (hB : B ≤ w.heap.size) (hlen : l.length ≤ 1000000) (hv : validL l = true) :
    Calls Try.prog 23 #[.slice A l.length c] w fun e w' => e = .returned (.bool (!badA (rawOps l))) ∧ Below w.heap.size w w' := by
  have HC := Lib.hid (refops_valid l A c B w h hB hlen hv)
  have hol := rawOps_len l
  clear hv h
  generalize rawOps l = os at *
  go_enter Try.func23, Try.ntmps23
  go_wp2_with fail
  refine HC.out.mono ?_
  rintro r w1 ⟨v, rfl, hown, hb1⟩
  clear HC
  obtain ⟨Av, cv, rfl, hlc, hcm⟩ := hown.form
  rw [List.length_map] at hlc ⊢
  have hops := hown.ops
  have hz1 := hb1.size
  clear hown
  go_wp2
  go_loopw [5] (fun i wr => ∃ k : Nat, k ≤ os.length ∧ i = .int .i64 k ∧ (∀ j o, j < k → os[j]? = some o → badT os o j = false) ∧ Below w1.heap.size w1 wr) (fun i _ => os.length - (intOf i).toNat)
  case atStart => exact ⟨0, by omega, rfl, fun j _ hj => absurd hj (by omega), Below.refl _ _⟩
  case round =>
    obtain ⟨k, hk, rfl, hno, hb⟩ := hrel
    have HN := Lib.hid hno
    clear hno
    have hz := hb.size
    have hbw : Below w.heap.size w wr := hb1.trans (hb.mono hz1)
    by_cases hlt : k < os.length
    · have hops' := hops.below hb
      obtain ⟨b, off, o, rfl, hbB, ho, c0, c1, c2, c3, c4, c5, c6, c7⟩ := OpS.at_ hops' hlt
      have hkl : (k : Int) < (os.length : Int) := by omega
      have HO := Lib.hid ho
      have HV : Hid (badT os o k = (o.write && (o.val == 0 || (os.take k).any (isSrc o.reg o.val)))) := rfl
      have HOPS := Lib.hid hops'
      clear ho hops'
      obtain ⟨oid, oreg, oval, owr, oba, oera, oca, odo⟩ := o
      simp only at c0 c1 c2 c3 c4 c5 c6 c7 HV
      cases owr
      case false =>
        have HQ : Hid (badT os ⟨oid, oreg, oval, false, oba, oera, oca, odo⟩ k = false) := HV.out
        go_wp2
        go_roundw
        case rel => exact ⟨k + 1, by omega, by go_num, zno_succ HO.out HQ.out HN.out, hb⟩
        case measure => simp [intOf]; omega
      by_cases hv0 : oval = 0
      · have HQ : Hid (badT os ⟨oid, oreg, oval, true, oba, oera, oca, odo⟩ k = true) := by unfold Hid; rw [HV.out]; simp [hv0]
        have hv0' : (oval == 0) = true := by simp [hv0]
        clear hv0
        go_wp2
        go_ret
        exact ⟨ret_bool (by rw [badA_stop HO.out HQ.out]; rfl), hbw⟩
      have hv0' : (oval == 0) = false := by simp [hv0]
      have HV2 : Hid (badT os ⟨oid, oreg, oval, true, oba, oera, oca, odo⟩ k = (os.take k).any (isSrc oreg oval)) := by unfold Hid; rw [HV.out, hv0']; rfl
      clear hv0 HV
      go_wp2
      clear c0 c1 c2 c3 c4 c5 c6 c7
      obtain ⟨wo, rfl⟩ : ∃ wo : World, wo = wr := ⟨_, rfl⟩
      go_loopw [6] (fun i wr => ∃ j : Nat, j ≤ k ∧ i = .int .i64 j ∧ (∀ m o, m < j → os[m]? = some o → isSrc oreg oval o = false) ∧ Below wo.heap.size wo wr) (fun i _ => k - (intOf i).toNat)
      case atStart => exact ⟨0, by omega, rfl, fun m _ hm => absurd hm (by omega), Below.refl _ _⟩
      case round =>
        obtain ⟨j, hj, rfl, hnj, hbj⟩ := hrel
        have HNJ := Lib.hid hnj
        clear hnj
        have hzj := hbj.size
        have hbr : Below w1.heap.size w1 wr := hb.trans (hbj.mono hz)
        by_cases hjk : j < k
        · have hopj := HOPS.out.below' hbj hz
          obtain ⟨b', off', o2, hA, hbB2, ho2, d0, d1, d2, d3, d4, d5, d6, d7⟩ := OpS.at_ hopj (show j < os.length by omega)
          cases hA
          obtain ⟨c0, c1, c2, c3, c4, c5, c6, c7⟩ := OpS.cells hopj HO.out
          have HO2 := Lib.hid ho2
          have hjl' : (j : Int) < (os.length : Int) := by omega
          have hjk' : (j : Int) < (k : Int) := by omega
          clear ho2 hopj
          obtain ⟨pid, preg, pval, pwr, pba, pera, pca, pdo⟩ := o2
          simp only at d0 d1 d2 d3 d4 d5 d6 d7 c0 c1 c2 c3 c4 c5 c6 c7
          have HJV : Hid (isSrc oreg oval ⟨pid, preg, pval, pwr, pba, pera, pca, pdo⟩ = (pwr && preg == oreg && pval == oval)) := rfl
          cases pwr
          · have HP : Hid (isSrc oreg oval ⟨pid, preg, pval, false, pba, pera, pca, pdo⟩ = false) := HJV.out
            go_wp2_with fail
            go_quiet (fail)
            go_wp2
            go_roundw
            case rel => exact ⟨j + 1, by omega, by go_num, no_succ HO2.out HP.out HNJ.out, below_drewN hbj _⟩
            case measure => simp [intOf]; omega
          · by_cases hreg : preg = oreg
            · subst hreg
              by_cases hval : pval = oval
              · subst hval
                have HP : Hid (isSrc preg pval ⟨pid, preg, pval, true, pba, pera, pca, pdo⟩ = true) := by unfold Hid; rw [HJV.out]; simp
                have HQ : Hid (badT os ⟨oid, preg, pval, true, oba, oera, oca, odo⟩ k = true) := by unfold Hid; rw [HV2.out]; exact takeany_stop HO2.out hjk HP.out
                go_wp2_with fail
                go_quiet (fail)
                go_wp2
                go_ret
                exact ⟨ret_bool (by rw [badA_stop HO.out HQ.out]; rfl), below_drewN (hb1.trans (hbr.mono hz1)) _⟩
              · have hval' : (pval == oval) = false := by simp [hval]
                have HP : Hid (isSrc preg oval ⟨pid, preg, pval, true, pba, pera, pca, pdo⟩ = false) := by unfold Hid; rw [HJV.out, hval']; simp
                clear hval
                go_wp2_with fail
                go_quiet (fail)
                go_wp2
                go_roundw
                case rel => exact ⟨j + 1, by omega, by go_num, no_succ HO2.out HP.out HNJ.out, below_drewN hbj _⟩
                case measure => simp [intOf]; omega
            · have hreg' : (preg == oreg) = false := by simp [hreg]
              have HP : Hid (isSrc oreg oval ⟨pid, preg, pval, true, pba, pera, pca, pdo⟩ = false) := by unfold Hid; rw [HJV.out, hreg']; simp
              clear hreg
              go_wp2_with fail
              go_quiet (fail)
              go_wp2
              go_roundw
              case rel => exact ⟨j + 1, by omega, by go_num, no_succ HO2.out HP.out HNJ.out, below_drewN hbj _⟩
              case measure => simp [intOf]; omega
        · obtain rfl : j = k := by omega
          have HQ : Hid (badT os ⟨oid, oreg, oval, true, oba, oera, oca, odo⟩ j = false) := by unfold Hid; rw [HV2.out]; exact takeany_none HNJ.out
          go_wp2
          go_roundw
          case rel => exact ⟨j + 1, by omega, by go_num, zno_succ HO.out HQ.out HN.out, hbr⟩
          case measure => simp [intOf]; omega
    · obtain rfl : k = os.length := by omega
      go_wp2
      go_ret
      exact ⟨ret_bool (by rw [badA_none HN.out]; rfl), hbw⟩

theorem rtrace_any (l : List Ev) (A : Option Addr) (c B : Nat) (w : World) (h : EvS w B A l) (hB : B ≤ w.heap.size) (hlen : l.length ≤ 1000000) :
    Calls Try.prog 23 #[.slice A l.length c] w fun e w' => e = .returned (.bool (rtraceD l)) ∧ Below w.heap.size w w' := by
  unfold rtraceD
  rcases hv : validL l with _ | _
  · exact rtrace_not l A c B w h hB hlen hv
  · exact rtrace_valid l A c B w h hB hlen hv
end Go.Proofs.Ytcgbnlhloopnfaa
