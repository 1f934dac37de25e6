/- Walk of tegulalaw47's DurableLinear: it answers true for every list. -/
import Derived.Test.YtcgbnlhloopnfaaDrLin
import Derived.Test.YtcgbnlhloopnfaaFndX
import Derived.Test.YtcgbnlhloopnfaaMostA
import Derived.Test.YtcgbnlhloopnfaaDurI
import Derived.Test.YtcgbnlhloopnfaaRefLaw
import Derived.Test.YtcgbnlhloopnfaaRefI
import Derived.Test.YtcgbnlhloopnfaaLawB
namespace Go.Proofs.Ytcgbnlhloopnfaa
open Go.RowKit

theorem raw_aft (l : List Ev) : ∀ k, ∀ o ∈ (rawTo l k).1, o.call < k ∧ (0 ≤ o.done → o.call ≤ o.done) := by
  intro k
  induction k with
  | zero => intro o ho; cases ho
  | succ k ih =>
    intro o ho
    rw [rawTo] at ho
    rcases he : l[k]? with _ | e
    · rw [he] at ho
      have := ih o ho
      exact ⟨by omega, this.2⟩
    · rw [he] at ho
      simp only [rawStep] at ho
      split at ho
      · have := ih o ho
        exact ⟨by omega, this.2⟩
      · split at ho
        · rcases List.mem_append.1 ho with ho | ho
          · have := ih o ho
            exact ⟨by omega, this.2⟩
          · simp only [List.mem_singleton] at ho
            subst ho
            exact ⟨by simp [Opr.of]; omega, by simp [Opr.of]⟩
        · obtain ⟨o', ho', rfl⟩ := List.mem_map.1 ho
          have := ih o' ho'
          unfold Opr.fin
          split
          · exact ⟨by simp only; omega, fun _ => by simp only; omega⟩
          · exact ⟨by omega, this.2⟩
theorem one_val {l : List Ev} (h : oneL l = true) : validL l = true := by
  unfold oneL at h
  rw [Bool.and_eq_true] at h
  exact h.1
theorem one_reg {l : List Ev} (h : oneL l = true) : ∃ r0, ∀ o ∈ rawOps l, effB o = true → o.reg = r0 := by
  have hv := one_val h
  unfold oneL at h
  rw [Bool.and_eq_true] at h
  have h2 : (insAll (regsO (opsOr l))).length ≤ 1 := by simpa using h.2
  have ho : opsOr l = rawOps l := by unfold opsOr; rw [hv]; rfl
  rw [ho] at h2
  have h4 : ∀ x, x ∈ insAll (regsO (rawOps l)) ↔ x ∈ ([] : List Int) ∨ x ∈ regsO (rawOps l) := (insAll_gen (regsO (rawOps l)) [] List.Pairwise.nil).2
  rcases hq : insAll (regsO (rawOps l)) with _ | ⟨a, r⟩
  · refine ⟨0, fun o ho he => ?_⟩
    have := (h4 o.reg).2 (.inr (List.mem_map.2 ⟨o, List.mem_filter.2 ⟨ho, he⟩, rfl⟩))
    rw [hq] at this
    cases this
  · rw [hq] at h2 h4
    obtain rfl : r = [] := by simpa using h2
    refine ⟨a, fun o ho he => ?_⟩
    have := (h4 o.reg).2 (.inr (List.mem_map.2 ⟨o, List.mem_filter.2 ⟨ho, he⟩, rfl⟩))
    simpa using this
/-- the plain law, at a list of events -/
theorem drl_law {l : List Ev} (h1 : oneL l = true) (h2 : traceD l = true) (h3 : ExpO (rawOps l) (cutsL l) 0 0) : checkD l = some [] := by
  have hv := one_val h1
  obtain ⟨r0, hr⟩ := one_reg h1
  have hinv := (hist_to l l.length (Nat.le_refl _)).2 hv
  have hp : parseL l = some (rawOps l) := by
    unfold parseL rawOps
    rw [(hist_to l l.length (Nat.le_refl _)).1, show validTo l l.length = true from hv]
    rfl
  unfold traceD at h2
  rw [hp] at h2
  unfold checkD
  rw [hp]
  have ht : tracO (rawOps l) = true := h2
  have := drlin (r0 := r0) (nd_ids hv) (fun o ho => (raw_aft l l.length o ho).2) (fun a ha b hb hlt => by
    obtain ⟨-, -, -, i, hi1, hi2, hi3⟩ := hinv.op a.id a (findO_of (nd_ids hv) ha)
    obtain ⟨-, -, -, j, hj1, hj2, hj3⟩ := hinv.op b.id b (findO_of (nd_ids hv) hb)
    rw [hi3, hj3]
    unfold cutsN
    have hsub : (l.take i).Sublist (l.take j) := by
      have : l.take i = (l.take j).take i := by rw [List.take_take, Nat.min_eq_left (by omega)]
      rw [this]
      exact List.take_sublist _ _
    have := hsub.countP_le (p := fun e => e.kind == 3)
    omega) (era_bd hv) hr ht h3
  simp only [ht, if_true, this]
set_option maxHeartbeats 8000000 in
set_option maxRecDepth 100000 in
theorem durablelinear_any (l : List Ev) (A : Option Addr) (c : Nat) (w : World) (h : EvS w w.heap.size A l) (hwf : WfE l) :
    Calls Try.prog 6 #[.slice A l.length c] w fun e w' => e = .returned (.bool true) ∧ Below w.heap.size w w' := by
  have HA := Lib.hid (awake_any w)
  have HE := Lib.hid h
  clear h
  by_cases hlen : l.length ≤ 50
  case neg =>
    have hlen' : (l.length : Int) > 50 := by omega
    go_enter Try.func6, Try.ntmps6
    go_wp2_with fail
    refine HA.out.mono ?_
    rintro r w1 ⟨rfl, hb1⟩
    go_wp2
    go_ret
    exact ⟨rfl, hb1⟩
  case pos =>
    have hlen' : ¬ (l.length : Int) > 50 := by omega
    have HON := Lib.hid (fun W (hW : Below w.heap.size w W) => one_any l A c w.heap.size W (HE.out.below hW) hW.size (by omega))
    obtain ⟨on, hon⟩ : ∃ on, oneL l = on := ⟨_, rfl⟩
    rw [hon] at HON
    cases on
    case false =>
      clear hon
      go_enter Try.func6, Try.ntmps6
      go_wp2_with fail
      refine HA.out.mono ?_
      rintro r w1 ⟨rfl, hb1⟩
      have HB1 := Lib.hid hb1
      clear hb1
      go_wp2_with fail
      refine (HON.out _ HB1.out).mono ?_
      rintro r w2 ⟨rfl, hb2⟩
      go_wp2
      go_ret
      exact ⟨rfl, HB1.out.trans (hb2.mono HB1.out.size)⟩
    case true =>
      have hv := one_val hon
      have HMO := Lib.hid (fun W (hW : Below w.heap.size w W) => most_any l A c w.heap.size W (HE.out.below hW) hW.size (by omega) hv)
      by_cases hmo : mostL l ≤ 12
      case neg =>
        have hmo' : (mostL l : Int) > 12 := by omega
        clear hon hv
        generalize mostL l = mo at *
        go_enter Try.func6, Try.ntmps6
        go_wp2_with fail
        refine HA.out.mono ?_
        rintro r w1 ⟨rfl, hb1⟩
        have HB1 := Lib.hid hb1
        clear hb1
        go_wp2_with fail
        refine (HON.out _ HB1.out).mono ?_
        rintro r w2 ⟨rfl, hb2⟩
        have HB2 := Lib.hid (HB1.out.trans (hb2.mono HB1.out.size))
        clear hb2
        go_wp2_with fail
        refine (HMO.out _ HB2.out).mono ?_
        rintro r w3 ⟨rfl, hb3⟩
        go_wp2
        go_ret
        exact ⟨rfl, HB2.out.trans (hb3.mono HB2.out.size)⟩
      case pos =>
        have hmo' : ¬ (mostL l : Int) > 12 := by omega
        have HTR := Lib.hid (fun W (hW : Below w.heap.size w W) => rtrace_any l A c w.heap.size W (HE.out.below hW) hW.size (by omega))
        rw [trace_eq] at HTR
        obtain ⟨tr, htr⟩ : ∃ tr, traceD l = tr := ⟨_, rfl⟩
        rw [htr] at HTR
        cases tr
        case false =>
          clear hon hv htr hmo
          generalize mostL l = mo at *
          go_enter Try.func6, Try.ntmps6
          go_wp2_with fail
          refine HA.out.mono ?_
          rintro r w1 ⟨rfl, hb1⟩
          have HB1 := Lib.hid hb1
          clear hb1
          go_wp2_with fail
          refine (HON.out _ HB1.out).mono ?_
          rintro r w2 ⟨rfl, hb2⟩
          have HB2 := Lib.hid (HB1.out.trans (hb2.mono HB1.out.size))
          clear hb2
          go_wp2_with fail
          refine (HMO.out _ HB2.out).mono ?_
          rintro r w3 ⟨rfl, hb3⟩
          have HB3 := Lib.hid (HB2.out.trans (hb3.mono HB2.out.size))
          clear hb3
          go_wp2_with fail
          refine (HTR.out _ HB3.out).mono ?_
          rintro r w4 ⟨rfl, hb4⟩
          go_wp2
          go_ret
          exact ⟨rfl, HB3.out.trans (hb4.mono HB3.out.size)⟩
        case true =>
          have hab := most_big (l := l) (by omega)
          have HFN := Lib.hid (fun W (hW : Below w.heap.size w W) => lfind_any l A c w.heap.size W (HE.out.below hW) hW.size (by omega) (fun e he => (hwf e he).1) (fun e he => (hwf e he).2.1) (fun e he => (hwf e he).2.2))
          have HCK := Lib.hid (fun W (hW : Below w.heap.size w W) => check_any l A c w.heap.size W (HE.out.below hW) hW.size (by omega) hwf)
          unfold FindP FindQ at HFN
          rw [hon, hab] at HFN
          simp only [if_true, Bool.false_eq_true, if_false] at HFN
          unfold ChkPost at HCK
          have HDL := Lib.hid (drl_law hon htr)
          have hcs : ∃ fs, checkD l = some fs := by
            unfold traceD at htr
            unfold checkD
            rcases hp : parseL l with _ | os
            · rw [hp] at htr; cases htr
            · rw [hp] at htr
              have ht : tracO os = true := htr
              exact ⟨checkO os, by simp [ht]⟩
          obtain ⟨fs, hfs⟩ := hcs
          rw [hfs] at HCK HDL
          simp only [ChkSome] at HCK
          clear hon hv htr hmo hab hfs hwf
          generalize mostL l = mo at *
          go_enter Try.func6, Try.ntmps6
          go_wp2_with fail
          refine HA.out.mono ?_
          rintro r w1 ⟨rfl, hb1⟩
          have HB1 := Lib.hid hb1
          clear hb1
          go_wp2_with fail
          refine (HON.out _ HB1.out).mono ?_
          rintro r w2 ⟨rfl, hb2⟩
          have HB2 := Lib.hid (HB1.out.trans (hb2.mono HB1.out.size))
          clear hb2
          go_wp2_with fail
          refine (HMO.out _ HB2.out).mono ?_
          rintro r w3 ⟨rfl, hb3⟩
          have HB3 := Lib.hid (HB2.out.trans (hb3.mono HB2.out.size))
          clear hb3
          go_wp2_with fail
          refine (HTR.out _ HB3.out).mono ?_
          rintro r w4 ⟨rfl, hb4⟩
          have HB4 := Lib.hid (HB3.out.trans (hb4.mono HB3.out.size))
          clear hb4
          go_wp2_with fail
          refine (HFN.out _ HB4.out).mono ?_
          rintro r w5 ⟨hb5, b, ov, wl, rfl, hy, hn⟩
          have HB5 := Lib.hid (HB4.out.trans (hb5.mono HB4.out.size))
          have HY : Hid (b = true → fs = []) := fun hb => by
            obtain ⟨e1, e2, -⟩ := hy hb
            exact Option.some.inj (HDL.out ⟨wl, by omega, e2⟩)
          clear hb5 hy hn HDL
          go_wp2_with fail
          refine (HCK.out _ HB5.out).mono ?_
          rintro r w6 ⟨v6, rfl, hown6, hb6⟩
          obtain ⟨A6, c6, rfl, -, -⟩ := hown6.form
          rw [List.length_map]
          cases b
          · clear hown6
            go_wp2
            go_ret
            exact ⟨rfl, HB5.out.trans (hb6.mono HB5.out.size)⟩
          · have hfs := HY.out rfl
            subst hfs
            clear hown6 HCK HY
            go_wp2
            go_ret
            exact ⟨rfl, HB5.out.trans (hb6.mono HB5.out.size)⟩
end Go.Proofs.Ytcgbnlhloopnfaa
