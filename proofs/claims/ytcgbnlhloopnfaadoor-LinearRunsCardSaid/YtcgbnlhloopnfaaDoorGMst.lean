/- Walk of tegularef46.Most.
Walk of tegulalaw46's LinearPrefixes: it answers true, whatever the list and the number. -/
import Derived.Test.YtcgbnlhloopnfaaDoorEraB
import Derived.Test.YtcgbnlhloopnfaaDoorGFnX
import Derived.Test.YtcgbnlhloopnfaaDoorGLin
import Derived.Test.YtcgbnlhloopnfaaDoorFrcA
namespace Go.Proofs.YtcgbnlhloopnfaaDoor
open Go.RowKit

set_option maxHeartbeats 1000000 in
theorem effect_any (o : Opr) (w : World) : Calls Tryd.prog 27 #[o.agg] w fun r w' => r = .returned (.bool (effB o)) ∧ Below w.heap.size w w' := by
  obtain ⟨a0, a1, a2, a3, a4, a5, a6, a7⟩ := o
  unfold Opr.agg
  cases a3 <;> cases a4
  all_goals
    go_enter Tryd.func27, Tryd.ntmps27
    go_wp2
    go_ret
    exact ⟨ret_bool (by simp [effB]), below_laid⟩

/-- the greatest number of reads and writes among the first n eras -/
def mostN (os : List Opr) : Nat → Nat
  | 0 => 0
  | n + 1 => max (mostN os n) (eraX os n).length
theorem mostN_le {os : List Opr} {n k : Nat} (hk : k < n) : (eraX os k).length ≤ mostN os n := by
  induction n with
  | zero => omega
  | succ n ih =>
    simp only [mostN]
    rcases Nat.lt_or_eq_of_le (Nat.le_of_lt_succ hk) with h | rfl
    · have := ih h; omega
    · omega
theorem mostN_bd (os : List Opr) (n : Nat) : mostN os n ≤ os.length := by
  induction n with
  | zero => exact Nat.zero_le _
  | succ n ih =>
    simp only [mostN]
    have : (eraX os n).length ≤ os.length := Nat.le_trans (List.length_filter_le _ _) (List.length_filter_le _ _)
    omega
def mostL (l : List Ev) : Nat := mostN (rawOps l) (cutsL l + 1)
theorem most_big {l : List Ev} (h : mostL l ≤ 16) : anyBig (rawOps l) (cutsL l) = false := by
  unfold anyBig
  rw [List.any_eq_false]
  intro k hk
  have := mostN_le (os := rawOps l) (n := cutsL l + 1) (k := k) (List.mem_range.1 hk)
  unfold mostL at h
  unfold bigE
  simp
  omega
set_option maxHeartbeats 8000000 in
set_option maxRecDepth 100000 in
theorem most_any (l : List Ev) (A : Option Addr) (c B : Nat) (w : World) (h : EvS w B A l) (hB : B ≤ w.heap.size) (hlen : l.length ≤ 100000) (hv : validL l = true) :
    Calls Tryd.prog 14 #[.slice A l.length c] w fun r w' => r = .returned (.int .i64 (mostL l)) ∧ Below w.heap.size w w' := by
  have HE := Lib.hid (eras_any l A c B w h hB hlen hv)
  unfold ErasP at HE
  have hol : (rawOps l).length ≤ 100000 := Nat.le_trans (rawTo_bd l l.length).1 hlen
  have hcb : cutsL l ≤ 100000 := Nat.le_trans List.countP_le_length hlen
  have HML : Hid (mostL l = mostN (rawOps l) (cutsL l + 1)) := rfl
  clear h hv
  obtain ⟨os, hos⟩ : ∃ os, rawOps l = os := ⟨_, rfl⟩
  rw [hos] at HE hol HML
  have HBN := Lib.hid (mostN_bd os)
  clear hos
  generalize cutsL l = cuts at *
  go_enter Tryd.func14, Tryd.ntmps14
  go_wp2_with fail
  refine HE.out.mono ?_
  rintro r w1 ⟨⟨g, cap, rfl, hm⟩, hb1⟩
  have HM := Lib.hid hm
  have HB1 := Lib.hid hb1
  have hgs := hm.lt.2
  clear hm hb1 HE
  go_wp2
  go_loopw [4, 5] (fun m i wr => ∃ k : Nat, k ≤ cuts + 1 ∧ i = .int .i64 k ∧ m = .int .i64 (mostN os k : Nat) ∧ Below w1.heap.size w1 wr) (fun _ i _ => cuts + 1 - (intOf i).toNat)
  case atStart => exact ⟨0, by omega, rfl, rfl, Below.refl _ _⟩
  case round =>
    obtain ⟨k, hk, rfl, rfl, hb⟩ := hrel
    have hz := hb.size
    have hmb := HBN.out k
    by_cases hlt : k < cuts + 1
    · have hkc : (k : Int) < (cuts : Int) + 1 := by omega
      obtain ⟨Ae, ce, hat⟩ := HM.out.at_ hlt
      have HAT := Lib.hid hat
      clear hat
      generalize hX : eraO os (k : Int) = X at *
      have hXl : X.length ≤ 100000 := by rw [← hX]; exact Nat.le_trans (List.length_filter_le _ _) hol
      have HN : Hid (mostN os (k + 1) = max (mostN os k) (X.filter effB).length) := by unfold Hid; rw [← hX]; rfl
      have hfl : (X.filter effB).length ≤ X.length := List.length_filter_le _ _
      clear hX
      generalize mostN os k = mk at *
      generalize wr = wo at *
      have HBo := Lib.hid hb
      clear hb
      go_wp2
      go_loopw [6, 7] (fun n i wr => ∃ q : Nat, q ≤ X.length ∧ i = .int .i64 q ∧ n = .int .i64 ((X.take q).filter effB).length ∧ Below w1.heap.size w1 wr) (fun _ i _ => X.length - (intOf i).toNat)
      case atStart => exact ⟨0, by omega, rfl, rfl, HBo.out⟩
      case round =>
        obtain ⟨q, hq, rfl, rfl, hbq⟩ := hrel
        obtain ⟨e0, oe⟩ := HAT.out _ hbq
        by_cases hlq : q < X.length
        · have hqX : (q : Int) < (X.length : Int) := by omega
          obtain ⟨o, ho⟩ : ∃ o, X[q]? = some o := ⟨X[q], List.getElem?_eq_getElem hlq⟩
          obtain ⟨go, c', hvv, -, hgo⟩ := oe.pos (by rw [List.length_map]; omega)
          injection hvv with hv1 hv2 hv3
          subst hv1
          clear hv2 hv3
          have hrow : (X.map Opr.cells)[q]? = some o.cells := by rw [List.getElem?_map, ho]; rfl
          have HTK : Hid (((X.take (q + 1)).filter effB).length = ((X.take q).filter effB).length + if effB o then 1 else 0) := by
            unfold Hid
            rw [List.take_add_one, ho]
            simp only [Option.toList_some, List.filter_append, List.length_append, List.filter_cons, List.filter_nil]
            split <;> rfl
          have hfq : ((X.take q).filter effB).length ≤ q := Nat.le_trans (List.length_filter_le _ _) (by rw [List.length_take]; omega)
          obtain ⟨eb, heb⟩ : ∃ eb, effB o = eb := ⟨_, rfl⟩
          have HEF := Lib.hid (fun W => effect_any o W)
          rw [heb] at HEF HTK
          unfold Opr.agg at HEF
          obtain ⟨o0, o1, o2, o3, o4, o5, o6, o7⟩ := o
          have d0 := oe.cell hrow (j := 0) rfl
          have d1 := oe.cell hrow (j := 1) rfl
          have d2 := oe.cell hrow (j := 2) rfl
          have d3 := oe.cell hrow (j := 3) rfl
          have d4 := oe.cell hrow (j := 4) rfl
          have d5 := oe.cell hrow (j := 5) rfl
          have d6 := oe.cell hrow (j := 6) rfl
          have d7 := oe.cell hrow (j := 7) rfl
          rw [Nat.add_zero] at d0
          have HBQ := Lib.hid hbq
          have hzq := hbq.size
          clear oe hrow ho heb hbq
          generalize ((X.take q).filter effB).length = fq at *
          simp only at HEF
          cases eb
          · go_wp2_with fail
            refine (HEF.out _).mono ?_
            rintro r w2 ⟨rfl, hb2⟩
            have hb3 := HBQ.out.trans (hb2.mono hzq)
            clear d0 d1 d2 d3 d4 d5 d6 d7 e0
            go_wp2
            go_roundw
            case rel => exact ⟨q + 1, by omega, by go_num, by rw [HTK.out]; rfl, hb3⟩
            case measure => simp [intOf]; omega
          · go_wp2_with fail
            refine (HEF.out _).mono ?_
            rintro r w2 ⟨rfl, hb2⟩
            have hb3 := HBQ.out.trans (hb2.mono hzq)
            clear d0 d1 d2 d3 d4 d5 d6 d7 e0
            go_wp2
            go_roundw
            case rel => exact ⟨q + 1, by omega, by go_num, by rw [HTK.out]; go_num, hb3⟩
            case measure => simp [intOf]; omega
        · obtain rfl : q = X.length := by omega
          rw [List.take_length]
          have HBQ := Lib.hid hbq
          clear oe hbq
          generalize (X.filter effB).length = fx at *
          go_wp2
          go_roundw
          case rel => exact ⟨k + 1, by omega, by go_num, by rw [HN.out]; congr 1; omega, HBQ.out⟩
          case measure => simp [intOf]; omega
    · obtain rfl : k = cuts + 1 := by omega
      go_wp2
      go_ret
      exact ⟨by rw [HML.out]; rfl, HB1.out.trans (hb.mono HB1.out.size)⟩
end Go.Proofs.YtcgbnlhloopnfaaDoor
namespace Go.Proofs.YtcgbnlhloopnfaaDoor
open Go.RowKit

theorem wf_take {l : List Ev} (h : WfOp l ∧ WfReg l ∧ ∀ e ∈ l, (Lit.int .i64 e.val).wf = true) (m : Nat) : WfOp (l.take m) ∧ WfReg (l.take m) ∧ ∀ e ∈ l.take m, (Lit.int .i64 e.val).wf = true :=
  ⟨fun e he => h.1 e (List.mem_of_mem_take he), fun e he => h.2.1 e (List.mem_of_mem_take he), fun e he => h.2.2 e (List.mem_of_mem_take he)⟩
theorem one_valid {l : List Ev} (h : oneL l = true) : validL l = true := by
  unfold oneL at h
  rcases hv : validL l with _ | _
  · rw [hv] at h; cases h
  · rfl
theorem big_take {l : List Ev} (hv : validL l = true) {m : Nat} (hm : m ≤ l.length) (h : anyBig (rawOps l) (cutsL l) = false) : anyBig (rawOps (l.take m)) (cutsL (l.take m)) = false := by
  refine anyBig_of fun k hk => ?_
  have h1 := pre_len hv hm k
  have h2 := pre_cuts l m
  unfold anyBig at h
  have h3 := List.any_eq_false.1 h k (by simp; omega)
  unfold bigE at h3
  simp at h3
  omega
set_option maxHeartbeats 4000000 in
set_option maxRecDepth 100000 in
theorem linearprefixes_any (l : List Ev) (A : Option Addr) (c n : Nat) (hn : n < 256) (w : World) (h : EvS w w.heap.size A l) (hwf : WfOp l ∧ WfReg l ∧ ∀ e ∈ l, (Lit.int .i64 e.val).wf = true) (hcap : l.length ≤ c) (hc : CutG w) :
    Calls Tryd.prog 6 #[.slice A l.length c, .int .u8 n] w fun e w' => e = .returned (.bool true) ∧ Below w.heap.size w w' := by
  have HA := Lib.hid (awake46_any w hc)
  have HE := Lib.hid h
  clear h hc
  by_cases hlen : l.length ≤ 50
  case neg =>
    have hlen' : (l.length : Int) > 50 := by omega
    go_enter Tryd.func6, Tryd.ntmps6
    go_wp2_with fail
    refine HA.out.mono ?_
    rintro r w1 ⟨rfl, hb1⟩
    go_wp2
    go_ret
    exact ⟨rfl, hb1⟩
  case pos =>
    have hlen' : ¬ (l.length : Int) > 50 := by omega
    have HON := Lib.hid (fun W (hW : Below w.heap.size w W) => one_any l A c w.heap.size W (HE.out.below hW) hW.size (by omega))
    obtain ⟨on, hon⟩ : ∃ on, oneL l = on := ⟨_, rfl⟩
    rw [hon] at HON
    cases on
    case false =>
      clear hon
      go_enter Tryd.func6, Tryd.ntmps6
      go_wp2_with fail
      refine HA.out.mono ?_
      rintro r w1 ⟨rfl, hb1⟩
      have HB1 := Lib.hid hb1
      clear hb1
      go_wp2_with fail
      refine (HON.out _ HB1.out).mono ?_
      rintro r w2 ⟨rfl, hb2⟩
      go_wp2
      go_ret
      exact ⟨rfl, HB1.out.trans (hb2.mono HB1.out.size)⟩
    case true =>
      have hv := one_valid hon
      have HMO := Lib.hid (fun W (hW : Below w.heap.size w W) => most_any l A c w.heap.size W (HE.out.below hW) hW.size (by omega) hv)
      by_cases hmo : mostL l ≤ 12
      case neg =>
        have hmo' : (mostL l : Int) > 12 := by omega
        clear hon hv
        generalize mostL l = mo at *
        go_enter Tryd.func6, Tryd.ntmps6
        go_wp2_with fail
        refine HA.out.mono ?_
        rintro r w1 ⟨rfl, hb1⟩
        have HB1 := Lib.hid hb1
        clear hb1
        go_wp2_with fail
        refine (HON.out _ HB1.out).mono ?_
        rintro r w2 ⟨rfl, hb2⟩
        have HB2 := Lib.hid (HB1.out.trans (hb2.mono HB1.out.size))
        clear hb2
        go_wp2_with fail
        refine (HMO.out _ HB2.out).mono ?_
        rintro r w3 ⟨rfl, hb3⟩
        go_wp2
        go_ret
        exact ⟨rfl, HB2.out.trans (hb3.mono HB2.out.size)⟩
      case pos =>
        have hmo' : ¬ (mostL l : Int) > 12 := by omega
        obtain ⟨m, hm⟩ : ∃ m, m = n % (l.length + 1) := ⟨_, rfl⟩
        have hml : m ≤ l.length := by have := Nat.mod_lt n (show 0 < l.length + 1 by omega); omega
        have hrm : ((n : Int) % ((l.length : Int) + 1)) = (m : Int) := by rw [hm]; simp
        have hab := most_big (l := l) (by omega)
        have hft := wf_take hwf m
        have hfo : FindOk l := ⟨hon, by omega, hwf.1, hwf.2.1, hwf.2.2⟩
        have hfo2 : FindOk (l.take m) := ⟨pre_one hon hml, by rw [List.length_take]; omega, hft.1, hft.2.1, hft.2.2⟩
        have hvt := (pre_ops hv hml).1
        have himp : linB l = true → linB (l.take m) = true := fun hb => (linB_iff hvt).2 (pre_lin hv hml ((linB_iff hv).1 hb))
        obtain ⟨b1, hb1⟩ : ∃ b, linB l = b := ⟨_, rfl⟩
        obtain ⟨b2, hb2⟩ : ∃ b, linB (l.take m) = b := ⟨_, rfl⟩
        rw [hb1, hb2] at himp
        have HF1 := Lib.hid (fun W (hW : Below w.heap.size w W) => find_dec hfo hab b1 (by unfold ExpL; rw [← hb1]; exact (linB_iff hv).symm) A c w.heap.size W (HE.out.below hW) hW.size)
        have HF2 := Lib.hid (fun c W (hW : Below w.heap.size w W) => find_dec hfo2 (big_take hv hml hab) b2 (by unfold ExpL; rw [← hb2]; exact (linB_iff hvt).symm) A c w.heap.size W (by have := (HE.out.below hW).take m; rwa [← List.map_take] at this) hW.size)
        rw [show (l.take m).length = m by rw [List.length_take]; omega] at HF2
        have HIM := Lib.hid himp
        clear hon hv hab hft hfo hfo2 hvt himp hb1 hb2 hmo hm hwf
        generalize mostL l = mo at *
        go_enter Tryd.func6, Tryd.ntmps6
        go_wp2_with fail
        refine HA.out.mono ?_
        rintro r w1 ⟨rfl, hb1⟩
        have HB1 := Lib.hid hb1
        clear hb1
        go_wp2_with fail
        refine (HON.out _ HB1.out).mono ?_
        rintro r w2 ⟨rfl, hb2⟩
        have HB2 := Lib.hid (HB1.out.trans (hb2.mono HB1.out.size))
        clear hb2
        go_wp2_with fail
        refine (HMO.out _ HB2.out).mono ?_
        rintro r w3 ⟨rfl, hb3⟩
        have HB3 := Lib.hid (HB2.out.trans (hb3.mono HB2.out.size))
        clear hb3
        go_wp2_with fail
        refine (HF1.out _ HB3.out).mono ?_
        rintro r w4 ⟨⟨A4, n4, c4, rfl⟩, hb4⟩
        have HB4 := Lib.hid (HB3.out.trans (hb4.mono HB3.out.size))
        clear hb4
        have kc := fun W => conv_u8 (n : Int) (by omega) (by omega) W
        have hs2 : ((l.length : Int) + 1 == 0) = false := by simp; omega
        have hs1 : IntKind.i64.wrap ((l.length : Int) + 1) = (l.length : Int) + 1 := IntWalk.i64_in _ (by omega)
        have ht1 : Int.tmod (n : Int) ((l.length : Int) + 1) = (m : Int) := by rw [Int.tmod_eq_emod_of_nonneg (by omega), hrm]
        have hmlI : (m : Int) ≤ (l.length : Int) := by omega
        have hmc : m ≤ c := by omega
        clear hrm
        go_wp2_with fail
        refine (HF2.out _ _ HB4.out).mono ?_
        rintro r w5 ⟨⟨A5, n5, c5, rfl⟩, hb5⟩
        have HB5 := Lib.hid (HB4.out.trans (hb5.mono HB4.out.size))
        clear hb5 kc hs1 hs2 ht1
        have himp := HIM.out
        cases b1
        · go_wp2
          go_ret
          exact ⟨rfl, HB5.out⟩
        · obtain rfl : b2 = true := himp rfl
          clear himp
          go_wp2
          go_ret
          exact ⟨rfl, HB5.out⟩
end Go.Proofs.YtcgbnlhloopnfaaDoor
