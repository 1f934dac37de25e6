/- Walk of tegularef46.Most. -/
import Derived.Test.YtcgbnlhloopnfaaEraB
import Derived.Test.YtcgbnlhloopnfaaFndX
namespace Go.Proofs.Ytcgbnlhloopnfaa
open Go.RowKit

set_option maxHeartbeats 1000000 in
theorem effect_any (o : Opr) (w : World) : Calls Try.prog 51 #[o.agg] w fun r w' => r = .returned (.bool (effB o)) ∧ Below w.heap.size w w' := by
  obtain ⟨a0, a1, a2, a3, a4, a5, a6, a7⟩ := o
  unfold Opr.agg
  cases a3 <;> cases a4
  all_goals
    go_enter Try.func51, Try.ntmps51
    go_wp2
    go_ret
    exact ⟨ret_bool (by simp [effB]), below_laid⟩

/-- the greatest number of reads and writes among the first n eras -/
def mostN (os : List Opr) : Nat → Nat
  | 0 => 0
  | n + 1 => max (mostN os n) (eraX os n).length
theorem mostN_le {os : List Opr} {n k : Nat} (hk : k < n) : (eraX os k).length ≤ mostN os n := by
  induction n with
  | zero => omega
  | succ n ih =>
    simp only [mostN]
    rcases Nat.lt_or_eq_of_le (Nat.le_of_lt_succ hk) with h | rfl
    · have := ih h; omega
    · omega
theorem mostN_bd (os : List Opr) (n : Nat) : mostN os n ≤ os.length := by
  induction n with
  | zero => exact Nat.zero_le _
  | succ n ih =>
    simp only [mostN]
    have : (eraX os n).length ≤ os.length := Nat.le_trans (List.length_filter_le _ _) (List.length_filter_le _ _)
    omega
def mostL (l : List Ev) : Nat := mostN (rawOps l) (cutsL l + 1)
theorem most_big {l : List Ev} (h : mostL l ≤ 16) : anyBig (rawOps l) (cutsL l) = false := by
  unfold anyBig
  rw [List.any_eq_false]
  intro k hk
  have := mostN_le (os := rawOps l) (n := cutsL l + 1) (k := k) (List.mem_range.1 hk)
  unfold mostL at h
  unfold bigE
  simp
  omega
set_option maxHeartbeats 8000000 in
set_option maxRecDepth 100000 in
theorem most_any (l : List Ev) (A : Option Addr) (c B : Nat) (w : World) (h : EvS w B A l) (hB : B ≤ w.heap.size) (hlen : l.length ≤ 100000) (hv : validL l = true) :
    Calls Try.prog 22 #[.slice A l.length c] w fun r w' => r = .returned (.int .i64 (mostL l)) ∧ Below w.heap.size w w' := by
  have HE := Lib.hid (eras_any l A c B w h hB hlen hv)
  unfold ErasP at HE
  have hol : (rawOps l).length ≤ 100000 := Nat.le_trans (rawTo_bd l l.length).1 hlen
  have hcb : cutsL l ≤ 100000 := Nat.le_trans List.countP_le_length hlen
  have HML : Hid (mostL l = mostN (rawOps l) (cutsL l + 1)) := rfl
  clear h hv
  obtain ⟨os, hos⟩ : ∃ os, rawOps l = os := ⟨_, rfl⟩
  rw [hos] at HE hol HML
  have HBN := Lib.hid (mostN_bd os)
  clear hos
  generalize cutsL l = cuts at *
  go_enter Try.func22, Try.ntmps22
  go_wp2_with fail
  refine HE.out.mono ?_
  rintro r w1 ⟨⟨g, cap, rfl, hm⟩, hb1⟩
  have HM := Lib.hid hm
  have HB1 := Lib.hid hb1
  have hgs := hm.lt.2
  clear hm hb1 HE
  go_wp2
  go_loopw [4, 5] (fun m i wr => ∃ k : Nat, k ≤ cuts + 1 ∧ i = .int .i64 k ∧ m = .int .i64 (mostN os k : Nat) ∧ Below w1.heap.size w1 wr) (fun _ i _ => cuts + 1 - (intOf i).toNat)
  case atStart => exact ⟨0, by omega, rfl, rfl, Below.refl _ _⟩
  case round =>
    obtain ⟨k, hk, rfl, rfl, hb⟩ := hrel
    have hz := hb.size
    have hmb := HBN.out k
    by_cases hlt : k < cuts + 1
    · have hkc : (k : Int) < (cuts : Int) + 1 := by omega
      obtain ⟨Ae, ce, hat⟩ := HM.out.at_ hlt
      have HAT := Lib.hid hat
      clear hat
      generalize hX : eraO os (k : Int) = X at *
      have hXl : X.length ≤ 100000 := by rw [← hX]; exact Nat.le_trans (List.length_filter_le _ _) hol
      have HN : Hid (mostN os (k + 1) = max (mostN os k) (X.filter effB).length) := by unfold Hid; rw [← hX]; rfl
      have hfl : (X.filter effB).length ≤ X.length := List.length_filter_le _ _
      clear hX
      generalize mostN os k = mk at *
      generalize wr = wo at *
      have HBo := Lib.hid hb
      clear hb
      go_wp2
      go_loopw [6, 7] (fun n i wr => ∃ q : Nat, q ≤ X.length ∧ i = .int .i64 q ∧ n = .int .i64 ((X.take q).filter effB).length ∧ Below w1.heap.size w1 wr) (fun _ i _ => X.length - (intOf i).toNat)
      case atStart => exact ⟨0, by omega, rfl, rfl, HBo.out⟩
      case round =>
        obtain ⟨q, hq, rfl, rfl, hbq⟩ := hrel
        obtain ⟨e0, oe⟩ := HAT.out _ hbq
        by_cases hlq : q < X.length
        · have hqX : (q : Int) < (X.length : Int) := by omega
          obtain ⟨o, ho⟩ : ∃ o, X[q]? = some o := ⟨X[q], List.getElem?_eq_getElem hlq⟩
          obtain ⟨go, c', hvv, -, hgo⟩ := oe.pos (by rw [List.length_map]; omega)
          injection hvv with hv1 hv2 hv3
          subst hv1
          clear hv2 hv3
          have hrow : (X.map Opr.cells)[q]? = some o.cells := by rw [List.getElem?_map, ho]; rfl
          have HTK : Hid (((X.take (q + 1)).filter effB).length = ((X.take q).filter effB).length + if effB o then 1 else 0) := by
            unfold Hid
            rw [List.take_add_one, ho]
            simp only [Option.toList_some, List.filter_append, List.length_append, List.filter_cons, List.filter_nil]
            split <;> rfl
          have hfq : ((X.take q).filter effB).length ≤ q := Nat.le_trans (List.length_filter_le _ _) (by rw [List.length_take]; omega)
          obtain ⟨eb, heb⟩ : ∃ eb, effB o = eb := ⟨_, rfl⟩
          have HEF := Lib.hid (fun W => effect_any o W)
          rw [heb] at HEF HTK
          unfold Opr.agg at HEF
          obtain ⟨o0, o1, o2, o3, o4, o5, o6, o7⟩ := o
          have d0 := oe.cell hrow (j := 0) rfl
          have d1 := oe.cell hrow (j := 1) rfl
          have d2 := oe.cell hrow (j := 2) rfl
          have d3 := oe.cell hrow (j := 3) rfl
          have d4 := oe.cell hrow (j := 4) rfl
          have d5 := oe.cell hrow (j := 5) rfl
          have d6 := oe.cell hrow (j := 6) rfl
          have d7 := oe.cell hrow (j := 7) rfl
          rw [Nat.add_zero] at d0
          have HBQ := Lib.hid hbq
          have hzq := hbq.size
          clear oe hrow ho heb hbq
          generalize ((X.take q).filter effB).length = fq at *
          simp only at HEF
          cases eb
          · go_wp2_with fail
            refine (HEF.out _).mono ?_
            rintro r w2 ⟨rfl, hb2⟩
            have hb3 := HBQ.out.trans (hb2.mono hzq)
            clear d0 d1 d2 d3 d4 d5 d6 d7 e0
            go_wp2
            go_roundw
            case rel => exact ⟨q + 1, by omega, by go_num, by rw [HTK.out]; rfl, hb3⟩
            case measure => simp [intOf]; omega
          · go_wp2_with fail
            refine (HEF.out _).mono ?_
            rintro r w2 ⟨rfl, hb2⟩
            have hb3 := HBQ.out.trans (hb2.mono hzq)
            clear d0 d1 d2 d3 d4 d5 d6 d7 e0
            go_wp2
            go_roundw
            case rel => exact ⟨q + 1, by omega, by go_num, by rw [HTK.out]; go_num, hb3⟩
            case measure => simp [intOf]; omega
        · obtain rfl : q = X.length := by omega
          rw [List.take_length]
          have HBQ := Lib.hid hbq
          clear oe hbq
          generalize (X.filter effB).length = fx at *
          go_wp2
          go_roundw
          case rel => exact ⟨k + 1, by omega, by go_num, by rw [HN.out]; congr 1; omega, HBQ.out⟩
          case measure => simp [intOf]; omega
    · obtain rfl : k = cuts + 1 := by omega
      go_wp2
      go_ret
      exact ⟨by rw [HML.out]; rfl, HB1.out.trans (hb.mono HB1.out.size)⟩
end Go.Proofs.Ytcgbnlhloopnfaa
