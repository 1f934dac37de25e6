/- Walks of tegularef45's Registers, Pending, Ints. -/
import Derived.Test.YtcgbnlhloopnfaaHIns
import Derived.Test.YtcgbnlhloopnfaaRefC
namespace Go.Proofs.Ytcgbnlhloopnfaa
open Go.RowKit

def opsOr (l : List Ev) : List Opr := if validL l then rawOps l else []
theorem opsOr_len (l : List Ev) : (opsOr l).length ≤ l.length := by
  unfold opsOr
  split
  · exact (rawTo_bd l l.length).1
  · simp
def LayI (w : World) (xs : List Int) (e : Ending) (w' : World) : Prop := ∃ v, e = .returned v ∧ OwS w' w.heap.size 3 1 v (xs.map icell) ∧ Below w.heap.size w w'
theorem refops_or (l : List Ev) (A : Option Addr) (c B : Nat) (w : World) (h : EvS w B A l) (hB : B ≤ w.heap.size) (hlen : l.length ≤ 100000) :
    Calls Try.prog 42 #[.slice A l.length c] w fun r w' => ∃ v x, r = .returned (.tuple #[v, x]) ∧ OwS w' w.heap.size 72 8 v ((opsOr l).map Opr.cells) ∧ Below w.heap.size w w' := by
  unfold opsOr
  cases hv : validL l
  · refine (refops_not l A c B w h hB (by omega) hv).mono ?_
    rintro r w' ⟨rfl, hb⟩
    exact ⟨_, _, rfl, OwS.nil _ _ _ _, hb⟩
  · refine (refops_valid l A c B w h hB (by omega) hv).mono ?_
    rintro r w' ⟨v, rfl, ho, hb⟩
    exact ⟨_, _, rfl, ho, hb⟩
theorem regs_succ {os : List Opr} {k : Nat} {o : Opr} (h : os[k]? = some o) : regsO (os.take (k + 1)) = regsO (os.take k) ++ (if effB o then [o.reg] else []) := by
  unfold regsO
  rw [List.take_add_one, h]
  simp only [Option.toList_some, List.filter_append, List.map_append, List.filter_cons, List.filter_nil]
  split <;> rfl
theorem regsO_len (os : List Opr) : (regsO os).length ≤ os.length := by
  unfold regsO
  rw [List.length_map]
  exact List.length_filter_le _ _
theorem insI_len (l : List Int) (n : Int) : (insI l n).length ≤ l.length + 1 := by
  unfold insI
  split
  · omega
  · simp
    omega
theorem insAll_len (xs : List Int) : (insAll xs).length ≤ xs.length := by
  have : ∀ (xs acc : List Int), (xs.foldl insI acc).length ≤ acc.length + xs.length := by
    intro xs
    induction xs with
    | nil => intro acc; simp
    | cons a xs ih =>
      intro acc
      have h1 := ih (insI acc a)
      have h2 := insI_len acc a
      simp only [List.foldl_cons, List.length_cons]
      omega
  have := this xs []
  unfold insAll
  simpa using this

set_option maxHeartbeats 2000000 in
set_option maxRecDepth 100000 in
theorem refregs_any (l : List Ev) (A : Option Addr) (c B : Nat) (w : World) (h : EvS w B A l) (hB : B ≤ w.heap.size) (hlen : l.length ≤ 100000) :
    Calls Try.prog 15 #[.slice A l.length c] w (LayI w (insAll (regsO (opsOr l)))) := by
  have HO := Lib.hid (refops_or l A c B w h hB hlen)
  have hol := opsOr_len l
  clear h
  generalize opsOr l = os at *
  go_enter Try.func15, Try.ntmps15
  go_wp2_with fail
  refine HO.out.mono ?_
  rintro r w1 ⟨v, x, rfl, hown, hb1⟩
  have hz1 := hb1.size
  obtain ⟨Ao, co, rfl, -, -⟩ := hown.form
  rw [List.length_map] at hown ⊢
  have HOS := Lib.hid hown
  clear hown
  go_wp2
  go_loopw [3, 6] (fun v i wr => ∃ k : Nat, k ≤ os.length ∧ i = .int .i64 k ∧ OwS wr w.heap.size 3 1 v ((insAll (regsO (os.take k))).map icell) ∧ Below w1.heap.size w1 wr) (fun _ i _ => os.length - (intOf i).toNat)
  case atStart => exact ⟨0, by omega, rfl, OwS.nil _ _ _ _, Below.refl _ _⟩
  case round =>
    obtain ⟨k, hk, rfl, hout, hb⟩ := hrel
    have hz := hb.size
    by_cases hlt : k < os.length
    · have oe := HOS.out.below hb
      obtain ⟨g, c', hv, -, hg⟩ := oe.pos (by rw [List.length_map]; omega)
      injection hv with hv1 hv2 hv3
      subst hv1
      clear hv2 hv3
      obtain ⟨o, ho⟩ : ∃ o, os[k]? = some o := ⟨os[k], List.getElem?_eq_getElem hlt⟩
      have hrow : (os.map Opr.cells)[k]? = some o.cells := by rw [List.getElem?_map, ho]; rfl
      have d1 := oe.cell hrow (j := 1) rfl
      have d3 := oe.cell hrow (j := 3) rfl
      have d4 := oe.cell hrow (j := 4) rfl
      have hki : (k : Int) < (os.length : Int) := by omega
      have HRS := Lib.hid (regs_succ ho)
      have hll : (insAll (regsO (os.take k))).length ≤ 100000 := by
        have h1 := insAll_len (regsO (os.take k))
        have h2 := regsO_len (os.take k)
        rw [List.length_take] at h2
        omega
      obtain ⟨o0, o1, o2, o3, o4, o5, o6, o7⟩ := o
      simp only at d1 d3 d4
      have HIN := Lib.hid (insert_any (insAll (regsO (os.take k))) _ o1 w.heap.size wr hout (by omega) hll)
      clear oe hrow ho
      have hstep : ∀ bb, effB ⟨o0, o1, o2, o3, o4, o5, o6, o7⟩ = bb → insAll (regsO (os.take (k + 1))) = if bb then insI (insAll (regsO (os.take k))) o1 else insAll (regsO (os.take k)) := by
        intro bb hbb
        rw [HRS.out, hbb]
        cases bb
        · simp
        · simp only [if_true]; exact insAll_snoc _ _
      have HST := Lib.hid hstep
      clear hstep HRS hll
      cases o3 <;> cases o4
      · have HS : Hid (insAll (regsO (os.take (k + 1))) = insI (insAll (regsO (os.take k))) o1) := HST.out true rfl
        clear HST
        go_wp2_with fail
        refine HIN.out.mono ?_
        rintro r w2 ⟨v2, rfl, hown2, hb2⟩
        have hb12 := hb.trans (hb2.mono hz)
        go_wp2
        go_roundw
        case rel => exact ⟨k + 1, by omega, by go_num, by rw [HS.out]; exact hown2, hb12⟩
        case measure => simp [intOf]; omega
      · have HS : Hid (insAll (regsO (os.take (k + 1))) = insAll (regsO (os.take k))) := HST.out false rfl
        clear HST HIN
        go_wp2
        go_roundw
        case rel => exact ⟨k + 1, by omega, by go_num, by rw [HS.out]; exact hout, hb⟩
        case measure => simp [intOf]; omega
      all_goals
        have HS : Hid (insAll (regsO (os.take (k + 1))) = insI (insAll (regsO (os.take k))) o1) := HST.out true rfl
        clear HST
        go_wp2_with fail
        refine HIN.out.mono ?_
        rintro r w2 ⟨v2, rfl, hown2, hb2⟩
        have hb12 := hb.trans (hb2.mono hz)
        go_wp2
        go_roundw
        case rel => exact ⟨k + 1, by omega, by go_num, by rw [HS.out]; exact hown2, hb12⟩
        case measure => simp [intOf]; omega
    · obtain rfl : k = os.length := by omega
      rw [List.take_length] at hout
      go_wp2
      go_ret
      exact ⟨_, rfl, hout, hb1.trans (hb.mono hz1)⟩

def pendTo (l : List Ev) (os : List Opr) : List Int := (os.filter (refPend l)).map (·.id)
theorem pendTo_succ {l : List Ev} {os : List Opr} {k : Nat} {o : Opr} (h : os[k]? = some o) : pendTo l (os.take (k + 1)) = pendTo l (os.take k) ++ (if refPend l o then [o.id] else []) := by
  unfold pendTo
  rw [List.take_add_one, h]
  simp only [Option.toList_some, List.filter_append, List.map_append, List.filter_cons, List.filter_nil]
  split <;> rfl
theorem pendTo_len (l : List Ev) (os : List Opr) : (pendTo l os).length ≤ os.length := by
  unfold pendTo
  rw [List.length_map]
  exact List.length_filter_le _ _
theorem opsOr_call {l : List Ev} {o : Opr} (ho : o ∈ opsOr l) : 0 ≤ o.call ∧ o.call < l.length := by
  unfold opsOr at ho
  cases hv : validL l
  · rw [hv] at ho; simp at ho
  · rw [hv, if_pos rfl] at ho
    have h1 := parse_eq l
    rw [hv, if_pos rfl] at h1
    unfold parseL at h1
    obtain ⟨st, hst, h2⟩ := Option.map_eq_some_iff.1 h1
    rw [← h2] at ho
    exact (PInv.to hst).call o ho

set_option maxHeartbeats 2000000 in
set_option maxRecDepth 100000 in
theorem refpend_any (l : List Ev) (A : Option Addr) (c B : Nat) (w : World) (h : EvS w B A l) (hB : B ≤ w.heap.size) (hlen : l.length ≤ 100000) :
    Calls Try.prog 17 #[.slice A l.length c] w (LayI w (insAll (pendTo l (opsOr l)))) := by
  have HO := Lib.hid (refops_or l A c B w h hB hlen)
  have hol := opsOr_len l
  have HCB := Lib.hid (fun (o : Opr) (ho : o ∈ opsOr l) => opsOr_call ho)
  have HC := Lib.hid (fun (i : Nat) (hi : i ≤ l.length) (W : World) (hW : Below w.heap.size w W) => cut_any l A c B i l.length W (h.below' hW hB) hi (Nat.le_refl _) (by omega))
  clear h
  generalize opsOr l = os at *
  go_enter Try.func17, Try.ntmps17
  go_wp2_with fail
  refine HO.out.mono ?_
  rintro r w1 ⟨v, x, rfl, hown, hb1⟩
  have hz1 := hb1.size
  obtain ⟨Ao, co, rfl, -, -⟩ := hown.form
  rw [List.length_map] at hown ⊢
  have HOS := Lib.hid hown
  clear hown
  go_wp2
  go_loopw [3, 6] (fun v i wr => ∃ k : Nat, k ≤ os.length ∧ i = .int .i64 k ∧ OwS wr w.heap.size 3 1 v ((insAll (pendTo l (os.take k))).map icell) ∧ Below w1.heap.size w1 wr) (fun _ i _ => os.length - (intOf i).toNat)
  case atStart => exact ⟨0, by omega, rfl, OwS.nil _ _ _ _, Below.refl _ _⟩
  case round =>
    obtain ⟨k, hk, rfl, hout, hb⟩ := hrel
    have hz := hb.size
    by_cases hlt : k < os.length
    · have oe := HOS.out.below hb
      obtain ⟨g, c', hv, -, hg⟩ := oe.pos (by rw [List.length_map]; omega)
      injection hv with hv1 hv2 hv3
      subst hv1
      clear hv2 hv3
      obtain ⟨o, ho⟩ : ∃ o, os[k]? = some o := ⟨os[k], List.getElem?_eq_getElem hlt⟩
      have hrow : (os.map Opr.cells)[k]? = some o.cells := by rw [List.getElem?_map, ho]; rfl
      have d0 := oe.cell hrow (j := 0) rfl
      have d6 := oe.cell hrow (j := 6) rfl
      have d7 := oe.cell hrow (j := 7) rfl
      rw [Nat.add_zero] at d0
      have hki : (k : Int) < (os.length : Int) := by omega
      have HRS := Lib.hid (pendTo_succ (l := l) ho)
      have hcb := HCB.out o (List.mem_of_getElem? ho)
      have hll : (insAll (pendTo l (os.take k))).length ≤ 100000 := by
        have h1 := insAll_len (pendTo l (os.take k))
        have h2 := pendTo_len l (os.take k)
        rw [List.length_take] at h2
        omega
      obtain ⟨o0, o1, o2, o3, o4, o5, o6, o7⟩ := o
      simp only at d0 d6 d7 hcb
      obtain ⟨ci, rfl⟩ : ∃ ci : Nat, o6 = ci := ⟨o6.toNat, by omega⟩
      have hrp : refPend l ⟨o0, o1, o2, o3, o4, o5, (ci : Int), o7⟩ = (decide (o7 < 0) && !cutE l ci l.length) := by unfold refPend; simp
      rw [hrp] at HRS
      have HCC := Lib.hid (HC.out ci (by omega) wr (hb1.trans (hb.mono hz1)))
      generalize cutE l ci l.length = cb at *
      have HIN := Lib.hid (insert_any (insAll (pendTo l (os.take k))) _ o0 w.heap.size wr hout (by omega) hll)
      clear oe hrow ho hcb hrp
      have hstep : ∀ bb, (decide (o7 < 0) && !cb) = bb → insAll (pendTo l (os.take (k + 1))) = if bb then insI (insAll (pendTo l (os.take k))) o0 else insAll (pendTo l (os.take k)) := by
        intro bb hbb
        rw [HRS.out, hbb]
        cases bb
        · simp
        · simp only [if_true]; exact insAll_snoc _ _
      have HST := Lib.hid hstep
      clear hstep HRS hll
      by_cases hd : o7 < 0
      · have hd' : decide (o7 < 0) = true := by simpa using hd
        rw [hd'] at HST
        rcases cb with _ | _
        · have HS : Hid (insAll (pendTo l (os.take (k + 1))) = insI (insAll (pendTo l (os.take k))) o0) := HST.out true rfl
          clear HST
          go_wp2_with fail
          refine HCC.out.mono ?_
          rintro r w2 ⟨rfl, rfl⟩
          go_wp2_with fail
          refine HIN.out.mono ?_
          rintro r w2 ⟨v2, rfl, hown2, hb2⟩
          have hb12 := hb.trans (hb2.mono hz)
          go_wp2
          go_roundw
          case rel => exact ⟨k + 1, by omega, by go_num, by rw [HS.out]; exact hown2, hb12⟩
          case measure => simp [intOf]; omega
        · have HS : Hid (insAll (pendTo l (os.take (k + 1))) = insAll (pendTo l (os.take k))) := HST.out false rfl
          clear HST HIN
          go_wp2_with fail
          refine HCC.out.mono ?_
          rintro r w2 ⟨rfl, rfl⟩
          go_wp2
          go_roundw
          case rel => exact ⟨k + 1, by omega, by go_num, by rw [HS.out]; exact hout, hb⟩
          case measure => simp [intOf]; omega
      · have hd' : decide (o7 < 0) = false := by simpa using hd
        rw [hd'] at HST
        have HS : Hid (insAll (pendTo l (os.take (k + 1))) = insAll (pendTo l (os.take k))) := HST.out false rfl
        clear HST HIN HCC
        go_wp2
        go_roundw
        case rel => exact ⟨k + 1, by omega, by go_num, by rw [HS.out]; exact hout, hb⟩
        case measure => simp [intOf]; omega
    · obtain rfl : k = os.length := by omega
      rw [List.take_length] at hout
      go_wp2
      go_ret
      exact ⟨_, rfl, hout, hb1.trans (hb.mono hz1)⟩

set_option maxHeartbeats 2000000 in
set_option maxRecDepth 100000 in
theorem ints_any (l : List Int) (A A' : Option Addr) (c c' B : Nat) (w : World) (h : IntS w B A l) (h' : IntS w B A' l) (hB : B ≤ w.heap.size) (hlen : l.length ≤ 1000000) :
    Calls Try.prog 13 #[.slice A l.length c, .slice A' l.length c'] w fun e w' => e = .returned (.bool true) ∧ Below w.heap.size w w' := by
  go_enter Try.func13, Try.ntmps13
  go_wp2
  go_loopw [5] (fun i wr => ∃ k : Nat, k ≤ l.length ∧ i = .int .i64 k ∧ Below w.heap.size w wr) (fun i _ => l.length - (intOf i).toNat)
  case atStart => exact ⟨0, by omega, rfl, Below.refl _ _⟩
  case round =>
    obtain ⟨k, hk, rfl, hb⟩ := hrel
    have hz := hb.size
    by_cases hlt : k < l.length
    · obtain ⟨b, off, x, rfl, hbB, hx, c0⟩ := IntS.at_ (h.below' hb hB) (k := k) hlt
      obtain ⟨b', off', x', rfl, hbB', hx', d0⟩ := IntS.at_ (h'.below' hb hB) (k := k) hlt
      rw [hx] at hx'
      obtain rfl := Option.some.inj hx'
      have hbl : b < wr.heap.size := by omega
      have hbl' : b' < wr.heap.size := by omega
      have hkl : (k : Int) < (l.length : Int) := by omega
      clear hx hx'
      go_wp2
      go_quiet (fail)
      go_wp2
      go_roundw
      case rel => exact ⟨k + 1, by omega, by go_num, below_drewN hb _⟩
      case measure => simp [intOf]; omega
    · obtain rfl : k = l.length := by omega
      go_wp2
      go_ret
      exact ⟨rfl, hb⟩
end Go.Proofs.Ytcgbnlhloopnfaa
