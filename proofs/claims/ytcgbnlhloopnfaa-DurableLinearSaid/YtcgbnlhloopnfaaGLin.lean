/- Walks of tegularef45's Registers, Pending, Ints.
Walks of linear.precedes, tegularef46.effect and One.
Walk of linear.durable's closure.
Walk of linear.durable. (IndexFunc and ContainsFunc over its closure: lines of DurB.) -/
import Derived.Test.YtcgbnlhloopnfaaHIns
import Derived.Test.YtcgbnlhloopnfaaGRef
import Derived.Test.YtcgbnlhloopnfaaGPln
import Derived.StillTailTactics
import Derived.Laws.EntriesVeiled
namespace Go.Proofs.Ytcgbnlhloopnfaa
open Go.RowKit

def opsOr (l : List Ev) : List Opr := if validL l then rawOps l else []
theorem opsOr_len (l : List Ev) : (opsOr l).length ≤ l.length := by
  unfold opsOr
  split
  · exact (rawTo_bd l l.length).1
  · simp
def LayI (w : World) (xs : List Int) (e : Ending) (w' : World) : Prop := ∃ v, e = .returned v ∧ OwS w' w.heap.size 3 1 v (xs.map icell) ∧ Below w.heap.size w w'
theorem refops_or (l : List Ev) (A : Option Addr) (c B : Nat) (w : World) (h : EvS w B A l) (hB : B ≤ w.heap.size) (hlen : l.length ≤ 100000) :
    Calls Try.prog 42 #[.slice A l.length c] w fun r w' => ∃ v x, r = .returned (.tuple #[v, x]) ∧ OwS w' w.heap.size 72 8 v ((opsOr l).map Opr.cells) ∧ Below w.heap.size w w' := by
  unfold opsOr
  cases hv : validL l
  · refine (refops_not l A c B w h hB (by omega) hv).mono ?_
    rintro r w' ⟨rfl, hb⟩
    exact ⟨_, _, rfl, OwS.nil _ _ _ _, hb⟩
  · refine (refops_valid l A c B w h hB (by omega) hv).mono ?_
    rintro r w' ⟨v, rfl, ho, hb⟩
    exact ⟨_, _, rfl, ho, hb⟩
theorem regs_succ {os : List Opr} {k : Nat} {o : Opr} (h : os[k]? = some o) : regsO (os.take (k + 1)) = regsO (os.take k) ++ (if effB o then [o.reg] else []) := by
  unfold regsO
  rw [List.take_add_one, h]
  simp only [Option.toList_some, List.filter_append, List.map_append, List.filter_cons, List.filter_nil]
  split <;> rfl
theorem regsO_len (os : List Opr) : (regsO os).length ≤ os.length := by
  unfold regsO
  rw [List.length_map]
  exact List.length_filter_le _ _
theorem insI_len (l : List Int) (n : Int) : (insI l n).length ≤ l.length + 1 := by
  unfold insI
  split
  · omega
  · simp
    omega
theorem insAll_len (xs : List Int) : (insAll xs).length ≤ xs.length := by
  have : ∀ (xs acc : List Int), (xs.foldl insI acc).length ≤ acc.length + xs.length := by
    intro xs
    induction xs with
    | nil => intro acc; simp
    | cons a xs ih =>
      intro acc
      have h1 := ih (insI acc a)
      have h2 := insI_len acc a
      simp only [List.foldl_cons, List.length_cons]
      omega
  have := this xs []
  unfold insAll
  simpa using this

set_option maxHeartbeats 2000000 in
set_option maxRecDepth 100000 in
theorem refregs_any (l : List Ev) (A : Option Addr) (c B : Nat) (w : World) (h : EvS w B A l) (hB : B ≤ w.heap.size) (hlen : l.length ≤ 100000) :
    Calls Try.prog 15 #[.slice A l.length c] w (LayI w (insAll (regsO (opsOr l)))) := by
  have HO := Lib.hid (refops_or l A c B w h hB hlen)
  have hol := opsOr_len l
  clear h
  generalize opsOr l = os at *
  go_enter Try.func15, Try.ntmps15
  go_wp2_with fail
  refine HO.out.mono ?_
  rintro r w1 ⟨v, x, rfl, hown, hb1⟩
  have hz1 := hb1.size
  obtain ⟨Ao, co, rfl, -, -⟩ := hown.form
  rw [List.length_map] at hown ⊢
  have HOS := Lib.hid hown
  clear hown
  go_wp2
  go_loopw [3, 6] (fun v i wr => ∃ k : Nat, k ≤ os.length ∧ i = .int .i64 k ∧ OwS wr w.heap.size 3 1 v ((insAll (regsO (os.take k))).map icell) ∧ Below w1.heap.size w1 wr) (fun _ i _ => os.length - (intOf i).toNat)
  case atStart => exact ⟨0, by omega, rfl, OwS.nil _ _ _ _, Below.refl _ _⟩
  case round =>
    obtain ⟨k, hk, rfl, hout, hb⟩ := hrel
    have hz := hb.size
    by_cases hlt : k < os.length
    · have oe := HOS.out.below hb
      obtain ⟨g, c', hv, -, hg⟩ := oe.pos (by rw [List.length_map]; omega)
      injection hv with hv1 hv2 hv3
      subst hv1
      clear hv2 hv3
      obtain ⟨o, ho⟩ : ∃ o, os[k]? = some o := ⟨os[k], List.getElem?_eq_getElem hlt⟩
      have hrow : (os.map Opr.cells)[k]? = some o.cells := by rw [List.getElem?_map, ho]; rfl
      have d1 := oe.cell hrow (j := 1) rfl
      have d3 := oe.cell hrow (j := 3) rfl
      have d4 := oe.cell hrow (j := 4) rfl
      have hki : (k : Int) < (os.length : Int) := by omega
      have HRS := Lib.hid (regs_succ ho)
      have hll : (insAll (regsO (os.take k))).length ≤ 100000 := by
        have h1 := insAll_len (regsO (os.take k))
        have h2 := regsO_len (os.take k)
        rw [List.length_take] at h2
        omega
      obtain ⟨o0, o1, o2, o3, o4, o5, o6, o7⟩ := o
      simp only at d1 d3 d4
      have HIN := Lib.hid (insert_any (insAll (regsO (os.take k))) _ o1 w.heap.size wr hout (by omega) hll)
      clear oe hrow ho
      have hstep : ∀ bb, effB ⟨o0, o1, o2, o3, o4, o5, o6, o7⟩ = bb → insAll (regsO (os.take (k + 1))) = if bb then insI (insAll (regsO (os.take k))) o1 else insAll (regsO (os.take k)) := by
        intro bb hbb
        rw [HRS.out, hbb]
        cases bb
        · simp
        · simp only [if_true]; exact insAll_snoc _ _
      have HST := Lib.hid hstep
      clear hstep HRS hll
      cases o3 <;> cases o4
      · have HS : Hid (insAll (regsO (os.take (k + 1))) = insI (insAll (regsO (os.take k))) o1) := HST.out true rfl
        clear HST
        go_wp2_with fail
        refine HIN.out.mono ?_
        rintro r w2 ⟨v2, rfl, hown2, hb2⟩
        have hb12 := hb.trans (hb2.mono hz)
        go_wp2
        go_roundw
        case rel => exact ⟨k + 1, by omega, by go_num, by rw [HS.out]; exact hown2, hb12⟩
        case measure => simp [intOf]; omega
      · have HS : Hid (insAll (regsO (os.take (k + 1))) = insAll (regsO (os.take k))) := HST.out false rfl
        clear HST HIN
        go_wp2
        go_roundw
        case rel => exact ⟨k + 1, by omega, by go_num, by rw [HS.out]; exact hout, hb⟩
        case measure => simp [intOf]; omega
      all_goals
        have HS : Hid (insAll (regsO (os.take (k + 1))) = insI (insAll (regsO (os.take k))) o1) := HST.out true rfl
        clear HST
        go_wp2_with fail
        refine HIN.out.mono ?_
        rintro r w2 ⟨v2, rfl, hown2, hb2⟩
        have hb12 := hb.trans (hb2.mono hz)
        go_wp2
        go_roundw
        case rel => exact ⟨k + 1, by omega, by go_num, by rw [HS.out]; exact hown2, hb12⟩
        case measure => simp [intOf]; omega
    · obtain rfl : k = os.length := by omega
      rw [List.take_length] at hout
      go_wp2
      go_ret
      exact ⟨_, rfl, hout, hb1.trans (hb.mono hz1)⟩

def pendTo (l : List Ev) (os : List Opr) : List Int := (os.filter (refPend l)).map (·.id)
theorem pendTo_succ {l : List Ev} {os : List Opr} {k : Nat} {o : Opr} (h : os[k]? = some o) : pendTo l (os.take (k + 1)) = pendTo l (os.take k) ++ (if refPend l o then [o.id] else []) := by
  unfold pendTo
  rw [List.take_add_one, h]
  simp only [Option.toList_some, List.filter_append, List.map_append, List.filter_cons, List.filter_nil]
  split <;> rfl
theorem pendTo_len (l : List Ev) (os : List Opr) : (pendTo l os).length ≤ os.length := by
  unfold pendTo
  rw [List.length_map]
  exact List.length_filter_le _ _
theorem opsOr_call {l : List Ev} {o : Opr} (ho : o ∈ opsOr l) : 0 ≤ o.call ∧ o.call < l.length := by
  unfold opsOr at ho
  cases hv : validL l
  · rw [hv] at ho; simp at ho
  · rw [hv, if_pos rfl] at ho
    have h1 := parse_eq l
    rw [hv, if_pos rfl] at h1
    unfold parseL at h1
    obtain ⟨st, hst, h2⟩ := Option.map_eq_some_iff.1 h1
    rw [← h2] at ho
    exact (PInv.to hst).call o ho

set_option maxHeartbeats 2000000 in
set_option maxRecDepth 100000 in
theorem refpend_any (l : List Ev) (A : Option Addr) (c B : Nat) (w : World) (h : EvS w B A l) (hB : B ≤ w.heap.size) (hlen : l.length ≤ 100000) :
    Calls Try.prog 17 #[.slice A l.length c] w (LayI w (insAll (pendTo l (opsOr l)))) := by
  have HO := Lib.hid (refops_or l A c B w h hB hlen)
  have hol := opsOr_len l
  have HCB := Lib.hid (fun (o : Opr) (ho : o ∈ opsOr l) => opsOr_call ho)
  have HC := Lib.hid (fun (i : Nat) (hi : i ≤ l.length) (W : World) (hW : Below w.heap.size w W) => cut_any l A c B i l.length W (h.below' hW hB) hi (Nat.le_refl _) (by omega))
  clear h
  generalize opsOr l = os at *
  go_enter Try.func17, Try.ntmps17
  go_wp2_with fail
  refine HO.out.mono ?_
  rintro r w1 ⟨v, x, rfl, hown, hb1⟩
  have hz1 := hb1.size
  obtain ⟨Ao, co, rfl, -, -⟩ := hown.form
  rw [List.length_map] at hown ⊢
  have HOS := Lib.hid hown
  clear hown
  go_wp2
  go_loopw [3, 6] (fun v i wr => ∃ k : Nat, k ≤ os.length ∧ i = .int .i64 k ∧ OwS wr w.heap.size 3 1 v ((insAll (pendTo l (os.take k))).map icell) ∧ Below w1.heap.size w1 wr) (fun _ i _ => os.length - (intOf i).toNat)
  case atStart => exact ⟨0, by omega, rfl, OwS.nil _ _ _ _, Below.refl _ _⟩
  case round =>
    obtain ⟨k, hk, rfl, hout, hb⟩ := hrel
    have hz := hb.size
    by_cases hlt : k < os.length
    · have oe := HOS.out.below hb
      obtain ⟨g, c', hv, -, hg⟩ := oe.pos (by rw [List.length_map]; omega)
      injection hv with hv1 hv2 hv3
      subst hv1
      clear hv2 hv3
      obtain ⟨o, ho⟩ : ∃ o, os[k]? = some o := ⟨os[k], List.getElem?_eq_getElem hlt⟩
      have hrow : (os.map Opr.cells)[k]? = some o.cells := by rw [List.getElem?_map, ho]; rfl
      have d0 := oe.cell hrow (j := 0) rfl
      have d6 := oe.cell hrow (j := 6) rfl
      have d7 := oe.cell hrow (j := 7) rfl
      rw [Nat.add_zero] at d0
      have hki : (k : Int) < (os.length : Int) := by omega
      have HRS := Lib.hid (pendTo_succ (l := l) ho)
      have hcb := HCB.out o (List.mem_of_getElem? ho)
      have hll : (insAll (pendTo l (os.take k))).length ≤ 100000 := by
        have h1 := insAll_len (pendTo l (os.take k))
        have h2 := pendTo_len l (os.take k)
        rw [List.length_take] at h2
        omega
      obtain ⟨o0, o1, o2, o3, o4, o5, o6, o7⟩ := o
      simp only at d0 d6 d7 hcb
      obtain ⟨ci, rfl⟩ : ∃ ci : Nat, o6 = ci := ⟨o6.toNat, by omega⟩
      have hrp : refPend l ⟨o0, o1, o2, o3, o4, o5, (ci : Int), o7⟩ = (decide (o7 < 0) && !cutE l ci l.length) := by unfold refPend; simp
      rw [hrp] at HRS
      have HCC := Lib.hid (HC.out ci (by omega) wr (hb1.trans (hb.mono hz1)))
      generalize cutE l ci l.length = cb at *
      have HIN := Lib.hid (insert_any (insAll (pendTo l (os.take k))) _ o0 w.heap.size wr hout (by omega) hll)
      clear oe hrow ho hcb hrp
      have hstep : ∀ bb, (decide (o7 < 0) && !cb) = bb → insAll (pendTo l (os.take (k + 1))) = if bb then insI (insAll (pendTo l (os.take k))) o0 else insAll (pendTo l (os.take k)) := by
        intro bb hbb
        rw [HRS.out, hbb]
        cases bb
        · simp
        · simp only [if_true]; exact insAll_snoc _ _
      have HST := Lib.hid hstep
      clear hstep HRS hll
      by_cases hd : o7 < 0
      · have hd' : decide (o7 < 0) = true := by simpa using hd
        rw [hd'] at HST
        rcases cb with _ | _
        · have HS : Hid (insAll (pendTo l (os.take (k + 1))) = insI (insAll (pendTo l (os.take k))) o0) := HST.out true rfl
          clear HST
          go_wp2_with fail
          refine HCC.out.mono ?_
          rintro r w2 ⟨rfl, rfl⟩
          go_wp2_with fail
          refine HIN.out.mono ?_
          rintro r w2 ⟨v2, rfl, hown2, hb2⟩
          have hb12 := hb.trans (hb2.mono hz)
          go_wp2
          go_roundw
          case rel => exact ⟨k + 1, by omega, by go_num, by rw [HS.out]; exact hown2, hb12⟩
          case measure => simp [intOf]; omega
        · have HS : Hid (insAll (pendTo l (os.take (k + 1))) = insAll (pendTo l (os.take k))) := HST.out false rfl
          clear HST HIN
          go_wp2_with fail
          refine HCC.out.mono ?_
          rintro r w2 ⟨rfl, rfl⟩
          go_wp2
          go_roundw
          case rel => exact ⟨k + 1, by omega, by go_num, by rw [HS.out]; exact hout, hb⟩
          case measure => simp [intOf]; omega
      · have hd' : decide (o7 < 0) = false := by simpa using hd
        rw [hd'] at HST
        have HS : Hid (insAll (pendTo l (os.take (k + 1))) = insAll (pendTo l (os.take k))) := HST.out false rfl
        clear HST HIN HCC
        go_wp2
        go_roundw
        case rel => exact ⟨k + 1, by omega, by go_num, by rw [HS.out]; exact hout, hb⟩
        case measure => simp [intOf]; omega
    · obtain rfl : k = os.length := by omega
      rw [List.take_length] at hout
      go_wp2
      go_ret
      exact ⟨_, rfl, hout, hb1.trans (hb.mono hz1)⟩

set_option maxHeartbeats 2000000 in
set_option maxRecDepth 100000 in
theorem ints_any (l : List Int) (A A' : Option Addr) (c c' B : Nat) (w : World) (h : IntS w B A l) (h' : IntS w B A' l) (hB : B ≤ w.heap.size) (hlen : l.length ≤ 1000000) :
    Calls Try.prog 13 #[.slice A l.length c, .slice A' l.length c'] w fun e w' => e = .returned (.bool true) ∧ Below w.heap.size w w' := by
  go_enter Try.func13, Try.ntmps13
  go_wp2
  go_loopw [5] (fun i wr => ∃ k : Nat, k ≤ l.length ∧ i = .int .i64 k ∧ Below w.heap.size w wr) (fun i _ => l.length - (intOf i).toNat)
  case atStart => exact ⟨0, by omega, rfl, Below.refl _ _⟩
  case round =>
    obtain ⟨k, hk, rfl, hb⟩ := hrel
    have hz := hb.size
    by_cases hlt : k < l.length
    · obtain ⟨b, off, x, rfl, hbB, hx, c0⟩ := IntS.at_ (h.below' hb hB) (k := k) hlt
      obtain ⟨b', off', x', rfl, hbB', hx', d0⟩ := IntS.at_ (h'.below' hb hB) (k := k) hlt
      rw [hx] at hx'
      obtain rfl := Option.some.inj hx'
      have hbl : b < wr.heap.size := by omega
      have hbl' : b' < wr.heap.size := by omega
      have hkl : (k : Int) < (l.length : Int) := by omega
      clear hx hx'
      go_wp2
      go_quiet (fail)
      go_wp2
      go_roundw
      case rel => exact ⟨k + 1, by omega, by go_num, below_drewN hb _⟩
      case measure => simp [intOf]; omega
    · obtain rfl : k = l.length := by omega
      go_wp2
      go_ret
      exact ⟨rfl, hb⟩
end Go.Proofs.Ytcgbnlhloopnfaa
namespace Go.Proofs.Ytcgbnlhloopnfaa
open Go.RowKit

set_option maxHeartbeats 1000000 in
theorem precedes_any (a b : Opr) (w : World) : Calls Try.prog 99 #[a.agg, b.agg] w fun r w' => r = .returned (.bool (precO a b)) ∧ Below w.heap.size w w' := by
  obtain ⟨a0, a1, a2, a3, a4, a5, a6, a7⟩ := a
  obtain ⟨b0, b1, b2, b3, b4, b5, b6, b7⟩ := b
  have HV : Hid (precO ⟨a0, a1, a2, a3, a4, a5, a6, a7⟩ ⟨b0, b1, b2, b3, b4, b5, b6, b7⟩ = (decide (0 ≤ a7) && decide (a7 < b6))) := rfl
  unfold Opr.agg
  by_cases h : 0 ≤ a7
  · by_cases h2 : a7 < b6
    · go_enter Try.func99, Try.ntmps99
      go_wp2
      go_ret
      exact ⟨ret_bool (by rw [HV.out]; simp [h, h2]), ((Below.refl _ _).alloc (Nat.le_refl _) _).alloc (by simp) _⟩
    · go_enter Try.func99, Try.ntmps99
      go_wp2
      go_ret
      exact ⟨ret_bool (by rw [HV.out]; simp [h, h2]), ((Below.refl _ _).alloc (Nat.le_refl _) _).alloc (by simp) _⟩
  · go_enter Try.func99, Try.ntmps99
    go_wp2
    go_ret
    exact ⟨ret_bool (by rw [HV.out]; simp; omega), ((Below.refl _ _).alloc (Nat.le_refl _) _).alloc (by simp) _⟩

def oneL (l : List Ev) : Bool := validL l && decide ((insAll (regsO (opsOr l))).length ≤ 1)
set_option maxHeartbeats 1000000 in
theorem one_any (l : List Ev) (A : Option Addr) (c B : Nat) (w : World) (h : EvS w B A l) (hB : B ≤ w.heap.size) (hlen : l.length ≤ 100000) :
    Calls Try.prog 21 #[.slice A l.length c] w fun r w' => r = .returned (.bool (oneL l)) ∧ Below w.heap.size w w' := by
  have HV := Lib.hid (refvalid_any l A c B w h hB (by omega))
  have HR := Lib.hid (fun W (hW : Below w.heap.size w W) => refregs_any l A c B W (h.below' hW hB) (Nat.le_trans hB hW.size) hlen)
  have HO : Hid (oneL l = (validL l && decide ((insAll (regsO (opsOr l))).length ≤ 1))) := rfl
  clear h
  generalize insAll (regsO (opsOr l)) = gs at *
  cases hv : validL l
  · rw [hv] at HV HO
    clear hv
    go_enter Try.func21, Try.ntmps21
    go_wp2_with fail
    refine HV.out.mono ?_
    rintro s w1 ⟨rfl, hb1⟩
    go_wp2
    go_ret
    exact ⟨ret_bool (by rw [HO.out]; rfl), hb1⟩
  · rw [hv] at HV HO
    clear hv
    go_enter Try.func21, Try.ntmps21
    go_wp2_with fail
    refine HV.out.mono ?_
    rintro s w1 ⟨rfl, hb1⟩
    have hz1 := hb1.size
    go_wp2_with fail
    refine (HR.out _ hb1).mono ?_
    rintro s w2 ⟨v, rfl, hown, hb2⟩
    have hb12 := hb1.trans (hb2.mono hz1)
    obtain ⟨Ag, cg, rfl, -, -⟩ := hown.form
    rw [List.length_map]
    by_cases hg : gs.length ≤ 1
    · have hg' : (gs.length : Int) ≤ 1 := by omega
      go_wp2
      go_ret
      exact ⟨ret_bool (by rw [HO.out]; simp [hg]), hb12⟩
    · have hg' : ¬ (gs.length : Int) ≤ 1 := by omega
      go_wp2
      go_ret
      exact ⟨ret_bool (by rw [HO.out]; simp [hg]; omega), hb12⟩
end Go.Proofs.Ytcgbnlhloopnfaa
namespace Go.Proofs.Ytcgbnlhloopnfaa
open Go.RowKit

def durB (o b : Opr) : Bool := b.barrier && decide (0 ≤ b.done) && b.era == o.era && precO o b
/-- an operation in a block of its own -/
def BoxO (w : World) (x0 : Nat) (o : Opr) : Prop := x0 < w.heap.size ∧ ∀ k u, o.cells[k]? = some u → w.cell? ⟨x0, k, none⟩ = some u
theorem BoxO.below {w w' : World} {x0 : Nat} {o : Opr} (h : BoxO w x0 o) (hb : Below w.heap.size w w') : BoxO w' x0 o :=
  ⟨Nat.lt_of_lt_of_le h.1 hb.size, fun k u hu => (hb.cell (p := ⟨x0, k, none⟩) h.1).trans (h.2 k u hu)⟩

set_option maxHeartbeats 2000000 in
set_option maxRecDepth 100000 in
theorem durb_any (x0 : Nat) (o b : Opr) (w : World) (hx : BoxO w x0 o) :
    Calls Try.prog 98 #[b.agg, .pointer (some ⟨x0, 0, none⟩)] w fun r w' => r = .returned (.bool (durB o b)) ∧ Below w.heap.size w w' := by
  have HP := Lib.hid (fun W => precedes_any o b W)
  have HV : Hid (durB o b = (b.barrier && decide (0 ≤ b.done) && b.era == o.era && precO o b)) := rfl
  obtain ⟨hxl, hxc⟩ := hx
  have x0' := hxc 0 _ rfl
  have x1 := hxc 1 _ rfl
  have x2 := hxc 2 _ rfl
  have x3 := hxc 3 _ rfl
  have x4 := hxc 4 _ rfl
  have x5 := hxc 5 _ rfl
  have x6 := hxc 6 _ rfl
  have x7 := hxc 7 _ rfl
  have hne : x0 ≠ w.heap.size := by omega
  generalize precO o b = pb at *
  obtain ⟨o0, o1, o2, o3, o4, o5, o6, o7⟩ := o
  obtain ⟨b0, b1, b2, b3, b4, b5, b6, b7⟩ := b
  simp only at x0' x1 x2 x3 x4 x5 x6 x7 HV
  unfold Opr.agg at HP ⊢
  simp only at HP ⊢
  clear hxc
  cases b4
  · go_enter Try.func98, Try.ntmps98
    go_wp2
    go_ret
    exact ⟨ret_bool (by rw [HV.out]; simp), below_laid⟩
  · by_cases h7 : 0 ≤ b7
    · have h7' : decide (b7 ≥ 0) = true := by simpa using h7
      by_cases h5 : b5 = o5
      · subst h5
        go_enter Try.func98, Try.ntmps98
        go_wp2_with fail
        refine (HP.out _).mono ?_
        rintro s w1 ⟨rfl, hb1⟩
        go_wp2
        go_ret
        exact ⟨ret_bool (by rw [HV.out]; simp [h7]), below_laid.trans (hb1.mono (by simp))⟩
      · have h5' : (b5 == o5) = false := by simpa using h5
        go_enter Try.func98, Try.ntmps98
        go_wp2
        go_ret
        exact ⟨ret_bool (by rw [HV.out]; simp [h5]), below_laid⟩
    · have h7' : decide (b7 ≥ 0) = false := by simpa using h7
      go_enter Try.func98, Try.ntmps98
      go_wp2
      go_ret
      exact ⟨ret_bool (by rw [HV.out, show decide (0 ≤ b7) = false by simpa using h7]; simp), below_laid⟩
end Go.Proofs.Ytcgbnlhloopnfaa
namespace Go.Proofs.Ytcgbnlhloopnfaa
open Go.RowKit

def idxI : Option Nat → Int
  | some i => i
  | none => -1

set_option maxHeartbeats 1000000 in
set_option maxRecDepth 100000 in
theorem index_du (p : Opr → Bool) (x0 : Nat) (os : List Opr) (A : Option Addr) (c B : Nat) (w : World) (h : OpS w B A os) (hB : B ≤ w.heap.size) (hlen : os.length ≤ 1000000)
    (hf : ∀ o ∈ os, ∀ w', Below w.heap.size w w' → Calls Try.prog 98 #[o.agg, .pointer (some ⟨x0, 0, none⟩)] w' fun r w2 => r = .returned (.bool (p o)) ∧ Below w'.heap.size w' w2) :
    Calls Try.prog 81 #[.slice A os.length c, .func (.func 98) #[] #[.pointer (some ⟨x0, 0, none⟩)]] w fun r w' => r = .returned (.int .i64 (idxI (os.findIdx? p))) ∧ Below w.heap.size w w' := by
  have HF := Lib.hid hf
  clear hf
  go_enter Try.func81, Try.ntmps81
  go_wp2
  go_loopw [8] (fun i wr => ∃ k : Nat, k ≤ os.length ∧ i = .int .i64 k ∧ (∀ j o, j < k → os[j]? = some o → p o = false) ∧ Below w.heap.size w wr) (fun i _ => os.length - (intOf i).toNat)
  case atStart => exact ⟨0, by omega, rfl, fun j _ hj => absurd hj (by omega), Below.refl _ _⟩
  case round =>
    obtain ⟨k, hk, rfl, hno, hb⟩ := hrel
    have HN := Lib.hid hno
    clear hno
    by_cases hlt : k < os.length
    · obtain ⟨b, off, o, rfl, hbB, ho, c0, c1, c2, c3, c4, c5, c6, c7⟩ := OpS.at_ (h.below' hb hB) hlt
      have HO := Lib.hid ho
      clear ho
      have hs := hb.size
      have HC := Lib.hid (HF.out o (List.mem_of_getElem? HO.out) wr hb)
      rcases hp : p o with _ | _
      · rw [hp] at HC
        have HP := Lib.hid hp
        clear hp
        go_wp2_with fail
        refine HC.out.mono ?_
        rintro r w1 ⟨rfl, hb1⟩
        go_wp2
        go_roundw
        case rel => exact ⟨k + 1, by omega, by go_num, fun j o' hj hjo => by
          rcases Nat.lt_or_eq_of_le (Nat.le_of_lt_succ hj) with hj' | rfl
          · exact HN.out j o' hj' hjo
          · rw [HO.out] at hjo; cases hjo; exact HP.out, hb.trans (hb1.mono hs)⟩
        case measure => simp [intOf]; omega
      · rw [hp] at HC
        have HP := Lib.hid hp
        clear hp
        go_wp2_with fail
        refine HC.out.mono ?_
        rintro r w1 ⟨rfl, hb1⟩
        go_wp2
        go_ret
        have hfi : os.findIdx? p = some k := by
          rw [List.findIdx?_eq_some_iff_getElem]
          have hel : os[k] = o := by have := HO.out; rw [List.getElem?_eq_getElem hlt] at this; exact Option.some.inj this
          exact ⟨hlt, by rw [hel]; exact HP.out, fun j hj => by rw [HN.out j os[j] hj (List.getElem?_eq_getElem (by omega))]; simp⟩
        exact ⟨ret_int (by rw [hfi]; rfl), hb.trans (hb1.mono hs)⟩
    · obtain rfl : k = os.length := by omega
      go_wp2
      go_ret
      have hfi : os.findIdx? p = none := by
        rw [List.findIdx?_eq_none_iff]
        intro o ho
        obtain ⟨j, hj, rfl⟩ := List.getElem_of_mem ho
        exact HN.out j _ hj (List.getElem?_eq_getElem hj)
      exact ⟨ret_int (by rw [hfi]; rfl), hb⟩

set_option maxHeartbeats 400000 in
theorem contains_du (p : Opr → Bool) (x0 : Nat) (os : List Opr) (A : Option Addr) (c B : Nat) (w : World) (h : OpS w B A os) (hB : B ≤ w.heap.size) (hlen : os.length ≤ 1000000)
    (hf : ∀ o ∈ os, ∀ w', Below w.heap.size w w' → Calls Try.prog 98 #[o.agg, .pointer (some ⟨x0, 0, none⟩)] w' fun r w2 => r = .returned (.bool (p o)) ∧ Below w'.heap.size w' w2) :
    Calls Try.prog 97 #[.slice A os.length c, .func (.func 98) #[] #[.pointer (some ⟨x0, 0, none⟩)]] w fun r w' => r = .returned (.bool (os.any p)) ∧ Below w.heap.size w w' := by
  have HI := Lib.hid (index_du p x0 os A c B w h hB hlen hf)
  rcases hfi : os.findIdx? p with _ | i
  · have HA : Hid (os.any p = false) := by
      rw [List.findIdx?_eq_none_iff] at hfi
      unfold Hid
      rw [List.any_eq_false]
      intro o ho
      rw [hfi o ho]
      simp
    rw [hfi] at HI
    simp only [idxI] at HI
    clear hf hfi
    go_enter Try.func97, Try.ntmps97
    go_wp2_with fail
    refine HI.out.mono ?_
    rintro r w1 ⟨rfl, hb1⟩
    go_wp2
    go_ret
    exact ⟨ret_bool HA.out.symm, hb1⟩
  · have HA : Hid (os.any p = true) := by
      obtain ⟨hlt, hp, _⟩ := List.findIdx?_eq_some_iff_getElem.1 hfi
      unfold Hid
      rw [List.any_eq_true]
      exact ⟨os[i], List.getElem_mem hlt, hp⟩
    rw [hfi] at HI
    simp only [idxI] at HI
    clear hf hfi
    go_enter Try.func97, Try.ntmps97
    go_wp2_with fail
    refine HI.out.mono ?_
    rintro r w1 ⟨rfl, hb1⟩
    go_wp2
    go_ret
    exact ⟨ret_bool (by rw [HA.out]), hb1⟩

set_option maxHeartbeats 1000000 in
set_option maxRecDepth 100000 in
theorem dur_any (os : List Opr) (o : Opr) (A : Option Addr) (c B : Nat) (w : World) (h : OpS w B A os) (hB : B ≤ w.heap.size) (hlen : os.length ≤ 1000000) :
    Calls Try.prog 70 #[.slice A os.length c, o.agg] w fun r w' => r = .returned (.bool (durI os o)) ∧ Below w.heap.size w w' := by
  have HV : Hid (durI os o = (decide (0 ≤ o.done) && ((o.write && o.barrier) || os.any (durB o)))) := rfl
  have HC : Hid (∀ W, Below w.heap.size w W → BoxO W w.heap.size o → Calls Try.prog 97 #[.slice A os.length c, .func (.func 98) #[] #[.pointer (some ⟨w.heap.size, 0, none⟩)]] W fun r w' => r = .returned (.bool (os.any (durB o))) ∧ Below W.heap.size W w') :=
    fun W hW hx => contains_du (durB o) w.heap.size os A c B W (h.below' hW hB) (Nat.le_trans hB hW.size) hlen (fun b _ w' hb => durb_any w.heap.size o b w' (hx.below hb))
  have hbx : BoxO (w.alloc (.cells o.cells.toArray 39)) w.heap.size o := ⟨by simp, fun k u hu => by rw [cell_of_row _ _ _ _ _ _ (heap_alloc_new w _)]; rw [← hu]; simp⟩
  have HC1 := Lib.hid (HC.out _ below_laid hbx)
  clear HC hbx h
  generalize os.any (durB o) = an at *
  obtain ⟨o0, o1, o2, o3, o4, o5, o6, o7⟩ := o
  unfold Opr.agg
  simp only [Opr.cells] at HC1 ⊢
  simp only at HV
  by_cases h7 : o7 < 0
  · have hd : decide (0 ≤ o7) = false := by simp; omega
    rw [hd] at HV
    go_enter Try.func70, Try.ntmps70
    go_wp2
    go_ret
    exact ⟨ret_bool (by rw [HV.out]; rfl), below_laid⟩
  · have hd : decide (0 ≤ o7) = true := by simp; omega
    rw [hd] at HV
    clear hd
    cases o3 <;> cases o4
    case neg.true.true =>
      go_enter Try.func70, Try.ntmps70
      go_wp2
      go_ret
      exact ⟨ret_bool (by rw [HV.out]; rfl), below_laid⟩
    all_goals
      go_enter Try.func70, Try.ntmps70
      go_wp2_with fail
      refine HC1.out.mono ?_
      rintro s w1 ⟨rfl, hb1⟩
      go_wp2
      go_ret
      exact ⟨ret_bool (by rw [HV.out]; rfl), below_laid.trans (hb1.mono (by simp))⟩
end Go.Proofs.Ytcgbnlhloopnfaa
