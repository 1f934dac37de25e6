/- Walks of tegularef45's Registers, Pending, Ints.
Walks of linear.precedes, tegularef46.effect and One.
Walk of linear.durable's closure.
Walk of linear.durable. (IndexFunc and ContainsFunc over its closure: lines of DurB.)
Histories that are laid step by step, each step a write or a read that is answered at once; a cut and a read behind them. Plain: no program is walked here.
A beginning of a linearizable history is linearizable: its operations beside those of the whole, and the order of its last era. Plain: no program is walked here. -/
import Derived.Test.YtcgbnlhloopnfaaDoorHIns
import Derived.Test.YtcgbnlhloopnfaaDoorGRef
import Derived.Test.YtcgbnlhloopnfaaDoorGPln
import Derived.StillTailTactics
import Derived.Laws.EntriesVeiled
namespace Go.Proofs.YtcgbnlhloopnfaaDoor
open Go.RowKit

def opsOr (l : List Ev) : List Opr := if validL l then rawOps l else []
theorem opsOr_len (l : List Ev) : (opsOr l).length ≤ l.length := by
  unfold opsOr
  split
  · exact (rawTo_bd l l.length).1
  · simp
def LayI (w : World) (xs : List Int) (e : Ending) (w' : World) : Prop := ∃ v, e = .returned v ∧ OwS w' w.heap.size 3 1 v (xs.map icell) ∧ Below w.heap.size w w'
theorem refops_or (l : List Ev) (A : Option Addr) (c B : Nat) (w : World) (h : EvS w B A l) (hB : B ≤ w.heap.size) (hlen : l.length ≤ 100000) :
    Calls Tryd.prog 37 #[.slice A l.length c] w fun r w' => ∃ v x, r = .returned (.tuple #[v, x]) ∧ OwS w' w.heap.size 64 8 v ((opsOr l).map Opr.cells) ∧ Below w.heap.size w w' := by
  unfold opsOr
  cases hv : validL l
  · refine (refops_not l A c B w h hB (by omega) hv).mono ?_
    rintro r w' ⟨rfl, hb⟩
    exact ⟨_, _, rfl, OwS.nil _ _ _ _, hb⟩
  · refine (refops_valid l A c B w h hB (by omega) hv).mono ?_
    rintro r w' ⟨v, rfl, ho, hb⟩
    exact ⟨_, _, rfl, ho, hb⟩
theorem regs_succ {os : List Opr} {k : Nat} {o : Opr} (h : os[k]? = some o) : regsO (os.take (k + 1)) = regsO (os.take k) ++ (if effB o then [o.reg] else []) := by
  unfold regsO
  rw [List.take_add_one, h]
  simp only [Option.toList_some, List.filter_append, List.map_append, List.filter_cons, List.filter_nil]
  split <;> rfl
theorem regsO_len (os : List Opr) : (regsO os).length ≤ os.length := by
  unfold regsO
  rw [List.length_map]
  exact List.length_filter_le _ _
theorem insI_len (l : List Int) (n : Int) : (insI l n).length ≤ l.length + 1 := by
  unfold insI
  split
  · omega
  · simp
    omega
theorem insAll_len (xs : List Int) : (insAll xs).length ≤ xs.length := by
  have : ∀ (xs acc : List Int), (xs.foldl insI acc).length ≤ acc.length + xs.length := by
    intro xs
    induction xs with
    | nil => intro acc; simp
    | cons a xs ih =>
      intro acc
      have h1 := ih (insI acc a)
      have h2 := insI_len acc a
      simp only [List.foldl_cons, List.length_cons]
      omega
  have := this xs []
  unfold insAll
  simpa using this

set_option maxHeartbeats 2000000 in
set_option maxRecDepth 100000 in
theorem refregs_any (l : List Ev) (A : Option Addr) (c B : Nat) (w : World) (h : EvS w B A l) (hB : B ≤ w.heap.size) (hlen : l.length ≤ 100000) :
    Calls Tryd.prog 25 #[.slice A l.length c] w (LayI w (insAll (regsO (opsOr l)))) := by
  have HO := Lib.hid (refops_or l A c B w h hB hlen)
  have hol := opsOr_len l
  clear h
  generalize opsOr l = os at *
  go_enter Tryd.func25, Tryd.ntmps25
  go_wp2_with fail
  refine HO.out.mono ?_
  rintro r w1 ⟨v, x, rfl, hown, hb1⟩
  have hz1 := hb1.size
  obtain ⟨Ao, co, rfl, -, -⟩ := hown.form
  rw [List.length_map] at hown ⊢
  have HOS := Lib.hid hown
  clear hown
  go_wp2
  go_loopw [3, 6] (fun v i wr => ∃ k : Nat, k ≤ os.length ∧ i = .int .i64 k ∧ OwS wr w.heap.size 3 1 v ((insAll (regsO (os.take k))).map icell) ∧ Below w1.heap.size w1 wr) (fun _ i _ => os.length - (intOf i).toNat)
  case atStart => exact ⟨0, by omega, rfl, OwS.nil _ _ _ _, Below.refl _ _⟩
  case round =>
    obtain ⟨k, hk, rfl, hout, hb⟩ := hrel
    have hz := hb.size
    by_cases hlt : k < os.length
    · have oe := HOS.out.below hb
      obtain ⟨g, c', hv, -, hg⟩ := oe.pos (by rw [List.length_map]; omega)
      injection hv with hv1 hv2 hv3
      subst hv1
      clear hv2 hv3
      obtain ⟨o, ho⟩ : ∃ o, os[k]? = some o := ⟨os[k], List.getElem?_eq_getElem hlt⟩
      have hrow : (os.map Opr.cells)[k]? = some o.cells := by rw [List.getElem?_map, ho]; rfl
      have d1 := oe.cell hrow (j := 1) rfl
      have d3 := oe.cell hrow (j := 3) rfl
      have d4 := oe.cell hrow (j := 4) rfl
      have hki : (k : Int) < (os.length : Int) := by omega
      have HRS := Lib.hid (regs_succ ho)
      have hll : (insAll (regsO (os.take k))).length ≤ 100000 := by
        have h1 := insAll_len (regsO (os.take k))
        have h2 := regsO_len (os.take k)
        rw [List.length_take] at h2
        omega
      obtain ⟨o0, o1, o2, o3, o4, o5, o6, o7⟩ := o
      simp only at d1 d3 d4
      have HIN := Lib.hid (insert_any (insAll (regsO (os.take k))) _ o1 w.heap.size wr hout (by omega) hll)
      clear oe hrow ho
      have hstep : ∀ bb, effB ⟨o0, o1, o2, o3, o4, o5, o6, o7⟩ = bb → insAll (regsO (os.take (k + 1))) = if bb then insI (insAll (regsO (os.take k))) o1 else insAll (regsO (os.take k)) := by
        intro bb hbb
        rw [HRS.out, hbb]
        cases bb
        · simp
        · simp only [if_true]; exact insAll_snoc _ _
      have HST := Lib.hid hstep
      clear hstep HRS hll
      cases o3 <;> cases o4
      · have HS : Hid (insAll (regsO (os.take (k + 1))) = insI (insAll (regsO (os.take k))) o1) := HST.out true rfl
        clear HST
        go_wp2_with fail
        refine HIN.out.mono ?_
        rintro r w2 ⟨v2, rfl, hown2, hb2⟩
        have hb12 := hb.trans (hb2.mono hz)
        go_wp2
        go_roundw
        case rel => exact ⟨k + 1, by omega, by go_num, by rw [HS.out]; exact hown2, hb12⟩
        case measure => simp [intOf]; omega
      · have HS : Hid (insAll (regsO (os.take (k + 1))) = insAll (regsO (os.take k))) := HST.out false rfl
        clear HST HIN
        go_wp2
        go_roundw
        case rel => exact ⟨k + 1, by omega, by go_num, by rw [HS.out]; exact hout, hb⟩
        case measure => simp [intOf]; omega
      all_goals
        have HS : Hid (insAll (regsO (os.take (k + 1))) = insI (insAll (regsO (os.take k))) o1) := HST.out true rfl
        clear HST
        go_wp2_with fail
        refine HIN.out.mono ?_
        rintro r w2 ⟨v2, rfl, hown2, hb2⟩
        have hb12 := hb.trans (hb2.mono hz)
        go_wp2
        go_roundw
        case rel => exact ⟨k + 1, by omega, by go_num, by rw [HS.out]; exact hown2, hb12⟩
        case measure => simp [intOf]; omega
    · obtain rfl : k = os.length := by omega
      rw [List.take_length] at hout
      go_wp2
      go_ret
      exact ⟨_, rfl, hout, hb1.trans (hb.mono hz1)⟩

def pendTo (l : List Ev) (os : List Opr) : List Int := (os.filter (refPend l)).map (·.id)
theorem pendTo_succ {l : List Ev} {os : List Opr} {k : Nat} {o : Opr} (h : os[k]? = some o) : pendTo l (os.take (k + 1)) = pendTo l (os.take k) ++ (if refPend l o then [o.id] else []) := by
  unfold pendTo
  rw [List.take_add_one, h]
  simp only [Option.toList_some, List.filter_append, List.map_append, List.filter_cons, List.filter_nil]
  split <;> rfl
theorem pendTo_len (l : List Ev) (os : List Opr) : (pendTo l os).length ≤ os.length := by
  unfold pendTo
  rw [List.length_map]
  exact List.length_filter_le _ _
theorem opsOr_call {l : List Ev} {o : Opr} (ho : o ∈ opsOr l) : 0 ≤ o.call ∧ o.call < l.length := by
  unfold opsOr at ho
  cases hv : validL l
  · rw [hv] at ho; simp at ho
  · rw [hv, if_pos rfl] at ho
    have h1 := parse_eq l
    rw [hv, if_pos rfl] at h1
    unfold parseL at h1
    obtain ⟨st, hst, h2⟩ := Option.map_eq_some_iff.1 h1
    rw [← h2] at ho
    exact (PInv.to hst).call o ho

end Go.Proofs.YtcgbnlhloopnfaaDoor
namespace Go.Proofs.YtcgbnlhloopnfaaDoor
open Go.RowKit

set_option maxHeartbeats 1000000 in
theorem precedes_any (a b : Opr) (w : World) : Calls Tryd.prog 66 #[a.agg, b.agg] w fun r w' => r = .returned (.bool (precO a b)) ∧ Below w.heap.size w w' := by
  obtain ⟨a0, a1, a2, a3, a4, a5, a6, a7⟩ := a
  obtain ⟨b0, b1, b2, b3, b4, b5, b6, b7⟩ := b
  have HV : Hid (precO ⟨a0, a1, a2, a3, a4, a5, a6, a7⟩ ⟨b0, b1, b2, b3, b4, b5, b6, b7⟩ = (decide (0 ≤ a7) && decide (a7 < b6))) := rfl
  unfold Opr.agg
  by_cases h : 0 ≤ a7
  · by_cases h2 : a7 < b6
    · go_enter Tryd.func66, Tryd.ntmps66
      go_wp2
      go_ret
      exact ⟨ret_bool (by rw [HV.out]; simp [h, h2]), ((Below.refl _ _).alloc (Nat.le_refl _) _).alloc (by simp) _⟩
    · go_enter Tryd.func66, Tryd.ntmps66
      go_wp2
      go_ret
      exact ⟨ret_bool (by rw [HV.out]; simp [h, h2]), ((Below.refl _ _).alloc (Nat.le_refl _) _).alloc (by simp) _⟩
  · go_enter Tryd.func66, Tryd.ntmps66
    go_wp2
    go_ret
    exact ⟨ret_bool (by rw [HV.out]; simp; omega), ((Below.refl _ _).alloc (Nat.le_refl _) _).alloc (by simp) _⟩

def oneL (l : List Ev) : Bool := validL l && decide ((insAll (regsO (opsOr l))).length ≤ 1)
set_option maxHeartbeats 1000000 in
theorem one_any (l : List Ev) (A : Option Addr) (c B : Nat) (w : World) (h : EvS w B A l) (hB : B ≤ w.heap.size) (hlen : l.length ≤ 100000) :
    Calls Tryd.prog 13 #[.slice A l.length c] w fun r w' => r = .returned (.bool (oneL l)) ∧ Below w.heap.size w w' := by
  have HV := Lib.hid (refvalid_any l A c B w h hB (by omega))
  have HR := Lib.hid (fun W (hW : Below w.heap.size w W) => refregs_any l A c B W (h.below' hW hB) (Nat.le_trans hB hW.size) hlen)
  have HO : Hid (oneL l = (validL l && decide ((insAll (regsO (opsOr l))).length ≤ 1))) := rfl
  clear h
  generalize insAll (regsO (opsOr l)) = gs at *
  cases hv : validL l
  · rw [hv] at HV HO
    clear hv
    go_enter Tryd.func13, Tryd.ntmps13
    go_wp2_with fail
    refine HV.out.mono ?_
    rintro s w1 ⟨rfl, hb1⟩
    go_wp2
    go_ret
    exact ⟨ret_bool (by rw [HO.out]; rfl), hb1⟩
  · rw [hv] at HV HO
    clear hv
    go_enter Tryd.func13, Tryd.ntmps13
    go_wp2_with fail
    refine HV.out.mono ?_
    rintro s w1 ⟨rfl, hb1⟩
    have hz1 := hb1.size
    go_wp2_with fail
    refine (HR.out _ hb1).mono ?_
    rintro s w2 ⟨v, rfl, hown, hb2⟩
    have hb12 := hb1.trans (hb2.mono hz1)
    obtain ⟨Ag, cg, rfl, -, -⟩ := hown.form
    rw [List.length_map]
    by_cases hg : gs.length ≤ 1
    · have hg' : (gs.length : Int) ≤ 1 := by omega
      go_wp2
      go_ret
      exact ⟨ret_bool (by rw [HO.out]; simp [hg]), hb12⟩
    · have hg' : ¬ (gs.length : Int) ≤ 1 := by omega
      go_wp2
      go_ret
      exact ⟨ret_bool (by rw [HO.out]; simp [hg]; omega), hb12⟩
end Go.Proofs.YtcgbnlhloopnfaaDoor
namespace Go.Proofs.YtcgbnlhloopnfaaDoor
open Go.RowKit

def durB (o b : Opr) : Bool := b.barrier && decide (0 ≤ b.done) && b.era == o.era && precO o b
/-- an operation in a block of its own -/
def BoxO (w : World) (x0 : Nat) (o : Opr) : Prop := x0 < w.heap.size ∧ ∀ k u, o.cells[k]? = some u → w.cell? ⟨x0, k, none⟩ = some u
theorem BoxO.below {w w' : World} {x0 : Nat} {o : Opr} (h : BoxO w x0 o) (hb : Below w.heap.size w w') : BoxO w' x0 o :=
  ⟨Nat.lt_of_lt_of_le h.1 hb.size, fun k u hu => (hb.cell (p := ⟨x0, k, none⟩) h.1).trans (h.2 k u hu)⟩

set_option maxHeartbeats 2000000 in
set_option maxRecDepth 100000 in
theorem durb_any (x0 : Nat) (o b : Opr) (w : World) (hx : BoxO w x0 o) :
    Calls Tryd.prog 65 #[b.agg, .pointer (some ⟨x0, 0, none⟩)] w fun r w' => r = .returned (.bool (durB o b)) ∧ Below w.heap.size w w' := by
  have HP := Lib.hid (fun W => precedes_any o b W)
  have HV : Hid (durB o b = (b.barrier && decide (0 ≤ b.done) && b.era == o.era && precO o b)) := rfl
  obtain ⟨hxl, hxc⟩ := hx
  have x0' := hxc 0 _ rfl
  have x1 := hxc 1 _ rfl
  have x2 := hxc 2 _ rfl
  have x3 := hxc 3 _ rfl
  have x4 := hxc 4 _ rfl
  have x5 := hxc 5 _ rfl
  have x6 := hxc 6 _ rfl
  have x7 := hxc 7 _ rfl
  have hne : x0 ≠ w.heap.size := by omega
  generalize precO o b = pb at *
  obtain ⟨o0, o1, o2, o3, o4, o5, o6, o7⟩ := o
  obtain ⟨b0, b1, b2, b3, b4, b5, b6, b7⟩ := b
  simp only at x0' x1 x2 x3 x4 x5 x6 x7 HV
  unfold Opr.agg at HP ⊢
  simp only at HP ⊢
  clear hxc
  cases b4
  · go_enter Tryd.func65, Tryd.ntmps65
    go_wp2
    go_ret
    exact ⟨ret_bool (by rw [HV.out]; simp), below_laid⟩
  · by_cases h7 : 0 ≤ b7
    · have h7' : decide (b7 ≥ 0) = true := by simpa using h7
      by_cases h5 : b5 = o5
      · subst h5
        go_enter Tryd.func65, Tryd.ntmps65
        go_wp2_with fail
        refine (HP.out _).mono ?_
        rintro s w1 ⟨rfl, hb1⟩
        go_wp2
        go_ret
        exact ⟨ret_bool (by rw [HV.out]; simp [h7]), below_laid.trans (hb1.mono (by simp))⟩
      · have h5' : (b5 == o5) = false := by simpa using h5
        go_enter Tryd.func65, Tryd.ntmps65
        go_wp2
        go_ret
        exact ⟨ret_bool (by rw [HV.out]; simp [h5]), below_laid⟩
    · have h7' : decide (b7 ≥ 0) = false := by simpa using h7
      go_enter Tryd.func65, Tryd.ntmps65
      go_wp2
      go_ret
      exact ⟨ret_bool (by rw [HV.out, show decide (0 ≤ b7) = false by simpa using h7]; simp), below_laid⟩
end Go.Proofs.YtcgbnlhloopnfaaDoor
namespace Go.Proofs.YtcgbnlhloopnfaaDoor
open Go.RowKit

def idxI : Option Nat → Int
  | some i => i
  | none => -1

set_option maxHeartbeats 1000000 in
set_option maxRecDepth 100000 in
theorem index_du (p : Opr → Bool) (x0 : Nat) (os : List Opr) (A : Option Addr) (c B : Nat) (w : World) (h : OpS w B A os) (hB : B ≤ w.heap.size) (hlen : os.length ≤ 1000000)
    (hf : ∀ o ∈ os, ∀ w', Below w.heap.size w w' → Calls Tryd.prog 65 #[o.agg, .pointer (some ⟨x0, 0, none⟩)] w' fun r w2 => r = .returned (.bool (p o)) ∧ Below w'.heap.size w' w2) :
    Calls Tryd.prog 74 #[.slice A os.length c, .func (.func 65) #[] #[.pointer (some ⟨x0, 0, none⟩)]] w fun r w' => r = .returned (.int .i64 (idxI (os.findIdx? p))) ∧ Below w.heap.size w w' := by
  have HF := Lib.hid hf
  clear hf
  go_enter Tryd.func74, Tryd.ntmps74
  go_wp2
  go_loopw [8] (fun i wr => ∃ k : Nat, k ≤ os.length ∧ i = .int .i64 k ∧ (∀ j o, j < k → os[j]? = some o → p o = false) ∧ Below w.heap.size w wr) (fun i _ => os.length - (intOf i).toNat)
  case atStart => exact ⟨0, by omega, rfl, fun j _ hj => absurd hj (by omega), Below.refl _ _⟩
  case round =>
    obtain ⟨k, hk, rfl, hno, hb⟩ := hrel
    have HN := Lib.hid hno
    clear hno
    by_cases hlt : k < os.length
    · obtain ⟨b, off, o, rfl, hbB, ho, c0, c1, c2, c3, c4, c5, c6, c7⟩ := OpS.at_ (h.below' hb hB) hlt
      have HO := Lib.hid ho
      clear ho
      have hs := hb.size
      have HC := Lib.hid (HF.out o (List.mem_of_getElem? HO.out) wr hb)
      rcases hp : p o with _ | _
      · rw [hp] at HC
        have HP := Lib.hid hp
        clear hp
        go_wp2_with fail
        refine HC.out.mono ?_
        rintro r w1 ⟨rfl, hb1⟩
        go_wp2
        go_roundw
        case rel => exact ⟨k + 1, by omega, by go_num, fun j o' hj hjo => by
          rcases Nat.lt_or_eq_of_le (Nat.le_of_lt_succ hj) with hj' | rfl
          · exact HN.out j o' hj' hjo
          · rw [HO.out] at hjo; cases hjo; exact HP.out, hb.trans (hb1.mono hs)⟩
        case measure => simp [intOf]; omega
      · rw [hp] at HC
        have HP := Lib.hid hp
        clear hp
        go_wp2_with fail
        refine HC.out.mono ?_
        rintro r w1 ⟨rfl, hb1⟩
        go_wp2
        go_ret
        have hfi : os.findIdx? p = some k := by
          rw [List.findIdx?_eq_some_iff_getElem]
          have hel : os[k] = o := by have := HO.out; rw [List.getElem?_eq_getElem hlt] at this; exact Option.some.inj this
          exact ⟨hlt, by rw [hel]; exact HP.out, fun j hj => by rw [HN.out j os[j] hj (List.getElem?_eq_getElem (by omega))]; simp⟩
        exact ⟨ret_int (by rw [hfi]; rfl), hb.trans (hb1.mono hs)⟩
    · obtain rfl : k = os.length := by omega
      go_wp2
      go_ret
      have hfi : os.findIdx? p = none := by
        rw [List.findIdx?_eq_none_iff]
        intro o ho
        obtain ⟨j, hj, rfl⟩ := List.getElem_of_mem ho
        exact HN.out j _ hj (List.getElem?_eq_getElem hj)
      exact ⟨ret_int (by rw [hfi]; rfl), hb⟩

set_option maxHeartbeats 400000 in
theorem contains_du (p : Opr → Bool) (x0 : Nat) (os : List Opr) (A : Option Addr) (c B : Nat) (w : World) (h : OpS w B A os) (hB : B ≤ w.heap.size) (hlen : os.length ≤ 1000000)
    (hf : ∀ o ∈ os, ∀ w', Below w.heap.size w w' → Calls Tryd.prog 65 #[o.agg, .pointer (some ⟨x0, 0, none⟩)] w' fun r w2 => r = .returned (.bool (p o)) ∧ Below w'.heap.size w' w2) :
    Calls Tryd.prog 64 #[.slice A os.length c, .func (.func 65) #[] #[.pointer (some ⟨x0, 0, none⟩)]] w fun r w' => r = .returned (.bool (os.any p)) ∧ Below w.heap.size w w' := by
  have HI := Lib.hid (index_du p x0 os A c B w h hB hlen hf)
  rcases hfi : os.findIdx? p with _ | i
  · have HA : Hid (os.any p = false) := by
      rw [List.findIdx?_eq_none_iff] at hfi
      unfold Hid
      rw [List.any_eq_false]
      intro o ho
      rw [hfi o ho]
      simp
    rw [hfi] at HI
    simp only [idxI] at HI
    clear hf hfi
    go_enter Tryd.func64, Tryd.ntmps64
    go_wp2_with fail
    refine HI.out.mono ?_
    rintro r w1 ⟨rfl, hb1⟩
    go_wp2
    go_ret
    exact ⟨ret_bool HA.out.symm, hb1⟩
  · have HA : Hid (os.any p = true) := by
      obtain ⟨hlt, hp, _⟩ := List.findIdx?_eq_some_iff_getElem.1 hfi
      unfold Hid
      rw [List.any_eq_true]
      exact ⟨os[i], List.getElem_mem hlt, hp⟩
    rw [hfi] at HI
    simp only [idxI] at HI
    clear hf hfi
    go_enter Tryd.func64, Tryd.ntmps64
    go_wp2_with fail
    refine HI.out.mono ?_
    rintro r w1 ⟨rfl, hb1⟩
    go_wp2
    go_ret
    exact ⟨ret_bool (by rw [HA.out]), hb1⟩

set_option maxHeartbeats 1000000 in
set_option maxRecDepth 100000 in
theorem dur_any (os : List Opr) (o : Opr) (A : Option Addr) (c B : Nat) (w : World) (h : OpS w B A os) (hB : B ≤ w.heap.size) (hlen : os.length ≤ 1000000) :
    Calls Tryd.prog 41 #[.slice A os.length c, o.agg] w fun r w' => r = .returned (.bool (durI os o)) ∧ Below w.heap.size w w' := by
  have HV : Hid (durI os o = (decide (0 ≤ o.done) && ((o.write && o.barrier) || os.any (durB o)))) := rfl
  have HC : Hid (∀ W, Below w.heap.size w W → BoxO W w.heap.size o → Calls Tryd.prog 64 #[.slice A os.length c, .func (.func 65) #[] #[.pointer (some ⟨w.heap.size, 0, none⟩)]] W fun r w' => r = .returned (.bool (os.any (durB o))) ∧ Below W.heap.size W w') :=
    fun W hW hx => contains_du (durB o) w.heap.size os A c B W (h.below' hW hB) (Nat.le_trans hB hW.size) hlen (fun b _ w' hb => durb_any w.heap.size o b w' (hx.below hb))
  have hbx : BoxO (w.alloc (.cells o.cells.toArray 94)) w.heap.size o := ⟨by simp, fun k u hu => by rw [cell_of_row _ _ _ _ _ _ (heap_alloc_new w _)]; rw [← hu]; simp⟩
  have HC1 := Lib.hid (HC.out _ below_laid hbx)
  clear HC hbx h
  generalize os.any (durB o) = an at *
  obtain ⟨o0, o1, o2, o3, o4, o5, o6, o7⟩ := o
  unfold Opr.agg
  simp only [Opr.cells] at HC1 ⊢
  simp only at HV
  by_cases h7 : o7 < 0
  · have hd : decide (0 ≤ o7) = false := by simp; omega
    rw [hd] at HV
    go_enter Tryd.func41, Tryd.ntmps41
    go_wp2
    go_ret
    exact ⟨ret_bool (by rw [HV.out]; rfl), below_laid⟩
  · have hd : decide (0 ≤ o7) = true := by simp; omega
    rw [hd] at HV
    clear hd
    cases o3 <;> cases o4
    case neg.true.true =>
      go_enter Tryd.func41, Tryd.ntmps41
      go_wp2
      go_ret
      exact ⟨ret_bool (by rw [HV.out]; rfl), below_laid⟩
    all_goals
      go_enter Tryd.func41, Tryd.ntmps41
      go_wp2_with fail
      refine HC1.out.mono ?_
      rintro s w1 ⟨rfl, hb1⟩
      go_wp2
      go_ret
      exact ⟨ret_bool (by rw [HV.out]; rfl), below_laid.trans (hb1.mono (by simp))⟩
end Go.Proofs.YtcgbnlhloopnfaaDoor
namespace Go.Proofs.YtcgbnlhloopnfaaDoor

theorem raw_of {l : List Ev} {os : List Opr} {era : Int} (h : parseS l = some (os, era)) : validL l = true ∧ rawOps l = os := by
  have h1 := parse_eq l
  rw [parseL_eq, h] at h1
  rcases hv : validL l with _ | _
  · rw [hv] at h1; simp at h1
  · rw [hv] at h1; simp at h1; exact ⟨rfl, h1.symm⟩
/-- a step: a write of v (f: it is forced) or a read that returns v -/
structure Stp where
  w : Bool
  v : Int
  f : Bool
  deriving DecidableEq
def stE (i : Nat) (s : Stp) : List Ev := [⟨1, i, s.w, 0, if s.w then s.v else 0, s.w && s.f⟩, ⟨2, i, s.w, 0, s.v, s.w && s.f⟩]
def stO (c : Nat) (era : Int) (i : Nat) (s : Stp) : Opr := ⟨i, 0, s.v, s.w, s.w && s.f, era, c, c + 1⟩
def stD : Stp := ⟨false, 0, false⟩
def sAt (ss : List Stp) (k : Nat) : Stp := (ss[k]?).getD stD
def stL (ss : List Stp) : Nat → List Ev
  | 0 => []
  | k + 1 => stL ss k ++ stE k (sAt ss k)
def stX (ss : List Stp) (k : Nat) : List Opr := (List.range k).map fun i => stO (2 * i) 0 i (sAt ss i)
theorem stL_len (ss : List Stp) (k : Nat) : (stL ss k).length = 2 * k := by
  induction k with
  | zero => rfl
  | succ k ih => simp only [stL, List.length_append, ih, stE, List.length_cons, List.length_nil]; omega
theorem stX_len (ss : List Stp) (k : Nat) : (stX ss k).length = k := by simp [stX]
theorem stX_id {ss : List Stp} {k : Nat} {x : Int} (hx : (k : Int) ≤ x) : findO (stX ss k) x = none := by
  unfold findO
  rw [List.find?_eq_none]
  intro o ho
  obtain ⟨i, hi, rfl⟩ := List.mem_map.1 ho
  have : i < k := by simpa using hi
  simp [stO]
  omega
theorem fin_old {os : List Opr} {e : Ev} {i : Nat} (h : findO os e.op = none) : os.map (Opr.fin e i) = os := by
  rw [List.map_congr_left (g := fun o => o) fun o ho => fin_other (findO_none h o ho), List.map_id']
/-- a step behind a history -/
theorem step_parse {l : List Ev} {os : List Opr} {era : Int} {i : Nat} {s : Stp} (h : parseS l = some (os, era)) (hf : findO os i = none) (hv : s.w = true → 0 ≤ s.v) :
    parseS (l ++ stE i s) = some (os ++ [stO l.length era i s], era) := by
  have h1 := parseS_call (e := ⟨1, i, s.w, 0, if s.w then s.v else 0, s.w && s.f⟩) h hf rfl (by
    unfold properB flushB
    have : ¬ ((i : Int) < 0 ∨ (0 : Int) < 0 ∨ (if s.w then s.v else 0) < 0) := by
      cases hw : s.w
      · simp
      · have := hv hw
        simp
        omega
    simp only [this, if_false]
    cases s.w <;> simp)
  have hfo : findO (os ++ [Opr.of ⟨1, i, s.w, 0, if s.w then s.v else 0, s.w && s.f⟩ era l.length]) (i : Int) = some (Opr.of ⟨1, i, s.w, 0, if s.w then s.v else 0, s.w && s.f⟩ era l.length) := by
    unfold findO at hf ⊢
    rw [List.find?_append, hf]
    simp [Opr.of]
  have h2 := parseS_done (e := ⟨2, i, s.w, 0, s.v, s.w && s.f⟩) h1 hfo (by simp [Opr.of]) rfl rfl rfl rfl rfl (by cases hw : s.w <;> simp [Opr.of])
  rw [List.append_assoc] at h2
  simp only [List.map_append] at h2
  rw [fin_old hf] at h2
  rw [show l ++ stE i s = l ++ ([⟨1, i, s.w, 0, if s.w then s.v else 0, s.w && s.f⟩] ++ [⟨2, i, s.w, 0, s.v, s.w && s.f⟩]) from rfl, h2]
  simp [Opr.fin, Opr.of, stO]
theorem stL_parse {ss : List Stp} (hv : ∀ s ∈ ss, s.w = true → 0 ≤ s.v) (k : Nat) : parseS (stL ss k) = some (stX ss k, 0) := by
  induction k with
  | zero => rfl
  | succ k ih =>
    have hvk : (sAt ss k).w = true → 0 ≤ (sAt ss k).v := by
      unfold sAt
      rcases hs : ss[k]? with _ | s
      · intro h; simp [stD] at h
      · exact hv s (List.mem_of_getElem? hs)
    simp only [stL]
    rw [step_parse ih (stX_id (Int.le_refl _)) hvk, stL_len]
    simp [stX, List.range_succ]
theorem stX_at {ss : List Stp} {k i : Nat} (h : i < k) : opAt (stX ss k) i = stO (2 * i) 0 i (sAt ss i) := by
  refine opAt_of ?_
  simp [stX, h]
theorem stX_eff (ss : List Stp) (k : Nat) : (eraO (stX ss k) 0).filter effB = stX ss k := by
  unfold eraO
  rw [List.filter_filter, List.filter_eq_self]
  intro o ho
  obtain ⟨i, hi, rfl⟩ := List.mem_map.1 ho
  simp only [stO, effB]
  cases (sAt ss i).w <;> simp
theorem stX_seq (ss : List Stp) (k : Nat) : SeqX (stX ss k) := by
  refine ⟨fun i hi => ?_, fun i j hij hj => ?_⟩
  · rw [stX_len] at hi
    rw [stX_at hi]
    simp only [stO]
    omega
  · rw [stX_len] at hj
    rw [stX_at hj, stX_at (by omega : i < k)]
    simp only [stO]
    omega
/-- the value behind the first m steps -/
def stV (ss : List Stp) : Nat → Int
  | 0 => 0
  | m + 1 => if (sAt ss m).w then (sAt ss m).v else stV ss m
theorem stX_val {ss : List Stp} {k : Nat} : ∀ {m : Nat}, m ≤ k → vAt (stX ss k) 0 m = stV ss m := by
  intro m
  induction m with
  | zero => intro _; rfl
  | succ m ih =>
    intro hm
    simp only [vAt, stV]
    rw [stX_at hm, ih (by omega)]
    rfl
theorem stX_ok {ss : List Stp} {k m : Nat} (hm : m < k) : okAt (stX ss k) 0 m = ((sAt ss m).w || (sAt ss m).v == stV ss m) := by
  unfold okAt
  rw [stX_val (by omega), stX_at hm]
  rfl
theorem cuts_app (a b : List Ev) : cutsL (a ++ b) = cutsL a + cutsL b := by unfold cutsL; exact List.countP_append
theorem cuts_stE (i : Nat) (s : Stp) : cutsL (stE i s) = 0 := by simp [cutsL, stE]
theorem stL_cuts (ss : List Stp) (k : Nat) : cutsL (stL ss k) = 0 := by
  induction k with
  | zero => rfl
  | succ k ih => simp only [stL]; rw [cuts_app, ih, cuts_stE]
theorem stX_ids {ss : List Stp} (k : Nat) : ((stX ss k).map (·.id)).Nodup := by
  unfold stX
  rw [List.map_map]
  exact List.pairwise_map.2 (List.nodup_range.imp fun {a b} h e => h (by simp [stO] at e; omega))
/-- a history of steps is of one register -/
theorem one_of {l : List Ev} (hv : validL l = true) (hr : ∀ o ∈ rawOps l, o.reg = 0) : oneL l = true := by
  unfold oneL
  rw [hv]
  simp only [Bool.true_and, decide_eq_true_eq]
  have ho : opsOr l = rawOps l := by unfold opsOr; rw [hv]; rfl
  rw [ho]
  obtain ⟨h1, h2⟩ := insAll_gen (regsO (rawOps l)) [] List.Pairwise.nil
  change (insAll (regsO (rawOps l))).Pairwise (· < ·) at h1
  change ∀ x, x ∈ insAll (regsO (rawOps l)) ↔ _ at h2
  have h0 : ∀ x ∈ insAll (regsO (rawOps l)), x = 0 := fun x hx => by
    rcases (h2 x).1 hx with h | h
    · simp at h
    · unfold regsO at h
      obtain ⟨o, ho, rfl⟩ := List.mem_map.1 h
      exact hr o (List.mem_filter.1 ho).1
  match insAll (regsO (rawOps l)), h1, h0 with
  | [], _, _ => simp
  | [_], _, _ => simp
  | a :: b :: r, h1, h0 =>
    have := (List.pairwise_cons.1 h1).1 b (by simp)
    have h3 := h0 a (by simp)
    have h4 := h0 b (by simp)
    omega
/-- LinearSequential: which lists have an explanation, and which one -/
theorem stL_exp {ss : List Stp} (hv : ∀ s ∈ ss, s.w = true → 0 ≤ s.v) (k : Nat) : ExpO (rawOps (stL ss k)) (cutsL (stL ss k)) 0 0 ↔ ∀ j, j < k → ((sAt ss j).w || (sAt ss j).v == stV ss j) = true := by
  rw [(raw_of (stL_parse hv k)).2, stL_cuts]
  have he : eraX (stX ss k) 0 = stX ss k := stX_eff ss k
  rw [seq_last (stX_ids k) (by rw [he]; exact stX_seq ss k), he, stX_len]
  exact ⟨fun h j hj => by rw [← stX_ok hj]; exact h j hj, fun h j hj => by rw [stX_ok hj]; exact h j hj⟩
theorem stL_one {ss : List Stp} (hv : ∀ s ∈ ss, s.w = true → 0 ≤ s.v) (k : Nat) {wl : List (List Int × Int)} (hl : wl.length = cutsL (stL ss k) + 1) (ha : accI (rawOps (stL ss k)) (cutsL (stL ss k)) 0 0 wl = true) :
    wl = [((List.range k).map fun (i : Nat) => (i : Int), (k : Int))] := by
  rw [(raw_of (stL_parse hv k)).2, stL_cuts] at ha
  rw [stL_cuts] at hl
  have he : eraX (stX ss k) 0 = stX ss k := stX_eff ss k
  have := seq_one (stX_ids k) (by rw [he]; exact stX_seq ss k) hl ha
  rw [this, he, stX_len]
  congr 2
  unfold idsOf
  refine List.map_congr_left fun i hi => ?_
  rw [stX_at (by simpa using hi)]
  rfl

/-! ### LinearForced -/
/-- the writes of the values 1, 2, ..; which of them are forced -/
def frcS (fs : List Bool) : List Stp := fs.zipIdx.map fun p => ⟨true, (p.2 : Int) + 1, p.1⟩
def frcL (fs : List Bool) (val : Int) : List Ev := stL (frcS fs) fs.length ++ [Ev.cut] ++ stE fs.length ⟨false, val, false⟩
def frcO (fs : List Bool) (val : Int) : List Opr := stX (frcS fs) fs.length ++ [stO (2 * fs.length + 1) 1 fs.length ⟨false, val, false⟩]
def lst (fs : List Bool) : Nat → Nat
  | 0 => 0
  | k + 1 => if (fs[k]?).getD false then k + 1 else lst fs k
theorem lst_le (fs : List Bool) (v : Nat) (n : Nat) : lst fs n ≤ v ↔ ∀ k, k < n → (fs[k]?).getD false = true → k < v := by
  induction n with
  | zero => simp [lst]
  | succ n ih =>
    simp only [lst]
    split
    · rename_i hf
      constructor
      · intro h k hk _
        omega
      · intro h
        have := h n (by omega) hf
        omega
    · rename_i hf
      rw [ih]
      constructor
      · intro h k hk hfk
        rcases Nat.lt_or_eq_of_le (Nat.le_of_lt_succ hk) with h1 | rfl
        · exact h k h1 hfk
        · exact absurd hfk hf
      · intro h k hk
        exact h k (by omega)
theorem frcS_at {fs : List Bool} {k : Nat} (hk : k < fs.length) : sAt (frcS fs) k = ⟨true, (k : Int) + 1, (fs[k]?).getD false⟩ := by
  unfold sAt frcS
  simp [hk]
theorem frcS_ok (fs : List Bool) : ∀ s ∈ frcS fs, s.w = true → 0 ≤ s.v := by
  intro s hs _
  obtain ⟨p, -, rfl⟩ := List.mem_map.1 hs
  show (0 : Int) ≤ (p.2 : Int) + 1
  omega
theorem frc_parse (fs : List Bool) (val : Int) : parseS (frcL fs val) = some (frcO fs val, 1) := by
  unfold frcL
  rw [step_parse (parseS_cut (stL_parse (frcS_ok fs) fs.length)) (stX_id (Int.le_refl _)) (fun h => by simp at h)]
  simp [frcO, stL_len]
theorem frc_cuts (fs : List Bool) (val : Int) : cutsL (frcL fs val) = 1 := by
  unfold frcL
  rw [cuts_app, cuts_app, stL_cuts, cuts_stE]
  rfl
theorem frc_era0 (fs : List Bool) (val : Int) : eraX (frcO fs val) 0 = stX (frcS fs) fs.length := by
  unfold eraX frcO eraO
  rw [List.filter_append, List.filter_append, show List.filter effB (List.filter (fun o => o.era == ((0 : Nat) : Int)) (stX (frcS fs) fs.length)) = stX (frcS fs) fs.length from stX_eff _ _]
  simp [stO]
theorem frc_era1 (fs : List Bool) (val : Int) : eraX (frcO fs val) 1 = [stO (2 * fs.length + 1) 1 fs.length ⟨false, val, false⟩] := by
  unfold eraX frcO eraO
  rw [List.filter_append, List.filter_append, show List.filter (fun o => o.era == ((1 : Nat) : Int)) (stX (frcS fs) fs.length) = [] from ?_]
  · simp [stO, effB]
  · rw [List.filter_eq_nil_iff]
    intro o ho
    obtain ⟨i, -, rfl⟩ := List.mem_map.1 ho
    simp [stO]
theorem frc_ids (fs : List Bool) (val : Int) : ((frcO fs val).map (·.id)).Nodup := by
  have := nd_ids (raw_of (frc_parse fs val)).1
  rwa [(raw_of (frc_parse fs val)).2] at this
theorem frc_safe {fs : List Bool} {val : Int} {i : Nat} (hi : i < fs.length) : safeX (frcO fs val) 0 i = true ↔ ∃ k, i ≤ k ∧ k < fs.length ∧ (fs[k]?).getD false = true := by
  unfold safeX
  rw [frc_era0, stX_at hi, frcS_at hi]
  unfold durI
  simp only [stO, Bool.and_eq_true, Bool.or_eq_true, decide_eq_true_eq, List.any_eq_true, Bool.true_and]
  constructor
  · rintro ⟨-, h | ⟨b, hb, ⟨⟨h1, h2⟩, h3⟩, h4⟩⟩
    · exact ⟨i, Nat.le_refl _, hi, h⟩
    · rcases List.mem_append.1 hb with hb | hb
      · obtain ⟨k, hk, rfl⟩ := List.mem_map.1 hb
        have hk' : k < fs.length := by simpa using hk
        rw [frcS_at hk'] at h1 h4
        simp only [stO, precO, Bool.and_eq_true, decide_eq_true_eq, Bool.true_and] at h1 h4
        exact ⟨k, by omega, hk', h1⟩
      · simp at hb
        subst hb
        simp [stO] at h3
  · rintro ⟨k, h1, h2, h3⟩
    refine ⟨by omega, ?_⟩
    rcases Nat.lt_or_eq_of_le h1 with hlt | rfl
    · refine .inr ⟨stO (2 * k) 0 k (sAt (frcS fs) k), List.mem_append_left _ (List.mem_map.2 ⟨k, by simpa using h2, rfl⟩), ?_⟩
      rw [frcS_at h2]
      simp only [stO, precO, Bool.and_eq_true, decide_eq_true_eq, Bool.true_and]
      refine ⟨⟨⟨h3, by omega⟩, by simp⟩, by omega, by omega⟩
    · exact .inl h3
theorem frc_val {fs : List Bool} : ∀ {m : Nat}, m ≤ fs.length → stV (frcS fs) m = m := by
  intro m
  induction m with
  | zero => intro _; rfl
  | succ m ih =>
    intro hm
    simp only [stV]
    rw [frcS_at hm]
    simp
theorem frc_exp (fs : List Bool) (val : Nat) : ExpO (rawOps (frcL fs val)) (cutsL (frcL fs val)) 0 0 ↔ lst fs fs.length ≤ val ∧ val ≤ fs.length := by
  rw [(raw_of (frc_parse fs val)).2, frc_cuts, seq_exp (frc_ids fs val) (by omega) (by rw [frc_era0]; exact stX_seq _ _), frc_era0, stX_len, lst_le]
  have h1 : ∀ v : Int, ExpO (frcO fs val) 1 (0 + 1) v ↔ (val : Int) = v := by
    intro v
    have hseq : SeqX (eraX (frcO fs val) 1) := by
      rw [frc_era1]
      refine ⟨fun k hk => ?_, fun i k hik hk => ?_⟩
      · obtain rfl : k = 0 := by simpa using hk
        simp only [opAt, List.getElem?_cons_zero, Option.getD_some, stO]
        omega
      · simp at hk; omega
    rw [Nat.zero_add, seq_last (frc_ids fs val) hseq, frc_era1]
    constructor
    · intro h
      have := h 0 (by simp)
      simpa [okAt, opAt, stO, vAt] using this
    · rintro rfl j hj
      obtain rfl : j = 0 := by simpa using hj
      simp [okAt, opAt, stO, vAt]
  constructor
  · rintro ⟨-, m, hm, hs, -, he⟩
    rw [h1, stX_val hm, frc_val hm] at he
    obtain rfl : val = m := by omega
    exact ⟨fun k hk hf => hs k hk ((frc_safe hk).2 ⟨k, Nat.le_refl _, hk, hf⟩), hm⟩
  · rintro ⟨hs, hm⟩
    refine ⟨fun j hj => ?_, val, hm, fun i hi h => ?_, fun h => by omega, ?_⟩
    · rw [stX_ok hj, frcS_at hj]
      rfl
    · obtain ⟨k, e1, e2, e3⟩ := (frc_safe hi).1 h
      have := hs k e2 e3
      omega
    · rw [h1, stX_val hm, frc_val hm]
end Go.Proofs.YtcgbnlhloopnfaaDoor
namespace Go.Proofs.YtcgbnlhloopnfaaDoor

/-- an operation of a beginning of m events in era E, beside the same one of the whole -/
def Ext (m : Nat) (E : Int) (a c : Opr) : Prop := c = a ∨ (a.done < 0 ∧ E ≤ a.era ∧ (m : Int) ≤ c.done ∧ c.id = a.id ∧ c.call = a.call ∧ c.era = a.era ∧ c.reg = a.reg ∧ c.write = a.write ∧ c.barrier = a.barrier ∧ (a.write = true → c.val = a.val))
def ExtL (m : Nat) (E : Int) (A C : List Opr) (ec : Int) : Prop := E ≤ ec ∧ ∃ (f : Opr → Opr) (N : List Opr), C = A.map f ++ N ∧ (∀ a ∈ A, Ext m E a (f a)) ∧ ∀ c ∈ N, (m : Int) ≤ c.call ∧ E ≤ c.era
theorem ext_step {l : List Ev} {m k : Nat} {E : Int} {A : List Opr} {st st' : List Opr × Int} {e : Ev} (hk : k < l.length) (hmk : m ≤ k) (h0 : parseTo l k = some st) (h : ExtL m E A st.1 st.2) (hs : pStep l k st e = some st') : ExtL m E A st'.1 st'.2 := by
  have hids := (PInv.to h0).ids
  have hpc := pcall_to (Nat.le_of_lt hk) h0
  obtain ⟨hE, f, N, hC, hf, hN⟩ := h
  unfold pStep at hs
  split at hs
  · split at hs
    · cases hs
    · split at hs
      · cases hs
        refine ⟨hE, f, N ++ [Opr.of e st.2 k], by simp [hC], hf, fun c hc => ?_⟩
        rcases List.mem_append.1 hc with hc | hc
        · exact hN c hc
        · simp at hc
          subst hc
          simp only [Opr.of]
          exact ⟨by omega, hE⟩
      · cases hs
  · split at hs
    · split at hs
      · cases hs
      · rename_i o ho
        obtain ⟨hom, hoi⟩ := findO_mem ho
        unfold pDone at hs
        split at hs
        · cases hs
        · rename_i hd
          split at hs
          · cases hs
          · rename_i hera
            have hera' : o.era = st.2 := Classical.byContradiction hera
            have hpo := hpc o hom (by omega)
            rw [hpo] at hs
            simp only at hs
            split at hs
            · rename_i hans
              cases hs
              refine ⟨hE, fun a => Opr.fin e k (f a), N.map (Opr.fin e k), by simp [hC, Function.comp_def], fun a ha => ?_, fun c hc => ?_⟩
              · have hfm : f a ∈ st.1 := by rw [hC]; exact List.mem_append_left _ (List.mem_map_of_mem ha)
                by_cases hid : (f a).id = e.op
                · have hfo : f a = o := opr_eq hids hfm hom (by rw [hid, hoi])
                  have hfa : f a = a := by
                    rcases hf a ha with h1 | h1
                    · exact h1
                    · have := h1.2.2.1
                      rw [hfo] at this
                      omega
                  right
                  show a.done < 0 ∧ E ≤ a.era ∧ (m : Int) ≤ (Opr.fin e k (f a)).done ∧ (Opr.fin e k (f a)).id = a.id ∧ (Opr.fin e k (f a)).call = a.call ∧ (Opr.fin e k (f a)).era = a.era ∧ (Opr.fin e k (f a)).reg = a.reg ∧ (Opr.fin e k (f a)).write = a.write ∧ (Opr.fin e k (f a)).barrier = a.barrier ∧ (a.write = true → (Opr.fin e k (f a)).val = a.val)
                  rw [hfa] at hfo hid ⊢
                  subst hfo
                  unfold Opr.fin
                  rw [if_pos hid]
                  refine ⟨by omega, by rw [hera']; exact hE, by simp; omega, rfl, rfl, rfl, rfl, rfl, rfl, fun hw => ?_⟩
                  unfold ansOk callOf at hans
                  simp only [Bool.and_eq_true, Bool.or_eq_true, beq_iff_eq, Bool.not_eq_true'] at hans
                  obtain ⟨⟨⟨⟨-, h2⟩, -⟩, h3⟩, -⟩ := hans
                  rcases h3 with h3 | h3
                  · rw [h2, hw] at h3; cases h3.1
                  · exact h3
                · show Ext m E a (Opr.fin e k (f a))
                  rw [show Opr.fin e k (f a) = f a by unfold Opr.fin; rw [if_neg hid]]
                  exact hf a ha
              · obtain ⟨c', hc', rfl⟩ := List.mem_map.1 hc
                rw [fin_call, show (Opr.fin e k c').era = c'.era by unfold Opr.fin; split <;> rfl]
                exact hN c' hc'
            · cases hs
    · split at hs
      · split at hs
        · cases hs
          exact ⟨by show E ≤ st.2 + 1; omega, f, N, hC, hf, hN⟩
        · cases hs
      · cases hs
theorem ext_to {l : List Ev} {m : Nat} {A : List Opr} {E : Int} (h0 : parseTo l m = some (A, E)) : ∀ k, m ≤ k → k ≤ l.length → ∀ st, parseTo l k = some st → ExtL m E A st.1 st.2 := by
  intro k hmk
  induction k with
  | zero =>
    intro _ st hst
    obtain rfl : m = 0 := by omega
    rw [h0] at hst
    cases hst
    exact ⟨Int.le_refl _, id, [], by simp, fun a _ => .inl rfl, by simp⟩
  | succ k ih =>
    intro hk st hst
    rcases Nat.lt_or_ge m (k + 1) with hlt | hge
    · rcases hp : parseTo l k with _ | st1
      · rw [parseTo_none (k := k) hp (Nat.le_succ _)] at hst
        cases hst
      · have he : l[k]? = some l[k] := List.getElem?_eq_getElem (by omega)
        rw [parseTo_at hp he] at hst
        exact ext_step (by omega) (by omega) hp (ih (by omega) (by omega) st1 hp) hst
    · obtain rfl : m = k + 1 := by omega
      rw [h0] at hst
      cases hst
      exact ⟨Int.le_refl _, id, [], by simp, fun a _ => .inl rfl, by simp⟩
theorem cutsN_all (l : List Ev) : cutsN l l.length = cutsL l := by unfold cutsN cutsL; rw [List.take_length]
/-- the operations of a beginning of a valid history -/
theorem pre_ops {l : List Ev} (hv : validL l = true) {m : Nat} (hm : m ≤ l.length) : validL (l.take m) = true ∧ (∀ a ∈ rawOps (l.take m), a.call < m ∧ a.done < m ∧ -1 ≤ a.done) ∧
    ExtL m (cutsL (l.take m)) (rawOps (l.take m)) (rawOps l) (cutsL l) := by
  obtain ⟨h1, h2⟩ := hist_to l l.length (Nat.le_refl _)
  rw [show validTo l l.length = validL l from rfl, hv] at h1 h2
  simp only [if_true] at h1
  rcases hp : parseTo l m with _ | ⟨A, E⟩
  · rw [parseTo_none hp hm] at h1; cases h1
  · have hle : (l.take m).length = m := by rw [List.length_take]; omega
    have h3 := parseTo_left (l.take m) (l.drop m) m (by omega)
    rw [List.take_append_drop, hp] at h3
    have h4 : parseS (l.take m) = some (A, E) := by unfold parseS; rw [hle]; exact h3.symm
    have h5 : validL (l.take m) = true ∧ rawOps (l.take m) = A := by
      have h1 := parse_eq (l.take m)
      rw [parseL_eq, h4] at h1
      rcases hv' : validL (l.take m) with _ | _
      · rw [hv'] at h1; simp at h1
      · rw [hv'] at h1; simp at h1; exact ⟨rfl, h1.symm⟩
    obtain ⟨g1, g2⟩ := hist_to (l.take m) (l.take m).length (Nat.le_refl _)
    have g3 := g2 h5.1
    have g4 := g3.era
    rw [cutsN_all] at g4
    have hE : E = cutsL (l.take m) := by
      rw [← g4]
      rw [show validTo (l.take m) (l.take m).length = validL (l.take m) from rfl, h5.1] at g1
      simp only [if_true] at g1
      have := (show parseTo (l.take m) (l.take m).length = some (A, E) from h4).symm.trans g1
      exact (congrArg Prod.snd (Option.some.inj this))
    refine ⟨h5.1, fun a ha => ?_, ?_⟩
    · obtain ⟨-, q1, q2, i, q3, q4, -⟩ := g3.op a.id a (findO_of (nd_ids h5.1) ha)
      rw [hle] at q4
      refine ⟨by omega, ?_⟩
      rcases findE_lt (l.take m) 2 a.id (l.take m).length with q5 | q5
      · rw [q2]
        have := q5.2.1
        have q6 := q5.1
        rw [hle] at this q6
        rw [hle]
        exact ⟨this, q6⟩
      · rw [q2, q5]
        exact ⟨by omega, by omega⟩
    · have q := ext_to hp l.length hm (Nat.le_refl _) _ h1
      rw [h5.2, ← hE]
      have hc := (h2 rfl).era
      rw [cutsN_all] at hc
      rw [← hc]
      exact q

/-! ### the eras -/
theorem ext_era {m : Nat} {E : Int} {a c : Opr} (h : Ext m E a c) : c.era = a.era ∧ effB c = effB a ∧ c.id = a.id ∧ c.call = a.call := by
  rcases h with rfl | ⟨-, -, -, h1, h2, h3, -, h4, h5, -⟩
  · exact ⟨rfl, rfl, rfl, rfl⟩
  · exact ⟨h3, by unfold effB; rw [h4, h5], h1, h2⟩
theorem ext_old {m : Nat} {E : Int} {A C : List Opr} {ec : Int} (h : ExtL m E A C ec) {k : Int} (hk : k < E) : eraO C k = eraO A k := by
  obtain ⟨-, f, N, rfl, hf, hN⟩ := h
  unfold eraO
  rw [List.filter_append, show N.filter (fun o => o.era == k) = [] from ?_, List.append_nil]
  · clear hN
    induction A with
    | nil => rfl
    | cons a A ih =>
      rw [List.map_cons, List.filter_cons, List.filter_cons, ih fun a ha => hf a (by simp [ha])]
      have h1 := hf a (by simp)
      rw [(ext_era h1).1]
      by_cases ha : (a.era == k) = true
      · rw [if_pos ha, if_pos ha]
        rcases h1 with h1 | h1
        · rw [h1]
        · have := h1.2.1
          simp at ha
          omega
      · rw [if_neg ha, if_neg ha]
  · rw [List.filter_eq_nil_iff]
    intro c hc
    have := (hN c hc).2
    simp
    omega
/-- what is kept of an order in a beginning of m events -/
def keepX (m : Nat) (o : Opr) : Bool := decide (o.call < m) && (o.write || (decide (0 ≤ o.done) && decide (o.done < m)))
def trO (m : Nat) (o : Opr) : Opr := if (m : Int) ≤ o.done then { o with done := -1 } else o
theorem val_writes {v : Int} : ∀ (xs : List Opr), (∀ o ∈ xs, o.write = true) → valOk v xs = true := by
  intro xs
  induction xs generalizing v with
  | nil => intro _; rfl
  | cons o xs ih => intro h; simp only [valOk, h o (by simp), Bool.true_or, Bool.true_and]; exact ih fun x hx => h x (by simp [hx])
theorem tr_val (m : Nat) (o : Opr) : (trO m o).write = o.write ∧ (trO m o).val = o.val ∧ (trO m o).id = o.id ∧ (trO m o).call = o.call := by unfold trO; split <;> exact ⟨rfl, rfl, rfl, rfl⟩
theorem val_keep {m : Nat} : ∀ (xs : List Opr) (v : Int), xs.Pairwise (fun a b => precO b a = false) → valOk v xs = true → valOk v ((xs.filter (keepX m)).map (trO m)) = true := by
  intro xs
  induction xs with
  | nil => intro v _ _; rfl
  | cons o xs ih =>
    intro v hp hv
    obtain ⟨hp1, hp2⟩ := List.pairwise_cons.1 hp
    simp only [valOk, Bool.and_eq_true] at hv
    obtain ⟨hv1, hv2⟩ := hv
    rw [List.filter_cons]
    rcases hk : keepX m o with _ | _
    · simp only [Bool.false_eq_true, if_false]
      rcases hw : o.write with _ | _
      · have : valTo o v = v := by unfold valTo; rw [hw]; rfl
        rw [this] at hv2
        exact ih v hp2 hv2
      · have hc : (m : Int) ≤ o.call := by
          unfold keepX at hk
          rw [hw] at hk
          simp at hk
          omega
        refine val_writes _ fun x hx => ?_
        obtain ⟨b, hb, rfl⟩ := List.mem_map.1 hx
        obtain ⟨hb1, hb2⟩ := List.mem_filter.1 hb
        rw [(tr_val m b).1]
        have h3 := hp1 b hb1
        unfold precO at h3
        unfold keepX at hb2
        rcases hbw : b.write with _ | _
        · rw [hbw] at hb2
          simp at hb2 h3
          have := h3 (by omega)
          omega
        · rfl
    · simp only [if_true, List.map_cons, valOk, Bool.and_eq_true]
      obtain ⟨t1, t2, -, -⟩ := tr_val m o
      refine ⟨by rw [t1, t2]; exact hv1, ?_⟩
      rw [show valTo (trO m o) v = valTo o v by unfold valTo; rw [t1, t2]]
      exact ih _ hp2 hv2
/-- the last era of a beginning -/
theorem pre_last {E E' : List Opr} (hids : (E.map (·.id)).Nodup) (hids' : (E'.map (·.id)).Nodup) {m : Nat} (h1 : ∀ o ∈ E, keepX m o = true → trO m o ∈ E') (h2 : ∀ o ∈ E', 0 ≤ o.done → o ∈ E ∧ keepX m o = true) {s s' : Opr → Bool} {kept v v' : Int} {ids : List Int} (h : followI E s kept v ids = some v') :
    ∃ ids' r, followI E' s' ids'.length v ids' = some r := by
  unfold followI at h
  rcases hr : runI E s kept 0 [] v v ids with _ | ⟨d, e⟩
  · rw [hr] at h; cases h
  · rw [hr] at h
    simp only at h
    split at h
    · rename_i hall
      have hall' : ∀ o ∈ E, 0 ≤ o.done → o.id ∈ d := fun o ho h0 => by
        have h3 := List.all_eq_true.1 hall o ho
        have h4 : decide (o.done < 0) = false := by simp; omega
        rw [h4] at h3
        exact List.contains_iff_mem.1 (by simpa using h3)
      obtain ⟨-, xs, g, -⟩ := runI_good ids 0 [] v v d _ List.nodup_nil hr hall'
      obtain ⟨g1, g2, g3, g4, g5, g6, g7, g8⟩ := g
      have hmap : ((xs.filter (keepX m)).map (trO m)).map (·.id) = (xs.filter (keepX m)).map (·.id) := by rw [List.map_map]; exact List.map_congr_left fun o _ => (tr_val m o).2.2.1
      have hlen : (((xs.filter (keepX m)).map (trO m)).map (·.id)).length = ((xs.filter (keepX m)).map (trO m)).length := List.length_map _
      have hgood : Good E' s' (((xs.filter (keepX m)).map (trO m)).map (·.id)).length 0 [] v (((xs.filter (keepX m)).map (trO m)).map (·.id)) ((xs.filter (keepX m)).map (trO m)) := by
        refine ⟨rfl, fun o ho => ?_, ?_, fun o ho => ?_, fun o ho h0 => ?_, ?_, val_keep xs v g6 g7, keepOk_all _ 0 (by rw [hlen]; simp)⟩
        · obtain ⟨b, hb, rfl⟩ := List.mem_map.1 ho
          obtain ⟨hb1, hb2⟩ := List.mem_filter.1 hb
          exact h1 b (g2 b hb1) hb2
        · rw [hmap]
          rw [List.nil_append, ← g1] at g3
          exact List.Nodup.sublist (List.Sublist.map _ List.filter_sublist) g3
        · obtain ⟨b, hb, rfl⟩ := List.mem_map.1 ho
          obtain ⟨hb1, hb2⟩ := List.mem_filter.1 hb
          rcases hw : b.write with _ | _
          · right
            unfold keepX at hb2
            rw [hw] at hb2
            simp at hb2
            unfold trO
            rw [if_neg (by omega)]
            omega
          · left; rw [(tr_val m b).1]; exact hw
        · obtain ⟨q1, q2⟩ := h2 o ho h0
          have q3 := g5 o q1 h0
          rw [List.nil_append, ← g1] at q3
          obtain ⟨b, hb, hbi⟩ := List.mem_map.1 q3
          have := opr_eq hids (g2 b hb) q1 hbi
          subst this
          rw [hmap, List.nil_append]
          exact List.mem_map.2 ⟨b, List.mem_filter.2 ⟨hb, q2⟩, rfl⟩
        · refine List.pairwise_map.2 ((List.Pairwise.sublist List.filter_sublist g6).imp fun {a b} hab => ?_)
          unfold precO at hab ⊢
          rw [(tr_val m a).2.2.2]
          unfold trO
          split
          · rfl
          · exact hab
      refine ⟨((xs.filter (keepX m)).map (trO m)).map (·.id), endAt (((xs.filter (keepX m)).map (trO m)).map (·.id)).length 0 v v ((xs.filter (keepX m)).map (trO m)), ?_⟩
      unfold followI
      rw [good_runI hids' _ 0 [] v v _ hgood]
      simp only
      rw [if_pos]
      rw [List.all_eq_true]
      intro o ho
      by_cases h0 : o.done < 0
      · simp [h0]
      · have := hgood.all o ho (by omega)
        rw [List.contains_iff_mem.2 this]
        simp
    · cases h
theorem pre_acc {m : Nat} {A C : List Opr} {c c' : Nat} (hids : (C.map (·.id)).Nodup) (hids' : (A.map (·.id)).Nodup) (hA : ∀ a ∈ A, a.call < m ∧ a.done < m ∧ -1 ≤ a.done) (h : ExtL m c' A C c) : ∀ (wl : List (List Int × Int)) (k : Nat) (v : Int), k ≤ c' → wl.length + k = c + 1 → accI C c k v wl = true → ∃ wl' : List (List Int × Int), wl'.length + k = c' + 1 ∧ accI A c' k v wl' = true := by
  have hcc : c' ≤ c := by have := h.1; omega
  intro wl
  induction wl with
  | nil => intro k v hk hl _; simp at hl; omega
  | cons w r ih =>
    intro k v hk hl ha
    rw [List.length_cons] at hl
    rw [accI] at ha
    split at ha
    · rename_i hok
      rcases hf : followI ((eraO C k).filter effB) (durI C) w.2 v w.1 with _ | v'
      · rw [hf] at ha; cases ha
      · rw [hf] at ha
        simp only at ha
        rcases Nat.lt_or_eq_of_le hk with hlt | rfl
        · obtain ⟨r', e1, e2⟩ := ih (k + 1) v' (by omega) (by omega) ha
          have he := ext_old h (k := (k : Int)) (by omega)
          refine ⟨w :: r', by simp; omega, ?_⟩
          rw [accI]
          have hk1 : (k == c') = false := by simp; omega
          have hk2 : (k == c) = false := by simp; omega
          rw [hk2] at hok
          rw [hk1, if_pos hok, ← he]
          have hcg : followI ((eraO C k).filter effB) (durI A) w.2 v w.1 = followI ((eraO C k).filter effB) (durI C) w.2 v w.1 := by
            have hnd : ((eraO C k).map (·.id)).Nodup := List.Nodup.sublist (List.Sublist.map _ List.filter_sublist) hids
            rw [follow_eq hnd, follow_eq hnd]
            refine followR_congr _ _ _ fun o ho => ?_
            have hoe : o.era = (k : Int) := by simpa using (List.mem_filter.1 ho).2
            rw [dur_eq, dur_eq, hoe, he]
          rw [hcg, hf]
          exact e2
        · obtain ⟨-, f, N, hC, hf', hN⟩ := h
          have hndC : (((eraO C k).filter effB).map (·.id)).Nodup := eraX_ids hids k
          have hndA : (((eraO A k).filter effB).map (·.id)).Nodup := eraX_ids hids' k
          have k1 : ∀ o ∈ (eraO C k).filter effB, keepX m o = true → trO m o ∈ (eraO A k).filter effB := by
            intro o ho hko
            obtain ⟨ho1, ho2⟩ := List.mem_filter.1 ho
            obtain ⟨ho3, ho4⟩ := List.mem_filter.1 ho1
            rw [hC] at ho3
            rcases List.mem_append.1 ho3 with ho3 | ho3
            · obtain ⟨a, ha', rfl⟩ := List.mem_map.1 ho3
              have hx := hf' a ha'
              obtain ⟨x1, x2, x3, x4⟩ := ext_era hx
              have hta : trO m (f a) = a := by
                rcases hx with hx | ⟨y1, -, y2, y3, y4, y5, y6, y7, y8, y9⟩
                · rw [hx]
                  unfold trO
                  rw [if_neg (by have := (hA a ha').2.1; omega)]
                · unfold trO
                  rw [if_pos y2]
                  have hw : a.write = true := by
                    unfold keepX at hko
                    rcases hw : a.write with _ | _
                    · rw [y7, hw] at hko
                      simp at hko
                      omega
                    · rfl
                  have hd1 : a.done = -1 := by have := (hA a ha').2.2; omega
                  rcases hfa : f a with ⟨q0, q1, q2, q3, q4, q5, q6, q7⟩
                  rw [hfa] at y2 y3 y4 y5 y6 y7 y8 y9
                  rcases a with ⟨p0, p1, p2, p3, p4, p5, p6, p7⟩
                  simp_all
              rw [hta]
              exact List.mem_filter.2 ⟨List.mem_filter.2 ⟨ha', by rw [← x1]; exact ho4⟩, by rw [← x2]; exact ho2⟩
            · have := (hN o ho3).1
              unfold keepX at hko
              simp at hko
              omega
          have k2 : ∀ o ∈ (eraO A k).filter effB, 0 ≤ o.done → o ∈ (eraO C k).filter effB ∧ keepX m o = true := by
            intro o ho h0
            obtain ⟨ho1, ho2⟩ := List.mem_filter.1 ho
            obtain ⟨ho3, ho4⟩ := List.mem_filter.1 ho1
            have hx := hf' o ho3
            have hfo : f o = o := by
              rcases hx with hx | hx
              · exact hx
              · omega
            refine ⟨List.mem_filter.2 ⟨List.mem_filter.2 ⟨?_, ho4⟩, ho2⟩, ?_⟩
            · rw [hC]
              exact List.mem_append_left _ (List.mem_map.2 ⟨o, ho3, hfo⟩)
            · have := hA o ho3
              unfold keepX
              simp
              refine ⟨this.1, .inr ⟨h0, this.2.1⟩⟩
          obtain ⟨ids', rv, hr⟩ := pre_last (s' := durI A) hndC hndA (m := m) k1 k2 hf
          refine ⟨[(ids', (ids'.length : Int))], by simp; omega, ?_⟩
          rw [accI]
          rw [if_pos (by unfold keptOk; simp), hr]
          rfl
    · cases ha
theorem pre_lin {l : List Ev} (hv : validL l = true) {m : Nat} (hm : m ≤ l.length) (h : ExpO (rawOps l) (cutsL l) 0 0) : ExpO (rawOps (l.take m)) (cutsL (l.take m)) 0 0 := by
  obtain ⟨h1, h2, h3⟩ := pre_ops hv hm
  obtain ⟨wl, e1, e2⟩ := h
  exact pre_acc (nd_ids hv) (nd_ids h1) h2 h3 wl 0 0 (Nat.zero_le _) e1 e2
theorem one_sub {os os' : List Opr} (h : ∀ x ∈ regsO os', x ∈ regsO os) (h1 : (insAll (regsO os)).length ≤ 1) : (insAll (regsO os')).length ≤ 1 := by
  obtain ⟨a1, a2⟩ := insAll_gen (regsO os) [] List.Pairwise.nil
  obtain ⟨b1, b2⟩ := insAll_gen (regsO os') [] List.Pairwise.nil
  change ∀ x, x ∈ insAll (regsO os) ↔ _ at a2
  change (insAll (regsO os')).Pairwise (· < ·) at b1
  change ∀ x, x ∈ insAll (regsO os') ↔ _ at b2
  have hsub : ∀ x ∈ insAll (regsO os'), x ∈ insAll (regsO os) := fun x hx => (a2 x).2 (.inr (h x (((b2 x).1 hx).resolve_left (by simp))))
  match insAll (regsO os'), b1, hsub with
  | [], _, _ => simp
  | [_], _, _ => simp
  | a :: b :: r, b1, hsub =>
    have h2 := (List.pairwise_cons.1 b1).1 b (by simp)
    have h3 := hsub a (by simp)
    have h4 := hsub b (by simp)
    match insAll (regsO os), h1, h3, h4 with
    | [], _, h3, _ => simp at h3
    | [c], _, h3, h4 => simp at h3 h4; omega
    | _ :: _ :: _, h1, _, _ => simp at h1
theorem pre_one {l : List Ev} (h : oneL l = true) {m : Nat} (hm : m ≤ l.length) : oneL (l.take m) = true := by
  unfold oneL at h ⊢
  rw [Bool.and_eq_true] at h
  obtain ⟨hv, h1⟩ := h
  obtain ⟨e1, -, -, f, N, hC, hf, -⟩ := pre_ops hv hm
  rw [e1]
  simp only [Bool.true_and, decide_eq_true_eq] at h1 ⊢
  have o1 : opsOr l = rawOps l := by unfold opsOr; rw [hv]; rfl
  have o2 : opsOr (l.take m) = rawOps (l.take m) := by unfold opsOr; rw [e1]; rfl
  rw [o1] at h1
  rw [o2]
  refine one_sub (fun x hx => ?_) h1
  unfold regsO at hx ⊢
  obtain ⟨a, ha, rfl⟩ := List.mem_map.1 hx
  obtain ⟨ha1, ha2⟩ := List.mem_filter.1 ha
  have hr : (f a).reg = a.reg := by
    rcases hf a ha1 with h | ⟨-, -, -, -, -, -, h, -⟩
    · rw [h]
    · exact h
  rw [← hr]
  refine List.mem_map_of_mem (List.mem_filter.2 ⟨?_, by rw [(ext_era (hf a ha1)).2.1]; exact ha2⟩)
  rw [hC]
  exact List.mem_append_left _ (List.mem_map_of_mem ha1)
theorem pre_len {l : List Ev} (hv : validL l = true) {m : Nat} (hm : m ≤ l.length) (k : Nat) : (eraX (rawOps (l.take m)) k).length ≤ (eraX (rawOps l) k).length := by
  obtain ⟨-, -, -, f, N, hC, hf, -⟩ := pre_ops hv hm
  rw [hC]
  unfold eraX eraO
  rw [List.filter_append, List.filter_append, List.length_append]
  refine Nat.le_trans ?_ (Nat.le_add_right _ _)
  generalize rawOps (l.take m) = A at hf
  clear hC
  induction A with
  | nil => simp
  | cons a A ih =>
    have h1 := ih fun a ha => hf a (by simp [ha])
    obtain ⟨x1, x2, -, -⟩ := ext_era (hf a (by simp))
    simp only [List.map_cons, List.filter_cons, x1]
    split
    · simp only [List.filter_cons, x2]
      split
      · simp only [List.length_cons]; omega
      · exact h1
    · exact h1
theorem pre_cuts (l : List Ev) (m : Nat) : cutsL (l.take m) ≤ cutsL l := (List.take_sublist m l).countP_le
end Go.Proofs.YtcgbnlhloopnfaaDoor
