/- Walks of durable: Check, Survivors, Traceable. -/
import Derived.Test.YtcgbnlhloopnfaaDurG
namespace Go.Proofs.Ytcgbnlhloopnfaa
open Go.RowKit

theorem elemFlt : Elem Try.prog 45 85 3 24 := Elem.mk (z := Flt.agg ⟨0, 0, 0⟩) Try.underlying45 (by kernel_rfl) (by decide) rfl
def WfE (l : List Ev) : Prop := ∀ e ∈ l, (Lit.int .i64 e.op).wf = true ∧ (Lit.int .i64 e.reg).wf = true ∧ (Lit.int .i64 e.val).wf = true
theorem WfE.op {l : List Ev} (h : WfE l) : WfOp l := fun e he => (h e he).1
theorem fin_reg (e : Ev) (i : Nat) (o : Opr) : (Opr.fin e i o).reg = o.reg := by unfold Opr.fin; split <;> rfl
theorem fin_val (e : Ev) (i : Nat) (o : Opr) : (Opr.fin e i o).val = o.val ∨ (Opr.fin e i o).val = e.val := by unfold Opr.fin; split; exact .inr rfl; exact .inl rfl
/-- what holds of each operation because it holds of the events -/
theorem pStep_all {l : List Ev} {k : Nat} {st st' : List Opr × Int} {e : Ev} {Q : Opr → Prop} (h : pStep l k st e = some st') (h0 : ∀ o ∈ st.1, Q o) (h1 : ∀ (era : Int), Q (Opr.of e era k)) (h2 : ∀ o, Q o → Q (Opr.fin e k o)) : ∀ o ∈ st'.1, Q o := by
  unfold pStep at h
  split at h
  · split at h
    · cases h
    · split at h
      · cases h
        intro o ho
        rcases List.mem_append.1 ho with ho | ho
        · exact h0 o ho
        · simp at ho; subst ho; exact h1 _
      · cases h
  · split at h
    · split at h
      · cases h
      · unfold pDone at h
        split at h
        · cases h
        · split at h
          · cases h
          · split at h
            · split at h
              · cases h
                intro o ho
                obtain ⟨o', ho', rfl⟩ := List.mem_map.1 ho
                exact h2 o' (h0 o' ho')
              · cases h
            · cases h
    · split at h
      · split at h
        · cases h
          exact h0
        · cases h
      · cases h
theorem parseTo_all {l : List Ev} {k : Nat} {st : List Opr × Int} {Q : Opr → Prop} (h : parseTo l k = some st) (h1 : ∀ (i : Nat) (e : Ev) (era : Int), l[i]? = some e → Q (Opr.of e era i)) (h2 : ∀ (i : Nat) (e : Ev) o, l[i]? = some e → Q o → Q (Opr.fin e i o)) : ∀ o ∈ st.1, Q o := by
  induction k generalizing st with
  | zero => simp [parseTo] at h; subst h; simp
  | succ k ih =>
    simp only [parseTo] at h
    split at h
    · cases h
    · rename_i st0 h0
      split at h
      · rename_i e he
        exact pStep_all h (ih h0) (fun era => h1 k e era he) (fun o ho => h2 k e o he ho)
      · cases h
        exact ih h0
theorem parseL_wfo {l : List Ev} {os : List Opr} (h : parseL l = some os) (hwf : WfE l) : WfO os := by
  unfold parseL at h
  obtain ⟨st, hst, rfl⟩ := Option.map_eq_some_iff.1 h
  refine parseTo_all (Q := fun o => (Lit.int .i64 o.reg).wf = true ∧ (Lit.int .i64 o.val).wf = true ∧ (Lit.int .i64 o.id).wf = true) hst (fun i e era he => ?_) (fun i e o he ho => ?_)
  · obtain ⟨a, b, c⟩ := hwf e (List.mem_of_getElem? he)
    exact ⟨b, c, a⟩
  · obtain ⟨a, b, c⟩ := hwf e (List.mem_of_getElem? he)
    refine ⟨by rw [fin_reg]; exact ho.1, ?_, by rw [fin_id]; exact ho.2.2⟩
    rcases fin_val e i o with h | h <;> rw [h]
    · exact ho.2.1
    · exact c

def fltOf (os : List Opr) (r : Opr) : Option Flt := if ansB r then judgeO os r else none
theorem checkO_eq (os : List Opr) : checkO os = os.filterMap (fltOf os) := rfl
def checkD (l : List Ev) : Option (List Flt) := match parseL l with
  | none => none
  | some os => if tracO os then some (checkO os) else none
def ChkSome (w : World) (fs : List Flt) (e : Ending) (w' : World) : Prop := ∃ v, e = .returned (.tuple #[v, .int .i64 0]) ∧ OwS w' w.heap.size 85 3 v (fs.map Flt.cells) ∧ Below w.heap.size w w'
def ChkNone (w : World) (e : Ending) (w' : World) : Prop := e = .returned (.tuple #[.slice none 0 0, .int .i64 1]) ∧ Below w.heap.size w w'
theorem Flt.one (e : Flt) : ∀ u ∈ e.cells, u.oneCell' = true := by
  intro u hu
  simp [Flt.cells] at hu
  rcases hu with rfl | rfl | rfl <;> rfl

set_option maxHeartbeats 1000000 in
set_option maxRecDepth 100000 in
theorem check_none (l : List Ev) (A : Option Addr) (c B : Nat) (w : World) (h : EvS w B A l) (hB : B ≤ w.heap.size) (hlen : l.length ≤ 1000000) (hwf : WfE l) (hos : checkD l = none) :
    Calls Try.prog 25 #[.slice A l.length c] w (ChkNone w) := by
  have HC : Hid (Calls Try.prog 56 #[.slice A l.length c] w fun e w' => e = .returned (.tuple #[.pointer none, .bool false]) ∧ Below w.heap.size w w') := by
    unfold checkD at hos
    rcases hp : parseL l with _ | os
    · exact begin_none l A c B w h hB hlen hwf.op hp
    · rw [hp] at hos
      have htr : tracO os = false := by
        rcases ht : tracO os with _ | _
        · rfl
        · simp [ht] at hos
      rcases Nat.eq_zero_or_pos os.length with h0 | h0
      · have : os = [] := List.eq_nil_of_length_eq_zero h0
        subst this
        cases htr
      · have := begin_some l A c B w h hB hlen hwf.op os hp h0 (parseL_wfo hp hwf)
        refine this.mono fun e w' hh => ?_
        unfold BegPost at hh
        rw [htr] at hh
        exact hh
  clear hos
  go_enter Try.func25, Try.ntmps25
  go_wp2_with fail
  refine HC.out.mono ?_
  rintro r w1 ⟨rfl, hb1⟩
  go_wp2
  go_ret2
  exact ⟨rfl, hb1⟩

set_option maxHeartbeats 2000000 in
set_option maxRecDepth 100000 in
theorem check_some (l : List Ev) (A : Option Addr) (c B : Nat) (w : World) (h : EvS w B A l) (hB : B ≤ w.heap.size) (hlen : l.length ≤ 1000000) (hwf : WfE l) (os : List Opr) (hos : parseL l = some os) (htr : tracO os = true) (hpos : 0 < os.length) :
    Calls Try.prog 25 #[.slice A l.length c] w (ChkSome w (checkO os)) := by
  have HC := begin_some l A c B w h hB hlen hwf.op os hos hpos (parseL_wfo hos hwf)
  unfold BegPost at HC
  simp only [htr, if_true] at HC
  have HCH := Lib.hid HC
  have HW := Lib.hid (parseL_wfo hos hwf)
  have hol := (parseL_ids hos).2
  clear hos htr HC
  go_enter Try.func25, Try.ntmps25
  go_wp2_with fail
  refine HCH.out.mono ?_
  rintro r w1 ⟨tb, b, c2, wb, fw, n, sb, fs, m, rfl, htr, hsrc, hfs, hb1⟩
  have htl := heapLt htr.blk
  have t0 : w1.cell? ⟨tb, 0, none⟩ = some (.slice (some ⟨b, 0, none⟩) os.length c2) := by rw [cell_of_row _ _ _ _ _ _ htr.blk]; rfl
  have HTR := Lib.hid htr
  have HSRC := Lib.hid hsrc
  have HFS := Lib.hid hfs
  have hz1 := hb1.size
  clear htr hsrc hfs
  go_wp2
  go_loopw [6, 23] (fun v i wr => ∃ k : Nat, k ≤ os.length ∧ i = .int .i64 k ∧ OwS wr w1.heap.size 85 3 v (((os.take k).filterMap (fltOf os)).map Flt.cells) ∧ Below w1.heap.size w1 wr) (fun _ i _ => os.length - (intOf i).toNat)
  case atStart => exact ⟨0, by omega, rfl, OwS.nil _ _ _ _, Below.refl _ _⟩
  case round =>
    obtain ⟨k, hk, rfl, hout, hb⟩ := hrel
    have hz := hb.size
    by_cases hlt : k < os.length
    · obtain ⟨b', off', o, hA, hxl, ho, c0, c1, c2', c3, c4, c5, c6, c7⟩ := OpS.at_ (HTR.out.ops.below hb) hlt
      cases hA
      obtain ⟨wfr, wfv, wfi⟩ := HW.out o (List.mem_of_getElem? ho)
      have hbl : b < wr.heap.size := by omega
      simp only [Nat.zero_add] at c0 c1 c2' c3 c4 c5 c6 c7
      have hTS : ((os.take (k + 1)).filterMap (fltOf os)) = ((os.take k).filterMap (fltOf os)) ++ (fltOf os o).toList := by
        rw [take_snoc' ho, List.filterMap_append]
        cases hq : fltOf os o <;> simp [hq]
      have HTS := Lib.hid hTS
      have hfl : ((os.take k).filterMap (fltOf os)).length ≤ k := Nat.le_trans (List.length_filterMap_le _ _) (by simp; omega)
      clear hTS ho
      have HA := Lib.hid (fun w => answered_any o w)
      have HJ := Lib.hid (fun w h => judge_any (tb := tb) (b := b) (off := 0) (c := c2) (wb := wb) (n := n) (sb := sb) (m := m) (os := os) (fw := fw) (fs := fs) o w h HSRC.out wfr wfv HW.out (by omega) HFS.out)
      have HFO : Hid (fltOf os o = if ansB o then judgeO os o else none) := rfl
      obtain ⟨oid, oreg, oval, owr, oba, oera, oca, odo⟩ := o
      generalize hab : ansB ⟨oid, oreg, oval, owr, oba, oera, oca, odo⟩ = ab at *
      generalize hjj : judgeO os ⟨oid, oreg, oval, owr, oba, oera, oca, odo⟩ = jj at *
      unfold Opr.agg at HA HJ
      simp only at c0 c1 c2' c3 c4 c5 c6 c7 wfr wfv wfi HA HJ
      clear hab hjj
      cases ab
      · go_wp2_with fail
        refine (HA.out _).mono ?_
        rintro r w2 ⟨rfl, hb2⟩
        have hb2' : Below wr.heap.size wr w2 := ((Below.refl _ _).alloc (Nat.le_refl _) _).trans (hb2.mono (by simp))
        go_wp2
        go_roundw
        case rel => exact ⟨k + 1, by omega, by go_num, by rw [HTS.out, HFO.out]; simpa using hout.below hb2', hb.trans (hb2'.mono hz)⟩
        case measure => simp [intOf]; omega
      · go_wp2_with fail
        refine (HA.out _).mono ?_
        rintro r w2 ⟨rfl, hb2⟩
        have hb2' : Below wr.heap.size wr w2 := ((Below.refl _ _).alloc (Nat.le_refl _) _).trans (hb2.mono (by simp))
        have hxb := boxO (o := ⟨oid, oreg, oval, owr, oba, oera, oca, odo⟩) (newBox hb2)
        obtain ⟨q0, q1, q2, q3, q4, q5, q6, q7⟩ := hxb
        simp only at q0 q1 q2 q3 q4 q5 q6 q7
        have hz2 := hb2'.size
        have hb12 : Below w1.heap.size w1 w2 := hb.trans (hb2'.mono hz)
        clear c0 c1 c2' c3 c4 c5 c6 c7 hb2
        go_wp2_with fail
        refine (HJ.out _ (HTR.out.below hb12)).mono ?_
        rintro r w3 ⟨rfl, hb3⟩
        have hb13 : Below w1.heap.size w1 w3 := hb12.trans (hb3.mono hb12.size)
        have hout3 := (hout.below hb2').below hb3
        have hz3 := hb13.size
        clear q0 q1 q2 q3 q4 q5 q6 q7
        rcases jj with _ | ⟨fk, fr, fb⟩
        · simp only [judgeV, Flt.agg]
          go_wp2
          go_roundw
          case rel => exact ⟨k + 1, by omega, by go_num, by rw [HTS.out, HFO.out]; simpa using hout3.alloc _, hb13.alloc hz3 _⟩
          case measure => simp [intOf]; omega
        · simp only [judgeV, Flt.agg]
          go_wp2_with (at_builtin; refine wpList_ap1 rfl (.tmp 37) (.tmp 39) _ rfl elemFlt rfl (hout3.alloc _) (Flt.cells ⟨fk, fr, fb⟩) _ rfl _ rfl (by simp) (Flt.one _) (by simp [maxLen]; omega) (by simp; omega) (by simp; omega) ?_)
          intro v4 w4 hown4 hg4 _
          have hb14 : Below w1.heap.size w1 w4 := ((hb13.alloc hz3 _).alloc (by simp; omega) _).grown hg4 (by simp; omega) (fun g hg => (hout3.lt hg).1)
          clear hg4
          go_wp2
          go_roundw
          case rel => exact ⟨k + 1, by omega, by go_num, by rw [HTS.out, HFO.out]; simpa using hown4, hb14⟩
          case measure => simp [intOf]; omega
    · obtain rfl : k = os.length := by omega
      rw [List.take_length] at hout
      go_wp2
      go_ret2
      exact ⟨_, rfl, hout.mono hz1, hb1.trans (hb.mono hz1)⟩
end Go.Proofs.Ytcgbnlhloopnfaa
