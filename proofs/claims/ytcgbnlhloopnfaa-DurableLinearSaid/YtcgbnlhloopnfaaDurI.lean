/- Walks of durable: Check on no operations, Survivors, Traceable. -/
import Derived.Test.YtcgbnlhloopnfaaDurH
import Derived.Test.YtcgbnlhloopnfaaGPln
namespace Go.Proofs.Ytcgbnlhloopnfaa
open Go.RowKit

set_option maxHeartbeats 1000000 in
set_option maxRecDepth 100000 in
theorem check_nil (l : List Ev) (A : Option Addr) (c B : Nat) (w : World) (h : EvS w B A l) (hB : B ≤ w.heap.size) (hlen : l.length ≤ 1000000) (hwf : WfE l) (hos : parseL l = some []) :
    Calls Try.prog 25 #[.slice A l.length c] w (ChkSome w []) := by
  have HC := Lib.hid (begin_nil l A c B w h hB hlen hwf.op hos)
  clear hos
  go_enter Try.func25, Try.ntmps25
  go_wp2_with fail
  refine HC.out.mono ?_
  rintro r w1 ⟨tb, wb, sb, Av, cv, rfl, hblk, hb1⟩
  have htl := heapLt hblk
  have t0 : w1.cell? ⟨tb, 0, none⟩ = some (.slice Av 0 cv) := by rw [cell_of_row _ _ _ _ _ _ hblk]; rfl
  clear hblk
  go_wp2
  refine wp_loop_rounds 1 ?_
  rw [rounds_succ]
  go_wp2
  go_ret2
  exact ⟨.slice none 0 0, rfl, OwS.nil _ _ _ _, hb1⟩

def ChkPost (l : List Ev) (w : World) (e : Ending) (w' : World) : Prop := match checkD l with
  | none => ChkNone w e w'
  | some fs => ChkSome w fs e w'
theorem check_any (l : List Ev) (A : Option Addr) (c B : Nat) (w : World) (h : EvS w B A l) (hB : B ≤ w.heap.size) (hlen : l.length ≤ 1000000) (hwf : WfE l) :
    Calls Try.prog 25 #[.slice A l.length c] w (ChkPost l w) := by
  unfold ChkPost
  rcases hd : checkD l with _ | fs
  · exact check_none l A c B w h hB hlen hwf hd
  · unfold checkD at hd
    rcases hp : parseL l with _ | os
    · rw [hp] at hd; cases hd
    · rw [hp] at hd
      rcases ht : tracO os with _ | _
      · simp [ht] at hd
      · simp [ht] at hd
        subst hd
        rcases Nat.eq_zero_or_pos os.length with h0 | h0
        · have : os = [] := List.eq_nil_of_length_eq_zero h0
          subst this
          exact check_nil l A c B w h hB hlen hwf hp
        · exact check_some l A c B w h hB hlen hwf os hp ht h0

def traceD (l : List Ev) : Bool := match parseL l with
  | none => false
  | some os => tracO os
/-- begin, in three cases -/
theorem begin_cases (l : List Ev) (A : Option Addr) (c B : Nat) (w : World) (h : EvS w B A l) (hB : B ≤ w.heap.size) (hlen : l.length ≤ 1000000) (hwf : WfE l) :
    (traceD l = false ∧ Calls Try.prog 56 #[.slice A l.length c] w fun e w' => e = .returned (.tuple #[.pointer none, .bool false]) ∧ Below w.heap.size w w') ∨
    (traceD l = true ∧ parseL l = some [] ∧ Calls Try.prog 56 #[.slice A l.length c] w (BegNil w)) ∨
    ∃ os, traceD l = true ∧ parseL l = some os ∧ 0 < os.length ∧ Calls Try.prog 56 #[.slice A l.length c] w (BegSome w os) := by
  unfold traceD
  rcases hp : parseL l with _ | os
  · exact .inl ⟨rfl, begin_none l A c B w h hB hlen hwf.op hp⟩
  · rcases Nat.eq_zero_or_pos os.length with h0 | h0
    · have : os = [] := List.eq_nil_of_length_eq_zero h0
      subst this
      exact .inr (.inl ⟨rfl, rfl, begin_nil l A c B w h hB hlen hwf.op hp⟩)
    · have hb := begin_some l A c B w h hB hlen hwf.op os hp h0 (parseL_wfo hp hwf)
      unfold BegPost at hb
      rcases ht : tracO os with _ | _
      · rw [ht] at hb
        exact .inl ⟨by simp [ht], hb⟩
      · rw [ht] at hb
        exact .inr (.inr ⟨os, by simp [ht], rfl, h0, hb⟩)

/-- what Survivors returns -/
def survB (os : List Opr) (cuts : Int) (o : Opr) : Bool := o.write && decide (o.era < cuts) && certB os o
def survO (os : List Opr) (cuts : Int) : List Int := (os.filter (survB os cuts)).map (·.id)
def survD (l : List Ev) : Option (List Int) := match parseL l with
  | none => none
  | some os => if tracO os then some (survO os (cutsN l l.length)) else none
def SurSome (w : World) (xs : List Int) (e : Ending) (w' : World) : Prop := ∃ v, e = .returned (.tuple #[v, .int .i64 0]) ∧ OwS w' w.heap.size 3 1 v (xs.map icell) ∧ Below w.heap.size w w'
theorem cutsN_bd (l : List Ev) (k : Nat) : 0 ≤ cutsN l k ∧ cutsN l k ≤ k := by
  unfold cutsN
  have h1 := List.countP_le_length (p := fun e : Ev => e.kind == 3) (l := l.take k)
  have h2 : (l.take k).length ≤ k := List.length_take_le _ _
  omega

set_option maxHeartbeats 1000000 in
set_option maxRecDepth 100000 in
theorem surv_none (l : List Ev) (A : Option Addr) (c : Nat) (w : World) (hc : Calls Try.prog 56 #[.slice A l.length c] w fun e w' => e = .returned (.tuple #[.pointer none, .bool false]) ∧ Below w.heap.size w w') :
    Calls Try.prog 49 #[.slice A l.length c] w (ChkNone w) := by
  have HC := Lib.hid hc
  clear hc
  go_enter Try.func49, Try.ntmps49
  go_wp2_with fail
  refine HC.out.mono ?_
  rintro r w1 ⟨rfl, hb1⟩
  go_wp2
  go_ret2
  exact ⟨rfl, hb1⟩

set_option maxHeartbeats 2000000 in
set_option maxRecDepth 100000 in
theorem surv_some (l : List Ev) (A : Option Addr) (c B : Nat) (w : World) (h : EvS w B A l) (hB : B ≤ w.heap.size) (hlen : l.length ≤ 1000000) (os : List Opr) (hol : os.length ≤ l.length) (hwo : WfO os) (hc : Calls Try.prog 56 #[.slice A l.length c] w (BegSome w os)) :
    Calls Try.prog 49 #[.slice A l.length c] w (SurSome w (survO os (cutsN l l.length))) := by
  have HC := Lib.hid hc
  have HW := Lib.hid hwo
  clear hc hwo
  go_enter Try.func49, Try.ntmps49
  go_wp2_with fail
  refine HC.out.mono ?_
  rintro r w1 ⟨tb, b, c2, wb, fw, n, sb, fs, m, rfl, htr, hsrc, hfs, hb1⟩
  have HTR := Lib.hid htr
  have HFS := Lib.hid hfs
  have hz1 := hb1.size
  clear htr hsrc hfs
  go_wp2
  go_loopw [6, 21] (fun n i wr => ∃ k : Nat, k ≤ l.length ∧ i = .int .i64 k ∧ n = .int .i64 (cutsN l k) ∧ Below w1.heap.size w1 wr) (fun _ i _ => l.length - (intOf i).toNat)
  case atStart => exact ⟨0, by omega, rfl, rfl, Below.refl _ _⟩
  case round =>
    obtain ⟨k, hk, rfl, rfl, hb⟩ := hrel
    have hz := hb.size
    have hbd := cutsN_bd l k
    have hbw : Below w.heap.size w wr := hb1.trans (hb.mono hz1)
    by_cases hlt : k < l.length
    · obtain ⟨b', off', e, rfl, hbB, he, c0, c1, c2', c3, c4, c5⟩ := EvS.at_ (h.below' hbw hB) (k := k) hlt
      have HCS := Lib.hid (cutsN_succ he)
      clear he
      have hbl : b' < wr.heap.size := by omega
      by_cases h3 : e.kind = 3
      · rw [if_pos h3] at HCS
        have h3' : (e.kind == 3) = true := by simp [h3]
        clear h3
        go_wp2
        go_roundw
        case rel => exact ⟨k + 1, by omega, by go_num, by rw [HCS.out], hb.alloc hz _⟩
        case measure => simp [intOf]; omega
      · rw [if_neg h3] at HCS
        have h3' : (e.kind == 3) = false := by simp [h3]
        clear h3
        go_wp2
        go_roundw
        case rel => exact ⟨k + 1, by omega, by go_num, by rw [HCS.out]; simp, hb.alloc hz _⟩
        case measure => simp [intOf]; omega
    · obtain rfl : k = l.length := by omega
      generalize hcu : cutsN l l.length = cu at *
      have HCU := Lib.hid hcu
      clear hcu hlt
      obtain ⟨wo, rfl⟩ : ∃ wo : World, wo = wr := ⟨_, rfl⟩
      have hto := HTR.out.below hb
      have htl := heapLt hto.blk
      have t0 : wo.cell? ⟨tb, 0, none⟩ = some (.slice (some ⟨b, 0, none⟩) os.length c2) := by rw [cell_of_row _ _ _ _ _ _ hto.blk]; rfl
      have HTO := Lib.hid hto
      clear hto
      go_wp2
      go_loopw [9, 36] (fun v i wr => ∃ k : Nat, k ≤ os.length ∧ i = .int .i64 k ∧ OwS wr wo.heap.size 3 1 v ((((os.take k).filter (survB os cu)).map (·.id)).map icell) ∧ Below wo.heap.size wo wr) (fun _ i _ => os.length - (intOf i).toNat)
      case atStart => exact ⟨0, by omega, rfl, OwS.nil _ _ _ _, Below.refl _ _⟩
      case round =>
        obtain ⟨k, hk, rfl, hout, hbo⟩ := hrel
        have hzo := hbo.size
        have hbr : Below w1.heap.size w1 wr := hb.trans (hbo.mono hz)
        by_cases hlt : k < os.length
        · have htr := HTO.out.below hbo
          obtain ⟨b', off', o, hA, hxl, ho, c0, c1, c2', c3, c4, c5, c6, c7⟩ := OpS.at_ htr.ops hlt
          cases hA
          obtain ⟨wfr, wfv, wfi⟩ := HW.out o (List.mem_of_getElem? ho)
          simp only [Nat.zero_add] at c0 c1 c2' c3 c4 c5 c6 c7
          have t2 : wr.cell? ⟨tb, 2, none⟩ = some (.map (some sb)) := by rw [cell_of_row _ _ _ _ _ _ htr.blk]; rfl
          have htl' := heapLt htr.blk
          have hTS : ((os.take (k + 1)).filter (survB os cu)) = ((os.take k).filter (survB os cu)) ++ (if survB os cu o then [o] else []) := by
            rw [take_snoc' ho, List.filter_append]
            cases hq : survB os cu o <;> simp [hq]
          have HTS := Lib.hid hTS
          have hfl : ((os.take k).filter (survB os cu)).length ≤ k := Nat.le_trans (List.length_filter_le _ _) (by simp; omega)
          have HF := Lib.hid (HFS.out o (List.mem_of_getElem? ho))
          have hlook := fun n => ((htr.sm.alloc (.cells #[.int .i64 o.id, .int .i64 o.reg, .int .i64 o.val, .bool o.write, .bool o.barrier, .int .i64 o.era, .int .i64 o.call, .int .i64 o.done] 39)).drewN n).look keyedI Try.underlying63 (zeroBool _) (Maps.keyOf_int_mk Try.underlying3 wfi) trivial
          change ∀ n, (Instr.lookup _ _ _ _).run _ _ = Result.ok (Value.bool (fs (.int .i64 o.id))) _ at hlook
          clear hTS ho htr
          have HS : Hid (survB os cu o = (o.write && decide (o.era < cu) && certB os o)) := rfl
          obtain ⟨oid, oreg, oval, owr, oba, oera, oca, odo⟩ := o
          simp only at c0 c1 c2' c3 c4 c5 c6 c7 hlook HF HS
          generalize fs (.int .i64 oid) = fv at *
          cases owr
          · go_wp2_with fail
            go_quiet (fail)
            go_wp2
            go_roundw
            case rel => exact ⟨k + 1, by omega, by go_num, by rw [HTS.out, HS.out]; simpa using (hout.alloc _).drewN nq, below_drewN (hbo.alloc hzo _) _⟩
            case measure => simp [intOf]; omega
          · by_cases hera : oera < cu
            · have HS2 : Hid (survB os cu ⟨oid, oreg, oval, true, oba, oera, oca, odo⟩ = fv) := by unfold Hid; rw [HS.out, HF.out rfl]; simp [hera]
              cases fv
              · go_wp2_with fail
                go_quiet (fail)
                go_wp2
                go_roundw
                case rel => exact ⟨k + 1, by omega, by go_num, by rw [HTS.out, HS2.out]; simpa using (hout.alloc _).drewN nq, below_drewN (hbo.alloc hzo _) _⟩
                case measure => simp [intOf]; omega
              · go_wp2_with fail
                go_quiet (fail)
                generalize hW : (wr.alloc _).drewN nq = W
                have hbW : Below wr.heap.size wr W := by rw [← hW]; exact below_drewN ((Below.refl _ _).alloc (Nat.le_refl _) _) _
                have hxb : W.heap[wr.heap.size]? = some (.cells (Opr.cells ⟨oid, oreg, oval, true, oba, oera, oca, odo⟩).toArray 39) := by rw [← hW]; exact heap_alloc_new wr _
                clear hW hlook
                obtain ⟨q0, -⟩ := boxO hxb
                simp only at q0
                have houtW := hout.below hbW
                have hbW1 : Below w1.heap.size w1 W := hbr.trans (hbW.mono hbr.size)
                have hzW := hbW1.size
                clear c0 c1 c2' c3 c4 c5 c6 c7 t2
                go_wp2_with (at_builtin; refine wpList_ap1 rfl (.tmp 57) (.tmp 60) _ rfl elemInt rfl houtW (icell oid) _ rfl _ rfl (by simp) (by intro u hu; simp [icell] at hu; subst hu; rfl) (by simp [maxLen]; omega) (by simp; omega) (Nat.le_trans hzo hbW.size) ?_)
                intro v4 w4 hown4 hg4 _
                have hb4 : Below wo.heap.size wo w4 := by
                  refine ((hbo.trans (hbW.mono hzo)).alloc (by have := hbW.size; omega) _).grown hg4 (by have := hbW.size; simp; omega) (fun g hg => ?_)
                  exact (houtW.lt hg).1
                clear hg4
                go_wp2
                go_roundw
                case rel => exact ⟨k + 1, by omega, by go_num, by rw [HTS.out, HS2.out]; simpa using hown4, hb4⟩
                case measure => simp [intOf]; omega
            · have hera' : decide (oera < cu) = false := by simpa using hera
              have HS2 : Hid (survB os cu ⟨oid, oreg, oval, true, oba, oera, oca, odo⟩ = false) := by unfold Hid; rw [HS.out, hera']; simp
              go_wp2_with fail
              go_quiet (fail)
              go_wp2
              go_roundw
              case rel => exact ⟨k + 1, by omega, by go_num, by rw [HTS.out, HS2.out]; simpa using (hout.alloc _).drewN nq, below_drewN (hbo.alloc hzo _) _⟩
              case measure => simp [intOf]; omega
        · obtain rfl : k = os.length := by omega
          rw [List.take_length] at hout
          go_wp2
          go_ret2
          exact ⟨_, rfl, hout.mono (by omega), hb1.trans (hbr.mono hz1)⟩

set_option maxHeartbeats 1000000 in
set_option maxRecDepth 100000 in
theorem surv_nil (l : List Ev) (A : Option Addr) (c B : Nat) (w : World) (h : EvS w B A l) (hB : B ≤ w.heap.size) (hlen : l.length ≤ 1000000) (hc : Calls Try.prog 56 #[.slice A l.length c] w (BegNil w)) :
    Calls Try.prog 49 #[.slice A l.length c] w (SurSome w []) := by
  have HC := Lib.hid hc
  clear hc
  go_enter Try.func49, Try.ntmps49
  go_wp2_with fail
  refine HC.out.mono ?_
  rintro r w1 ⟨tb, wb, sb, Av, cv, rfl, hblk, hb1⟩
  have HBK := Lib.hid hblk
  have hz1 := hb1.size
  clear hblk
  go_wp2
  go_loopw [6, 21] (fun n i wr => ∃ k : Nat, k ≤ l.length ∧ i = .int .i64 k ∧ n = .int .i64 (cutsN l k) ∧ Below w1.heap.size w1 wr) (fun _ i _ => l.length - (intOf i).toNat)
  case atStart => exact ⟨0, by omega, rfl, rfl, Below.refl _ _⟩
  case round =>
    obtain ⟨k, hk, rfl, rfl, hb⟩ := hrel
    have hz := hb.size
    have hbd := cutsN_bd l k
    have hbw : Below w.heap.size w wr := hb1.trans (hb.mono hz1)
    by_cases hlt : k < l.length
    · obtain ⟨b', off', e, rfl, hbB, he, c0, c1, c2', c3, c4, c5⟩ := EvS.at_ (h.below' hbw hB) (k := k) hlt
      have HCS := Lib.hid (cutsN_succ he)
      clear he
      have hbl : b' < wr.heap.size := by omega
      by_cases h3 : e.kind = 3
      · rw [if_pos h3] at HCS
        have h3' : (e.kind == 3) = true := by simp [h3]
        clear h3
        go_wp2
        go_roundw
        case rel => exact ⟨k + 1, by omega, by go_num, by rw [HCS.out], hb.alloc hz _⟩
        case measure => simp [intOf]; omega
      · rw [if_neg h3] at HCS
        have h3' : (e.kind == 3) = false := by simp [h3]
        clear h3
        go_wp2
        go_roundw
        case rel => exact ⟨k + 1, by omega, by go_num, by rw [HCS.out]; simp, hb.alloc hz _⟩
        case measure => simp [intOf]; omega
    · obtain rfl : k = l.length := by omega
      have hblk := heapBelow HBK.out hb
      have htl := heapLt hblk
      have t0 : wr.cell? ⟨tb, 0, none⟩ = some (.slice Av 0 cv) := by rw [cell_of_row _ _ _ _ _ _ hblk]; rfl
      clear hblk
      go_wp2
      refine wp_loop_rounds 1 ?_
      rw [rounds_succ]
      go_wp2
      go_ret2
      exact ⟨.slice none 0 0, rfl, OwS.nil _ _ _ _, hbw⟩

def SurPost (l : List Ev) (w : World) (e : Ending) (w' : World) : Prop := match survD l with
  | none => ChkNone w e w'
  | some xs => SurSome w xs e w'
theorem survivors_any (l : List Ev) (A : Option Addr) (c B : Nat) (w : World) (h : EvS w B A l) (hB : B ≤ w.heap.size) (hlen : l.length ≤ 1000000) (hwf : WfE l) :
    Calls Try.prog 49 #[.slice A l.length c] w (SurPost l w) := by
  unfold SurPost
  rcases begin_cases l A c B w h hB hlen hwf with ⟨ht, hc⟩ | ⟨ht, hp, hc⟩ | ⟨os, ht, hp, h0, hc⟩
  · have hs : survD l = none := by
      unfold traceD at ht
      unfold survD
      rcases hp : parseL l with _ | os
      · rfl
      · rw [hp] at ht
        simp only at ht
        simp [ht]
    rw [hs]
    exact surv_none l A c w hc
  · have hs : survD l = some [] := by
      unfold traceD at ht
      unfold survD
      rw [hp] at ht ⊢
      simp only at ht
      simp [ht, survO]
    rw [hs]
    exact surv_nil l A c B w h hB hlen hc
  · have hs : survD l = some (survO os (cutsN l l.length)) := by
      unfold traceD at ht
      unfold survD
      rw [hp] at ht ⊢
      simp only at ht
      simp [ht]
    rw [hs]
    exact surv_some l A c B w h hB hlen os (parseL_ids hp).2 (parseL_wfo hp hwf) hc
end Go.Proofs.Ytcgbnlhloopnfaa
