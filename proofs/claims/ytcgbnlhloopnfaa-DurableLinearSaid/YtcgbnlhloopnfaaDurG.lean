/- Walk of durable: begin. -/
import Derived.Test.YtcgbnlhloopnfaaDurF
import Derived.Test.YtcgbnlhloopnfaaGPrs
namespace Go.Proofs.Ytcgbnlhloopnfaa
open Go.RowKit

theorem idx_take_succ {os : List Opr} {k : Nat} {o : Opr} {p : Opr → Bool} (h : os[k]? = some o) : (os.take (k + 1)).findIdx? p = ((os.take k).findIdx? p).or (if p o then some k else none) := by
  rw [List.take_add_one, h]
  simp only [Option.toList_some]
  rw [List.findIdx?_append]
  have hk : k < os.length := (List.getElem?_eq_some_iff.1 h).1
  cases hp : p o <;> simp [hp, Nat.min_eq_left (Nat.le_of_lt hk)]
theorem any_idx {α : Type} {p : α → Bool} {l : List α} : l.any p = (l.findIdx? p).isSome := by
  rw [List.findIdx?_isSome]

def BegSome (w : World) (os : List Opr) (e : Ending) (w' : World) : Prop :=
  ∃ tb b c wb fw n sb fs m, e = .returned (.tuple #[.pointer (some ⟨tb, 0, none⟩), .bool true]) ∧ TrW w' tb b 0 c os wb fw n sb fs m ∧ SrcOk fw b 0 os ∧ (∀ o ∈ os, o.write = true → fs (.int .i64 o.id) = certB os o) ∧ Below w.heap.size w w'
def BegNil (w : World) (e : Ending) (w' : World) : Prop :=
  ∃ tb wb sb Av cv, e = .returned (.tuple #[.pointer (some ⟨tb, 0, none⟩), .bool true]) ∧ w'.heap[tb]? = some (.cells #[.slice Av 0 cv, .map (some wb), .map (some sb)] 107) ∧ Below w.heap.size w w'
def BegPost (w : World) (os : List Opr) (e : Ending) (w' : World) : Prop :=
  if tracO os then BegSome w os e w' else e = .returned (.tuple #[.pointer none, .bool false]) ∧ Below w.heap.size w w'
theorem BegPost.no {w w' : World} {os : List Opr} (h : tracO os = false) (hb : Below w.heap.size w w') : BegPost w os (.returned (.tuple #[.pointer none, .bool false])) w' := by
  unfold BegPost; rw [h]; exact ⟨rfl, hb⟩
theorem BegPost.yes {w w' : World} {os : List Opr} {e : Ending} (h : tracO os = true) (hb : BegSome w os e w') : BegPost w os e w' := by
  unfold BegPost; rw [if_pos h]; exact hb

set_option maxHeartbeats 1000000 in
set_option maxRecDepth 100000 in
theorem begin_none (l : List Ev) (A : Option Addr) (c B : Nat) (w : World) (h : EvS w B A l) (hB : B ≤ w.heap.size) (hlen : l.length ≤ 1000000) (hwf : WfOp l) (hos : parseL l = none) :
    Calls Try.prog 56 #[.slice A l.length c] w fun e w' => e = .returned (.tuple #[.pointer none, .bool false]) ∧ Below w.heap.size w w' := by
  have HO := Lib.hid (ops_none l A c B w h hB hlen hwf hos)
  clear hos
  go_enter Try.func56, Try.ntmps56
  go_wp2_with fail
  refine HO.out.mono ?_
  rintro r w1 ⟨rfl, hb1⟩
  go_wp2
  go_ret2
  exact ⟨rfl, hb1⟩

set_option maxHeartbeats 1000000 in
set_option maxRecDepth 100000 in
theorem begin_nil (l : List Ev) (A : Option Addr) (c B : Nat) (w : World) (h : EvS w B A l) (hB : B ≤ w.heap.size) (hlen : l.length ≤ 1000000) (hwf : WfOp l) (hos : parseL l = some []) :
    Calls Try.prog 56 #[.slice A l.length c] w (BegNil w) := by
  have HO := Lib.hid (ops_some l A c B w h hB hlen hwf [] hos)
  have hmm := @run_makeMap Try.prog
  clear hos
  go_enter Try.func56, Try.ntmps56
  go_wp2_with fail
  refine HO.out.mono ?_
  rintro r w1 ⟨v, rfl, hown, hb1⟩
  obtain ⟨Av, cv, hv, _, _⟩ := hown.form
  simp only [List.map_nil, List.length_nil] at hv
  subst hv
  clear hown
  go_wp2
  refine wp_loop_rounds 1 ?_
  rw [rounds_succ]
  go_wp2
  refine wp_loop_rounds 1 ?_
  rw [rounds_succ]
  go_wp2
  go_ret2
  refine ⟨w1.heap.size + 1 + 1, w1.heap.size, w1.heap.size + 1, Av, cv, rfl, ?_, hb1.trans (((below_two _ _ _).alloc (by simp; omega) _).mono hb1.size)⟩
  have := heap_alloc_new ((w1.alloc (.map #[] 0)).alloc (.map #[] 0)) (.cells #[.slice Av 0 cv, .map (some w1.heap.size), .map (some (w1.heap.size + 1))] 107)
  simpa using this

set_option maxHeartbeats 4000000 in
set_option maxRecDepth 100000 in
theorem begin_some (l : List Ev) (A : Option Addr) (c B : Nat) (w : World) (h : EvS w B A l) (hB : B ≤ w.heap.size) (hlen : l.length ≤ 1000000) (hwf : WfOp l) (os : List Opr) (hos : parseL l = some os) (hpos : 0 < os.length) (hwo : WfO os) :
    Calls Try.prog 56 #[.slice A l.length c] w (BegPost w os) := by
  have HO := Lib.hid (ops_some l A c B w h hB hlen hwf os hos)
  have HIDS := Lib.hid (parseL_ids hos).1
  have hol := (parseL_ids hos).2
  have hmm := @run_makeMap Try.prog
  have HW := Lib.hid hwo
  clear hos hwo
  go_enter Try.func56, Try.ntmps56
  go_wp2_with fail
  refine HO.out.mono ?_
  rintro r w1 ⟨v, rfl, hown, hb1⟩
  obtain ⟨g, cap, hv, hgb, hgl⟩ := hown.pos (by rw [List.length_map]; exact hpos)
  rw [List.length_map] at hv
  subst hv
  have HOPS := Lib.hid (show OpS w1 w1.heap.size (some ⟨g, 0, none⟩) os from hown.reads)
  clear hown
  go_wp2
  generalize hWt : ((w1.alloc _).alloc _).alloc _ = Wt
  have hbt : Below w1.heap.size w1 Wt := by rw [← hWt]; exact (below_two _ _ _).alloc (by simp; omega) _
  have htb : Wt.heap[w1.heap.size + 1 + 1]? = some (.cells #[.slice (some ⟨g, 0, none⟩) os.length cap, .map (some w1.heap.size), .map (some (w1.heap.size + 1))] 107) := by rw [← hWt]; have := heap_alloc_new ((w1.alloc (.map #[] 0)).alloc (.map #[] 0)) (.cells #[.slice (some ⟨g, 0, none⟩) os.length cap, .map (some w1.heap.size), .map (some (w1.heap.size + 1))] 107); simpa using this
  have hwm : MapG ptrC Wt Try.prog 142 w1.heap.size 0 (fun _ => none) := by rw [← hWt]; exact ((MapG.made (C := ptrC) w1 Try.prog 142).alloc _).alloc _
  have hsm : MapG boolC Wt Try.prog 3 (w1.heap.size + 1) 0 (fun _ => boolC.zero) := by rw [← hWt]; have := (MapG.made (C := boolC) (w1.alloc (.map #[] 0)) Try.prog 3).alloc (.cells #[.slice (some ⟨g, 0, none⟩) os.length cap, .map (some w1.heap.size), .map (some (w1.heap.size + 1))] 107); simpa using this
  clear hWt
  have HT := Lib.hid htb
  have HSM := Lib.hid hsm
  clear htb hsm
  go_loopw [26] (fun i wr => ∃ (k : Nat) (f : Lit → Option (Nat × Nat)), k ≤ os.length ∧ i = .int .i64 k ∧ tracTo os k = true ∧ MapG ptrC wr Try.prog 142 w1.heap.size k f ∧
      (∀ r v : Int, (Lit.int .i64 r).wf = true → (Lit.int .i64 v).wf = true → f (vKey r v) = ((os.take k).findIdx? (isSrc r v)).map fun i => (g, 0 + i * 8)) ∧ Wt.grownBy wr (some w1.heap.size)) (fun i _ => os.length - (intOf i).toNat)
  case atStart => exact ⟨0, fun _ => none, by omega, rfl, rfl, hwm, fun r v _ _ => rfl, World.grownBy.refl _ _⟩
  case round =>
    obtain ⟨k, f, hk, rfl, htr, hm, hf, hgr⟩ := hrel
    have hbr : Below w1.heap.size w1 wr := hbt.grown hgr hbt.size (by intro k hk; cases hk; exact Nat.le_refl _)
    have hbw : Below w.heap.size w wr := hb1.trans (hbr.mono hb1.size)
    have hzr := hbr.size
    have hz1 := hb1.size
    have hzt := hbt.size
    have htbl := heapLt HT.out
    have hztr := hgr.size
    have htb : wr.heap[w1.heap.size + 1 + 1]? = _ := (hgr.block _ htbl (by simp; omega)).trans HT.out
    have htl := heapLt htb
    have u0 : wr.cell? ⟨w1.heap.size + 1 + 1, 0, none⟩ = some (.slice (some ⟨g, 0, none⟩) os.length cap) := by rw [cell_of_row _ _ _ _ _ _ htb]; rfl
    have u1 : wr.cell? ⟨w1.heap.size + 1 + 1, 1, none⟩ = some (.map (some w1.heap.size)) := by rw [cell_of_row _ _ _ _ _ _ htb]; rfl
    have u2 : wr.cell? ⟨w1.heap.size + 1 + 1, 2, none⟩ = some (.map (some (w1.heap.size + 1))) := by rw [cell_of_row _ _ _ _ _ _ htb]; rfl
    have HM := Lib.hid hm
    have HF := Lib.hid hf
    have HTR := Lib.hid htr
    have HGR := Lib.hid hgr
    clear hm hf htr hgr htb htbl
    by_cases hlt : k < os.length
    · obtain ⟨b', off', o, hA, hxl, ho, c0, c1, c2, c3, c4, c5, c6, c7⟩ := OpS.at_ (HOPS.out.below hbr) hlt
      cases hA
      obtain ⟨wfr, wfv, wfi⟩ := HW.out o (List.mem_of_getElem? ho)
      have hgw : g < wr.heap.size := by omega
      simp only [Nat.zero_add] at c0 c1 c2 c3 c4 c5 c6 c7
      obtain ⟨oid, oreg, oval, owr, oba, oera, oca, odo⟩ := o
      simp only at c0 c1 c2 c3 c4 c5 c6 c7 wfr wfv wfi
      have HTS := Lib.hid (tracTo_succ ho)
      have HI := Lib.hid (fun p => idx_take_succ (p := p) ho)
      have HO := Lib.hid ho
      clear ho
      simp only at HTS
      cases owr
      · go_wp2
        go_roundw
        case rel => exact ⟨k + 1, f, by omega, by go_num, by rw [HTS.out, HTR.out]; rfl, by exact (by obtain ⟨D, h1, h2⟩ := HM.out; exact ⟨D, h1.mono (Nat.le_succ k), h2⟩), fun r v hr hv => by rw [HI.out]; simp only [isSrc]; simpa using HF.out r v hr hv, HGR.out⟩
        case measure => simp [intOf]; omega
      · go_wp2
        go_region
        go_wp2_with fail
        generalize hW : (wr.alloc _).drew = W
        have hbW : Below wr.heap.size wr W := by rw [← hW]; exact ((Below.refl _ _).alloc (Nat.le_refl _) _).drew
        have hxb : W.heap[wr.heap.size]? = some (.cells #[.int .i64 oreg, .int .i64 oval] 142) := by rw [← hW]; exact heap_alloc_new wr _
        clear hW
        have x0 : W.cell? ⟨wr.heap.size, 0, none⟩ = some (.int .i64 oreg) := by rw [cell_of_row _ _ _ _ _ _ hxb]; rfl
        have x1 : W.cell? ⟨wr.heap.size, 1, none⟩ = some (.int .i64 oval) := by rw [cell_of_row _ _ _ _ _ _ hxb]; rfl
        have u1' : W.cell? ⟨w1.heap.size + 1 + 1, 1, none⟩ = some (.map (some w1.heap.size)) := (hbW.cell (by exact htl)).trans u1
        have c2' : W.cell? ⟨g, k * 8 + 2, none⟩ = some (.int .i64 oval) := (hbW.cell (by exact hgw)).trans c2
        have hzW := hbW.size
        have hmW := HM.out.below hbW
        have hlook := fun n => (hmW.drewN n).look keyedVal Try.underlying105 (zeroPtr _) (keyOf_val _ _ wfr wfv) (vKey_lit _ _)
        rw [HF.out _ _ wfr wfv] at hlook
        have HMW := Lib.hid hmW
        have hbWw : Below w.heap.size w W := hbw.trans (hbW.mono (by omega))
        clear u0 u1 u2 c0 c1 c2 c3 c4 c5 c6 c7 hxb hmW
        have hno : Hid (∀ b : Bool, b = false → tracTo os (k + 1) = b → tracO os = false) := fun b hb h => tracTo_mono (by rw [h, hb]) (by omega) (Nat.le_refl _)
        by_cases hval : oval < 1
        · have HNO : Hid (tracO os = false) := hno.out _ rfl (by rw [HTS.out]; simp; intro _ h1; omega)
          go_wp2_with fail
          go_quiet (fail)
          go_wp2
          go_ret2
          exact BegPost.no HNO.out (below_drewN hbWw _)
        · have hval' : decide (oval < 1) = false := by simpa using hval
          have hany : (os.take k).any (isSrc oreg oval) = ((os.take k).findIdx? (isSrc oreg oval)).isSome := any_idx
          rcases hfi : (os.take k).findIdx? (isSrc oreg oval) with _ | i
          · rw [hfi] at hlook hany
            change ∀ n, (Instr.lookup _ _ _ _).run _ _ = Result.ok (Value.pointer none) _ at hlook
            have HFI := Lib.hid hfi
            have HTK : Hid (tracTo os (k + 1) = true) := by unfold Hid; rw [HTS.out, HTR.out, hany]; simp; omega
            clear hfi hany
            go_wp2_with fail
            go_quiet (fail)
            go_wp2_with fail
            have hmq := HMW.out.drewN nq
            generalize hWq : W.drewN nq = Wq
            rw [hWq] at hmq
            have v0 : Wq.cell? ⟨wr.heap.size, 0, none⟩ = some (.int .i64 oreg) := by rw [← hWq]; exact x0
            have v1 : Wq.cell? ⟨wr.heap.size, 1, none⟩ = some (.int .i64 oval) := by rw [← hWq]; exact x1
            have v2 : Wq.cell? ⟨w1.heap.size + 1 + 1, 1, none⟩ = some (.map (some w1.heap.size)) := by rw [← hWq]; exact u1'
            have hbq : Below wr.heap.size wr Wq := by rw [← hWq]; exact below_drewN hbW _
            clear hWq x0 x1 u1' hlook hbW hbWw HMW
            refine still_tail_drew 6 (by kernel_rfl) (by kernel_rfl) ?_
            simp only [List.take_succ_cons, List.take_zero, List.drop_succ_cons, List.drop_zero]
            repeat still_step
            refine wpStill_nil ?_
            refine wpList_putG rfl (.tmp 63) (.tmp 64) (.tmp 65) _ rfl keyedVal Try.underlying105 rfl (show MapG ptrC Wq.drew _ _ _ _ _ from hmq) (by unfold maxLen; omega) _ (vKey oreg oval) rfl (keyOf_val _ _ wfr wfv) (vKey_lit _ _) (some (g, k * 8)) rfl ?_
            intro w4 hm4 hg4
            go_wp2
            go_roundw
            case rel => exact ⟨k + 1, _, by omega, by go_num, HTK.out, hm4, fun r v hr hv => by
              rw [HI.out]
              unfold updK
              by_cases hrv : r = oreg ∧ v = oval
              · obtain ⟨rfl, rfl⟩ := hrv
                rw [WideAt.sameKey_self (vKey_lit _ _), HFI.out]
                simp [isSrc]
              · have hne : vKey r v ≠ vKey oreg oval := fun h => hrv (vKey_inj hr hv wfr wfv h)
                rw [Maps.sameKey_ne hne]
                have hs : isSrc r v ⟨oid, oreg, oval, true, oba, oera, oca, odo⟩ = false := by
                  simp only [isSrc]
                  rcases Classical.not_and_iff_not_or_not.1 hrv with h | h
                  · have : (oreg == r) = false := by simp; exact fun e => h e.symm
                    simp [this]
                  · have : (oval == v) = false := by simp; exact fun e => h e.symm
                    simp [this]
                rw [hs]
                simpa using HF.out r v hr hv, 
              ⟨hg4.os.trans (hbq.os.trans HGR.out.os), hg4.tape.trans (hbq.tape.trans HGR.out.tape), hg4.output.trans (hbq.output.trans HGR.out.output), by have h1 := hg4.size; have h2 := hbq.size; have h3 : Wq.drew.heap.size = Wq.heap.size := rfl; omega, fun b hb hne => by
                have h2 := hbq.size
                rw [hg4.block b (show b < Wq.drew.heap.size by show b < Wq.heap.size; omega) hne]
                show Wq.heap[b]? = _
                rw [hbq.block b (by omega), HGR.out.block b hb hne]⟩⟩
            case measure => simp [intOf]; omega
          · rw [hfi] at hlook hany
            change ∀ n, (Instr.lookup _ _ _ _).run _ _ = Result.ok (Value.pointer (some ⟨g, 0 + i * 8, none⟩)) _ at hlook
            have HNO : Hid (tracO os = false) := hno.out _ rfl (by rw [HTS.out, hany]; simp)
            clear hfi hany
            go_wp2_with fail
            go_quiet (fail)
            go_wp2
            go_ret2
            exact BegPost.no HNO.out (below_drewN hbWw _)
    · obtain rfl : k = os.length := by omega
      have htrac : tracO os = true := HTR.out
      have hsrc : SrcOk f g 0 os := fun r v hr hv => by have := HF.out r v hr hv; rw [List.take_length] at this; exact this
      have HSRC := Lib.hid hsrc
      have HTRAC := Lib.hid htrac
      clear hsrc htrac HTR HF hlt
      obtain ⟨wo, rfl⟩ : ∃ wo : World, wo = wr := ⟨_, rfl⟩
      go_wp2
      go_loopw [69] (fun i wr => ∃ (k : Nat) (fs : Lit → Bool), k ≤ os.length ∧ i = .int .i64 k ∧ MapG boolC wr Try.prog 3 (w1.heap.size + 1) k fs ∧
          (∀ j o, j < k → os[j]? = some o → o.write = true → fs (.int .i64 o.id) = certB os o) ∧ wo.grownBy wr (some (w1.heap.size + 1))) (fun i _ => os.length - (intOf i).toNat)
      case atStart => exact ⟨0, fun _ => boolC.zero, by omega, rfl, HSM.out.kept HGR.out (by simp), fun j _ hj => absurd hj (by omega), World.grownBy.refl _ _⟩
      case round =>
        obtain ⟨k, fs, hk, rfl, hm, hfs, hgr⟩ := hrel
        have hbr2 : Below w1.heap.size w1 wr := hbr.grown hgr hbr.size (by intro k hk; cases hk; omega)
        have hbw2 : Below w.heap.size w wr := hb1.trans (hbr2.mono hb1.size)
        have hzr2 := hbr2.size
        have hzo := hgr.size
        have htbo : wo.heap[w1.heap.size + 1 + 1]? = some (.cells #[.slice (some ⟨g, 0, none⟩) os.length cap, .map (some w1.heap.size), .map (some (w1.heap.size + 1))] 107) := (HGR.out.block _ (heapLt HT.out) (by simp; omega)).trans HT.out
        have htb : wr.heap[w1.heap.size + 1 + 1]? = _ := (hgr.block _ htl (by simp)).trans htbo
        have HTR := Lib.hid (show TrW wr (w1.heap.size + 1 + 1) g 0 cap os w1.heap.size f os.length (w1.heap.size + 1) fs k from ⟨htb, (HOPS.out.below hbr2).more hzr2, HM.out.kept hgr (by simp), hm⟩)
        have v0 : wr.cell? ⟨w1.heap.size + 1 + 1, 0, none⟩ = some (.slice (some ⟨g, 0, none⟩) os.length cap) := by rw [cell_of_row _ _ _ _ _ _ htb]; rfl
        have v2 : wr.cell? ⟨w1.heap.size + 1 + 1, 2, none⟩ = some (.map (some (w1.heap.size + 1))) := by rw [cell_of_row _ _ _ _ _ _ htb]; rfl
        have htl2 := heapLt htb
        have HM2 := Lib.hid hm
        have HFS := Lib.hid hfs
        have HGR2 := Lib.hid hgr
        clear hm hfs hgr htb htbo u0 u1 u2
        by_cases hlt : k < os.length
        · obtain ⟨b', off', o, hA, hxl, ho, c0, c1, c2, c3, c4, c5, c6, c7⟩ := OpS.at_ (HOPS.out.below hbr2) hlt
          cases hA
          obtain ⟨wfr, wfv, wfi⟩ := HW.out o (List.mem_of_getElem? ho)
          have hgw : g < wr.heap.size := by omega
          simp only [Nat.zero_add] at c0 c1 c2 c3 c4 c5 c6 c7
          have HO := Lib.hid ho
          clear ho
          have HC := Lib.hid (fun w h => certain_any (tb := w1.heap.size + 1 + 1) (b := g) (off := 0) (c := cap) (wb := w1.heap.size) (n := os.length) (sb := w1.heap.size + 1) (m := k) (os := os) (fw := f) (fs := fs) o w h HSRC.out HW.out (by omega))
          obtain ⟨oid, oreg, oval, owr, oba, oera, oca, odo⟩ := o
          generalize hcb : certB os ⟨oid, oreg, oval, owr, oba, oera, oca, odo⟩ = cb at *
          unfold Opr.agg at HC
          simp only at c0 c1 c2 c3 c4 c5 c6 c7 wfr wfv wfi HC
          have HCB := Lib.hid hcb
          clear hcb
          cases owr
          · go_wp2
            go_roundw
            case rel => exact ⟨k + 1, fs, by omega, by go_num, by exact (by obtain ⟨D, h1, h2⟩ := HM2.out.alloc _; exact ⟨D, h1.mono (Nat.le_succ k), h2⟩), (fun j o hj hjo hw => by
              rcases Nat.lt_or_eq_of_le (Nat.le_of_lt_succ hj) with hj' | rfl
              · exact HFS.out j o hj' hjo hw
              · rw [HO.out] at hjo; cases hjo; cases hw), ⟨HGR2.out.os, HGR2.out.tape, HGR2.out.output, by simp; omega, fun b hb hne => by rw [Below.heap_alloc _ _ _ (by omega)]; exact HGR2.out.block b hb hne⟩⟩
            case measure => simp [intOf]; omega
          · go_wp2_with fail
            generalize hW : wr.alloc _ = W
            have hbW : Below wr.heap.size wr W := by rw [← hW]; exact (Below.refl _ _).alloc (Nat.le_refl _) _
            have hxb : W.heap[wr.heap.size]? = some (.cells (Opr.cells ⟨oid, oreg, oval, true, oba, oera, oca, odo⟩).toArray 39) := by rw [← hW]; exact heap_alloc_new wr _
            clear hW
            obtain ⟨q0, q1, q2, q3, q4, q5, q6, q7⟩ := boxO hxb
            simp only at q0 q1 q2 q3 q4 q5 q6 q7
            have hzW := hbW.size
            have v2' : W.cell? ⟨w1.heap.size + 1 + 1, 2, none⟩ = some (.map (some (w1.heap.size + 1))) := (hbW.cell (by exact htl2)).trans v2
            have hTW := HTR.out.below hbW
            have R0 := cell_regrown q0
            have R1 := cell_regrown q1
            have R2 := cell_regrown q2
            have R3 := cell_regrown q3
            have R4 := cell_regrown q4
            have R5 := cell_regrown q5
            have R6 := cell_regrown q6
            have R7 := cell_regrown q7
            have Rv := cell_regrown v2'
            have HTW := Lib.hid hTW
            have hWm := HM2.out.below hbW
            clear hTW q0 q1 q2 q3 q4 q5 q6 q7 v2' v0 v2 c0 c1 c2 c3 c4 c5 c6 c7 hxb
            refine quiet_tail 9 (by kernel_rfl) (by kernel_rfl) ?_
            simp only [List.take_succ_cons, List.take_zero, List.drop_succ_cons, List.drop_zero]
            repeat (quiet_step (exact Calls.regrown_of (HC.out _ (HTW.out.below (below_regrown _ _ _)))))
            refine wpQuiet_nil ?_
            intro W2 hb2
            have hm2 := hWm.below hb2
            have hz2 := hb2.size
            refine wpList_putG rfl (.tmp 78) (.tmp 80) (.tmp 83) _ rfl keyedI Try.underlying63 rfl hm2 (by unfold maxLen; omega) _ (.int .i64 oid) rfl (Maps.keyOf_int_mk Try.underlying3 wfi) trivial cb rfl ?_
            intro w4 hm4 hg4
            clear R0 R1 R2 R3 R4 R5 R6 R7 Rv
            go_wp2
            go_roundw
            case rel => exact ⟨k + 1, _, by omega, by go_num, hm4, fun j o hj hjo hw => by
              unfold updK
              rcases Nat.lt_or_eq_of_le (Nat.le_of_lt_succ hj) with hj' | rfl
              · have hne : o.id ≠ oid := fun e => by
                  have := (List.getElem?_inj (l := os.map (·.id)) (i := j) (j := k) (by rw [List.length_map]; omega) HIDS.out).1 (by rw [List.getElem?_map, List.getElem?_map, hjo, HO.out]; simp [e])
                  omega
                have : Lit.sameKey (.int .i64 o.id) (.int .i64 oid) = false := by simp [Lit.sameKey, hne]
                rw [this]
                exact HFS.out j o hj' hjo hw
              · rw [HO.out] at hjo; cases hjo
                rw [WideAt.sameKey_self (a := .int .i64 oid) trivial]
                exact HCB.out.symm,
              ⟨hg4.os.trans (hb2.os.trans (hbW.os.trans HGR2.out.os)), hg4.tape.trans (hb2.tape.trans (hbW.tape.trans HGR2.out.tape)), hg4.output.trans (hb2.output.trans (hbW.output.trans HGR2.out.output)), by have h1 := hg4.size; omega, fun b hb hne => by
                rw [hg4.block b (by omega) hne, hb2.block b (by omega), hbW.block b (by omega), HGR2.out.block b hb hne]⟩⟩
            case measure => simp [intOf]; omega
        · obtain rfl : k = os.length := by omega
          go_wp2
          go_ret2
          exact BegPost.yes HTRAC.out ⟨_, _, _, _, _, _, _, _, _, rfl, HTR.out, HSRC.out, fun o ho hw => by
            obtain ⟨j, hj, rfl⟩ := List.getElem_of_mem ho
            exact HFS.out j _ hj (List.getElem?_eq_getElem hj) hw, hbw2⟩
end Go.Proofs.Ytcgbnlhloopnfaa
