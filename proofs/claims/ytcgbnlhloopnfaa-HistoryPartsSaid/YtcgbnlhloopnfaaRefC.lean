/- Walk of tegularef45.Ops. -/
import Derived.Test.YtcgbnlhloopnfaaRefB
import Derived.Test.YtcgbnlhloopnfaaMem
import Derived.Test.YtcgbnlhloopnfaaSpecB
namespace Go.Proofs.Ytcgbnlhloopnfaa
open Go.RowKit

theorem elemROp : Elem Try.prog 69 72 8 56 := Elem.mk (z := (Opr.agg ⟨0, 0, 0, false, false, 0, 0, 0⟩)) Try.underlying69 (by kernel_rfl) (by decide) rfl

/-- the state of the inner loop behind m rounds -/
def finTo (e : Ev) (i : Nat) (os : List Opr) (m : Nat) : List Opr := (os.take m).map (Opr.fin e i) ++ os.drop m
theorem finTo_length (e : Ev) (i : Nat) (os : List Opr) (m : Nat) : (finTo e i os m).length = os.length := by
  unfold finTo; simp; omega
theorem finTo_get {e : Ev} {i : Nat} {os : List Opr} {m : Nat} {o : Opr} (h : os[m]? = some o) : (finTo e i os m)[m]? = some o := by
  unfold finTo
  have hm : m < os.length := (List.getElem?_eq_some_iff.1 h).1
  rw [List.getElem?_append_right (by simp; omega)]
  simp [Nat.min_eq_left (Nat.le_of_lt hm), h]
theorem finTo_succ {e : Ev} {i : Nat} {os : List Opr} {m : Nat} {o : Opr} (h : os[m]? = some o) : finTo e i os (m + 1) = (finTo e i os m).set m (Opr.fin e i o) := by
  unfold finTo
  have hm : m < os.length := (List.getElem?_eq_some_iff.1 h).1
  have hd : os.drop m = o :: os.drop (m + 1) := by
    rw [List.drop_eq_getElem_cons hm]
    rw [List.getElem?_eq_getElem hm] at h
    cases h; rfl
  rw [List.take_add_one, h, hd, List.set_append_right _ _ (by simp; omega)]
  simp [Nat.min_eq_left (Nat.le_of_lt hm)]
theorem finTo_skip {e : Ev} {i : Nat} {os : List Opr} {m : Nat} {o : Opr} (h : os[m]? = some o) (hne : o.id ≠ e.op) : finTo e i os (m + 1) = finTo e i os m := by
  rw [finTo_succ h]
  have hf : Opr.fin e i o = o := by unfold Opr.fin; rw [if_neg hne]
  rw [hf]
  apply List.ext_getElem?
  intro j
  by_cases hj : m = j
  · subst hj
    rw [List.getElem?_set_self (by rw [finTo_length]; exact (List.getElem?_eq_some_iff.1 h).1), finTo_get h]
  · rw [List.getElem?_set_ne hj]
theorem finTo_all (e : Ev) (i : Nat) (os : List Opr) : finTo e i os os.length = os.map (Opr.fin e i) := by
  unfold finTo; simp
theorem finTo_zero (e : Ev) (i : Nat) (os : List Opr) : finTo e i os 0 = os := by
  unfold finTo; simp

set_option maxHeartbeats 1000000 in
set_option maxRecDepth 100000 in
theorem refops_valid (l : List Ev) (A : Option Addr) (c B : Nat) (w : World) (h : EvS w B A l) (hB : B ≤ w.heap.size) (hlen : l.length ≤ 1000000) (hv : validL l = true) :
    Calls Try.prog 42 #[.slice A l.length c] w fun r w' => ∃ v, r = .returned (.tuple #[v, .int .i64 0]) ∧ OwS w' w.heap.size 72 8 v ((rawOps l).map Opr.cells) ∧ Below w.heap.size w w' := by
  have HC := Lib.hid (refvalid_any l A c B w h hB hlen)
  rw [hv] at HC
  clear hv
  go_enter Try.func42, Try.ntmps42
  go_wp2_with fail
  refine HC.out.mono ?_
  rintro r w1 ⟨rfl, hb1⟩
  go_wp2
  go_loopw [4, 5, 6] (fun v er i wr => ∃ k : Nat, k ≤ l.length ∧ i = .int .i64 k ∧ er = .int .i64 (rawTo l k).2 ∧ OwS wr w.heap.size 72 8 v ((rawTo l k).1.map Opr.cells) ∧ Below w.heap.size w wr) (fun _ _ i _ => l.length - (intOf i).toNat)
  case atStart => exact ⟨0, by omega, rfl, rfl, OwS.nil _ _ _ _, hb1⟩
  case round =>
    obtain ⟨k, hk, rfl, rfl, hown, hb⟩ := hrel
    have hbd := rawTo_bd l k
    by_cases hlt : k < l.length
    · obtain ⟨b, off, e, rfl, hbB, he, c0, c1, c2, c3, c4, c5⟩ := EvS.at_ (h.below' hb hB) (k := k) hlt
      have hbw : b < wr.heap.size := by have := hb.size; omega
      have hT := rawTo_succ he
      unfold rawStep at hT
      have HE := Lib.hid he
      clear he
      by_cases h3 : e.kind = 3
      · rw [if_pos h3] at hT
        have HT := Lib.hid hT
        have h3' : (e.kind == 3) = true := by simp [h3]
        clear hT h3
        go_wp2
        go_roundw
        case rel => exact ⟨k + 1, by omega, by go_num, by rw [HT.out], by rw [HT.out]; exact hown.alloc _, hb.alloc hb.size _⟩
        case measure => simp [intOf]; omega
      rw [if_neg h3] at hT
      have h3' : (e.kind == 3) = false := by simp [h3]
      clear h3
      by_cases h1 : e.kind = 1
      · rw [if_pos h1] at hT
        have HT := Lib.hid hT
        have h1' : (e.kind == 1) = true := by simp [h1]
        clear hT h1
        go_wp2_with (at_builtin; refine wpList_ap1 rfl (.tmp 55) (.tmp 69) _ rfl elemROp rfl (hown.alloc _) (Opr.cells (Opr.of e (rawTo l k).2 k)) _ rfl _ rfl (by simp) (Opr.one _) (by simp [maxLen]; omega) (by simp; omega) (by have := hb.size; simp; omega) ?_)
        intro v1 w2 hown1 hg1 _
        have hb2 : Below w.heap.size w w2 := ((hb.alloc hb.size _).alloc (by have := hb.size; simp; omega) _).grown hg1 (by have := hb.size; simp; omega) (fun g hg => (hown.lt hg).1)
        go_wp2
        go_roundw
        case rel => exact ⟨k + 1, by omega, by go_num, by rw [HT.out], by rw [HT.out]; simpa using hown1, hb2⟩
        case measure => simp [intOf]; omega
      · rw [if_neg h1] at hT
        have HT := Lib.hid hT
        have h1' : (e.kind == 1) = false := by simp [h1]
        clear hT h1
        obtain ⟨Av, cv, hv, hlc, hcm⟩ := hown.form
        generalize (rawTo l k).1 = os at *
        rw [List.length_map] at hv hlc
        subst hv
        go_wp2
        obtain ⟨wo, rfl⟩ : ∃ wo : World, wo = wr := ⟨_, rfl⟩
        go_loopw [8] (fun m wr => ∃ j : Nat, j ≤ os.length ∧ m = .int .i64 j ∧ OwS wr w.heap.size 72 8 (.slice Av os.length cv) ((finTo e k os j).map Opr.cells) ∧ Below w.heap.size w wr ∧
            wo.heap.size < wr.heap.size ∧ wr.heap[wo.heap.size]? = some (.cells #[.int .i64 e.kind, .int .i64 e.op, .bool e.write, .int .i64 e.reg, .int .i64 e.val, .bool e.barrier] 56)) (fun m _ => os.length - (intOf m).toNat)
        case atStart => exact ⟨0, by omega, rfl, by rw [finTo_zero]; exact hown.alloc _, hb.alloc hb.size _, by simp, heap_alloc_new _ _⟩
        case round =>
          obtain ⟨j, hj, rfl, howr, hbi, hzi, hbox⟩ := hrel
          by_cases hjl : j < os.length
          · obtain ⟨o, ho⟩ : ∃ o, os[j]? = some o := ⟨os[j], List.getElem?_eq_getElem hjl⟩
            have hrow : ((finTo e k os j).map Opr.cells)[j]? = some o.cells := by rw [List.getElem?_map, finTo_get ho]; rfl
            obtain ⟨g, cap, hv, hgb, hgz⟩ := howr.pos (by rw [List.length_map, finTo_length]; omega)
            injection hv with hA hlen' hcap
            clear hlen' hcap
            subst hA
            have d0 := howr.cell hrow (j := 0) rfl
            have d2 := howr.cell hrow (j := 2) rfl
            have d7 := howr.cell hrow (j := 7) rfl
            have hfr := fun x => howr.frozen x
            have b1 : wr.cell? ⟨wo.heap.size, 1, none⟩ = some (.int .i64 e.op) := by rw [cell_of_row _ _ _ _ _ _ hbox]; rfl
            have b4 : wr.cell? ⟨wo.heap.size, 4, none⟩ = some (.int .i64 e.val) := by rw [cell_of_row _ _ _ _ _ _ hbox]; rfl
            have HO := Lib.hid ho
            have HB := Lib.hid hbox
            have HR := Lib.hid hrow
            clear ho hbox hrow
            simp only [Nat.add_zero] at d0
            by_cases hid : o.id = e.op
            · have hq : (o.id == e.op) = true := by simp [hid]
              have HD := Lib.hid hid
              clear hid
              go_wp2_with fail
              go_quiet (fail)
              go_wp2
              · have hgne : (Value.slice (some ⟨g, 0, none⟩) os.length cv).ownBlock ≠ some wo.heap.size := howr.blk_ne HB.out (by decide)
                have S1 := OwS.set (k := j) (j := 2) (howr.drewN nq) HR.out (by decide) (.int .i64 e.val)
                have S2 := OwS.set (k := j) (j := 7) S1.1 (by rw [List.getElem?_set_self (List.getElem?_eq_some_iff.1 HR.out).1]) (by decide) (.int .i64 (k : Int))
                have hrows : (((finTo e k os j).map Opr.cells).set j (o.cells.set 2 (.int .i64 e.val))).set j ((o.cells.set 2 (.int .i64 e.val)).set 7 (.int .i64 (k : Int))) = (finTo e k os (j + 1)).map Opr.cells := by
                  rw [List.set_set, finTo_succ HO.out, List.map_set]
                  congr 1
                  simp [Opr.fin, HD.out, Opr.cells]
                rw [hrows] at S2
                go_roundw
                case rel => exact ⟨j + 1, by omega, by go_num, S2.1, ((Below.setCell (Below.setCell (below_drewN hbi nq) hgb _) hgb _)), by simp [World.setCell]; exact hzi, by
                  rw [heap_setCell_other _ _ _ _ (fun e => hgne (by simp only [Value.ownBlock]; rw [e])), heap_setCell_other _ _ _ _ (fun e => hgne (by simp only [Value.ownBlock]; rw [e]))]; exact HB.out⟩
                case measure => simp [intOf]; omega
            · have hq : (o.id == e.op) = false := by simp [hid]
              have HD := Lib.hid hid
              clear hid
              go_wp2_with fail
              go_quiet (fail)
              go_wp2
              · go_roundw
                case rel => exact ⟨j + 1, by omega, by go_num, by rw [finTo_skip HO.out HD.out]; exact howr.drewN nq, below_drewN hbi nq, hzi, HB.out⟩
                case measure => simp [intOf]; omega
          · obtain rfl : j = os.length := by omega
            rw [finTo_all] at howr
            go_wp2
            go_roundw
            case rel => exact ⟨k + 1, by omega, by go_num, by rw [HT.out], by rw [HT.out]; exact howr, hbi⟩
            case measure => simp [intOf]; omega
    · obtain rfl : k = l.length := by omega
      go_wp2
      go_ret2
      exact ⟨_, rfl, hown, hb⟩

set_option maxHeartbeats 400000 in
theorem refops_not (l : List Ev) (A : Option Addr) (c B : Nat) (w : World) (h : EvS w B A l) (hB : B ≤ w.heap.size) (hlen : l.length ≤ 1000000) (hv : validL l = false) :
    Calls Try.prog 42 #[.slice A l.length c] w fun r w' => r = .returned (.tuple #[.slice none 0 0, .int .i64 1]) ∧ Below w.heap.size w w' := by
  have HC := Lib.hid (refvalid_any l A c B w h hB hlen)
  rw [hv] at HC
  clear hv
  go_enter Try.func42, Try.ntmps42
  go_wp2_with fail
  refine HC.out.mono ?_
  rintro r w1 ⟨rfl, hb1⟩
  go_wp2
  go_ret2
  exact ⟨rfl, hb1⟩
end Go.Proofs.Ytcgbnlhloopnfaa
