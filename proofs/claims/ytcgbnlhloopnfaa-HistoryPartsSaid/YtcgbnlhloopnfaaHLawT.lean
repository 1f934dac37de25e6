/- Walk of tegulalaw45's HistoryParts: it answers true, whatever the script. -/
import Derived.Test.YtcgbnlhloopnfaaHAwake
import Derived.Test.YtcgbnlhloopnfaaHRecord
import Derived.Test.YtcgbnlhloopnfaaHPlain
import Derived.Test.YtcgbnlhloopnfaaHValC
import Derived.Test.YtcgbnlhloopnfaaHSplitD
import Derived.Test.YtcgbnlhloopnfaaHPartsLaw
namespace Go.Proofs.Ytcgbnlhloopnfaa
open Go.RowKit

theorem recSt_reg (s : List ActH) (hok : ActsOk s) (k : Nat) : ∀ e ∈ (recSt s k).1, -128 ≤ e.reg ∧ e.reg ≤ 127 := by
  induction k with
  | zero => simp [recSt]
  | succ k ih =>
    simp only [recSt]
    split
    · rename_i a ha
      have hao := hok a (List.mem_of_getElem? ha)
      have hev : -128 ≤ (actEv a (recSt s k).2).reg ∧ (actEv a (recSt s k).2).reg ≤ 127 := by
        obtain ⟨-, h1, h2, -, -⟩ := hao
        unfold actEv
        split
        · exact ⟨h1, h2⟩
        · split
          · exact ⟨h1, h2⟩
          · split
            · exact ⟨h1, h2⟩
            · exact ⟨show (-128 : Int) ≤ 0 by decide, show (0 : Int) ≤ 127 by decide⟩
      generalize recSt s k = st at *
      unfold refAct
      split
      · intro e he
        rcases List.mem_append.1 he with he | he
        · exact ih e he
        · simp at he
          subst he
          exact ⟨by decide, by decide⟩
      · split
        · split
          · intro e he
            rcases List.mem_append.1 he with he | he
            · exact ih e he
            · simp at he
              subst he
              exact hev
          · exact ih
        · intro e he
          rcases List.mem_append.1 he with he | he
          · exact ih e he
          · unfold refDone at he
            split at he
            · simp at he
            · split at he
              · simp at he
              · split at he
                · rename_i c hc
                  simp at he
                  subst he
                  exact ih c (List.mem_of_getElem? hc)
                · simp at he
    · exact ih

def cntR (os : List Opr) (g : Int) : Nat := (os.filter fun o => effB o && o.reg == g).length
def sumR (os : List Opr) (gs : List Int) (i : Nat) : Nat := ((gs.take i).map (cntR os)).sum
theorem sumR_succ {os : List Opr} {gs : List Int} {i : Nat} {g : Int} (h : gs[i]? = some g) : sumR os gs (i + 1) = sumR os gs i + cntR os g := by
  unfold sumR
  rw [List.take_add_one, h]
  simp
theorem effN_succ {os : List Opr} {k : Nat} {o : Opr} (h : os[k]? = some o) : ((os.take (k + 1)).filter effB).length = ((os.take k).filter effB).length + (if effB o then 1 else 0) := by
  rw [List.take_add_one, h, List.filter_append, List.length_append]
  cases he : effB o <;> simp [he]
theorem sumR_all (os : List Opr) : sumR os (insAll (regsO os)) (insAll (regsO os)).length = (os.filter effB).length := by
  obtain ⟨h1, h2⟩ := insAll_gen (regsO os) [] List.Pairwise.nil
  have hnd : (insAll (regsO os)).Nodup := h1.imp fun h => by omega
  unfold sumR
  rw [List.take_length]
  have h3 := parts_sum (regsO os) (insAll (regsO os)) hnd
  have h4 : (regsO os).filter (fun d => (insAll (regsO os)).contains d) = regsO os := List.filter_eq_self.2 fun d hd => by
    rw [List.contains_iff_mem]
    exact (h2 d).2 (.inr hd)
  rw [h4] at h3
  have h5 : (regsO os).length = (os.filter effB).length := by unfold regsO; rw [List.length_map]
  rw [← h5, ← h3]
  congr 1
  refine List.map_congr_left fun g _ => ?_
  unfold cntR regsO
  rw [List.filter_map, List.length_map, List.filter_filter]
  congr 1
  refine List.filter_congr fun o _ => ?_
  simp [Bool.and_comm]

theorem sumR_le (os : List Opr) (gs : List Int) (k : Nat) : sumR os gs k ≤ sumR os gs gs.length := by
  have h : (gs.map (cntR os)).sum = ((gs.take k).map (cntR os)).sum + ((gs.drop k).map (cntR os)).sum := by
    conv => lhs; rw [← List.take_append_drop k gs]
    rw [List.map_append, List.sum_append]
  unfold sumR
  rw [List.take_length, h]
  omega

set_option maxHeartbeats 4000000 in
set_option maxRecDepth 100000 in
theorem historyparts_any (s : List ActH) (hok : ActsOk s) (A : Option Addr) (c : Nat) (w : World) (h : ActS w w.heap.size A s) :
    Calls Try.prog 5 #[.slice A s.length c] w fun e w' => e = .returned (.bool true) ∧ Below w.heap.size w w' := by
  have HA := Lib.hid (hawake_any w)
  by_cases hl : 40 < s.length
  · have hl' : (40 : Int) < (s.length : Int) := by omega
    clear h hok
    go_enter Try.func5, Try.ntmps5
    go_wp2_with fail
    refine HA.out.mono ?_
    rintro r w1 ⟨rfl, hb1⟩
    go_wp2
    go_ret
    exact ⟨rfl, hb1⟩
  have hl' : ¬ (40 : Int) < (s.length : Int) := by omega
  have HREC := Lib.hid (fun W (hW : Below w.heap.size w W) => record_any s A c w.heap.size W (h.below' hW (Nat.le_refl _)) hW.size hok (by omega))
  obtain ⟨st, hst⟩ := rec_parse s s.length
  have hbd := recSt_bd s s.length
  have hop := recSt_op s s.length
  have hrg := recSt_reg s hok s.length
  have hwf : WfOp (recSt s s.length).1 := fun e he => by
    have := hop e he
    rw [Lit.wf_int_iff, IntKind.min_i64, IntKind.max_i64]
    omega
  have hwr : WfReg (recSt s s.length).1 := fun e he => by
    have := hrg e he
    rw [Lit.wf_int_iff, IntKind.min_i64, IntKind.max_i64]
    omega
  unfold RecordPost at HREC
  generalize (recSt s s.length).1 = L at *
  have hL : L.length ≤ 40 := by omega
  have h1 : parseL L = some st.1 := by rw [parseL_eq, hst]; rfl
  have hpe := parse_eq L
  have hvL : validL L = true := by
    cases hv : validL L
    · rw [hv, h1] at hpe; cases hpe
    · rfl
  have hopr : opsOr L = st.1 := by
    unfold opsOr
    rw [hvL, if_pos rfl] at hpe ⊢
    rw [h1] at hpe
    exact (Option.some.inj hpe).symm
  have hol := (parseL_ids h1).2
  obtain ⟨osg, hosg⟩ := Classical.skolem.1 (fun g => split_parse h1 g)
  have hkl : ∀ g, (L.filter (keepB g)).length ≤ 40 := fun g => Nat.le_trans (List.length_filter_le _ _) hL
  have hkw : ∀ g, WfOp (L.filter (keepB g)) := fun g e he => hwf e (List.mem_filter.1 he).1
  have hkp : ∀ g, parseL (L.filter (keepB g)) = some (osg g) := fun g => (hosg g).1
  have hgl : ∀ g, (osg g).length ≤ 40 := fun g => by have := (parseL_ids (hkp g)).2; have := hkl g; omega
  have HEF := Lib.hid (fun g => split_eff (hosg g).2)
  have HGL := Lib.hid hgl
  have HKL := Lib.hid hkl
  have HO := Lib.hid (fun A c W (hE : EvS W W.heap.size A L) => ops_some L A c W.heap.size W hE (Nat.le_refl _) (by omega) hwf st.1 h1)
  have HR := Lib.hid (fun A c W (hE : EvS W W.heap.size A L) => registers_any L A c W.heap.size W hE (Nat.le_refl _) (by omega) hwf hwr)
  have HS := Lib.hid (fun g A c W (hE : EvS W W.heap.size A L) => by have := split_any L g A c W.heap.size W hE (Nat.le_refl _) (by omega) hwf; unfold splitOf at this; rw [hvL, if_pos rfl] at this; exact this)
  have HOG := Lib.hid (fun g A c W (hE : EvS W W.heap.size A (L.filter (keepB g))) => ops_some (L.filter (keepB g)) A c W.heap.size W hE (Nat.le_refl _) (by have := hkl g; omega) (hkw g) (osg g) (hkp g))
  have HVG := Lib.hid (fun g A c W (hE : EvS W W.heap.size A (L.filter (keepB g))) => by have := hvalid_any (L.filter (keepB g)) A c W.heap.size W hE (Nat.le_refl _) (by have := hkl g; omega) (hkw g); rw [hkp g] at this; exact this)
  have hga := sumR_all st.1
  have hgn : (insAll (regsO st.1)).length ≤ 40 := by
    have h1 := insAll_len (regsO st.1)
    have h2 := regsO_len st.1
    omega
  rw [hopr] at HR
  generalize insAll (regsO st.1) = gs at *
  generalize st.1 = os at *
  have HGA := Lib.hid hga
  have hol40 : os.length ≤ 40 := by omega
  clear h hok hst hop hwf hwr hrg h1 hpe hvL hopr hosg hkw hkp hkl hgl hga hbd hol
  go_enter Try.func5, Try.ntmps5
  go_wp2_with fail
  refine HA.out.mono ?_
  rintro r w1 ⟨rfl, hb1⟩
  have hz1 := hb1.size
  go_wp2_with fail
  refine (HREC.out _ hb1).mono ?_
  rintro r w2 ⟨ve, vu, rfl, hev, -, hb2⟩
  have hb2 := hb1.trans (hb2.mono hz1)
  have hz2 := hb2.size
  have hev := hev.mono hz1
  obtain ⟨Ae, ce, rfl, -, -⟩ := hev.form
  rw [List.length_map] at *
  have HO1 := Lib.hid (HO.out Ae ce w2 hev.reads)
  go_wp2_with fail
  refine HO1.out.mono ?_
  rintro r w3 ⟨vo, rfl, hos, hb3⟩
  have hev := hev.below hb3
  have hos := hos.mono hz2
  have hb3 := hb2.trans (hb3.mono hz2)
  have hz3 := hb3.size
  obtain ⟨Ao, co, rfl, -, -⟩ := hos.form
  rw [List.length_map] at *
  have HR1 := Lib.hid (HR.out Ae ce w3 hev.reads)
  clear HO1 HO HR HA HREC hb1 hb2
  go_wp2_with fail
  refine HR1.out.mono ?_
  rintro r w4 ⟨vg, rfl, hgs, hb4⟩
  have hev := hev.below hb4
  have hos := hos.below hb4
  have hgs := hgs.mono hz3
  have hb4 := hb3.trans (hb4.mono hz3)
  have hz4 := hb4.size
  obtain ⟨Ag, cg, rfl, -, -⟩ := hgs.form
  rw [List.length_map] at *
  have HEV := Lib.hid hev
  have HOS := Lib.hid hos
  have HGS := Lib.hid hgs
  clear HR1 hb3 hev hos hgs
  go_wp2
  go_loopw [8, 9] (fun n i wr => ∃ k : Nat, k ≤ gs.length ∧ i = .int .i64 k ∧ n = .int .i64 (sumR os gs k : Nat) ∧ Below w4.heap.size w4 wr) (fun _ i _ => gs.length - (intOf i).toNat)
  case atStart => exact ⟨0, by omega, rfl, rfl, Below.refl _ _⟩
  case round =>
    obtain ⟨k, hk, rfl, rfl, hb⟩ := hrel
    have hz := hb.size
    by_cases hlt : k < gs.length
    · obtain ⟨g, hg⟩ : ∃ g, gs[k]? = some g := ⟨gs[k], List.getElem?_eq_getElem hlt⟩
      have hrow : (gs.map icell)[k]? = some (icell g) := by rw [List.getElem?_map, hg]; rfl
      have og := HGS.out.below hb
      obtain ⟨bg, cg', hva, -, hbg⟩ := og.pos (by rw [List.length_map]; omega)
      injection hva with hA1 hA2 hA3
      subst hA1
      clear hA2 hA3
      have a0 := og.cell hrow (j := 0) rfl
      simp only [Nat.mul_one, Nat.add_zero] at a0
      have HCELL : Hid (∀ W, Below w4.heap.size w4 W → W.cell? ⟨bg, k, none⟩ = some (.int .i64 g) ∧ bg < W.heap.size) := fun W hW => by
        have h1 := HGS.out.below hW
        have h2 := h1.cell hrow (j := 0) rfl
        simp only [Nat.mul_one, Nat.add_zero] at h2
        exact ⟨h2, (h1.lt rfl).2⟩
      have HSUM := Lib.hid (sumR_succ (os := os) hg)
      have hs40 : sumR os gs k ≤ 40 := by
        have h1 := sumR_le os gs k
        rw [HGA.out] at h1
        have h2 := List.length_filter_le effB os
        omega
      have HS1 := Lib.hid (HS.out g Ae ce wr (HEV.out.below hb).reads)
      obtain ⟨hef1, hef2⟩ := HEF.out g
      have hcnt : cntR os g = ((osg g).filter effB).length := hef2.symm
      have hq40 := HGL.out g
      have hp40 := HKL.out g
      have HEF1 := Lib.hid hef1
      rw [hcnt] at HSUM
      have HOG1 := Lib.hid (HOG.out g)
      have HVG1 := Lib.hid (HVG.out g)
      generalize osg g = qs at *
      generalize hS : sumR os gs k = S at *
      clear hef1 hef2 hcnt hg hrow og
      go_wp2_with fail
      refine HS1.out.mono ?_
      rintro r w5 ⟨vp, rfl, hp, hb5⟩
      have hb5 := hb.trans (hb5.mono hz)
      have hz5 := hb5.size
      obtain ⟨Ap, cp, rfl, -, -⟩ := hp.form
      rw [List.length_map] at hp ⊢
      have HOG2 := Lib.hid (HOG1.out Ap cp w5 hp.reads)
      go_wp2_with fail
      refine HOG2.out.mono ?_
      rintro r w6 ⟨vq, rfl, hq, hb6⟩
      have hp := hp.below hb6
      have hb6 := hb5.trans (hb6.mono hz5)
      have hz6 := hb6.size
      obtain ⟨Aq, cq, rfl, -, -⟩ := hq.form
      rw [List.length_map] at hq ⊢
      have HVG2 := Lib.hid (HVG1.out Ap cp w6 hp.reads)
      have HQ := Lib.hid hq
      clear hp hq HOG2 HOG1 HVG1 HS1 a0
      go_wp2_with fail
      refine HVG2.out.mono ?_
      rintro r w7 ⟨rfl, hb7⟩
      have hq := HQ.out.below hb7
      have hb7 := hb6.trans (hb7.mono hz6)
      have hz7 := hb7.size
      clear HVG2 HQ hb5 hb6
      have HQ := Lib.hid hq
      clear hq
      go_wp2
      go_loopw [8, 13] (fun n j wr => ∃ m : Nat, m ≤ qs.length ∧ j = .int .i64 m ∧ n = .int .i64 (S + ((qs.take m).filter effB).length : Nat) ∧ Below w7.heap.size w7 wr) (fun _ j _ => qs.length - (intOf j).toNat)
      case atStart => exact ⟨0, by omega, rfl, by simp, Below.refl _ _⟩
      case round =>
        obtain ⟨m, hm, rfl, rfl, hbm⟩ := hrel
        have hzm := hbm.size
        have hx40 : ((qs.take m).filter effB).length ≤ 40 := by
          have h1 := List.length_filter_le effB (qs.take m)
          have h2 := List.length_take_le m qs
          omega
        by_cases hlm : m < qs.length
        · obtain ⟨o, ho⟩ : ∃ o, qs[m]? = some o := ⟨qs[m], List.getElem?_eq_getElem hlm⟩
          have oq := HQ.out.below hbm
          obtain ⟨bq, cq', hva, -, hbq⟩ := oq.pos (by rw [List.length_map]; omega)
          injection hva with hA1 hA2 hA3
          subst hA1
          clear hA2 hA3
          have hrow : (qs.map Opr.cells)[m]? = some o.cells := by rw [List.getElem?_map, ho]; rfl
          have d1 := oq.cell hrow (j := 1) rfl
          have d3 := oq.cell hrow (j := 3) rfl
          have d4 := oq.cell hrow (j := 4) rfl
          obtain ⟨a0, hbgl⟩ := HCELL.out wr (hb7.trans (hbm.mono hz7))
          have hen := effN_succ ho
          have hreg := HEF1.out o (List.mem_of_getElem? ho)
          generalize ((qs.take m).filter effB).length = X at *
          clear hrow oq ho
          obtain ⟨o0, o1, o2, o3, o4, o5, o6, o7⟩ := o
          simp only at d1 d3 d4 hreg
          cases o3 <;> cases o4
          · have hr : o1 = g := hreg rfl
            subst hr
            have HN : Hid (((qs.take (m + 1)).filter effB).length = X + 1) := hen
            clear hen hreg
            go_wp2
            go_quiet (fail)
            go_wp2
            go_roundw
            case rel => exact ⟨m + 1, by omega, by go_num, by rw [HN.out]; go_num, below_drewN hbm _⟩
            case measure => simp [intOf]; omega
          · have HN : Hid (((qs.take (m + 1)).filter effB).length = X) := hen
            clear hen hreg
            go_wp2
            go_roundw
            case rel => exact ⟨m + 1, by omega, by go_num, by rw [HN.out], hbm⟩
            case measure => simp [intOf]; omega
          · have hr : o1 = g := hreg rfl
            subst hr
            have HN : Hid (((qs.take (m + 1)).filter effB).length = X + 1) := hen
            clear hen hreg
            go_wp2
            go_quiet (fail)
            go_wp2
            go_roundw
            case rel => exact ⟨m + 1, by omega, by go_num, by rw [HN.out]; go_num, below_drewN hbm _⟩
            case measure => simp [intOf]; omega
          · have hr : o1 = g := hreg rfl
            subst hr
            have HN : Hid (((qs.take (m + 1)).filter effB).length = X + 1) := hen
            clear hen hreg
            go_wp2
            go_quiet (fail)
            go_wp2
            go_roundw
            case rel => exact ⟨m + 1, by omega, by go_num, by rw [HN.out]; go_num, below_drewN hbm _⟩
            case measure => simp [intOf]; omega
        · obtain rfl : m = qs.length := by omega
          rw [List.take_length] at *
          go_wp2
          go_roundw
          case rel => exact ⟨k + 1, by omega, by go_num, by rw [HSUM.out], hb7.trans (hbm.mono hz7)⟩
          case measure => simp [intOf]; omega
    · obtain rfl : k = gs.length := by omega
      have hs40 : (os.filter effB).length ≤ 40 := by
        have h2 := List.length_filter_le effB os
        omega
      rw [HGA.out]
      have HOSW := Lib.hid (HOS.out.below hb)
      generalize hT : (os.filter effB).length = T at *
      have HT := Lib.hid hT
      clear hT HGS HEV
      rename World => wo
      go_wp2
      go_loopw [8, 14] (fun n j wx => ∃ m : Nat, m ≤ os.length ∧ j = .int .i64 m ∧ n = .int .i64 ((T : Int) - (((os.take m).filter effB).length : Nat)) ∧ Below wo.heap.size wo wx) (fun _ j _ => os.length - (intOf j).toNat)
      case atStart => exact ⟨0, by omega, rfl, by simp, Below.refl _ _⟩
      case round =>
        obtain ⟨m, hm, rfl, rfl, hbm⟩ := hrel
        have hx40 : ((os.take m).filter effB).length ≤ 40 := by
          have h1 := List.length_filter_le effB (os.take m)
          have h2 := List.length_take_le m os
          omega
        by_cases hlm : m < os.length
        · obtain ⟨o, ho⟩ : ∃ o, os[m]? = some o := ⟨os[m], List.getElem?_eq_getElem hlm⟩
          have oq := HOSW.out.below hbm
          obtain ⟨bq, cq', hva, -, hbq⟩ := oq.pos (by rw [List.length_map]; omega)
          injection hva with hA1 hA2 hA3
          subst hA1
          clear hA2 hA3
          have hrow : (os.map Opr.cells)[m]? = some o.cells := by rw [List.getElem?_map, ho]; rfl
          have d3 := oq.cell hrow (j := 3) rfl
          have d4 := oq.cell hrow (j := 4) rfl
          have hen := effN_succ ho
          generalize ((os.take m).filter effB).length = X at *
          clear hrow oq ho
          obtain ⟨o0, o1, o2, o3, o4, o5, o6, o7⟩ := o
          simp only at d3 d4
          cases o3 <;> cases o4
          · have HN : Hid (((os.take (m + 1)).filter effB).length = X + 1) := hen
            clear hen
            go_wp2
            go_roundw
            case rel => exact ⟨m + 1, by omega, by go_num, by rw [HN.out]; go_num, hbm⟩
            case measure => simp [intOf]; omega
          · have HN : Hid (((os.take (m + 1)).filter effB).length = X) := hen
            clear hen
            go_wp2
            go_roundw
            case rel => exact ⟨m + 1, by omega, by go_num, by rw [HN.out], hbm⟩
            case measure => simp [intOf]; omega
          all_goals
            have HN : Hid (((os.take (m + 1)).filter effB).length = X + 1) := hen
            clear hen
            go_wp2
            go_roundw
            case rel => exact ⟨m + 1, by omega, by go_num, by rw [HN.out]; go_num, hbm⟩
            case measure => simp [intOf]; omega
        · obtain rfl : m = os.length := by omega
          rw [List.take_length, HT.out, Int.sub_self]
          go_wp2
          go_ret
          exact ⟨rfl, hb4.trans ((hb.trans (hbm.mono hz)).mono hz4)⟩
end Go.Proofs.Ytcgbnlhloopnfaa
