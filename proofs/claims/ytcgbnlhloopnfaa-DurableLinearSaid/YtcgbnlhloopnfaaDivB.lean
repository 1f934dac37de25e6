/- Walk of linear.divide. -/
import Derived.Test.YtcgbnlhloopnfaaDivA
import Derived.Test.YtcgbnlhloopnfaaGLin
import Derived.Deep.RegionHeld3
import Derived.Deep.DeepCutAuto
namespace Go.Proofs.Ytcgbnlhloopnfaa
open Go.RowKit

/-- what divide leaves -/
def DivP (l : List Ev) (w : World) (r : Ending) (w' : World) : Prop :=
  if oneL l then ∃ eb c, r = .returned (.tuple #[.slice (some ⟨eb, 0, none⟩) (cutsL l + 1) c, .bool true]) ∧ ErasM w' (rawOps l) (cutsL l) eb ∧ Below w.heap.size w w'
  else r = .returned (.tuple #[.slice none 0 0, .bool false]) ∧ Below w.heap.size w w'

set_option maxHeartbeats 8000000 in
set_option maxRecDepth 100000 in
theorem divide_any (l : List Ev) (A : Option Addr) (c B : Nat) (w : World) (h : EvS w B A l) (hB : B ≤ w.heap.size) (hlen : l.length ≤ 100000) (hwf : WfOp l) (hwr : WfReg l) :
    Calls Try.prog 52 #[.slice A l.length c] w (DivP l w) := by
  have HR := Lib.hid (fun W (hW : Below w.heap.size w W) => registers_any l A c B W (h.below' hW hB) (Nat.le_trans hB hW.size) (by omega) hwf hwr)
  have HEV := Lib.hid (fun W (hW : Below w.heap.size w W) => h.below' hW hB)
  unfold DivP oneL
  cases hv : validL l
  case false =>
    have HO := Lib.hid (ops_none l A c B w h hB (by omega) hwf (by rw [parse_eq, hv]; rfl))
    clear h hwf hwr HR HEV
    simp only [Bool.false_and, Bool.false_eq_true, if_false]
    go_enter Try.func52, Try.ntmps52
    go_wp2_with fail
    refine HO.out.mono ?_
    rintro r w1 ⟨rfl, hb1⟩
    go_wp2
    go_ret2
    exact ⟨rfl, hb1⟩
  case true =>
    have HO := Lib.hid (ops_some l A c B w h hB (by omega) hwf (rawOps l) (by rw [parse_eq, hv]; rfl))
    have hrl : (rawOps l).length ≤ 100000 := Nat.le_trans (rawTo_bd l l.length).1 hlen
    have HEB := Lib.hid (era_bd hv)
    rw [show opsOr l = rawOps l by unfold opsOr; rw [hv]; rfl] at HR ⊢
    have HRL := Lib.hid hrl
    clear h hwf hwr hrl hv
    simp only [Bool.true_and]
    by_cases hg : (insAll (regsO (rawOps l))).length ≤ 1
    case neg =>
      have hd : decide ((insAll (regsO (rawOps l))).length ≤ 1) = false := by simpa using hg
      simp only [hd, Bool.false_eq_true, if_false]
      clear hd
      go_enter Try.func52, Try.ntmps52
      go_wp2_with fail
      refine HO.out.mono ?_
      rintro r w1 ⟨v1, rfl, ho1, hb1⟩
      go_wp2_with fail
      refine (HR.out _ hb1).mono ?_
      rintro r w2 ⟨v2, rfl, ho2, hb2⟩
      obtain ⟨A2, c2, rfl, -, -⟩ := ho2.form
      rw [List.length_map]
      have hg' : ((insAll (regsO (rawOps l))).length : Int) > 1 := by omega
      have HB := Lib.hid (hb1.trans (hb2.mono hb1.size))
      clear ho1 ho2 hb1 hb2
      generalize (insAll (regsO (rawOps l))).length = gl at *
      go_wp2
      go_ret2
      exact ⟨rfl, HB.out⟩
    case pos =>
      have hd : decide ((insAll (regsO (rawOps l))).length ≤ 1) = true := by simpa using hg
      simp only [hd, if_true]
      clear hd
      obtain ⟨cuts, hcuts⟩ : ∃ n, cutsL l = n := ⟨_, rfl⟩
      have HCU := Lib.hid hcuts
      have hcl0 : cuts ≤ l.length := by rw [← hcuts]; exact List.countP_le_length
      rw [hcuts] at HEB
      simp only [hcuts]
      clear hcuts
      obtain ⟨os, hos⟩ : ∃ os, rawOps l = os := ⟨_, rfl⟩
      rw [hos] at HEB HRL HO HR hg
      simp only [hos]
      clear hos
      go_enter Try.func52, Try.ntmps52
      go_wp2_with fail
      refine HO.out.mono ?_
      rintro r w1 ⟨v1, rfl, ho1, hb1⟩
      obtain ⟨A1, c1, rfl, -, -⟩ := ho1.form
      rw [List.length_map] at ho1 ⊢
      have HO1 := Lib.hid ho1
      have HB1 := Lib.hid hb1
      clear ho1 hb1
      go_wp2_with fail
      refine (HR.out _ HB1.out).mono ?_
      rintro r w2 ⟨v2, rfl, ho2, hb2⟩
      obtain ⟨A2, c2, rfl, -, -⟩ := ho2.form
      rw [List.length_map]
      have hg' : ¬ ((insAll (regsO (os))).length : Int) > 1 := by omega
      have HB2 := Lib.hid (HB1.out.trans (hb2.mono HB1.out.size))
      have HO2 := Lib.hid (HO1.out.below hb2)
      clear ho2 hb2
      generalize (insAll (regsO (os))).length = gl at *
      go_wp2_with fail
      clear hg hg'
      go_loopw [6, 28] (fun s6 s28 wr => ∃ i : Nat, i ≤ l.length ∧ s28 = .int .i64 i ∧ s6 = .int .i64 ((l.take i).countP (fun e => e.kind == 3) : Nat) ∧ Below w2.heap.size w2 wr) (fun _ s28 _ => l.length - (intOf s28).toNat)
      case atStart => exact ⟨0, by omega, rfl, by simp, Below.refl _ _⟩
      case round =>
        obtain ⟨i, hi, rfl, rfl, hb⟩ := hrel
        have hzr := hb.size
        have hbl : Below w.heap.size w wr := HB2.out.trans (hb.mono HB2.out.size)
        by_cases hlt : i < l.length
        · obtain ⟨b, off, e, rfl, hbB, he, e0, e1, e2, e3, e4, e5⟩ := EvS.at_ (HEV.out wr hbl) (k := i) hlt
          have hcs : (l.take (i + 1)).countP (fun e => e.kind == 3) = (l.take i).countP (fun e => e.kind == 3) + (if e.kind = 3 then 1 else 0) := by
            rw [List.take_add_one, he]
            simp only [Option.toList_some, List.countP_append, List.countP_cons, List.countP_nil, beq_iff_eq]
            omega
          have hcl : (l.take i).countP (fun e => e.kind == 3) ≤ i := Nat.le_trans List.countP_le_length (by rw [List.length_take]; exact Nat.min_le_left _ _)
          have HCS := Lib.hid hcs
          clear hcs he
          obtain ⟨cn, hcn⟩ : ∃ cn, (l.take i).countP (fun e => e.kind == 3) = cn := ⟨_, rfl⟩
          rw [hcn] at hcl HCS ⊢
          clear hcn
          have hil : (i : Int) < (l.length : Int) := by omega
          by_cases h3 : e.kind = 3
          · have h3' : (e.kind == 3) = true := by simpa using h3
            rw [if_pos h3] at HCS
            clear h3
            obtain ⟨ek, eo, ew, er, ev, eb⟩ := e
            simp only at e0 e1 e2 e3 e4 e5 h3'
            go_wp2
            go_roundw
            case rel => exact ⟨i + 1, by omega, by go_num, by rw [HCS.out]; go_num, (hb.alloc hzr _)⟩
            case measure => simp [intOf]; omega
          · have h3' : (e.kind == 3) = false := by simpa using h3
            rw [if_neg h3] at HCS
            clear h3
            obtain ⟨ek, eo, ew, er, ev, eb⟩ := e
            simp only at e0 e1 e2 e3 e4 e5 h3'
            go_wp2
            go_roundw
            case rel => exact ⟨i + 1, by omega, by go_num, by rw [HCS.out]; rfl, (hb.alloc hzr _)⟩
            case measure => simp [intOf]; omega
        · obtain rfl : i = l.length := by omega
          have hcl : (l.take l.length).countP (fun e => e.kind == 3) = cuts := by rw [List.take_length]; exact HCU.out
          rw [hcl]
          have HOW := Lib.hid (HO2.out.below hb)
          have HBL := Lib.hid hbl
          clear hcl hb hbl hzr HEV HR HO HO1 HO2 HB1 HB2
          have hmk := fun W => make_eras W (cuts + 1) (by omega)
          rw [show ((cuts + 1 : Nat) : Int) = (cuts : Int) + 1 by omega] at hmk
          have hwr : IntKind.i64.wrap ((cuts : Int) + 1) = (cuts : Int) + 1 := IntWalk.i64_in _ (by omega)
          have hml := made_last cuts
          have hkl : (cuts : Int) < (cuts : Int) + 1 := by omega
          go_upto_region 13 with (fail)
          have hD0 := DivM.made wr wr.heap.size cuts
          have hbb := HBL.out.alloc HBL.out.size (.cells ((madeCells #[.slice none 0 0, .slice none 0 0, .bool false] ((cuts + 1) * 3)).setIfInBounds (cuts * 3 + 2) (.bool true)) 95)
          have hox : OpS (wr.alloc (.cells ((madeCells #[.slice none 0 0, .slice none 0 0, .bool false] ((cuts + 1) * 3)).setIfInBounds (cuts * 3 + 2) (.bool true)) 95)) wr.heap.size A1 os := RdS.below HOW.out.reads below_laid
          have hez : wr.heap.size ≤ (wr.alloc (.cells ((madeCells #[.slice none 0 0, .slice none 0 0, .bool false] ((cuts + 1) * 3)).setIfInBounds (cuts * 3 + 2) (.bool true)) 95)).heap.size := by simp
          have HEBL : Hid (w.heap.size ≤ wr.heap.size) := HBL.out.size
          clear HBL HOW hml hmk hwr hkl
          generalize wr.alloc _ = W0 at *
          generalize wr.heap.size = eb at *
          have HD0 := Lib.hid hD0
          have HBB := Lib.hid hbb
          have HOX := Lib.hid hox
          have HEZ := Lib.hid hez
          clear hD0 hbb hox hez
          go_wp2_with fail
          go_loopw [47] (fun s47 wx => ∃ j : Nat, j ≤ os.length ∧ s47 = .int .i64 j ∧ DivM wx eb eb cuts (fun k => roJ os j k) (fun k => (roJ os j k).map (durI os)) ∧ Below eb W0 wx) (fun s47 _ => os.length - (intOf s47).toNat)
          case atStart => exact ⟨0, by omega, rfl, HD0.out, Below.refl _ _⟩
          case round =>
            obtain ⟨j, hj, rfl, hd, hb⟩ := hrel
            have HD := Lib.hid hd
            have HBx := Lib.hid hb
            have HOx := Lib.hid (HOX.out.below hb)
            have hzw : eb ≤ wr.heap.size := Nat.le_trans HEZ.out hb.size
            have hrl3 := HRL.out
            clear hd hb
            by_cases hlt : j < os.length
            · obtain ⟨b1, o1, o, rfl, hbl, hoj, q0, q1, q2, q3, q4, q5, q6, q7⟩ := OpS.at_ HOx.out hlt
              obtain ⟨k0, hk0, hk0c⟩ := HEB.out o (List.mem_of_getElem? hoj)
              have HRO := Lib.hid (fun k => roJ_succ hoj k)
              have HOJ := Lib.hid hoj
              have hrol : (roJ os j k0).length ≤ 100000 := by
                unfold roJ eraX eraO
                exact Nat.le_trans (List.length_filter_le _ _) (Nat.le_trans (List.length_filter_le _ _) (by rw [List.length_take]; omega))
              have HROL := Lib.hid hrol
              have HDU := Lib.hid (fun W (hW : Below eb W0 W) => dur_any os o (some ⟨b1, o1, none⟩) c1 eb W (HOX.out.below hW) (Nat.le_trans HEZ.out hW.size) (by omega))
              clear hoj hrol
              obtain ⟨o0, o1', o2, o3, o4, o5, o6, o7⟩ := o
              unfold Opr.agg at HDU
              simp only at q0 q1 q2 q3 q4 q5 q6 q7 hk0 HDU
              subst hk0
              have hbl' : b1 < wr.heap.size := by omega
              have hjl : (j : Int) < (os.length : Int) := by omega
              have hE : Hid (effB ⟨o0, o1', o2, o3, o4, k0, o6, o7⟩ = (o3 || !o4)) := rfl
              obtain ⟨eff, hef⟩ : ∃ eff, (o3 || !o4) = eff := ⟨_, rfl⟩
              rw [hef] at hE
              have HEF := Lib.hid hef
              clear hef
              cases eff
              case false =>
                obtain ⟨rfl, rfl⟩ : o3 = false ∧ o4 = true := by have := HEF.out; simpa using this
                go_wp2
                go_roundw
                case rel => exact ⟨j + 1, by omega, by go_num, by
                  have hro : ∀ k, roJ os (j + 1) k = roJ os j k := fun k => by rw [HRO.out k, hE.out]; rfl
                  simp only [hro]
                  exact HD.out.below below_laid, HBx.out.alloc hzw _⟩
                case measure => simp [intOf]; omega
              case true =>
                have hpick : (o3 = true) ∨ (o3 = false ∧ o4 = false) := by
                  have := HEF.out
                  cases o3
                  · right; simpa using this
                  · left; rfl
                have hkc' : (k0 : Int) < (cuts : Int) + 1 := by omega
                go_upto_region 16 with (fail)
                have hDb := HD.out.below (below_laid (w := wr) (o := .cells #[.int .i64 o0, .int .i64 o1', .int .i64 o2, .bool o3, .bool o4, .int .i64 (k0 : Int), .int .i64 o6, .int .i64 o7] 39))
                have hxb : (wr.alloc (.cells #[.int .i64 o0, .int .i64 o1', .int .i64 o2, .bool o3, .bool o4, .int .i64 (k0 : Int), .int .i64 o6, .int .i64 o7] 39)).heap[wr.heap.size]? = some (.cells (Opr.cells ⟨o0, o1', o2, o3, o4, k0, o6, o7⟩).toArray 39) := heap_new_at _ _ rfl
                have hba := HBx.out.alloc hzw (.cells #[.int .i64 o0, .int .i64 o1', .int .i64 o2, .bool o3, .bool o4, .int .i64 (k0 : Int), .int .i64 o6, .int .i64 o7] 39)
                have hbw := below_laid (w := wr) (o := .cells #[.int .i64 o0, .int .i64 o1', .int .i64 o2, .bool o3, .bool o4, .int .i64 (k0 : Int), .int .i64 o6, .int .i64 o7] 39)
                obtain ⟨v0, cv0, ov0, -⟩ := HD.out.openO hk0c
                have HL0 : Hid (∀ g, v0.ownBlock = some g → g < wr.heap.size) := fun g hg => (ov0.lt hg).2
                have hcv0 := Lib.hid ((hbw.cell (p := ⟨eb, 3 * k0, none⟩) HD.out.lt).trans cv0)
                clear cv0 ov0 hbw
                generalize wr.alloc _ = W1 at *
                have hebr : eb < wr.heap.size := HD.out.lt
                have HDb := Lib.hid hDb
                have HXb := Lib.hid hxb
                have HBA := Lib.hid hba
                have hz1 : eb ≤ W1.heap.size := Nat.le_trans HEZ.out hba.size
                clear hDb hba q0 q1 q2 q3 q4 q5 q6 q7 hxb
                obtain ⟨q0, q1, q2, q3, q4, q5, q6, q7⟩ := opBox HXb.out
                simp only at q0 q1 q2 q3 q4 q5 q6 q7
                obtain ⟨vv, cv, ov, K⟩ := HDb.out.openO hk0c
                have hv0 : v0 = vv := Option.some.inj (hcv0.out.symm.trans cv)
                subst hv0
                clear hcv0
                obtain ⟨Av, nv, capv, rfl⟩ := ov.isSlice
                rw [Nat.mul_comm 3 k0] at cv
                have HOV := Lib.hid ov
                have HK := Lib.hid K
                clear ov K
                have hxl : wr.heap.size < W1.heap.size := (Array.getElem?_eq_some_iff.1 HXb.out).1
                have hel : eb < W1.heap.size := HDb.out.lt
                go_cut [57] (fun s57 wx => s57 = .bool true ∧ wx = W1)
                case first =>
                  rcases hpick with rfl | ⟨rfl, rfl⟩
                  all_goals
                    go_wp2_with fail
                    go_meet
                    exact ⟨rfl, rfl⟩
                obtain ⟨rfl, rfl⟩ := hcut
                go_upto_region 18 with (fail)
                go_cut [9] (fun s9 wx => s9 = .slice (some ⟨eb, 0, none⟩) (cuts + 1) (cuts + 1) ∧ DivM wx eb eb cuts (updN (fun k => roJ os j k) k0 (roJ os j k0 ++ [⟨o0, o1', o2, o3, o4, k0, o6, o7⟩])) (fun k => (roJ os j k).map (durI os)) ∧ Below eb W0 wx ∧
                  wx.heap[wr.heap.size]? = some (.cells (Opr.cells ⟨o0, o1', o2, o3, o4, k0, o6, o7⟩).toArray 39))
                case first =>
                  go_region_law (refine step_ap1 (by rfl) (.tmp 66) (.tmp 68) _ (by rfl) elemOpH (by rfl) (HOV.out.drewN 1) (Opr.cells ⟨o0, o1', o2, o3, o4, k0, o6, o7⟩) _ (by rfl) wc.heap.size (by rfl) (by simp) (by intro u hu; simp [Opr.cells] at hu; rcases hu with rfl | rfl | rfl | rfl | rfl | rfl | rfl | rfl <;> rfl) (by have := HROL.out; simp [maxLen]; omega) (by have := HROL.out; simp; omega) (by simpa using hz1) ?_; intro v6 w6 hown6 hg6 hv6; obtain ⟨A6, n6, c6, rfl⟩ := hown6.isSlice; have hg6' := grow_drewN (grow_alloc hg6); have hK6 := Lib.hid (HK.out _ _ (roJ os j k0 ++ [⟨o0, o1', o2, o3, o4, k0, o6, o7⟩]) hg6' (by simpa using hown6) (hv6.imp id fun h => ⟨_, h, by simp⟩)); have d0 := hK6.out.2.1; have y0 := hK6.out.2.2; rw [Nat.mul_comm 3 k0] at d0 y0)
                  all_goals
                    go_wp2_with fail
                    go_meet
                    exact ⟨rfl, (by have := hK6.out.1; rwa [Nat.mul_comm 3 k0] at this), (HBA.out.grown hg6' hz1 (fun g hg => (HOV.out.lt hg).1)).setCell (Nat.le_refl _) _, by
                      rw [heap_setCell_other _ _ _ _ (by simp; omega), hg6'.block _ hxl (fun he => absurd (HL0.out _ he.symm) (by omega)), HXb.out]⟩
                obtain ⟨rfl, hd2, hb2, hx2⟩ := hcut
                have HD2 := Lib.hid hd2
                have HB2' := Lib.hid hb2
                have HX2 := Lib.hid hx2
                clear hd2 hb2 hx2 q0 q1 q2 q3 q4 q5 q6 q7 cv hxl hel hz1
                have hz2 : eb ≤ wc.heap.size := Nat.le_trans HEZ.out HB2'.out.size
                obtain ⟨vs, ⟨As, ns, caps, rfl⟩, hks⟩ := HD2.out.openS' hk0c
                have HKS := Lib.hid hks
                have hcw := (hks wc (Below.refl _ _)).1
                rw [Nat.mul_comm 3 k0] at hcw
                obtain ⟨q0, q1, q2, q3, q4, q5, q6, q7⟩ := opBox HX2.out
                simp only at q0 q1 q2 q3 q4 q5 q6 q7
                have HSC : Hid (∀ W, Below wc.heap.size wc W → W.cell? ⟨eb, k0 * 3 + 1, none⟩ = some (.slice As ns caps) ∧ W.cell? ⟨wr.heap.size, 0, none⟩ = some (.int .i64 o0) ∧ W.cell? ⟨wr.heap.size, 1, none⟩ = some (.int .i64 o1') ∧ W.cell? ⟨wr.heap.size, 2, none⟩ = some (.int .i64 o2) ∧ W.cell? ⟨wr.heap.size, 3, none⟩ = some (.bool o3) ∧
                    W.cell? ⟨wr.heap.size, 4, none⟩ = some (.bool o4) ∧ W.cell? ⟨wr.heap.size, 5, none⟩ = some (.int .i64 (k0 : Int)) ∧ W.cell? ⟨wr.heap.size, 6, none⟩ = some (.int .i64 o6) ∧ W.cell? ⟨wr.heap.size, 7, none⟩ = some (.int .i64 o7)) := fun W hW => by
                  have h1 := (HKS.out W hW).1
                  rw [Nat.mul_comm 3 k0] at h1
                  exact ⟨h1, opBox (o := ⟨o0, o1', o2, o3, o4, k0, o6, o7⟩) (keptB HX2.out hW)⟩
                clear hks
                have hxl2 : wr.heap.size < wc.heap.size := (Array.getElem?_eq_some_iff.1 HX2.out).1
                obtain ⟨db, hdb⟩ : ∃ db, durI os ⟨o0, o1', o2, o3, o4, k0, o6, o7⟩ = db := ⟨_, rfl⟩
                rw [hdb] at HDU
                have HDB := Lib.hid hdb
                clear hdb
                have hrl2 : ((roJ os j k0).map (durI os)).length ≤ 100000 := by rw [List.length_map]; exact HROL.out
                have HRL2 := Lib.hid hrl2
                have HBd : Hid (Below wc.heap.size wc wc.drew) := (Below.refl _ _).drew
                clear hrl2
                go_upto_region 19 with (fail)
                go_region_law (first
                      | ((refine step_ap1 (by rfl) (.tmp 76) (.tmp 80) _ (by rfl) elemBool (by rfl) hk4.out.2.1 [.bool db] _ (by rfl) w4.heap.size (by rfl) (by simp) (by simp [Value.oneCell']) (by have := HRL2.out; simp [maxLen] at this ⊢; omega) (by have := HRL2.out; simp at this ⊢; omega) (Nat.le_trans hz2 hb4'.size) ?_; intro v6 w6 hown6 hg6 hv6; obtain ⟨A6, n6, c6, rfl⟩ := hown6.isSlice; have hg6' := grow_alloc hg6; have hK6 := Lib.hid (hk4.out.2.2 _ _ ((roJ os j k0).map (durI os) ++ [db]) hg6' (by simpa using hown6) (hv6.imp id fun h => ⟨_, h, by simp⟩)); have d0 := hK6.out.2.1; have y0 := hK6.out.2.2; rw [Nat.mul_comm 3 k0] at d0 y0; have hx6 : w6.heap[wr.heap.size]? = some (.cells (Opr.cells ⟨o0, o1', o2, o3, o4, k0, o6, o7⟩).toArray 39) := (hg6'.block _ (Nat.lt_of_lt_of_le hxl2 hb4'.size) (hk4.out.2.1.notRow (keptB HX2.out hb4') (by decide))).trans (keptB HX2.out hb4'); have hck6 := Lib.hid (opBox (o := ⟨o0, o1', o2, o3, o4, k0, o6, o7⟩) hx6); have hck7 := Lib.hid (opBox (o := ⟨o0, o1', o2, o3, o4, k0, o6, o7⟩) ((heap_setCell_other w6 ⟨eb, k0 * 3 + 1, none⟩ wr.heap.size (.slice A6 n6 c6) (by simp; omega)).trans hx6)); clear hx6))
                      | (go_simp; go_wp2_with (go_at_call 70; ((with_reducible refine (HDU.out _ (HB2'.out.trans ((Below.refl _ _).drew.mono hz2))).mono ?_); rintro r w4 ⟨rfl, hb4⟩); have hb4' : Below wc.heap.size wc w4 := HBd.out.trans hb4; have hck4 := Lib.hid (HSC.out w4 hb4'); have hk4 := Lib.hid (HKS.out w4 hb4'); have d4 := hck4.out.1; have hel4 : eb < w4.heap.size := Nat.lt_of_lt_of_le HD2.out.lt hb4'.size))
                      | fail)
                all_goals
                  have HD3 := Lib.hid (show DivM (w6.setCell ⟨eb, k0 * 3 + 1, none⟩ (.slice A6 n6 c6)) eb eb cuts _ _ by have := hK6.out.1; rwa [Nat.mul_comm 3 k0] at this)
                  have HB3 := Lib.hid (((HB2'.out.trans (hb4'.mono hz2)).grown hg6' (Nat.le_trans hz2 hb4'.size) (fun g hg => (hk4.out.2.1.lt hg).1)).setCell (p := ⟨eb, k0 * 3 + 1, none⟩) (Nat.le_refl _) (.slice A6 n6 c6))
                  clear hK6 hg6' hk4 hb4' hck4 hck6 hck7 d0 d4 hel4 y0 hown6 hv6 hg6 hb4 q0 q1 q2 q3 q4 q5 q6 q7 hcw hxl2 hz2
                  go_wp2
                  go_roundw
                  case rel => exact ⟨j + 1, by omega, by go_num, by
                    have h1 : updN (fun k => roJ os j k) k0 (roJ os j k0 ++ [⟨o0, o1', o2, o3, o4, k0, o6, o7⟩]) = fun k => roJ os (j + 1) k := by
                      funext k
                      rw [HRO.out k, hE.out, updN]
                      by_cases hkk : k = k0
                      · subst hkk; simp
                      · rw [if_neg hkk]; simp; omega
                    have h2 : updN (fun k => (roJ os j k).map (durI os)) k0 ((roJ os j k0).map (durI os) ++ [db]) = fun k => (roJ os (j + 1) k).map (durI os) := by
                      funext k
                      rw [HRO.out k, hE.out, updN]
                      by_cases hkk : k = k0
                      · subst hkk; simp [HDB.out]
                      · rw [if_neg hkk]
                        have : ((k0 : Int) == (k : Int)) = false := by simp; omega
                        simp [this]
                    have h3 := HD3.out
                    rw [h1, h2] at h3
                    exact h3, HB3.out⟩
                  case measure => simp [intOf]; omega
            · obtain rfl : j = os.length := by omega
              have hfin : DivM wr eb eb cuts (fun k => eraX os k) (fun k => sfX os k) := by
                have := HD.out
                simp only [roJ, List.take_length] at this
                exact this
              have HER := Lib.hid hfin.eras
              clear hfin
              go_wp2
              go_ret2
              exact ⟨eb, _, rfl, HER.out, HBB.out.trans (HBx.out.mono HEBL.out)⟩
end Go.Proofs.Ytcgbnlhloopnfaa
