/- Walk of tegularef46.ends: the values that an era can leave.
Walk of tegularef46.Linearizable: it is true exactly if there is an explanation. -/
import Derived.Test.YtcgbnlhloopnfaaDoorRunA
import Derived.Test.YtcgbnlhloopnfaaDoorGTab
import Derived.Test.YtcgbnlhloopnfaaDoorGMst
import Derived.Test.YtcgbnlhloopnfaaDoorGRef
namespace Go.Proofs.YtcgbnlhloopnfaaDoor
open Go.RowKit

/-- the search while its operations are gathered -/
def EndI (w wr : World) (E : List Opr) (st : Int) (Ae : Option Addr) (ce : Nat) (v1 : Value) (X : List Opr) : Prop :=
  wr.heap[w.heap.size]? = some (.cells #[.slice Ae E.length ce, v1, .int .i64 st, .slice none 0 0, .slice none 0 0] 115 (0, 0)) ∧ OwS wr w.heap.size 64 8 v1 (X.map Opr.cells) ∧ Below w.heap.size w wr
def End1 (w : World) (E : List Opr) (st : Int) (Ae : Option Addr) (ce : Nat) (s : Value) (wr : World) : Prop := ∃ k : Nat, k ≤ E.length ∧ s = .int .i64 k ∧ ∃ v1, EndI w wr E st Ae ce v1 ((E.take k).filter effB)
theorem take_filt {E : List Opr} {k : Nat} {o : Opr} (ho : E[k]? = some o) : (E.take (k + 1)).filter effB = (E.take k).filter effB ++ if effB o then [o] else [] := by
  rw [List.take_add_one, ho, List.filter_append]
  rcases h : effB o with _ | _ <;> simp [List.filter, h]
/-- what ends leaves -/
def EndsQ (X : List Opr) (st : Int) (sf : Nat → Bool) (w : World) (r : Ending) (w' : World) : Prop := (∃ (v : Value) (xs : List Int), r = .returned v ∧ OwS w' w.heap.size 3 1 v (xs.map icell) ∧ (∀ u, u ∈ xs ↔ EndsV X st sf u) ∧ xs.length ≤ 2 ^ X.length * (X.length + 1)) ∧ Below w.heap.size w w'
/-- what the two last loops keep -/
def EndR (w w1 : World) (E X : List Opr) (st : Int) (Ae Ax : Option Addr) (ce cx : Nat) (N gr gg cr cg : Nat) (R G : Nat → Nat) (tr tg : Nat → Nat → Bool) (out : List Int) (s7 : Value) (wr : World) : Prop :=
  OwS wr w1.heap.size 3 1 s7 (out.map icell) ∧ RunV w1 wr w.heap.size E X st Ae Ax ce cx (.slice (some ⟨gr, 0, none⟩) N cr) (.slice (some ⟨gg, 0, none⟩) N cg) N N (X.length + 1) R G tr tg ∧ Below w.heap.size w wr
def End2 (w w1 : World) (E X : List Opr) (st : Int) (Ae Ax : Option Addr) (ce cx : Nat) (N gr gg cr cg : Nat) (R G : Nat → Nat) (tr tg : Nat → Nat → Bool) (s7 s8 : Value) (wr : World) : Prop :=
  ∃ S : Nat, S ≤ N ∧ s8 = .int .i64 S ∧ EndR w w1 E X st Ae Ax ce cx N gr gg cr cg R G tr tg (endAll E X st tr tg S) s7 wr
def End3 (w w1 : World) (E X : List Opr) (st : Int) (Ae Ax : Option Addr) (ce cx : Nat) (N gr gg cr cg : Nat) (R G : Nat → Nat) (tr tg : Nat → Nat → Bool) (S : Nat) (s7 s9 : Value) (wr : World) : Prop :=
  ∃ l : Nat, l ≤ X.length + 1 ∧ s9 = .int .i64 l ∧ EndR w w1 E X st Ae Ax ce cx N gr gg cr cg R G tr tg (endAll E X st tr tg S ++ endRow E X st tr tg S l) s7 wr
theorem TabV.keptI {w w' : World} {B B' n m : Nat} {v v' : Value} {R : Nat → Nat} {tab : Nat → Nat → Bool} {rows' : List (List Value)} (h : TabV w B v n m R tab) (hg : w.grownBy w' v'.ownBlock) (hO : OwS w B' 3 1 v' rows') : TabV w' B v n m R tab :=
  ⟨h.top.kept hg (h.top.ne hO (by decide)), fun k hk => (h.rows k hk).kept hg ((h.rows k hk).ne hO (by decide)), h.inj⟩
theorem RunV.keptI {w0 w w' : World} {sb : Nat} {E X : List Opr} {st : Int} {Ae Ax : Option Addr} {ce cx : Nat} {vr vg : Value} {nr ng m : Nat} {R G : Nat → Nat} {tr tg : Nat → Nat → Bool} {v' : Value} {rows' : List (List Value)} (h : RunV w0 w sb E X st Ae Ax ce cx vr vg nr ng m R G tr tg)
    (hg : w.grownBy w' v'.ownBlock) (hO : OwS w w0.heap.size 3 1 v' rows') : RunV w0 w' sb E X st Ae Ax ce cx vr vg nr ng m R G tr tg :=
  ⟨h.fr.grown hg h.fr.size fun _ e => (hO.lt e).1, h.sr.kept hg hO (by decide) (by decide), h.r.keptI hg hO, h.g.keptI hg hO, h.dis, h.sep⟩
set_option maxHeartbeats 8000000 in
set_option maxRecDepth 100000 in
theorem ends_any (E : List Opr) (st : Int) (Ae : Option Addr) (ce : Nat) (w : World) (h : OwS w 0 64 8 (.slice Ae E.length ce) (E.map Opr.cells)) (hX : (E.filter effB).length ≤ 8) (hE : E.length ≤ 100000) (hv : ∀ o ∈ E, 0 ≤ o.done → o.call ≤ o.done) :
    Calls Tryd.prog 32 #[.slice Ae E.length ce, .int .i64 st] w (EndsQ (E.filter effB) st (safR E (E.filter effB)) w) := by
  have HE := Lib.hid h
  have HXL := Lib.hid hX
  have HV := Lib.hid hv
  clear h hX hv
  go_enter Tryd.func32, Tryd.ntmps32
  go_wp2
  go_loopw [6] (fun s6 wr => End1 w E st Ae ce s6 wr) (fun s6 _ => E.length - (intOf s6).toNat)
  case atStart => exact ⟨0, by omega, rfl, _, by simpa using heap_alloc_new w _, OwS.nil _ _ _ _, below_laid⟩
  case round =>
    obtain ⟨k, hk, rfl, v1, hblk, hown, hb⟩ := hrel
    have HBK := Lib.hid hblk
    have HOW := Lib.hid hown
    have HB := Lib.hid hb
    have hz := hb.size
    obtain ⟨Ax, cx, rfl, -, -⟩ := hown.form
    rw [List.length_map] at HOW HBK
    have hsl : w.heap.size < wr.heap.size := (Array.getElem?_eq_some_iff.1 hblk).1
    clear hown
    by_cases hlt : k < E.length
    · have hkl : (k : Int) < (E.length : Int) := by omega
      obtain ⟨b, off, o, rfl, hbB, ho, d0, d1, d2, d3, d4, d5, d6, d7⟩ := OpS.at_ ((HE.out.reads).below hb) hlt
      have HTF := Lib.hid (take_filt ho)
      have HCELL : Hid (∀ W, Below w.heap.size w W → W.cell? ⟨b, off + k * 8, none⟩ = some (.int .i64 o.id) ∧ W.cell? ⟨b, off + k * 8 + 1, none⟩ = some (.int .i64 o.reg) ∧ W.cell? ⟨b, off + k * 8 + 2, none⟩ = some (.int .i64 o.val) ∧ W.cell? ⟨b, off + k * 8 + 3, none⟩ = some (.bool o.write) ∧ W.cell? ⟨b, off + k * 8 + 4, none⟩ = some (.bool o.barrier) ∧ W.cell? ⟨b, off + k * 8 + 5, none⟩ = some (.int .i64 o.era) ∧ W.cell? ⟨b, off + k * 8 + 6, none⟩ = some (.int .i64 o.call) ∧ W.cell? ⟨b, off + k * 8 + 7, none⟩ = some (.int .i64 o.done)) := fun W hW => by
        obtain ⟨b', off', o', hA, -, ho', c⟩ := OpS.at_ ((HE.out.reads).below hW) hlt
        cases hA
        rw [ho] at ho'
        cases ho'
        exact c
      have HEF : Hid (Calls Tryd.prog 27 #[o.agg] wr fun r w' => r = .returned (.bool (effB o)) ∧ Below wr.heap.size wr w') := effect_any o wr
      unfold Opr.agg at HEF
      have hlen : ((E.take k).filter effB).length ≤ 8 := Nat.le_trans ((List.take_sublist k E).filter effB).length_le HXL.out
      generalize hX0 : (E.take k).filter effB = X0 at *
      clear hblk hb ho hX0
      obtain ⟨eb, heb⟩ : ∃ eb, effB o = eb := ⟨_, rfl⟩
      rw [heb] at HEF HTF
      clear heb
      obtain ⟨a0, a1, a2, a3, a4, a5, a6, a7⟩ := o
      simp only at d0 d1 d2 d3 d4 d5 d6 d7 HEF HCELL
      cases eb
      · go_wp2_with fail
        refine HEF.out.mono ?_
        rintro r w2 ⟨rfl, hb2⟩
        have HI : Hid (EndI w w2 E st (some ⟨b, off, none⟩) ce (.slice Ax X0.length cx) X0) := ⟨keptB HBK.out hb2, HOW.out.below hb2, HB.out.trans (hb2.mono hz)⟩
        clear hb2 d0 d1 d2 d3 d4 d5 d6 d7
        go_wp2
        go_roundw
        case rel => exact ⟨k + 1, by omega, by go_num, _, by rw [HTF.out]; simpa using HI.out⟩
        case measure => simp [intOf]; omega
      · go_wp2_with fail
        refine HEF.out.mono ?_
        rintro r w2 ⟨rfl, hb2⟩
        have HB2 := Lib.hid (HB.out.trans (hb2.mono hz))
        have HO2 := Lib.hid (HOW.out.below hb2)
        have HK2 := Lib.hid (keptB HBK.out hb2)
        have hsl2 : w.heap.size < w2.heap.size := Nat.lt_of_lt_of_le hsl hb2.size
        clear hb2 d0 d1 d2 d3 d4 d5 d6 d7
        obtain ⟨d0, d1, d2, d3, d4, d5, d6, d7⟩ := HCELL.out w2 HB2.out
        have c1 : w2.cell? ⟨w.heap.size, 1, none⟩ = some (.slice Ax X0.length cx) := by rw [cell_of_row _ _ _ _ _ _ HK2.out]; rfl
        go_upto_region 6 with (fail)
        go_region_law (refine step_ap1 (by rfl) (.tmp 29) (.tmp 34) _ (by rfl) elemROp (by rfl) (HO2.out.drew) (Opr.cells ⟨a0, a1, a2, a3, a4, a5, a6, a7⟩) _ (by rfl) w2.heap.size (by rfl) (by simp) (Opr.one _) (by simp [maxLen]; omega) (by simp; omega) (by simp; omega) ?_; intro v6 w6 hown6 hg6 hv6; obtain ⟨A6, n6, q6, rfl⟩ := hown6.isSlice; have hk6 := (hg6.block w.heap.size (by simp; omega) (fun e => HO2.out.blk_ne HK2.out (by decide) e.symm)).trans ((heap_alloc_old _ _ (by simpa using hsl2)).trans HK2.out); have c6 : w6.cell? ⟨w.heap.size, 1, none⟩ = some (.slice Ax X0.length cx) := (by rw [cell_of_row _ _ _ _ _ _ hk6]; rfl); have f6 : w6.frozen? ⟨w.heap.size, 1, none⟩ = false := frozen_of_row _ _ _ _ _ hk6)
        all_goals
          have hb6 : Below w.heap.size w w6 := ((HB2.out.drew).alloc (by simp; omega) _).grown hg6 (by simp; omega) (fun g hg => (HO2.out.lt hg).1)
          have HI : Hid (EndI w (w6.setCell ⟨w.heap.size, 1, none⟩ (.slice A6 n6 q6)) E st (some ⟨b, off, none⟩) ce (.slice A6 n6 q6) (X0 ++ [⟨a0, a1, a2, a3, a4, a5, a6, a7⟩])) := ⟨heap_setCell_same _ _ _ _ _ _ hk6, by rw [List.map_append]; exact hown6.far (hown6.blk_ne hk6 (by decide)) _, hb6.setCell (Nat.le_refl _) _⟩
          generalize w6.setCell ⟨w.heap.size, 1, none⟩ (.slice A6 n6 q6) = w7 at *
          clear hb6 hk6 c6 f6 hown6 hg6 hv6 d0 d1 d2 d3 d4 d5 d6 d7 c1
          go_wp2
          go_roundw
          case rel => exact ⟨k + 1, by omega, by go_num, _, by rw [HTF.out]; exact HI.out⟩
          case measure => simp [intOf]; omega
    · obtain rfl : k = E.length := by omega
      rw [List.take_length] at HOW HBK
      have hvX : ∀ o ∈ E.filter effB, 0 ≤ o.done → o.call ≤ o.done := fun o ho => HV.out o (List.mem_filter.1 ho).1
      have hX8 := HXL.out
      generalize hXX : E.filter effB = X at *
      have HSR : Hid (SrO wr w.heap.size E X st Ae Ax ce cx (.slice none 0 0) (.slice none 0 0)) := ⟨HBK.out, HE.out.below HB.out, HOW.out.mono (Nat.zero_le _)⟩
      have HRUN := Lib.hid (rrun_any wr HSR.out (by omega) hvX)
      obtain ⟨N, hN⟩ : ∃ N, 2 ^ X.length = N := ⟨_, rfl⟩
      have hNb : N ≤ 256 := by
        have := Nat.pow_le_pow_right (show 0 < 2 by decide) hX8
        rw [hN] at this
        simpa using this
      have hNp : 0 < N := by rw [← hN]; exact Nat.two_pow_pos _
      have HN := Lib.hid hN
      rw [hN] at HRUN
      have HEND : Hid (∀ tr tg, (∀ S l, tr S l = true ↔ Reach X st S l) → GoodV X st tr tg 0 0 → ∀ u, u ∈ endAll E X st tr tg N ↔ EndsV X st (safR E X) u) := fun tr tg h1 h2 u => by rw [← HN.out]; exact ends_iff h1 h2 u
      clear hN hblk hb hvX
      have hw01 := HB.out.size
      generalize wr = w0 at *
      go_wp2_with fail
      refine HRUN.out.mono ?_
      rintro r w1 ⟨rfl, vr, vg, R, G, tr, tg, hr, hre, hgd⟩
      obtain ⟨gr, cr, hAr, -, -⟩ := hr.r.cells (k := 0) hNp
      obtain ⟨gg, cg, hAg, -, -⟩ := hr.g.cells (k := 0) hNp
      subst hAr hAg
      have hb1 : Below w.heap.size w w1 := HB.out.trans ⟨hr.fr.os, hr.fr.tape, hr.fr.output, hr.fr.size, fun k hk => hr.fr.block k (by omega) (by omega)⟩
      have HRR := Lib.hid hr
      have HEN := Lib.hid (HEND.out tr tg hre hgd)
      clear HRUN HEND hre hgd hr
      have HB1 := Lib.hid hb1
      clear hb1
      go_wp2
      go_loopw [7, 8, 9] (fun s7 s8 _ wr => End2 w w0 E X st Ae Ax ce cx N gr gg cr cg R G tr tg s7 s8 wr) (fun _ s8 _ _ => N - (intOf s8).toNat)
      case atStart => exact ⟨0, by omega, rfl, OwS.nil _ _ _ _, HRR.out, HB1.out⟩
      case round =>
        obtain ⟨S, hS, rfl, hown, hrv, hb⟩ := hrel
        have HOW := Lib.hid hown
        have HR := Lib.hid hrv
        have HB := Lib.hid hb
        obtain ⟨c3, c4, -, -⟩ := hrv.sr.cells
        have c1 : wr.cell? ⟨w.heap.size, 1, none⟩ = some (.slice Ax X.length cx) := by rw [cell_of_row _ _ _ _ _ _ hrv.sr.blk]; rfl
        clear hrv hb
        by_cases hlt : S < N
        · have hsN : (S : Int) < (N : Int) := by omega
          go_wp2
          generalize wr = wo at *
          clear hown c1 c3 c4
          go_loopw [7, 9] (fun s7 s9 wr => End3 w w0 E X st Ae Ax ce cx N gr gg cr cg R G tr tg S s7 s9 wr) (fun _ s9 _ => X.length + 1 - (intOf s9).toNat)
          case atStart => exact ⟨0, by omega, rfl, by simpa [endRow] using HOW.out, HR.out, HB.out⟩
          case round =>
            clear HOW HR HB
            obtain ⟨l, hl, rfl, hown, hrv, hb⟩ := hrel
            have HOW := Lib.hid hown
            have HR := Lib.hid hrv
            have HB := Lib.hid hb
            have hz := hb.size
            have hz1 := hrv.fr.size
            obtain ⟨c3, c4, -, -⟩ := hrv.sr.cells
            have c1 : wr.cell? ⟨w.heap.size, 1, none⟩ = some (.slice Ax X.length cx) := by rw [cell_of_row _ _ _ _ _ _ hrv.sr.blk]; rfl
            clear hb
            by_cases hll : l ≤ X.length
            · have hlI : (l : Int) ≤ (X.length : Int) := by omega
              have hlm : (l : Int) < (X.length : Int) + 1 := by omega
              obtain ⟨g', k', hA', e0, e1⟩ := hrv.r.cells (k := S) hlt
              injection hA' with hA' h1 h2
              injection hA' with hA'
              injection hA' with hA' _ _
              subst hA' h2
              obtain ⟨e2, -⟩ := e1 l (by omega)
              obtain ⟨g2, k2, hA2, e3, e4⟩ := hrv.g.cells (k := S) hlt
              injection hA2 with hA2 h3 h4
              injection hA2 with hA2
              injection hA2 with hA2 _ _
              subst hA2 h4
              obtain ⟨e5, -⟩ := e4 l (by omega)
              have HSF := Lib.hid (rsafe_any S wr hrv.sr.srv (Nat.le_refl _) (by omega) (by omega) hE)
              have HRS := Lib.hid (endRow_succ (E := E) (X := X) (st := st) (tr := tr) (tg := tg) (S := S) (l := l))
              have HPB : Hid (endPB E X tr tg S l = (tr S l && tg S l && covS X (safR E X) S)) := rfl
              have hln : (endAll E X st tr tg S ++ endRow E X st tr tg S l).length ≤ 10000 := by
                rw [List.length_append]
                have q1 := endAll_len (E := E) (X := X) (st := st) (tr := tr) (tg := tg) (S := S)
                have q2 := endRow_len (E := E) (X := X) (st := st) (tr := tr) (tg := tg) (S := S) (l := l)
                have q3 : S * (X.length + 1) ≤ 256 * 9 := Nat.mul_le_mul (by omega) (by omega)
                omega
              obtain ⟨ov, hov⟩ : ∃ ov, endAll E X st tr tg S ++ endRow E X st tr tg S l = ov := ⟨_, rfl⟩
              have HST : Hid (endAll E X st tr tg S ++ endRow E X st tr tg S (l + 1) = ov ++ if endPB E X tr tg S l then [valR X st l] else []) := by
                unfold Hid
                rw [HRS.out, ← List.append_assoc, hov]
              rw [hov] at HOW hown hln
              obtain ⟨trb, htr⟩ : ∃ b, tr S l = b := ⟨_, rfl⟩
              obtain ⟨tgb, htg⟩ : ∃ b, tg S l = b := ⟨_, rfl⟩
              obtain ⟨cvb, hcv⟩ : ∃ b, covS X (safR E X) S = b := ⟨_, rfl⟩
              rw [htr] at HPB e2
              rw [htg] at HPB e5
              rw [hcv] at HPB HSF
              clear htr htg hcv h1 h3 e1 e4 hrv hov HRS
              cases trb
              · have HF : Hid (endAll E X st tr tg S ++ endRow E X st tr tg S (l + 1) = ov) := by unfold Hid; rw [HST.out, HPB.out]; simp
                go_wp2
                go_roundw
                case rel => exact ⟨l + 1, by omega, by go_num, by rw [HF.out]; exact HOW.out, HR.out, HB.out⟩
                case measure => simp [intOf]; omega
              · cases tgb
                · have HF : Hid (endAll E X st tr tg S ++ endRow E X st tr tg S (l + 1) = ov) := by unfold Hid; rw [HST.out, HPB.out]; simp
                  go_wp2
                  go_roundw
                  case rel => exact ⟨l + 1, by omega, by go_num, by rw [HF.out]; exact HOW.out, HR.out, HB.out⟩
                  case measure => simp [intOf]; omega
                · cases cvb
                  · have HF : Hid (endAll E X st tr tg S ++ endRow E X st tr tg S (l + 1) = ov) := by unfold Hid; rw [HST.out, HPB.out]; simp
                    go_wp2_with fail
                    refine HSF.out.mono ?_
                    rintro r w2 ⟨rfl, hb2⟩
                    have HO2 := Lib.hid (HOW.out.below hb2)
                    have HR2 := Lib.hid (HR.out.below hb2)
                    have HB2 := Lib.hid (HB.out.trans (hb2.mono hz))
                    clear hb2 c1 c3 c4 e0 e2 e3 e5 hown
                    go_wp2
                    go_roundw
                    case rel => exact ⟨l + 1, by omega, by go_num, by rw [HF.out]; exact HO2.out, HR2.out, HB2.out⟩
                    case measure => simp [intOf]; omega
                  · have HF : Hid (endAll E X st tr tg S ++ endRow E X st tr tg S (l + 1) = ov ++ [valR X st l]) := by unfold Hid; rw [HST.out, HPB.out]; simp
                    go_wp2_with fail
                    refine HSF.out.mono ?_
                    rintro r w2 ⟨rfl, hb2⟩
                    have hown2 := hown.below hb2
                    have hr2 := HR.out.below hb2
                    have hb22 := HB.out.trans (hb2.mono hz)
                    have hz2 := hb22.size
                    have hz3 := hr2.fr.size
                    have HVL := Lib.hid (rval_any l w2 hr2.sr.srv hll (by omega))
                    clear hb2 c1 c3 c4 e0 e2 e3 e5 hown
                    go_wp2_with fail
                    refine HVL.out.mono ?_
                    rintro r w3 ⟨rfl, rfl⟩
                    go_wp2_with (at_builtin; refine wpList_ap1 rfl (.tmp 85) (.tmp 89) _ rfl elemInt rfl hown2 (icell (valR X st l)) _ (by rfl) w3.heap.size (by rfl) (by rfl) (icellOne _) (by simp [maxLen]; omega) (by simp; omega) hz3 ?_)
                    intro v4 w4 hown4 hg4 _
                    have HR4 := Lib.hid ((hr2.below below_laid).keptI hg4 (hown2.alloc _))
                    have HB4 : Hid (Below w.heap.size w w4) := (hb22.alloc hz2 _).grown hg4 (by simp; omega) (fun g hg => by have := (hown2.lt hg).1; have := hw01; omega)
                    have HO4 : Hid (OwS w4 w0.heap.size 3 1 v4 ((ov ++ [valR X st l]).map icell)) := by unfold Hid; rw [List.map_append]; exact hown4
                    clear hg4 hown4 hown2 hr2 hb22
                    go_wp2
                    go_roundw
                    case rel => exact ⟨l + 1, by omega, by go_num, by rw [HF.out]; exact HO4.out, HR4.out, HB4.out⟩
                    case measure => simp [intOf]; omega
            · obtain rfl : l = X.length + 1 := by omega
              have hlI : ¬ (((X.length + 1 : Nat) : Int) ≤ (X.length : Int)) := by omega
              have HAS := Lib.hid (endAll_succ (E := E) (X := X) (st := st) (tr := tr) (tg := tg) (S := S))
              clear hown hrv
              go_wp2
              go_roundw
              case rel => exact ⟨S + 1, by omega, by go_num, by rw [HAS.out]; exact HOW.out, HR.out, HB.out⟩
              case measure => simp [intOf]; omega
        · obtain rfl : S = N := by omega
          have hln : (endAll E X st tr tg S).length ≤ S * (X.length + 1) := endAll_len
          have HLN := Lib.hid hln
          clear hln hown
          go_wp2
          go_ret
          refine ⟨⟨_, _, rfl, HOW.out.mono hw01, HEN.out, ?_⟩, HB.out⟩
          rw [HN.out]
          exact HLN.out
end Go.Proofs.YtcgbnlhloopnfaaDoor
namespace Go.Proofs.YtcgbnlhloopnfaaDoor
open Go.RowKit

theorem raw_after (l : List Ev) : ∀ k, ∀ o ∈ (rawTo l k).1, o.call < k ∧ (0 ≤ o.done → o.call ≤ o.done) := by
  intro k
  induction k with
  | zero => intro o ho; cases ho
  | succ k ih =>
    intro o ho
    rw [rawTo] at ho
    rcases he : l[k]? with _ | e
    · rw [he] at ho
      have := ih o ho
      exact ⟨by omega, this.2⟩
    · rw [he] at ho
      simp only [rawStep] at ho
      split at ho
      · have := ih o ho
        exact ⟨by omega, this.2⟩
      · split at ho
        · rcases List.mem_append.1 ho with ho | ho
          · have := ih o ho
            exact ⟨by omega, this.2⟩
          · simp only [List.mem_singleton] at ho
            subst ho
            exact ⟨by simp [Opr.of]; omega, by simp [Opr.of]⟩
        · obtain ⟨o', ho', rfl⟩ := List.mem_map.1 ho
          have := ih o' ho'
          unfold Opr.fin
          split
          · exact ⟨by simp only; omega, fun _ => by simp only; omega⟩
          · exact ⟨by omega, this.2⟩
theorem icellAllR {l : List Int} : ∀ r ∈ l.map icell, ∀ u ∈ r, u.oneCell' = true := by
  intro r hr u hu
  obtain ⟨x, _, rfl⟩ := List.mem_map.1 hr
  exact icellOne x u hu
theorem vals_more {os : List Opr} {k : Nat} {xs ys : List Int} (hx : ∀ v, v ∈ xs ↔ ValsK os k v) (hy : ∀ v, v ∈ ys ↔ ∃ u ∈ xs, EndsV (eraX os k) u (safR (eraO os k) (eraX os k)) v) (v : Int) : v ∈ difI ys ↔ ValsK os (k + 1) v := by
  rw [difI_mem, hy]
  constructor
  · rintro ⟨u, h1, h2⟩
    exact ⟨u, (hx u).1 h1, ends_same.1 h2⟩
  · rintro ⟨u, h1, h2⟩
    exact ⟨u, (hx u).2 h1, ends_same.2 h2⟩
def Liz1 (w w1 : World) (os : List Opr) (cuts : Nat) (s3 s5 : Value) (wr : World) : Prop := ∃ (i : Nat) (xs : List Int), i ≤ cuts + 1 ∧ s5 = .int .i64 i ∧ OwS wr w.heap.size 3 1 s3 (xs.map icell) ∧ xs.Nodup ∧ (∀ v, v ∈ xs ↔ ValsK os i v) ∧ Below w1.heap.size w1 wr
def Liz2 (wo : World) (E X : List Opr) (xs : List Int) (s6 s7 : Value) (wr : World) : Prop := ∃ (j : Nat) (ys : List Int), j ≤ xs.length ∧ s7 = .int .i64 j ∧ OwS wr wo.heap.size 3 1 s6 (ys.map icell) ∧ (∀ v, v ∈ ys ↔ ∃ u ∈ xs.take j, EndsV X u (safR E X) v) ∧ ys.length ≤ j * 2304 ∧ Below wo.heap.size wo wr
set_option maxHeartbeats 8000000 in
set_option maxRecDepth 100000 in
theorem linz_any (l : List Ev) (A : Option Addr) (c B : Nat) (w : World) (h : EvS w B A l) (hB : B ≤ w.heap.size) (hlen : l.length ≤ 1000) (hv : validL l = true) (hm : mostL l ≤ 8) :
    Calls Tryd.prog 16 #[.slice A l.length c] w fun r w' => (∃ b, r = .returned (.bool b) ∧ (b = true ↔ ExpO (rawOps l) (cutsL l) 0 0)) ∧ Below w.heap.size w w' := by
  have HE := Lib.hid (fun W (hW : Below w.heap.size w W) => eras_any l A c B W (h.below' hW hB) (Nat.le_trans hB hW.size) (by omega) hv)
  unfold ErasP at HE
  have HID := Lib.hid (nd_ids hv)
  have hol : (rawOps l).length ≤ 1000 := Nat.le_trans (rawTo_bd l l.length).1 hlen
  have hcb : cutsL l ≤ 1000 := Nat.le_trans List.countP_le_length hlen
  have HAF : Hid (∀ o ∈ rawOps l, 0 ≤ o.done → o.call ≤ o.done) := fun o ho => (raw_after l l.length o ho).2
  have HMX : Hid (∀ k : Nat, k < cutsL l + 1 → (eraX (rawOps l) k).length ≤ 8) := fun k hk => Nat.le_trans (mostN_le hk) hm
  clear h hv hm
  generalize rawOps l = os at *
  generalize cutsL l = cuts at *
  go_enter Tryd.func16, Tryd.ntmps16
  go_wp2_with fail
  refine (HE.out _ below_laid).mono ?_
  rintro r w1 ⟨⟨g, cap, rfl, her⟩, hb1⟩
  have HM := Lib.hid her
  have HO1 : Hid (OwS w1 w.heap.size 3 1 (.slice (some ⟨w.heap.size, 0, none⟩) 1 1) ([0].map icell)) := (OwS.lit (w := w.alloc (.cells #[.int .i64 0] 3)) (by simp [icell]) (heap_alloc_new w _) rfl rfl (by simp [maxLen]) (Nat.le_refl _)).below hb1
  have HB1 : Hid (Below w.heap.size w w1) := below_laid.trans (hb1.mono (by simp))
  have hgs := her.lt.2
  have hw01 := HB1.out.size
  clear her hb1 HE
  go_wp2
  go_loopw [3, 5, 6, 7] (fun s3 s5 _ _ wr => Liz1 w w1 os cuts s3 s5 wr) (fun _ s5 _ _ _ => cuts + 1 - (intOf s5).toNat)
  case atStart => exact ⟨0, [0], by omega, rfl, HO1.out, by simp, fun v => by simp [ValsK], Below.refl _ _⟩
  case round =>
    obtain ⟨i, xs, hi, rfl, hown, hnd, hxs, hb⟩ := hrel
    have HOW := Lib.hid hown
    have HND := Lib.hid hnd
    have HXS := Lib.hid hxs
    have HB := Lib.hid hb
    have hz := hb.size
    have hfew := vals_few hnd fun v hv => (hxs v).1 hv
    obtain ⟨Av, cv, rfl, -, -⟩ := hown.form
    rw [List.length_map] at HOW ⊢
    have hr3 := HOW.out.reads
    clear hown hnd hxs hb HO1
    by_cases hlt : i < cuts + 1
    · have hic : (i : Int) < (cuts : Int) + 1 := by omega
      obtain ⟨Ae, ce, hat⟩ := HM.out.at_ hlt
      have HAT := Lib.hid hat
      have HX8 := Lib.hid (HMX.out i hlt)
      have hEl : (eraO os (i : Int)).length ≤ 100000 := Nat.le_trans (List.length_filter_le _ _) (by omega)
      have HAE : Hid (∀ o ∈ eraO os (i : Int), 0 ≤ o.done → o.call ≤ o.done) := fun o ho => HAF.out o (List.mem_filter.1 ho).1
      have HVM := Lib.hid (fun ys hy => vals_more (ys := ys) HXS.out hy)
      clear hat hr3
      have HXE : Hid (eraX os i = (eraO os (i : Int)).filter effB) := rfl
      generalize eraX os i = X at *
      generalize eraO os (i : Int) = E at *
      have hXE := HXE.out
      subst hXE
      have HEND : Hid (∀ W (u : Int), Below w1.heap.size w1 W → Calls Tryd.prog 32 #[.slice Ae E.length ce, .int .i64 u] W (EndsQ (E.filter effB) u (safR E (E.filter effB)) W)) := fun W u hW => ends_any E u Ae ce W ((HAT.out W hW).2.mono (Nat.zero_le _)) HX8.out hEl HAE.out
      unfold EndsQ at HEND
      have hXb : 2 ^ (E.filter effB).length * ((E.filter effB).length + 1) ≤ 2304 := by
        have h1 := Nat.pow_le_pow_right (show 0 < 2 by decide) HX8.out
        have h2 := HX8.out
        exact Nat.le_trans (Nat.mul_le_mul h1 (show (E.filter effB).length + 1 ≤ 9 by omega)) (by decide)
      have HXB := Lib.hid hXb
      clear hXb HXE
      generalize hXq : E.filter effB = X at *
      clear hXq
      generalize wr = wo at *
      go_wp2
      go_loopw [6, 7] (fun s6 s7 wr => Liz2 wo E X xs s6 s7 wr) (fun _ s7 _ => xs.length - (intOf s7).toNat)
      case atStart => exact ⟨0, [], by omega, rfl, OwS.nil _ _ _ _, fun v => by simp, by simp, Below.refl _ _⟩
      case round =>
        obtain ⟨j, ys, hj, rfl, hown, hys, hyl, hb⟩ := hrel
        have HOY := Lib.hid hown
        have HYS := Lib.hid hys
        have HBQ := Lib.hid hb
        have hzq := hb.size
        have HBW : Hid (Below w1.heap.size w1 wr) := HB.out.trans (hb.mono hz)
        have hy1 : ys.length ≤ 1001 * 2304 := Nat.le_trans hyl (Nat.mul_le_mul_right _ (by omega))
        have HYL := Lib.hid hyl
        obtain ⟨Ay, cy, rfl, -, -⟩ := hown.form
        rw [List.length_map] at HOY
        clear hys hown hyl
        by_cases hlj : j < xs.length
        · have hjx : (j : Int) < (xs.length : Int) := by omega
          obtain ⟨bv, ov, u, rfl, hbv, hu, e0⟩ := IntS.at_ ((HOW.out.reads).below hb) hlj
          have c0 := (HAT.out wr HBW.out).1
          have HU := Lib.hid hu
          have HCALL : Hid (∀ W, Below wr.heap.size wr W → Calls Tryd.prog 32 #[.slice Ae E.length ce, .int .i64 u] W _) := fun W hW => HEND.out W u (HBW.out.trans (hW.mono (Nat.le_trans (HB.out.size) hzq)))
          have HBd : Hid (Below wr.heap.size wr wr.drew) := (Below.refl _ _).drew
          clear hb hu
          go_upto_region 10 with (fail)
          go_region_law (first
            | ((refine step_apS (by rfl) (.tmp 23) (.tmp 32) _ (by rfl) elemInt (by rfl) hown4y w4.heap.size A4 _ c4 (zs.map icell) (by rfl) hr4 (by simp) icellAllR (by have := HXB.out; simp [maxLen]; omega) (by have := HXB.out; simp; omega) hz4 ?_; intro v6 w6 hown6 hg6 hv6))
            | (go_simp; go_wp2_with (go_at_call 32; ((with_reducible refine (HCALL.out _ HBd.out).mono ?_); rintro r w4 ⟨⟨v4, zs, rfl, hown4, hmem4, hlen4⟩, hb4⟩); obtain ⟨A4, c4, rfl, -, -⟩ := hown4.form; have hr4 := hown4.reads; have hown4y := HOY.out.drew.below hb4; have hb4' := HBQ.out.trans (((HBd.out.trans hb4)).mono hzq); have hz4 := hb4'.size))
            | fail)
          all_goals
            have HB6 : Hid (Below wo.heap.size wo w6) := hb4'.grown hg6 hz4 (fun g hg => (hown4y.lt hg).1)
            have HO6 : Hid (OwS w6 wo.heap.size 3 1 v6 ((ys ++ zs).map icell)) := by unfold Hid; rw [List.map_append]; exact hown6
            have HM6 : Hid (∀ v, v ∈ ys ++ zs ↔ ∃ u ∈ xs.take (j + 1), EndsV X u (safR E X) v) := fun v => by
              rw [List.mem_append, HYS.out v, hmem4 v, List.take_add_one, HU.out]
              constructor
              · rintro (⟨u', h1, h2⟩ | h)
                · exact ⟨u', List.mem_append.2 (.inl h1), h2⟩
                · exact ⟨u, List.mem_append.2 (.inr (by simp)), h⟩
              · rintro ⟨u', h1, h2⟩
                rcases List.mem_append.1 h1 with h1 | h1
                · exact .inl ⟨u', h1, h2⟩
                · have : u' = u := by simpa using h1
                  subst this
                  exact .inr h2
            have HL6 : Hid ((ys ++ zs).length ≤ (j + 1) * 2304) := by
              unfold Hid
              rw [List.length_append, Nat.add_mul]
              have := HYL.out
              have := HXB.out
              omega
            generalize ys ++ zs = yz at *
            clear hown6 hg6 hv6 hown4 hown4y hr4 hmem4 hlen4 hb4 hb4' hz4 c0 e0
            go_wp2
            go_roundw
            case rel =>
              have HT : Liz2 wo E X xs v6 (.int .i64 ((j : Int) + 1)) w6 := ⟨j + 1, yz, by omega, by go_num, HO6.out, HM6.out, HL6.out, HB6.out⟩
              first
              | exact HT
              | (repeat apply Exists.intro)
                apply And.intro
                case right => (repeat' apply And.intro) <;> rfl
                case left => exact HT
            case measure => simp [intOf]; omega
        · obtain rfl : j = xs.length := by omega
          have HYS2 : Hid (∀ v, v ∈ ys ↔ ∃ u ∈ xs, EndsV X u (safR E X) v) := by have := HYS.out; rwa [List.take_length] at this
          have HDF := Lib.hid (dif_any ys Ay cy wr.heap.size wr (HOY.out.reads) (Nat.le_refl _) (by omega))
          clear hb
          go_wp2_with fail
          refine HDF.out.mono ?_
          rintro r w4 ⟨⟨v4, rfl, hown4⟩, hb4⟩
          have HO4 := Lib.hid (hown4.mono (Nat.le_trans (Nat.le_trans hw01 HB.out.size) hzq))
          have HB4 := Lib.hid (HBW.out.trans (hb4.mono (Nat.le_trans HB.out.size hzq)))
          clear hown4 hb4 HDF
          go_wp2
          go_roundw
          case rel => exact ⟨i + 1, difI ys, by omega, by go_num, HO4.out, difI_nodup ys, HVM.out ys HYS2.out, HB4.out⟩
          case measure => simp [intOf]; omega
    · obtain rfl : i = cuts + 1 := by omega
      have HVA := Lib.hid (vals_all (os := os) HID.out (cuts := cuts))
      clear hr3
      by_cases hx : xs = []
      · subst hx
        go_wp2
        go_ret
        refine ⟨⟨false, rfl, ?_⟩, HB1.out.trans (HB.out.mono hw01)⟩
        rw [HVA.out]
        constructor
        · intro h; cases h
        · rintro ⟨v, hv⟩
          have := (HXS.out v).2 hv
          cases this
      · have hxp : (0 : Int) < (xs.length : Int) := by have := List.length_pos_iff.2 hx; omega
        go_wp2
        go_ret
        refine ⟨⟨true, ret_bool (by simpa using hxp), ?_⟩, HB1.out.trans (HB.out.mono hw01)⟩
        rw [HVA.out]
        obtain ⟨v, hv⟩ := List.exists_mem_of_ne_nil xs hx
        exact ⟨fun _ => ⟨v, (HXS.out v).1 hv⟩, fun _ => rfl⟩
end Go.Proofs.YtcgbnlhloopnfaaDoor
