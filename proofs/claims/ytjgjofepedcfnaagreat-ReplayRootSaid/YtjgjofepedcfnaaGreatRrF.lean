/- Walk of sumtree.Build. -/
import Derived.Test.YtjgjofepedcfnaaGreatRrE
namespace Go.Proofs.YtjgjofepedcfnaaGreat
open Go.RowKit
def lenV : Value → Nat
 | .slice _ n _ => n
 | _ => 0
def BldP (l : List Nat) (w' : World) (e : Ending) : Prop := ∃ (lv : Int) (p : Option Addr), e = .returned (.agg #[.int .i64 (l.length : Int), .int .i64 lv, .pointer p]) ∧ (l = [] → p = none) ∧ (l ≠ [] → ∃ q, p = some ⟨q, 0, none⟩ ∧ q < w'.heap.size ∧ w'.cell? ⟨q, 0, none⟩ = some (.int .u64 ((topL l).headD 0 : Int)))
theorem topF_ne {f : Nat} {l : List Nat} (h : l ≠ []) : topF f l ≠ [] := by
 induction f generalizing l with
 | zero => exact h
 | succ f ih =>
  unfold topF
  split
  ·exact h
  ·refine ih fun e => ?_
   have := upL_len l
   rw [e] at this
   simp at this
   rcases l with _ | ⟨a, l⟩
   ·exact h rfl
   ·simp at this; omega
set_option maxHeartbeats 4000000 in
set_option maxRecDepth 100000 in
theorem build_any {A : Option Addr} {B c : Nat} {l : List Nat} (w : World) (h : U64S w B A l) (hB : B ≤ w.heap.size) (hn : l.length ≤ 100000) :
  Calls Tryz.prog 61 #[.slice A l.length c] w fun r w' => BldP l w' r ∧ Below w.heap.size w w' := by
 have HU := Lib.hid h
 have HTA : Hid (l.take l.length = l) := List.take_length
 have HLL := Lib.hid hn
 clear h
 go_enter Tryz.func61, Tryz.ntmps61
 go_upto_region 2 with (fail)
 generalize hW0 : w.alloc _ = w0
 have HR0 : Hid (w0.heap[w.heap.size]? = some (.cells #[.int .i64 0, .int .i64 0, .pointer none] 112 (0, 0))) := by rw [← hW0]; exact heap_alloc_new w _
 have HB0 : Hid (Below w.heap.size w w0) := by rw [← hW0]; exact below_laid
 have HRL : Hid (w.heap.size < w0.heap.size) := (Array.getElem?_eq_some_iff.1 HR0.out).1
 clear hW0
 go_wp2
 go_loopw [3, 11] (fun s3 s11 wr => ∃ k : Nat, k ≤ l.length ∧ s11 = .int .i64 k ∧ NdO wr w0.heap.size w.heap.size s3 (l.take k) ∧ Below w0.heap.size w0 wr) (fun _ s11 _ => l.length - (intOf s11).toNat)
 case atStart => exact ⟨0, by omega, rfl, NdO.nil _ _ _, Below.refl _ _⟩
 case round =>
  obtain ⟨k, hk, rfl, hO, hb⟩ := hrel
  by_cases hkn : k < l.length
  case pos =>
   have hkI : (k : Int) < (l.length : Int) := by omega
   have hk0 : ¬ (k : Int) < 0 := by omega
   obtain ⟨ps, hnd⟩ := hO
   have HND := Lib.hid hnd
   have HB := Lib.hid hb
   obtain ⟨x, hx⟩ : ∃ x, l[k]? = some x := ⟨_, List.getElem?_eq_getElem hkn⟩
   obtain ⟨b, o, rfl, hbB, hc⟩ := U64S.at_ (RdS.below' HU.out (HB0.out.trans (hb.mono HB0.out.size)) hB) hx
   have HSE : Hid ((l.take k) ++ [x] = l.take (k + 1)) := by rw [Hid, List.take_add_one, hx]; rfl
   have hpl : ps.length ≤ 100000 := by have := hnd.1; rw [List.length_take] at this; omega
   have HOO := Lib.hid (hnd.2.1)
   have hz := hb.size
   obtain ⟨A3, c3, rfl, -, -⟩ := hnd.2.1.form
   rw [List.length_map] at HND HOO ⊢
   clear hnd hb hx
   have HOA : Hid (OwS (wr.alloc (.cells #[.int .u64 (x : Int), .slice none 0 0] 163)) w0.heap.size 110 1 (.slice A3 ps.length c3) (ps.map ptC)) := HOO.out.below below_laid
   go_wp2_with (at_builtin; refine wpList_ap1 rfl (.tmp 15) (.tmp 19) _ rfl elemPt rfl HOA.out (ptC wr.heap.size) _ (by rfl) (wr.heap.size + 1) (by rfl) (by simp) (ptC_one _) (by simp [maxLen]; omega) (by simp; omega) (by simp; omega) ?_)
   intro v5 w5 hown5 hg5 hv5
   have hb2 : Below wr.heap.size wr ((wr.alloc (.cells #[.int .u64 (x : Int), .slice none 0 0] 163)).alloc (.cells (ptC wr.heap.size).toArray 110)) := below_laid.trans (below_laid.mono (by simp))
   have hq2 : ((wr.alloc (.cells #[.int .u64 (x : Int), .slice none 0 0] 163)).alloc (.cells (ptC wr.heap.size).toArray 110)).heap[wr.heap.size]? = some (.cells #[.int .u64 (x : Int), .slice none 0 0] 163) := by
    rw [Below.heap_alloc _ _ _ (by simp)]
    exact heap_alloc_new wr _
   have HN5 : Hid (NdO w5 w0.heap.size w.heap.size v5 (l.take (k + 1))) := by
    rw [Hid, ← HSE.out]
    refine (HND.out.call hb2).push (q := wr.heap.size) ⟨hz, by simp; omega⟩ (fun e => by have := (HOO.out.lt e).2; omega) (by have := HRL.out; omega) (by rw [cell_of_row _ _ _ _ _ _ hq2]; rfl) hg5 hown5 ?_
    rcases hv5 with e | e
    ·exact .inl e
    ·exact .inr ⟨_, e, by simp⟩
   have HB5 : Hid (Below w0.heap.size w0 w5) := (HB.out.trans (hb2.mono hz)).grown hg5 (by simp; omega) (fun k h => (HOO.out.lt h).1)
   clear hown5 hg5 hv5 hb2 hq2 hc
   go_wp2
   go_roundw
   case rel => exact ⟨k + 1, by omega, by go_num, HN5.out, HB5.out⟩
   case measure => simp [intOf] <;> omega
  case neg =>
   have hkI : ¬ (k : Int) < (l.length : Int) := by omega
   obtain rfl : k = l.length := by omega
   rw [HTA.out] at hO
   obtain ⟨A3, c3, rfl, -, -⟩ := hO.form
   have HO := Lib.hid hO.toX
   have HB := Lib.hid hb
   have hz := hb.size
   clear hO hb
   go_upto_region 8 with (fail)
   have hbl : Below wr.heap.size wr (wr.alloc (.cells #[.int .i64 (l.length : Int), .int .i64 0, .pointer none] 112)) := below_laid
   have HT1 := Lib.hid (heap_alloc_new wr (.cells #[.int .i64 (l.length : Int), .int .i64 0, .pointer none] 112))
   have HO1 := Lib.hid (HO.out.call hbl)
   have HB1 := Lib.hid (HB.out.trans (hbl.mono hz))
   generalize wr.alloc _ = w1 at *
   have HXL : Hid (w0.heap.size ≤ wr.heap.size) := hz
   generalize wr.heap.size = X at *
   clear hbl HO HB hz
   go_wp2
   go_loopw [3] (fun s3 wr => ∃ (cur : List Nat) (f : Nat) (lv : Int), NdO wr w0.heap.size X s3 cur ∧ cur.length ≤ f ∧ topF f cur = topL l ∧ cur.length ≤ 100000 ∧ wr.heap[X]? = some (.cells #[.int .i64 (l.length : Int), .int .i64 lv, .pointer none] 112 (0, 0)) ∧ Below w0.heap.size w0 wr) (fun s3 _ => lenV s3)
   case atStart => exact ⟨l, l.length, 0, HO1.out, Nat.le_refl _, rfl, HLL.out, HT1.out, HB1.out⟩
   case round =>
    obtain ⟨cur, f, lv, hO, hf, hR, hcl, ht, hb⟩ := hrel
    obtain ⟨A4, c4, rfl, hN, hc4⟩ := hO.form
    have HO := Lib.hid hO
    have HT := Lib.hid ht
    have HB := Lib.hid hb
    have HNS := Lib.hid hN
    have HR := Lib.hid hR
    clear hO ht hb hN HO1 HT1 HB1
    by_cases h1 : 1 < cur.length
    case pos =>
     have h1I : (1 : Int) < (cur.length : Int) := by omega
     obtain ⟨s0, hs0⟩ : ∃ s, cur[0]? = some s := ⟨_, List.getElem?_eq_getElem (by omega)⟩
     obtain ⟨b, o, p0, rfl, -⟩ := NdS.at_ HNS.out hs0
     generalize wr = wo at *
     have hwo : w0.heap.size ≤ wo.heap.size := HB.out.size
     have HXo : Hid (X < wo.heap.size) := (Array.getElem?_eq_some_iff.1 HT.out).1
     clear hs0
     go_wp2
     go_loopw [7, 8] (fun s7 s8 wr => ∃ i j : Nat, i = 4 * j ∧ j ≤ (cur.length + 3) / 4 ∧ s8 = .int .i64 i ∧ NdO wr wo.heap.size X s7 (upK cur j) ∧ Below wo.heap.size wo wr) (fun _ s8 _ => cur.length + 8 - (intOf s8).toNat)
     case atStart => exact ⟨0, 0, rfl, Nat.zero_le _, rfl, NdO.nil _ _ _, Below.refl _ _⟩
     case round =>
      obtain ⟨i, j, hij, hj, rfl, hO, hb⟩ := hrel
      by_cases hic : i < cur.length
      case pos =>
       have hiI : (i : Int) < (cur.length : Int) := by omega
       have hi0 : ¬ (i : Int) < 0 := by omega
       have hi0' : (0 : Int) ≤ (i : Int) := by omega
       have HIJ : Hid (i = 4 * j) := hij
       obtain ⟨hi, hhi⟩ : ∃ hi, min (i + 4) cur.length = hi := ⟨_, rfl⟩
       have q1 : IntKind.i64.wrap ((i : Int) + 4) = (i : Int) + 4 := IntWalk.i64_in _ (by omega)
       have q2 : ¬ c4 = i := by omega
       have q3 : min ((i : Int) + 4) (cur.length : Int) = (hi : Int) := by omega
       have q4 : (i : Int) ≤ (hi : Int) := by omega
       have q5 : (hi : Int) ≤ (c4 : Int) := by omega
       have hpl : ((cur.drop i).take 4).length = hi - i := by rw [List.length_take, List.length_drop]; omega
       have HJN := Lib.hid (join_any (c := c4 - i) wr ((HNS.out.below hb (Nat.le_refl _)).part i 4) hb.size (by rw [hpl]; omega))
       rw [hpl] at HJN
       have HUS : Hid (upK cur (j + 1) = upK cur j ++ [ruN ((cur.drop i).take 4)]) := by rw [Hid, upK_succ, hij]
       have HMJ : Hid (j + 1 ≤ (cur.length + 3) / 4) := by rw [Hid]; omega
       generalize ruN ((cur.drop i).take 4) = rn at *
       obtain ⟨ps, hnd⟩ := hO
       have hps : ps.length ≤ 100000 := by have := hnd.1; rw [upK_len] at this; omega
       obtain ⟨A5, c5, rfl, -, -⟩ := hnd.2.1.form
       have HND := Lib.hid hnd
       have HB5 := Lib.hid hb
       have HOO := Lib.hid hnd.2.1
       rw [List.length_map] at HND HOO ⊢
       clear hnd hb hij hhi hpl hj
       go_wp2_with fail
       refine HJN.out.mono ?_
       rintro r wj ⟨⟨q, rfl, hq1, hq2, hqc⟩, hbj⟩
       have HNJ := Lib.hid (HND.out.call hbj)
       have HBJ := Lib.hid (HB5.out.trans (hbj.mono HB5.out.size))
       have HOJ := Lib.hid (HOO.out.below hbj)
       have HQ := Lib.hid (And.intro hq1 (And.intro hq2 hqc))
       have hwj : wo.heap.size ≤ wj.heap.size := HBJ.out.size
       have HQB : Hid (wo.heap.size ≤ q) := Nat.le_trans HB5.out.size hq1
       clear hq1 hq2 hqc hbj HJN
       go_wp2_with (at_builtin; refine wpList_ap1 rfl (.tmp 34) (.tmp 44) _ rfl elemPt rfl HOJ.out (ptC q) _ (by rfl) wj.heap.size (by rfl) (by rfl) (ptC_one _) (by simp [maxLen]; omega) (by simp; omega) hwj ?_)
       intro v5 w5 hown5 hg5 hv5
       have hb2 : Below wj.heap.size wj (wj.alloc (.cells (ptC q).toArray 110)) := below_laid
       have HN5 : Hid (NdO w5 wo.heap.size X v5 (upK cur (j + 1))) := by
        obtain ⟨k1, k2, k3⟩ := HQ.out
        rw [Hid, HUS.out]
        refine (HNJ.out.call hb2).push (q := q) ⟨HQB.out, by simp; omega⟩ (fun e => by have := (HOO.out.lt e).2; omega) (by have := HXo.out; have := HQB.out; omega) ((hb2.cell (p := ⟨q, 0, none⟩) k2).trans k3) hg5 hown5 ?_
        rcases hv5 with e | e
        ·exact .inl e
        ·exact .inr ⟨_, e, by simp⟩
       have HB6 : Hid (Below wo.heap.size wo w5) := (HBJ.out.trans (hb2.mono hwj)).grown hg5 (by simp; omega) (fun k h => (HOO.out.lt h).1)
       clear hown5 hg5 hv5 hb2
       go_wp2
       go_roundw
       case rel => exact ⟨i + 4, j + 1, by have := HIJ.out; omega, HMJ.out, by go_num, HN5.out, HB6.out⟩
       case measure => simp [intOf] <;> omega
      case neg =>
       have hiI : ¬ (i : Int) < (cur.length : Int) := by omega
       obtain rfl : j = (cur.length + 3) / 4 := by omega
       have HO2 : Hid (NdO wr wo.heap.size X u7 (upL cur)) := hO
       have HB2 := Lib.hid hb
       obtain ⟨A5, c5, rfl, -, -⟩ := hO.form
       obtain ⟨f', hf', hR'⟩ := topF_step h1 hf HR.out
       have HR2 := Lib.hid hR'
       have HF2 := Lib.hid hf'
       have hT2 := (hb.block X (by have := HXo.out; omega)).trans HT.out
       have t1 : wr.cell? ⟨X, 1, none⟩ = some (.int .i64 lv) := by rw [cell_of_row _ _ _ _ _ _ hT2]; rfl
       have tf := frozen_blk hT2 1
       have HS : Hid (∀ u, NdO (wr.setCell ⟨X, 1, none⟩ u) w0.heap.size X (.slice A5 (upK cur ((cur.length + 3) / 4)).length c5) (upL cur)) := fun u => (HO2.out.setX HXo.out 1 u).base0 hwo
       have HT3 : Hid (∀ u, (wr.setCell ⟨X, 1, none⟩ (.int .i64 u)).heap[X]? = some (.cells #[.int .i64 (l.length : Int), .int .i64 u, .pointer none] 112 (0, 0))) := fun u => heap_setCell_same _ _ 1 _ _ _ hT2
       have HB3 : Hid (∀ u, Below w0.heap.size w0 (wr.setCell ⟨X, 1, none⟩ u)) := fun u => (HB.out.trans (hb.mono hwo)).setCell HXL.out u
       have HUL : Hid ((upL cur).length ≤ 100000) := by rw [Hid, upL_len]; omega
       have HML : Hid ((upK cur ((cur.length + 3) / 4)).length < cur.length) := by rw [Hid, upK_len]; omega
       clear hO hb hT2 hR' hf' hij hj
       go_wp2
       go_roundw
       case rel => exact ⟨upL cur, f', _, HS.out _, HF2.out, HR2.out, HUL.out, HT3.out _, HB3.out _⟩
       case measure => simp [lenV]; exact HML.out
    case neg =>
     have h1I : ¬ (1 : Int) < (cur.length : Int) := by omega
     have hzr : w0.heap.size ≤ wr.heap.size := HB.out.size
     have hXr : X < wr.heap.size := (Array.getElem?_eq_some_iff.1 HT.out).1
     have hRr := (HB.out.block _ HRL.out).trans HR0.out
     have HEQ : Hid (cur = topL l) := by
      have := HR.out
      rw [topF_one (by omega)] at this
      exact this
     have t0 : wr.cell? ⟨X, 0, none⟩ = some (.int .i64 (l.length : Int)) := by rw [cell_of_row _ _ _ _ _ _ HT.out]; rfl
     have t1 : wr.cell? ⟨X, 1, none⟩ = some (.int .i64 lv) := by rw [cell_of_row _ _ _ _ _ _ HT.out]; rfl
     have t2 : wr.cell? ⟨X, 2, none⟩ = some (.pointer none) := by rw [cell_of_row _ _ _ _ _ _ HT.out]; rfl
     have z0 : wr.cell? ⟨w.heap.size, 0, none⟩ = some (.int .i64 0) := by rw [cell_of_row _ _ _ _ _ _ hRr]; rfl
     have z1 : wr.cell? ⟨w.heap.size, 1, none⟩ = some (.int .i64 0) := by rw [cell_of_row _ _ _ _ _ _ hRr]; rfl
     have z2 : wr.cell? ⟨w.heap.size, 2, none⟩ = some (.pointer none) := by rw [cell_of_row _ _ _ _ _ _ hRr]; rfl
     have f0 := frozen_blk hRr 0
     have f1 := frozen_blk hRr 1
     have f2 := frozen_blk hRr 2
     have tf := frozen_blk HT.out 2
     have HRR := Lib.hid hRr
     clear hRr h1
     by_cases hc0 : cur.length = 0
     case pos =>
      obtain rfl : cur = [] := List.length_eq_zero_iff.1 hc0
      have HLE : Hid (l = []) := by
       by_cases e : l = []
       ·exact e
       ·exact absurd HEQ.out.symm (topF_ne e)
      have HBF : Hid (Below w.heap.size w (((wr.setCell ⟨w.heap.size, 0, none⟩ (.int .i64 (l.length : Int))).setCell ⟨w.heap.size, 1, none⟩ (.int .i64 lv)).setCell ⟨w.heap.size, 2, none⟩ (.pointer none))) := (((HB0.out.trans (HB.out.mono HB0.out.size)).setCell (Nat.le_refl _) _).setCell (Nat.le_refl _) _).setCell (Nat.le_refl _) _
      have HRF : Hid ((((wr.setCell ⟨w.heap.size, 0, none⟩ (.int .i64 (l.length : Int))).setCell ⟨w.heap.size, 1, none⟩ (.int .i64 lv)).setCell ⟨w.heap.size, 2, none⟩ (.pointer none)).heap[w.heap.size]? = some (.cells #[.int .i64 (l.length : Int), .int .i64 lv, .pointer none] 112 (0, 0))) := heap_setCell_same _ _ 2 _ _ _ (heap_setCell_same _ _ 1 _ _ _ (heap_setCell_same _ _ 0 _ _ _ HRR.out))
      clear hc0
      go_wp2
      (try simp only [Exit.inBlock, Exit.then])
      refine bodyPost_ret (v := .agg #[.int .i64 (l.length : Int), .int .i64 lv, .pointer none]) ?_ rfl ⟨⟨lv, none, rfl, fun _ => rfl, fun e => absurd HLE.out e⟩, HBF.out⟩
      exact results_cell_row rfl _ _ w.heap.size 112 #[.int .i64 (l.length : Int), .int .i64 lv, .pointer none] (0, 0) _ rfl HRF.out Tryz.underlying112 rfl (by kernel_rfl)
     case neg =>
      have g0 : (0 : Int) < (cur.length : Int) := by omega
      obtain ⟨s, hs⟩ : ∃ s, cur[0]? = some s := ⟨_, List.getElem?_eq_getElem (by omega)⟩
      obtain ⟨b, o, p, he, hcp, hpb, hpX, hcs⟩ := HO.out.head hs
      obtain rfl : A4 = some ⟨b, o, none⟩ := by injection he
      have HSH : Hid ((topL l).headD 0 = s) := by
       rw [Hid, ← HEQ.out]
       cases cur with
       | nil => simp at hs
       | cons a tl => simp at hs; simp [hs]
      have HLN : Hid (l ≠ []) := fun e => by
       have h2 := HEQ.out
       rw [e] at h2
       have h3 : topL [] = [] := rfl
       rw [h3] at h2
       rw [h2] at hs
       cases hs
      have HW : Hid (∀ W : World, W = ((((wr.setCell ⟨X, 2, none⟩ (.pointer (some ⟨p, 0, none⟩))).setCell ⟨w.heap.size, 0, none⟩ (.int .i64 (l.length : Int))).setCell ⟨w.heap.size, 1, none⟩ (.int .i64 lv)).setCell ⟨w.heap.size, 2, none⟩ (.pointer (some ⟨p, 0, none⟩))) → Below w.heap.size w W ∧ W.heap[w.heap.size]? = some (.cells #[.int .i64 (l.length : Int), .int .i64 lv, .pointer (some ⟨p, 0, none⟩)] 112 (0, 0)) ∧ p < W.heap.size ∧ W.cell? ⟨p, 0, none⟩ = some (.int .u64 (s : Int))) := fun W hW => by
       have hRL := HRL.out
       have hXL := HXL.out
       subst hW
       refine ⟨((((HB0.out.trans (HB.out.mono HB0.out.size)).setCell (by show w.heap.size ≤ X; omega) _).setCell (Nat.le_refl _) _).setCell (Nat.le_refl _) _).setCell (Nat.le_refl _) _, ?_, by simpa using hpb.2, ?_⟩
       ·exact heap_setCell_same _ _ 2 _ _ _ (heap_setCell_same _ _ 1 _ _ _ (heap_setCell_same _ _ 0 _ _ _ ((heap_setCell_other _ _ _ _ (by show w.heap.size ≠ X; omega)).trans HRR.out)))
       ·have hp2 : p ≠ w.heap.size := by omega
        refine (World.cell?_of_block (w := wr) ?_).trans hcs
        exact (((heap_setCell_other _ _ _ _ hp2).trans (heap_setCell_other _ _ _ _ hp2)).trans (heap_setCell_other _ _ _ _ hp2)).trans (heap_setCell_other _ _ _ _ hpX)
      have hne : ¬ X = w.heap.size := by have := HRL.out; have := HXL.out; omega
      have hne2 : ¬ w.heap.size = X := fun e => hne e.symm
      clear he hs hcs hpb hpX
      go_wp2
      (try simp only [Exit.inBlock, Exit.then])
      obtain ⟨k1, k2, k3, k4⟩ := HW.out _ rfl
      refine bodyPost_ret (v := .agg #[.int .i64 (l.length : Int), .int .i64 lv, .pointer (some ⟨p, 0, none⟩)]) ?_ rfl ⟨⟨lv, some ⟨p, 0, none⟩, rfl, fun e => absurd e HLN.out, fun _ => ⟨p, rfl, k3, by rw [HSH.out]; exact k4⟩⟩, k1⟩
      exact results_cell_row rfl _ _ w.heap.size 112 #[.int .i64 (l.length : Int), .int .i64 lv, .pointer (some ⟨p, 0, none⟩)] (0, 0) _ rfl k2 Tryz.underlying112 rfl (by kernel_rfl)
end Go.Proofs.YtjgjofepedcfnaaGreat
