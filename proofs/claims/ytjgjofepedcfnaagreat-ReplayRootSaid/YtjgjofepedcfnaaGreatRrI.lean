/- Walks of tegularef26.Root, replay.Root, tegularef50.Root. -/
import Derived.Test.YtjgjofepedcfnaaGreatRrH
import Derived.Test.YtjgjofepedcfnaaGreatRrB
import Derived.Test.YtjgjofepedcfnaaGreatRqX
namespace Go.Proofs.YtjgjofepedcfnaaGreat
open Go.RowKit
set_option maxHeartbeats 1000000 in
set_option maxRecDepth 100000 in
theorem root26 {A : Option Addr} {B c : Nat} {l : List Nat} (w : World) (h : U64S w B A l) (hB : B ≤ w.heap.size) (hn : l.length ≤ 100000) :
  Calls Tryz.prog 63 #[.slice A l.length c] w fun r w' => r = .returned (.int .u64 (rtN l : Int)) ∧ Below w.heap.size w w' := by
 have HL := Lib.hid (levels_any (c := c) w h hB hn)
 have HT0 : Hid (l = [] → ∀ W : World, Calls Tryz.prog 114 #[.int .i64 0, .int .u64 0] W fun r w' => r = .returned (.int .u64 (rtN l : Int)) ∧ Below W.heap.size W w') := fun e W => by subst e; exact top26 0 0 W (by omega)
 have HT1 : Hid (∀ W : World, Calls Tryz.prog 114 #[.int .i64 (l.length : Int), .int .u64 ((topL l).headD 0 : Int)] W fun r w' => r = .returned (.int .u64 (rtN l : Int)) ∧ Below W.heap.size W w') := fun W => top26 l.length _ W (by omega)
 have HNE : Hid (l ≠ [] → topL l ≠ []) := fun e => topF_ne e
 have HEE : Hid (l = [] → topL l = []) := fun e => by subst e; rfl
 clear h hB
 go_enter Tryz.func63, Tryz.ntmps63
 go_wp2_with fail
 refine HL.out.mono ?_
 rintro r w1 ⟨⟨v, n, rfl, hn5, hv⟩, hb1⟩
 obtain ⟨g, c', A3, c3, rfl, hc3, hcell, hu⟩ := hv.read
 have HU := Lib.hid hu
 have HB1 := Lib.hid hb1
 have q1 : ((n + 1 : Nat) : Int) - 1 = (n : Int) := by omega
 have q1' : (n : Int) + 1 - 1 = (n : Int) := by omega
 have q2 : IntKind.i64.wrap (n : Int) = (n : Int) := IntWalk.i64_in _ (by omega)
 have q3 : ¬ (n : Int) < 0 := by omega
 have q4 : (n : Int) < ((n + 1 : Nat) : Int) := by omega
 have q4' : (n : Int) < (n : Int) + 1 := by omega
 clear hv hb1 hu HL
 by_cases hl : l = []
 ·have HT := Lib.hid (HT0.out hl)
  have e0 := HEE.out hl
  rw [e0] at hcell hc3
  clear hl e0 HT1
  simp only [List.length_nil] at hcell hc3
  go_wp2_with fail
  refine (HT.out w1).mono ?_
  rintro r w2 ⟨rfl, hb2⟩
  have HB2 := Lib.hid (HB1.out.trans (hb2.mono HB1.out.size))
  clear hb2 hcell
  go_wp2
  go_ret
  exact ⟨rfl, HB2.out⟩
 ·have hne := HNE.out hl
  have hp : 0 < (topL l).length := List.length_pos_iff.2 hne
  obtain ⟨s, hs⟩ : ∃ s, (topL l)[0]? = some s := ⟨_, List.getElem?_eq_getElem hp⟩
  have hsd : (topL l).headD 0 = s := by
   cases ht : topL l with
   | nil => rw [ht] at hs; simp at hs
   | cons a tl => rw [ht] at hs; simp at hs; simp [hs]
  obtain ⟨b, o, rfl, hb, hcs⟩ := U64S.at_ HU.out hs
  rw [hsd] at HT1
  generalize topL l = tl at *
  have z1 : ((tl.length : Int) == 0) = false := by rw [beq_eq_false_iff_ne]; omega
  have z2 : ¬ (tl.length : Int) = 0 := by omega
  have z3 : ¬ tl.length = 0 := by omega
  have z4 : (0 : Int) < (tl.length : Int) := by omega
  have hcs2 : w1.cell? ⟨b, o, none⟩ = some (.int .u64 (s : Int)) := by simpa using hcs
  clear hs hcs HT0 hl hne hsd HNE HEE
  go_wp2_with fail
  refine (HT1.out w1).mono ?_
  rintro r w2 ⟨rfl, hb2⟩
  have HB2 := Lib.hid (HB1.out.trans (hb2.mono HB1.out.size))
  clear hb2 hcell hcs2
  go_wp2
  go_ret
  exact ⟨rfl, HB2.out⟩
def lsL (ls : List Leaf) : List Nat := (List.range ls.length).map fun g => lfN g (ls.getD g ⟨[], []⟩)
def rootS (S : St) : Nat := rtN (lsL S.ls)
theorem lsL_len (ls : List Leaf) : (lsL ls).length = ls.length := by simp [lsL]
theorem lsL_snoc {ls : List Leaf} {k : Nat} {x : Leaf} (h : ls[k]? = some x) : (lsL ls).take (k + 1) = (lsL ls).take k ++ [lfN k x] := by
 have hk := (List.getElem?_eq_some_iff.1 h).1
 have : (lsL ls)[k]? = some (lfN k x) := by
  unfold lsL
  rw [List.getElem?_map, List.getElem?_range hk]
  simp [List.getD, h]
 rw [List.take_add_one, this]
 rfl
set_option maxHeartbeats 2000000 in
set_option maxRecDepth 100000 in
theorem rRoot {B : Nat} {v : Value} {S : St} (w : World) (h : StV w B v S) (hB : B ≤ w.heap.size) (hl : ∀ x ∈ S.ls, x.vs.length = x.ss.length ∧ x.vs.length ≤ 1000) (hn : S.ls.length ≤ 100000) :
  Calls Tryz.prog 27 #[v] w fun r w' => r = .returned (.int .u64 (rootS S : Int)) ∧ Below w.heap.size w w' := by
 obtain ⟨A1, c1, A2, c2, A3, c3, rfl, hls, -, -⟩ := h
 obtain ⟨ls, ms, nt⟩ := S
 simp only at hls hl hn ⊢
 have HLS := Lib.hid hls
 have HLL := Lib.hid hl
 have HRT : Hid (rootS ⟨ls, ms, nt⟩ = rtN (lsL ls)) := rfl
 have HLN : Hid ((lsL ls).length = ls.length) := lsL_len ls
 have HTA : Hid ((lsL ls).take ls.length = lsL ls) := by rw [Hid, ← lsL_len ls]; exact List.take_length
 generalize rootS ⟨ls, ms, nt⟩ = R at *
 clear hls hl
 go_enter Tryz.func27, Tryz.ntmps27
 go_upto_region 1 with (fail)
 generalize hW0 : w.alloc _ = w0
 have HB0 : Hid (Below w.heap.size w w0) := by rw [← hW0]; exact below_laid
 have HP0 : Hid (w0.heap[w.heap.size]? = some (.cells #[.slice A1 ls.length c1, .slice A2 ms.length c2, .slice A3 nt.length c3] 41 (0, 0))) := by rw [← hW0]; exact heap_alloc_new w _
 have HPL : Hid (w.heap.size < w0.heap.size) := (Array.getElem?_eq_some_iff.1 HP0.out).1
 have p0 : w0.cell? ⟨w.heap.size, 0, none⟩ = some (.slice A1 ls.length c1) := by rw [cell_of_row _ _ _ _ _ _ HP0.out]; rfl
 clear hW0
 go_wp2
 clear p0
 go_loopw [3, 9] (fun s3 s9 wr => ∃ k : Nat, k ≤ ls.length ∧ s9 = .int .i64 k ∧ OwS wr w0.heap.size 23 1 s3 (((lsL ls).take k).map u64C) ∧ Below w0.heap.size w0 wr) (fun _ s9 _ => ls.length - (intOf s9).toNat)
 case atStart => exact ⟨0, by omega, rfl, OwS.nil _ _ _ _, Below.refl _ _⟩
 case round =>
  obtain ⟨k, hk, rfl, hO, hb⟩ := hrel
  have HO := Lib.hid hO
  have HB := Lib.hid hb
  have p0 : wr.cell? ⟨w.heap.size, 0, none⟩ = some (.slice A1 ls.length c1) := by rw [cell_of_row _ _ _ _ _ _ ((hb.block _ HPL.out).trans HP0.out)]; rfl
  have hz := hb.size
  by_cases hkn : k < ls.length
  case neg =>
   have hkI : ¬ (k : Int) < (ls.length : Int) := by omega
   obtain rfl : k = ls.length := by omega
   rw [HTA.out] at HO
   obtain ⟨A5, c5, rfl, hu5, -⟩ := HO.out.u64s
   have HBD := Lib.hid (build_any (c := c5) wr hu5 (Nat.le_refl _) (by rw [HLN.out]; omega))
   have HTR := Lib.hid (fun (W : World) (lv : Int) (p : Option Addr) h0 h1 => treeRoot (l := lsL ls) (lv := lv) (p := p) W (by rw [HLN.out]; omega) h0 h1)
   rw [← HRT.out] at HTR
   generalize lsL ls = sl at *
   clear hO hb hu5 hkn p0
   go_wp2_with fail
   refine HBD.out.mono ?_
   rintro r w3 ⟨⟨lv, p, rfl, h0, h1⟩, hb3⟩
   have HB3 := Lib.hid (HB.out.trans (hb3.mono hz))
   have HTC := Lib.hid (HTR.out w3 lv p h0 h1)
   clear hb3 h0 h1 HBD HTR
   go_wp2_with fail
   refine HTC.out.mono ?_
   rintro r w4 ⟨rfl, hb4⟩
   have HB4 := Lib.hid (HB0.out.trans ((HB3.out.trans (hb4.mono HB3.out.size)).mono HB0.out.size))
   clear hb4
   go_wp2
   go_ret
   exact ⟨rfl, HB4.out⟩
  case pos =>
   have hkI : (k : Int) < (ls.length : Int) := by omega
   have hk0 : ¬ (k : Int) < 0 := by omega
   obtain ⟨x, hx⟩ : ∃ x, ls[k]? = some x := ⟨_, List.getElem?_eq_getElem hkn⟩
   have hwr : Below w.heap.size w wr := HB0.out.trans (hb.mono HB0.out.size)
   obtain ⟨b, o, ua, ub, rfl, hbB, hca, hcb, hlf⟩ := LvS.at_ (HLS.out.below hwr hB) hx
   obtain ⟨hx1, hx2⟩ := HLL.out x (List.mem_of_getElem? hx)
   have HSN : Hid ((lsL ls).take k ++ [lfN k x] = (lsL ls).take (k + 1)) := (lsL_snoc hx).symm
   have htk : ((lsL ls).take k).length ≤ 100000 := by rw [List.length_take, HLN.out]; omega
   have HLV := Lib.hid (fun (W : World) (hW : Below wr.heap.size wr W) => leafP k W (hlf.below hW (Nat.le_trans hB hwr.size)) (Nat.le_trans hB (Nat.le_trans hwr.size hW.size)) hx1 (by omega) hx2)
   obtain ⟨Av, cv, As, cs, he, -⟩ := hlf
   obtain ⟨rfl, rfl⟩ : ua = .slice Av x.vs.length cv ∧ ub = .slice As x.ss.length cs := by
    injection he with he
    have e0 := congrArg (fun x => x[0]?) he
    have e1 := congrArg (fun x => x[1]?) he
    simp at e0 e1
    exact ⟨e0, e1⟩
   generalize (lsL ls).take k = lk at *
   generalize lfN k x = lf at *
   clear hO hb hx hx1 hx2 he
   go_upto_region 5 with (fail)
   have hbl0 : Below wr.heap.size wr (wr.alloc (.cells #[.slice Av x.vs.length cv, .slice As x.ss.length cs] 80)) := below_laid
   have hlx := heap_alloc_new wr (.cells #[.slice Av x.vs.length cv, .slice As x.ss.length cs] 80)
   have HLC := Lib.hid (HLV.out _ hbl0)
   generalize wr.alloc _ = w2 at *
   have m0 : w2.cell? ⟨wr.heap.size, 0, none⟩ = some (.slice Av x.vs.length cv) := by rw [cell_of_row _ _ _ _ _ _ hlx]; rfl
   have m1 : w2.cell? ⟨wr.heap.size, 1, none⟩ = some (.slice As x.ss.length cs) := by rw [cell_of_row _ _ _ _ _ _ hlx]; rfl
   have HBL0 := Lib.hid hbl0
   clear hbl0 hlx
   go_wp2_with fail
   refine HLC.out.mono ?_
   rintro r wl ⟨rfl, hbl1⟩
   have hbl : Below wr.heap.size wr wl := HBL0.out.trans (hbl1.mono HBL0.out.size)
   clear m0 m1 hbl1 HLC HBL0
   have HOW := Lib.hid (HO.out.below hbl)
   have HBW := Lib.hid (HB.out.trans (hbl.mono hz))
   have hzw : w0.heap.size ≤ wl.heap.size := HBW.out.size
   clear hbl HLV hca hcb p0
   go_wp2_with (at_builtin; refine wpList_ap1 rfl (.tmp 14) (.tmp 18) _ rfl elemU64 rfl HOW.out (u64C lf) _ (by rfl) wl.heap.size (by rfl) (by rfl) (u64C_one lf) (by simp only [maxLen, List.length_map]; omega) (by simp only [List.length_map]; omega) hzw ?_)
   intro v5 w5 hown5 hg5 _
   have HB5 : Hid (Below w0.heap.size w0 w5) := (HBW.out.alloc hzw _).grown hg5 (by simp; omega) (fun k h => (HOW.out.lt h).1)
   have HO5 : Hid (OwS w5 w0.heap.size 23 1 v5 (((lsL ls).take (k + 1)).map u64C)) := by
    rw [Hid, ← HSN.out, List.map_append]
    exact hown5
   clear hown5 hg5
   go_wp2
   go_roundw
   case rel => exact ⟨k + 1, by omega, by go_num, HO5.out, HB5.out⟩
   case measure => simp [intOf] <;> omega
set_option maxHeartbeats 2000000 in
set_option maxRecDepth 100000 in
theorem r50Root {B : Nat} {v : Value} {S : St} (w : World) (h : StV w B v S) (hB : B ≤ w.heap.size) (hl : ∀ x ∈ S.ls, x.vs.length = x.ss.length ∧ x.vs.length ≤ 1000) (hn : S.ls.length ≤ 100000) :
  Calls Tryz.prog 28 #[v] w fun r w' => r = .returned (.int .u64 (rootS S : Int)) ∧ Below w.heap.size w w' := by
 obtain ⟨A1, c1, A2, c2, A3, c3, rfl, hls, -, -⟩ := h
 obtain ⟨ls, ms, nt⟩ := S
 simp only at hls hl hn ⊢
 have HLS := Lib.hid hls
 have HLL := Lib.hid hl
 have HRT : Hid (rootS ⟨ls, ms, nt⟩ = rtN (lsL ls)) := rfl
 have HLN : Hid ((lsL ls).length = ls.length) := lsL_len ls
 have HTA : Hid ((lsL ls).take ls.length = lsL ls) := by rw [Hid, ← lsL_len ls]; exact List.take_length
 generalize rootS ⟨ls, ms, nt⟩ = R at *
 clear hls hl
 go_enter Tryz.func28, Tryz.ntmps28
 go_upto_region 1 with (fail)
 generalize hW0 : w.alloc _ = w0
 have HB0 : Hid (Below w.heap.size w w0) := by rw [← hW0]; exact below_laid
 have HP0 : Hid (w0.heap[w.heap.size]? = some (.cells #[.slice A1 ls.length c1, .slice A2 ms.length c2, .slice A3 nt.length c3] 45 (0, 0))) := by rw [← hW0]; exact heap_alloc_new w _
 have HPL : Hid (w.heap.size < w0.heap.size) := (Array.getElem?_eq_some_iff.1 HP0.out).1
 have p0 : w0.cell? ⟨w.heap.size, 0, none⟩ = some (.slice A1 ls.length c1) := by rw [cell_of_row _ _ _ _ _ _ HP0.out]; rfl
 clear hW0
 go_wp2
 clear p0
 go_loopw [3, 4] (fun s3 s4 wr => ∃ k : Nat, k ≤ ls.length ∧ s4 = .int .i64 k ∧ OwS wr w0.heap.size 23 1 s3 (((lsL ls).take k).map u64C) ∧ Below w0.heap.size w0 wr) (fun _ s4 _ => ls.length - (intOf s4).toNat)
 case atStart => exact ⟨0, by omega, rfl, OwS.nil _ _ _ _, Below.refl _ _⟩
 case round =>
  obtain ⟨k, hk, rfl, hO, hb⟩ := hrel
  have HO := Lib.hid hO
  have HB := Lib.hid hb
  have p0 : wr.cell? ⟨w.heap.size, 0, none⟩ = some (.slice A1 ls.length c1) := by rw [cell_of_row _ _ _ _ _ _ ((hb.block _ HPL.out).trans HP0.out)]; rfl
  have hz := hb.size
  by_cases hkn : k < ls.length
  case neg =>
   have hkI : ¬ (k : Int) < (ls.length : Int) := by omega
   obtain rfl : k = ls.length := by omega
   rw [HTA.out] at HO
   obtain ⟨A5, c5, rfl, hu5, -⟩ := HO.out.u64s
   have HRF := Lib.hid (root26 (c := c5) wr hu5 (Nat.le_refl _) (by rw [HLN.out]; omega))
   rw [← HRT.out] at HRF
   generalize lsL ls = sl at *
   clear hO hb hu5 hkn
   go_wp2_with fail
   refine HRF.out.mono ?_
   rintro r w3 ⟨rfl, hb3⟩
   have HB3 := Lib.hid (HB0.out.trans ((HB.out.trans (hb3.mono hz)).mono HB0.out.size))
   clear hb3 p0
   go_wp2
   go_ret
   exact ⟨rfl, HB3.out⟩
  case pos =>
   have hkI : (k : Int) < (ls.length : Int) := by omega
   have hk0 : ¬ (k : Int) < 0 := by omega
   obtain ⟨x, hx⟩ : ∃ x, ls[k]? = some x := ⟨_, List.getElem?_eq_getElem hkn⟩
   have hwr : Below w.heap.size w wr := HB0.out.trans (hb.mono HB0.out.size)
   obtain ⟨b, o, ua, ub, rfl, hbB, hca, hcb, hlf⟩ := LvS.at_ (HLS.out.below hwr hB) hx
   obtain ⟨hx1, hx2⟩ := HLL.out x (List.mem_of_getElem? hx)
   have HSN : Hid ((lsL ls).take k ++ [lfN k x] = (lsL ls).take (k + 1)) := (lsL_snoc hx).symm
   have htk : ((lsL ls).take k).length ≤ 100000 := by rw [List.length_take, HLN.out]; omega
   have HLV := Lib.hid (fun (W : World) (hW : Below wr.heap.size wr W) => leaf25 k W (hlf.below hW (Nat.le_trans hB hwr.size)) (Nat.le_trans hB (Nat.le_trans hwr.size hW.size)) hx1 (by omega) hx2)
   obtain ⟨Av, cv, As, cs, he, -⟩ := hlf
   obtain ⟨rfl, rfl⟩ : ua = .slice Av x.vs.length cv ∧ ub = .slice As x.ss.length cs := by
    injection he with he
    have e0 := congrArg (fun x => x[0]?) he
    have e1 := congrArg (fun x => x[1]?) he
    simp at e0 e1
    exact ⟨e0, e1⟩
   generalize (lsL ls).take k = lk at *
   generalize lfN k x = lf at *
   clear hO hb hx hx1 hx2 he
   have HLC := Lib.hid (HLV.out wr (Below.refl _ _))
   go_wp2_with fail
   refine HLC.out.mono ?_
   rintro r wl ⟨rfl, hbl⟩
   clear HLC
   have HOW := Lib.hid (HO.out.below hbl)
   have HBW := Lib.hid (HB.out.trans (hbl.mono hz))
   have hzw : w0.heap.size ≤ wl.heap.size := HBW.out.size
   clear hbl HLV hca hcb p0
   go_wp2_with (at_builtin; refine wpList_ap1 rfl (.tmp 12) (.tmp 20) _ rfl elemU64 rfl HOW.out (u64C lf) _ (by rfl) wl.heap.size (by rfl) (by rfl) (u64C_one lf) (by simp only [maxLen, List.length_map]; omega) (by simp only [List.length_map]; omega) hzw ?_)
   intro v5 w5 hown5 hg5 _
   have HB5 : Hid (Below w0.heap.size w0 w5) := (HBW.out.alloc hzw _).grown hg5 (by simp; omega) (fun k h => (HOW.out.lt h).1)
   have HO5 : Hid (OwS w5 w0.heap.size 23 1 v5 (((lsL ls).take (k + 1)).map u64C)) := by
    rw [Hid, ← HSN.out, List.map_append]
    exact hown5
   clear hown5 hg5
   go_wp2
   go_roundw
   case rel => exact ⟨k + 1, by omega, by go_num, HO5.out, HB5.out⟩
   case measure => simp [intOf] <;> omega
end Go.Proofs.YtjgjofepedcfnaaGreat
