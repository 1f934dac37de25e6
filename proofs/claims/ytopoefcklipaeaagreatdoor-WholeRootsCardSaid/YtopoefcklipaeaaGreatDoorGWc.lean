/- Walks of tegularef26.Levels and Root.
Walks of tegularef26.Root, replay.Root, tegularef50.Root.
Walk of tegulatop.sums. -/
import Derived.Test.YtopoefcklipaeaaGreatDoorGWb
import Derived.Test.YtopoefcklipaeaaGreatDoorGRo
import Derived.Test.YtopoefcklipaeaaGreatDoorGRj
import Derived.Test.YtopoefcklipaeaaGreatDoorGWa
namespace Go.Proofs.YtopoefcklipaeaaGreatDoor
open Go.RowKit
theorem elemUs : Elem Tryz.prog 96 45 1 24 := Elem.mk (z := .slice none 0 0) Tryz.underlying96 (by kernel_rfl) (by decide) rfl
def LvlO (w : World) (base : Nat) (v : Value) (n : Nat) (cur : List Nat) : Prop := ∃ (rows : List (List Value)) (A : Option Addr) (c : Nat), rows.length = n ∧ cur.length ≤ c ∧ OwS w base 45 1 v (rows ++ [[.slice A cur.length c]]) ∧ U64S w w.heap.size A cur ∧ (∀ a, A = some a → v.ownBlock ≠ some a.block)
theorem LvlO.read {w : World} {base n : Nat} {v : Value} {cur : List Nat} (h : LvlO w base v n cur) : ∃ g c' A c, v = .slice (some ⟨g, 0, none⟩) (n + 1) c' ∧ cur.length ≤ c ∧ w.cell? ⟨g, n, none⟩ = some (.slice A cur.length c) ∧ U64S w w.heap.size A cur := by
 obtain ⟨rows, A, c, hn, hc, ho, hu, -⟩ := h
 obtain ⟨g, cap, rfl, -, -⟩ := ho.pos (by simp)
 have hx : (rows ++ [[Value.slice A cur.length c]])[n]? = some [.slice A cur.length c] := by rw [← hn]; simp
 exact ⟨g, cap, A, c, by simp [hn], hc, by simpa using ho.cell (k := n) (j := 0) hx rfl, hu⟩
theorem LvlO.call {w w' : World} {base n : Nat} {v : Value} {cur : List Nat} (h : LvlO w base v n cur) (hb : Below w.heap.size w w') : LvlO w' base v n cur := by
 obtain ⟨rows, A, c, hn, hc, ho, hu, ha⟩ := h
 exact ⟨rows, A, c, hn, hc, ho.below hb, RdS.more (RdS.below' hu hb (Nat.le_refl _)) hb.size, ha⟩
end Go.Proofs.YtopoefcklipaeaaGreatDoor
namespace Go.Proofs.YtopoefcklipaeaaGreatDoor
open Go.RowKit
def lsL (ls : List Leaf) : List Nat := (List.range ls.length).map fun g => lfN g (ls.getD g ⟨[], []⟩)
def rootS (S : St) : Nat := rtN (lsL S.ls)
theorem lsL_len (ls : List Leaf) : (lsL ls).length = ls.length := by simp [lsL]
theorem lsL_snoc {ls : List Leaf} {k : Nat} {x : Leaf} (h : ls[k]? = some x) : (lsL ls).take (k + 1) = (lsL ls).take k ++ [lfN k x] := by
 have hk := (List.getElem?_eq_some_iff.1 h).1
 have : (lsL ls)[k]? = some (lfN k x) := by
  unfold lsL
  rw [List.getElem?_map, List.getElem?_range hk]
  simp [List.getD, h]
 rw [List.take_add_one, this]
 rfl
set_option maxHeartbeats 2000000 in
set_option maxRecDepth 100000 in
theorem rRoot {B : Nat} {v : Value} {S : St} (w : World) (h : StV w B v S) (hB : B ≤ w.heap.size) (hl : ∀ x ∈ S.ls, x.vs.length = x.ss.length ∧ x.vs.length ≤ 1000) (hn : S.ls.length ≤ 100000) :
  Calls Tryz.prog 13 #[v] w fun r w' => r = .returned (.int .u64 (rootS S : Int)) ∧ Below w.heap.size w w' := by
 obtain ⟨A1, c1, A2, c2, A3, c3, rfl, hls, -, -⟩ := h
 obtain ⟨ls, ms, nt⟩ := S
 simp only at hls hl hn ⊢
 have HLS := Lib.hid hls
 have HLL := Lib.hid hl
 have HRT : Hid (rootS ⟨ls, ms, nt⟩ = rtN (lsL ls)) := rfl
 have HLN : Hid ((lsL ls).length = ls.length) := lsL_len ls
 have HTA : Hid ((lsL ls).take ls.length = lsL ls) := by rw [Hid, ← lsL_len ls]; exact List.take_length
 generalize rootS ⟨ls, ms, nt⟩ = R at *
 clear hls hl
 go_enter Tryz.func13, Tryz.ntmps13
 go_upto_region 1 with (fail)
 generalize hW0 : w.alloc _ = w0
 have HB0 : Hid (Below w.heap.size w w0) := by rw [← hW0]; exact below_laid
 have HP0 : Hid (w0.heap[w.heap.size]? = some (.cells #[.slice A1 ls.length c1, .slice A2 ms.length c2, .slice A3 nt.length c3] 34 (0, 0))) := by rw [← hW0]; exact heap_alloc_new w _
 have HPL : Hid (w.heap.size < w0.heap.size) := (Array.getElem?_eq_some_iff.1 HP0.out).1
 have p0 : w0.cell? ⟨w.heap.size, 0, none⟩ = some (.slice A1 ls.length c1) := by rw [cell_of_row _ _ _ _ _ _ HP0.out]; rfl
 clear hW0
 go_wp2
 clear p0
 go_loopw [3, 9] (fun s3 s9 wr => ∃ k : Nat, k ≤ ls.length ∧ s9 = .int .i64 k ∧ OwS wr w0.heap.size 38 1 s3 (((lsL ls).take k).map u64C) ∧ Below w0.heap.size w0 wr) (fun _ s9 _ => ls.length - (intOf s9).toNat)
 case atStart => exact ⟨0, by omega, rfl, OwS.nil _ _ _ _, Below.refl _ _⟩
 case round =>
  obtain ⟨k, hk, rfl, hO, hb⟩ := hrel
  have HO := Lib.hid hO
  have HB := Lib.hid hb
  have p0 : wr.cell? ⟨w.heap.size, 0, none⟩ = some (.slice A1 ls.length c1) := by rw [cell_of_row _ _ _ _ _ _ ((hb.block _ HPL.out).trans HP0.out)]; rfl
  have hz := hb.size
  by_cases hkn : k < ls.length
  case neg =>
   have hkI : ¬ (k : Int) < (ls.length : Int) := by omega
   obtain rfl : k = ls.length := by omega
   rw [HTA.out] at HO
   obtain ⟨A5, c5, rfl, hu5, -⟩ := HO.out.u64s
   have HBD := Lib.hid (build_any (c := c5) wr hu5 (Nat.le_refl _) (by rw [HLN.out]; omega))
   have HTR := Lib.hid (fun (W : World) (lv : Int) (p : Option Addr) h0 h1 => treeRoot (l := lsL ls) (lv := lv) (p := p) W (by rw [HLN.out]; omega) h0 h1)
   rw [← HRT.out] at HTR
   generalize lsL ls = sl at *
   clear hO hb hu5 hkn p0
   go_wp2_with fail
   refine HBD.out.mono ?_
   rintro r w3 ⟨⟨lv, p, rfl, h0, h1⟩, hb3⟩
   have HB3 := Lib.hid (HB.out.trans (hb3.mono hz))
   have HTC := Lib.hid (HTR.out w3 lv p h0 h1)
   clear hb3 h0 h1 HBD HTR
   go_wp2_with fail
   refine HTC.out.mono ?_
   rintro r w4 ⟨rfl, hb4⟩
   have HB4 := Lib.hid (HB0.out.trans ((HB3.out.trans (hb4.mono HB3.out.size)).mono HB0.out.size))
   clear hb4
   go_wp2
   go_ret
   exact ⟨rfl, HB4.out⟩
  case pos =>
   have hkI : (k : Int) < (ls.length : Int) := by omega
   have hk0 : ¬ (k : Int) < 0 := by omega
   obtain ⟨x, hx⟩ : ∃ x, ls[k]? = some x := ⟨_, List.getElem?_eq_getElem hkn⟩
   have hwr : Below w.heap.size w wr := HB0.out.trans (hb.mono HB0.out.size)
   obtain ⟨b, o, ua, ub, rfl, hbB, hca, hcb, hlf⟩ := LvS.at_ (HLS.out.below hwr hB) hx
   obtain ⟨hx1, hx2⟩ := HLL.out x (List.mem_of_getElem? hx)
   have HSN : Hid ((lsL ls).take k ++ [lfN k x] = (lsL ls).take (k + 1)) := (lsL_snoc hx).symm
   have htk : ((lsL ls).take k).length ≤ 100000 := by rw [List.length_take, HLN.out]; omega
   have HLV := Lib.hid (fun (W : World) (hW : Below wr.heap.size wr W) => leafP k W (hlf.below hW (Nat.le_trans hB hwr.size)) (Nat.le_trans hB (Nat.le_trans hwr.size hW.size)) hx1 (by omega) hx2)
   obtain ⟨Av, cv, As, cs, he, -⟩ := hlf
   obtain ⟨rfl, rfl⟩ : ua = .slice Av x.vs.length cv ∧ ub = .slice As x.ss.length cs := by
    injection he with he
    have e0 := congrArg (fun x => x[0]?) he
    have e1 := congrArg (fun x => x[1]?) he
    simp at e0 e1
    exact ⟨e0, e1⟩
   generalize (lsL ls).take k = lk at *
   generalize lfN k x = lf at *
   clear hO hb hx hx1 hx2 he
   go_upto_region 5 with (fail)
   have hbl0 : Below wr.heap.size wr (wr.alloc (.cells #[.slice Av x.vs.length cv, .slice As x.ss.length cs] 58)) := below_laid
   have hlx := heap_alloc_new wr (.cells #[.slice Av x.vs.length cv, .slice As x.ss.length cs] 58)
   have HLC := Lib.hid (HLV.out _ hbl0)
   generalize wr.alloc _ = w2 at *
   have m0 : w2.cell? ⟨wr.heap.size, 0, none⟩ = some (.slice Av x.vs.length cv) := by rw [cell_of_row _ _ _ _ _ _ hlx]; rfl
   have m1 : w2.cell? ⟨wr.heap.size, 1, none⟩ = some (.slice As x.ss.length cs) := by rw [cell_of_row _ _ _ _ _ _ hlx]; rfl
   have HBL0 := Lib.hid hbl0
   clear hbl0 hlx
   go_wp2_with fail
   refine HLC.out.mono ?_
   rintro r wl ⟨rfl, hbl1⟩
   have hbl : Below wr.heap.size wr wl := HBL0.out.trans (hbl1.mono HBL0.out.size)
   clear m0 m1 hbl1 HLC HBL0
   have HOW := Lib.hid (HO.out.below hbl)
   have HBW := Lib.hid (HB.out.trans (hbl.mono hz))
   have hzw : w0.heap.size ≤ wl.heap.size := HBW.out.size
   clear hbl HLV hca hcb p0
   go_wp2_with (at_builtin; refine wpList_ap1 rfl (.tmp 14) (.tmp 18) _ rfl elemU64 rfl HOW.out (u64C lf) _ (by rfl) wl.heap.size (by rfl) (by rfl) (u64C_one lf) (by simp only [maxLen, List.length_map]; omega) (by simp only [List.length_map]; omega) hzw ?_)
   intro v5 w5 hown5 hg5 _
   have HB5 : Hid (Below w0.heap.size w0 w5) := (HBW.out.alloc hzw _).grown hg5 (by simp; omega) (fun k h => (HOW.out.lt h).1)
   have HO5 : Hid (OwS w5 w0.heap.size 38 1 v5 (((lsL ls).take (k + 1)).map u64C)) := by
    rw [Hid, ← HSN.out, List.map_append]
    exact hown5
   clear hown5 hg5
   go_wp2
   go_roundw
   case rel => exact ⟨k + 1, by omega, by go_num, HO5.out, HB5.out⟩
   case measure => simp [intOf] <;> omega
end Go.Proofs.YtopoefcklipaeaaGreatDoor
namespace Go.Proofs.YtopoefcklipaeaaGreatDoor
open Go.RowKit
set_option maxHeartbeats 2000000 in
set_option maxRecDepth 100000 in
theorem lsums {B : Nat} {v : Value} {S : St} (w : World) (h : StV w B v S) (hB : B ≤ w.heap.size) (hl : ∀ x ∈ S.ls, x.vs.length = x.ss.length ∧ x.vs.length ≤ 1000) (hn : S.ls.length ≤ 100000) :
  Calls Tryz.prog 9 #[v] w fun r w' => (∃ A c, r = .returned (.slice A S.ls.length c) ∧ S.ls.length ≤ c ∧ U64S w' w'.heap.size A (lsL S.ls)) ∧ Below w.heap.size w w' := by
 obtain ⟨A1, c1, A2, c2, A3, c3, rfl, hls, -, -⟩ := h
 obtain ⟨ls, ms, nt⟩ := S
 simp only at hls hl hn ⊢
 have HLS := Lib.hid hls
 have HLL := Lib.hid hl
 have HLN : Hid ((lsL ls).length = ls.length) := lsL_len ls
 have HTA : Hid ((lsL ls).take ls.length = lsL ls) := by rw [Hid, ← lsL_len ls]; exact List.take_length
 clear hls hl
 go_enter Tryz.func9, Tryz.ntmps9
 go_upto_region 1 with (fail)
 generalize hW0 : w.alloc _ = w0
 have HB0 : Hid (Below w.heap.size w w0) := by rw [← hW0]; exact below_laid
 have HP0 : Hid (w0.heap[w.heap.size]? = some (.cells #[.slice A1 ls.length c1, .slice A2 ms.length c2, .slice A3 nt.length c3] 34 (0, 0))) := by rw [← hW0]; exact heap_alloc_new w _
 have HPL : Hid (w.heap.size < w0.heap.size) := (Array.getElem?_eq_some_iff.1 HP0.out).1
 have p0 : w0.cell? ⟨w.heap.size, 0, none⟩ = some (.slice A1 ls.length c1) := by rw [cell_of_row _ _ _ _ _ _ HP0.out]; rfl
 clear hW0
 go_wp2
 clear p0
 go_loopw [3, 9] (fun s3 s9 wr => ∃ k : Nat, k ≤ ls.length ∧ s9 = .int .i64 k ∧ OwS wr w0.heap.size 38 1 s3 (((lsL ls).take k).map u64C) ∧ Below w0.heap.size w0 wr) (fun _ s9 _ => ls.length - (intOf s9).toNat)
 case atStart => exact ⟨0, by omega, rfl, OwS.nil _ _ _ _, Below.refl _ _⟩
 case round =>
  obtain ⟨k, hk, rfl, hO, hb⟩ := hrel
  have HO := Lib.hid hO
  have HB := Lib.hid hb
  have p0 : wr.cell? ⟨w.heap.size, 0, none⟩ = some (.slice A1 ls.length c1) := by rw [cell_of_row _ _ _ _ _ _ ((hb.block _ HPL.out).trans HP0.out)]; rfl
  have hz := hb.size
  by_cases hkn : k < ls.length
  case neg =>
   have hkI : ¬ (k : Int) < (ls.length : Int) := by omega
   obtain rfl : k = ls.length := by omega
   rw [HTA.out] at HO
   obtain ⟨A5, c5, rfl, hu5, hc5⟩ := HO.out.u64s
   have HU5 := Lib.hid hu5
   have HC5 := Lib.hid hc5
   have HBF := Lib.hid (HB0.out.trans (HB.out.mono HB0.out.size))
   rw [HLN.out] at HC5
   rw [HLN.out]
   clear hO hb hu5 hkn p0 hc5
   go_wp2
   go_ret
   exact ⟨⟨A5, c5, rfl, HC5.out, HU5.out⟩, HBF.out⟩
  case pos =>
   have hkI : (k : Int) < (ls.length : Int) := by omega
   have hk0 : ¬ (k : Int) < 0 := by omega
   obtain ⟨x, hx⟩ : ∃ x, ls[k]? = some x := ⟨_, List.getElem?_eq_getElem hkn⟩
   have hwr : Below w.heap.size w wr := HB0.out.trans (hb.mono HB0.out.size)
   obtain ⟨b, o, ua, ub, rfl, hbB, hca, hcb, hlf⟩ := LvS.at_ (HLS.out.below hwr hB) hx
   obtain ⟨hx1, hx2⟩ := HLL.out x (List.mem_of_getElem? hx)
   have HSN : Hid ((lsL ls).take k ++ [lfN k x] = (lsL ls).take (k + 1)) := (lsL_snoc hx).symm
   have htk : ((lsL ls).take k).length ≤ 100000 := by rw [List.length_take, HLN.out]; omega
   have HLV := Lib.hid (fun (W : World) (hW : Below wr.heap.size wr W) => leafP k W (hlf.below hW (Nat.le_trans hB hwr.size)) (Nat.le_trans hB (Nat.le_trans hwr.size hW.size)) hx1 (by omega) hx2)
   obtain ⟨Av, cv, As, cs, he, -⟩ := hlf
   obtain ⟨rfl, rfl⟩ : ua = .slice Av x.vs.length cv ∧ ub = .slice As x.ss.length cs := by
    injection he with he
    have e0 := congrArg (fun x => x[0]?) he
    have e1 := congrArg (fun x => x[1]?) he
    simp at e0 e1
    exact ⟨e0, e1⟩
   generalize (lsL ls).take k = lk at *
   generalize lfN k x = lf at *
   clear hO hb hx hx1 hx2 he
   go_upto_region 5 with (fail)
   have hbl0 : Below wr.heap.size wr (wr.alloc (.cells #[.slice Av x.vs.length cv, .slice As x.ss.length cs] 58)) := below_laid
   have hlx := heap_alloc_new wr (.cells #[.slice Av x.vs.length cv, .slice As x.ss.length cs] 58)
   have HLC := Lib.hid (HLV.out _ hbl0)
   generalize wr.alloc _ = w2 at *
   have m0 : w2.cell? ⟨wr.heap.size, 0, none⟩ = some (.slice Av x.vs.length cv) := by rw [cell_of_row _ _ _ _ _ _ hlx]; rfl
   have m1 : w2.cell? ⟨wr.heap.size, 1, none⟩ = some (.slice As x.ss.length cs) := by rw [cell_of_row _ _ _ _ _ _ hlx]; rfl
   have HBL0 := Lib.hid hbl0
   clear hbl0 hlx
   go_wp2_with fail
   refine HLC.out.mono ?_
   rintro r wl ⟨rfl, hbl1⟩
   have hbl : Below wr.heap.size wr wl := HBL0.out.trans (hbl1.mono HBL0.out.size)
   clear m0 m1 hbl1 HLC HBL0
   have HOW := Lib.hid (HO.out.below hbl)
   have HBW := Lib.hid (HB.out.trans (hbl.mono hz))
   have hzw : w0.heap.size ≤ wl.heap.size := HBW.out.size
   clear hbl HLV hca hcb p0
   go_wp2_with (at_builtin; refine wpList_ap1 rfl (.tmp 14) (.tmp 18) _ rfl elemU64 rfl HOW.out (u64C lf) _ (by rfl) wl.heap.size (by rfl) (by rfl) (u64C_one lf) (by simp only [maxLen, List.length_map]; omega) (by simp only [List.length_map]; omega) hzw ?_)
   intro v5 w5 hown5 hg5 _
   have HB5 : Hid (Below w0.heap.size w0 w5) := (HBW.out.alloc hzw _).grown hg5 (by simp; omega) (fun k h => (HOW.out.lt h).1)
   have HO5 : Hid (OwS w5 w0.heap.size 38 1 v5 (((lsL ls).take (k + 1)).map u64C)) := by
    rw [Hid, ← HSN.out, List.map_append]
    exact hown5
   clear hown5 hg5
   go_wp2
   go_roundw
   case rel => exact ⟨k + 1, by omega, by go_num, HO5.out, HB5.out⟩
   case measure => simp [intOf] <;> omega
end Go.Proofs.YtopoefcklipaeaaGreatDoor
