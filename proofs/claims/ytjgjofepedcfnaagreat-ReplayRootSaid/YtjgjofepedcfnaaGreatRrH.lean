/- Walks of tegularef26.Levels and Root. -/
import Derived.Test.YtjgjofepedcfnaaGreatRrG
import Derived.Test.YtjgjofepedcfnaaGreatGRo
import Derived.Test.YtjgjofepedcfnaaGreatGRj
namespace Go.Proofs.YtjgjofepedcfnaaGreat
open Go.RowKit
theorem elemUs : Elem Tryz.prog 166 78 1 24 := Elem.mk (z := .slice none 0 0) Tryz.underlying166 (by kernel_rfl) (by decide) rfl
def LvlO (w : World) (base : Nat) (v : Value) (n : Nat) (cur : List Nat) : Prop := ∃ (rows : List (List Value)) (A : Option Addr) (c : Nat), rows.length = n ∧ cur.length ≤ c ∧ OwS w base 78 1 v (rows ++ [[.slice A cur.length c]]) ∧ U64S w w.heap.size A cur ∧ (∀ a, A = some a → v.ownBlock ≠ some a.block)
def LvlP (l : List Nat) (w w' : World) (e : Ending) : Prop := ∃ v n, e = .returned v ∧ n ≤ 100000 ∧ LvlO w' w.heap.size v n (topL l)
theorem LvlO.read {w : World} {base n : Nat} {v : Value} {cur : List Nat} (h : LvlO w base v n cur) : ∃ g c' A c, v = .slice (some ⟨g, 0, none⟩) (n + 1) c' ∧ cur.length ≤ c ∧ w.cell? ⟨g, n, none⟩ = some (.slice A cur.length c) ∧ U64S w w.heap.size A cur := by
 obtain ⟨rows, A, c, hn, hc, ho, hu, -⟩ := h
 obtain ⟨g, cap, rfl, -, -⟩ := ho.pos (by simp)
 have hx : (rows ++ [[Value.slice A cur.length c]])[n]? = some [.slice A cur.length c] := by rw [← hn]; simp
 exact ⟨g, cap, A, c, by simp [hn], hc, by simpa using ho.cell (k := n) (j := 0) hx rfl, hu⟩
theorem LvlO.call {w w' : World} {base n : Nat} {v : Value} {cur : List Nat} (h : LvlO w base v n cur) (hb : Below w.heap.size w w') : LvlO w' base v n cur := by
 obtain ⟨rows, A, c, hn, hc, ho, hu, ha⟩ := h
 exact ⟨rows, A, c, hn, hc, ho.below hb, RdS.more (RdS.below' hu hb (Nat.le_refl _)) hb.size, ha⟩
set_option maxHeartbeats 4000000 in
set_option maxRecDepth 100000 in
theorem levels_any {A : Option Addr} {B c : Nat} {l : List Nat} (w : World) (h : U64S w B A l) (hB : B ≤ w.heap.size) (hn : l.length ≤ 100000) :
  Calls Tryz.prog 113 #[.slice A l.length c] w fun r w' => LvlP l w w' r ∧ Below w.heap.size w w' := by
 have HU := Lib.hid h
 have HLL := Lib.hid hn
 clear h
 go_enter Tryz.func113, Tryz.ntmps113
 have hz : OwS (w.alloc (.cells #[] 23)) w.heap.size 23 1 (.slice (some ⟨w.heap.size, 0, none⟩) 0 0) [] := OwS.lit (by simp) (heap_alloc_new w _) rfl rfl (by decide) (Nat.le_refl _)
 have hrr : U64S (w.alloc (.cells #[] 23)) w.heap.size A l := (HU.out.below' (below_laid.mono hB) (Nat.le_refl _)).more hB
 go_wp2_with (at_builtin; refine wpList_apS rfl (.tmp 7) (.tmp 8) _ rfl elemU64 rfl hz w.heap.size _ _ c (l.map u64C) rfl hrr (by simp) (u64C_all l) (by simp [maxLen]; omega) (by simp; omega) (by simp) ?_)
 intro v1 w1 hown1 hg1 _
 have hb1 : Below w.heap.size w w1 := ((Below.refl w.heap.size w).alloc (Nat.le_refl _) _).grown hg1 (by simp) (fun k h => (hz.lt h).1)
 have HO1 : Hid (OwS w1 w.heap.size 23 1 v1 (l.map u64C)) := by simpa [Hid] using hown1
 have HB1 := Lib.hid hb1
 obtain ⟨A1, c1, rfl, hu1, hc1⟩ := HO1.out.u64s
 have HU1 := Lib.hid hu1
 clear hown1 hg1 hb1 hz hrr hu1
 go_upto_region 2 with (fail)
 have HV2 : Hid (LvlO (w1.alloc (.cells #[.slice A1 l.length c1] 78)) w.heap.size (.slice (some ⟨w1.heap.size, 0, none⟩) 1 1) 0 l) := by
  refine ⟨[], A1, c1, rfl, hc1, ?_, RdS.more (RdS.below' HU1.out below_laid (Nat.le_refl _)) (by simp), fun a ha e => ?_⟩
  ·exact OwS.lit (base := w.heap.size) (size := 1) (rows := [[.slice A1 l.length c1]]) (n := 1) (by simp) (heap_alloc_new w1 (.cells #[.slice A1 l.length c1] 78)) rfl rfl (by decide) HB1.out.size
  ·have h1 : a.block < w1.heap.size := (HO1.out.lt (k := a.block) (by rw [ha]; rfl)).2
   have e2 : some w1.heap.size = some a.block := e
   injection e2 with e2
   omega
 have HB2 : Hid (Below w.heap.size w (w1.alloc (.cells #[.slice A1 l.length c1] 78))) := HB1.out.alloc HB1.out.size _
 generalize w1.alloc _ = w2 at *
 generalize w1.heap.size = G at *
 clear HO1 HU1
 go_wp2
 go_loopw [3] (fun s3 wr => ∃ (cur : List Nat) (n f : Nat), n + cur.length ≤ 100001 ∧ n ≤ 100000 ∧ cur.length ≤ f ∧ topF f cur = topL l ∧ LvlO wr w.heap.size s3 n cur ∧ Below w.heap.size w wr) (fun s3 _ => 200000 - lenV s3)
 case atStart => exact ⟨l, 0, l.length, by have := HLL.out; omega, by omega, Nat.le_refl _, rfl, HV2.out, HB2.out⟩
 case round =>
  obtain ⟨cur, n, f, hnc, hn5, hf, hR, hO, hb⟩ := hrel
  obtain ⟨g, c', A3, c3, rfl, hc3, hcell, hu⟩ := hO.read
  have HO := Lib.hid hO
  have HB := Lib.hid hb
  have HU4 := Lib.hid hu
  have HR := Lib.hid hR
  have q1 : ((n + 1 : Nat) : Int) - 1 = (n : Int) := by omega
  have q1' : (n : Int) + 1 - 1 = (n : Int) := by omega
  have q2 : IntKind.i64.wrap (n : Int) = (n : Int) := IntWalk.i64_in _ (by omega)
  have q3 : ¬ (n : Int) < 0 := by omega
  have q4 : (n : Int) < ((n + 1 : Nat) : Int) := by omega
  have q4' : (n : Int) < (n : Int) + 1 := by omega
  clear hO hb hu hR HV2 HB2
  by_cases h1 : 1 < cur.length
  case neg =>
   have h1I : ¬ (1 : Int) < (cur.length : Int) := by omega
   have HEQ : Hid (cur = topL l) := by
    have := HR.out
    rw [topF_one (by omega)] at this
    exact this
   go_wp2
   go_ret
   exact ⟨⟨_, n, rfl, hn5, by rw [← HEQ.out]; exact HO.out⟩, HB.out⟩
  case pos =>
   have h1I : (1 : Int) < (cur.length : Int) := by omega
   generalize wr = wo at *
   have hwo : w.heap.size ≤ wo.heap.size := HB.out.size
   have HGL : Hid (g < wo.heap.size) := by
    obtain ⟨_, _, _, _, _, ho, _⟩ := HO.out
    exact (ho.lt rfl).2
   go_wp2
   go_loopw [5, 6] (fun s5 s6 wr => ∃ i j : Nat, i = 4 * j ∧ j ≤ (cur.length + 3) / 4 ∧ s6 = .int .i64 i ∧ OwS wr wo.heap.size 23 1 s5 ((upK cur j).map u64C) ∧ Below wo.heap.size wo wr) (fun _ s6 _ => cur.length + 8 - (intOf s6).toNat)
   case atStart => exact ⟨0, 0, rfl, Nat.zero_le _, rfl, OwS.nil _ _ _ _, Below.refl _ _⟩
   case round =>
    obtain ⟨i, j, hij, hj, rfl, hO, hb⟩ := hrel
    by_cases hic : i < cur.length
    case pos =>
     have hiI : (i : Int) < (cur.length : Int) := by omega
     have hi0 : ¬ (i : Int) < 0 := by omega
     have hi0' : (0 : Int) ≤ (i : Int) := by omega
     have HIJ : Hid (i = 4 * j) := hij
     obtain ⟨hi, hhi⟩ : ∃ hi, min (i + 4) cur.length = hi := ⟨_, rfl⟩
     have p1 : IntKind.i64.wrap ((i : Int) + 4) = (i : Int) + 4 := IntWalk.i64_in _ (by omega)
     have p2 : ¬ c3 = i := by omega
     have p3 : min ((i : Int) + 4) (cur.length : Int) = (hi : Int) := by omega
     have p4 : (i : Int) ≤ (hi : Int) := by omega
     have p5 : (hi : Int) ≤ (c3 : Int) := by omega
     have hpl : ((cur.drop i).take 4).length = hi - i := by rw [List.length_take, List.length_drop]; omega
     obtain ⟨b, o, hA3⟩ : ∃ b o, A3 = some ⟨b, o, none⟩ := by
      obtain ⟨b, o, e, -⟩ := HU4.out.2 (by simp; omega)
      exact ⟨b, o, e⟩
     have hrd : U64S wr wo.heap.size (some ⟨b, o + i, none⟩) ((cur.drop i).take 4) := by
      have h0 := RdS.below' HU4.out hb (Nat.le_refl _)
      rw [hA3] at h0
      show RdS _ _ 1 _ (((cur.drop i).take 4).map u64C)
      rw [List.map_take, List.map_drop]
      have := RdS.drop1 h0 i
      exact RdS.take this 4
     have HRN := Lib.hid (run26 (c := c3 - i) wr hrd hb.size (by rw [hpl]; omega))
     rw [hpl] at HRN
     have HUS : Hid (upK cur (j + 1) = upK cur j ++ [ruN ((cur.drop i).take 4)]) := by rw [Hid, upK_succ, hij]
     have HMJ : Hid (j + 1 ≤ (cur.length + 3) / 4) := by rw [Hid]; omega
     have hps : (upK cur j).length ≤ 100000 := by rw [upK_len]; omega
     generalize ruN ((cur.drop i).take 4) = rn at *
     generalize upK cur j = uk at *
     have HOO := Lib.hid hO
     have HB5 := Lib.hid hb
     subst hA3
     clear hO hb hij hhi hpl hj hrd
     go_wp2_with fail
     refine HRN.out.mono ?_
     rintro r wj ⟨rfl, hbj⟩
     have HOJ := Lib.hid (HOO.out.below hbj)
     have HBJ := Lib.hid (HB5.out.trans (hbj.mono HB5.out.size))
     have hwj : wo.heap.size ≤ wj.heap.size := HBJ.out.size
     clear hbj HRN
     go_wp2_with (at_builtin; refine wpList_ap1 rfl (.tmp 31) (.tmp 41) _ rfl elemU64 rfl HOJ.out (u64C rn) _ (by rfl) wj.heap.size (by rfl) (by rfl) (u64C_one rn) (by simp [maxLen]; omega) (by simp; omega) hwj ?_)
     intro v5 w5 hown5 hg5 _
     have HB6 : Hid (Below wo.heap.size wo w5) := (HBJ.out.alloc hwj _).grown hg5 (by simp; omega) (fun k h => (HOJ.out.lt h).1)
     have HO6 : Hid (OwS w5 wo.heap.size 23 1 v5 ((upK cur (j + 1)).map u64C)) := by
      rw [Hid, HUS.out, List.map_append]
      exact hown5
     clear hown5 hg5
     go_wp2
     go_roundw
     case rel => exact ⟨i + 4, j + 1, by have := HIJ.out; omega, HMJ.out, by go_num, HO6.out, HB6.out⟩
     case measure => simp [intOf] <;> omega
    case neg =>
     have hiI : ¬ (i : Int) < (cur.length : Int) := by omega
     obtain rfl : j = (cur.length + 3) / 4 := by omega
     have HO2 : Hid (OwS wr wo.heap.size 23 1 u5 ((upL cur).map u64C)) := hO
     obtain ⟨A5, c5, rfl, hu5, hc5⟩ := HO2.out.u64s
     obtain ⟨f', hf', hR'⟩ := topF_step h1 hf HR.out
     have HR2 := Lib.hid hR'
     have HF2 := Lib.hid hf'
     have HB2 := Lib.hid hb
     have HU5 := Lib.hid hu5
     have HC5 : Hid ((upL cur).length ≤ c5) := hc5
     have HUN : Hid ((upL cur).length = (cur.length + 3) / 4) := upL_len cur
     obtain ⟨rows, A7, c7, hrn, hc7, hor, -, hap⟩ := HO.out.call hb
     have HOR := Lib.hid hor
     have HRN : Hid ((rows ++ [[Value.slice A7 cur.length c7]]).length = n + 1) := by rw [Hid, List.length_append, hrn]; rfl
     have hwr : w.heap.size ≤ wr.heap.size := Nat.le_trans hwo hb.size
     have hrl : (rows ++ [[Value.slice A7 cur.length c7]]).length ≤ 200000 := by rw [HRN.out]; omega
     generalize rows ++ [[Value.slice A7 cur.length c7]] = rw2 at *
     clear hO hb hu5 hR' hf' hor hap hrn hij hj hc7
     have HOG := Lib.hid (fun k hk => (HO2.out.lt (k := k) hk).1)
     generalize hg : (upL cur).length = ul at *
     go_wp2_with (at_builtin; refine wpList_ap1 rfl (.tmp 43) (.tmp 45) _ rfl elemUs rfl HOR.out [.slice A5 ul c5] _ (by rfl) wr.heap.size (by rfl) (by rfl) (by intro u hu; rw [List.mem_singleton] at hu; subst hu; rfl) (by simp only [maxLen]; omega) (by omega) hwr ?_)
     intro v5 w5 hown5 hg5 hv5
     have hA5 : Hid (∀ a, A5 = some a → wo.heap.size ≤ a.block ∧ a.block < wr.heap.size) := fun a ha => HO2.out.lt (by rw [ha]; rfl)
     have hb2 : Below wr.heap.size wr (wr.alloc (.cells #[.slice A5 ul c5] 78)) := below_laid
     have HB6 : Hid (Below w.heap.size w w5) := ((HB.out.trans (HB2.out.mono hwo)).alloc hwr _).grown hg5 (by simp; omega) (fun k h => (HOR.out.lt h).1)
     have HV6 : Hid (LvlO w5 w.heap.size v5 (n + 1) (upL cur)) := by
      refine ⟨rw2, A5, c5, HRN.out, by rw [hg]; exact HC5.out, by rw [hg]; exact hown5, ?_, fun a ha e => ?_⟩
      ·have h5 : U64S (wr.alloc (.cells #[.slice A5 ul c5] 78)) wr.heap.size A5 (upL cur) := RdS.below' HU5.out hb2 (Nat.le_refl _)
       refine RdS.more (RdS.keepBlk h5 fun a ha => hg5.block a.block (by simp; have := (hA5.out a ha).2; omega) (fun e => ?_)) (show wr.heap.size ≤ w5.heap.size from Nat.le_trans (Nat.le_succ _) (by simpa using hg5.size))
       have e2 : some a.block = some g := e
       injection e2 with e2
       have := (hA5.out a ha).1
       have := HGL.out
       omega
      ·have h1 := hA5.out a ha
       have h2 := HGL.out
       rcases hv5 with e2 | e2
       ·rw [e] at e2
        have e3 : some a.block = some g := e2
        injection e3 with e3
        omega
       ·rw [e] at e2
        injection e2 with e2
        omega
     have HNN : Hid (n + 1 + (upL cur).length ≤ 100001) := by rw [Hid, hg, HUN.out]; omega
     have HML : Hid (lenV v5 = n + 2) := by
      obtain ⟨_, _, _, _, rfl, -⟩ := HV6.out.read
      rfl
     have HFF : Hid ((upL cur).length ≤ f') := by rw [Hid, hg]; exact HF2.out
     clear hown5 hg5 hv5 hb2
     go_wp2
     go_roundw
     case rel => exact ⟨upL cur, n + 1, f', HNN.out, by omega, HFF.out, HR2.out, HV6.out, HB6.out⟩
     case measure => simp only [HML.out]; simp [lenV]; omega
end Go.Proofs.YtjgjofepedcfnaaGreat
