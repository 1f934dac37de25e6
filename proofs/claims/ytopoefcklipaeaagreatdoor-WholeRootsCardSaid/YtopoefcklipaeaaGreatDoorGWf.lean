/- Walk of tegularef26.Levels, with all levels.
Walk of tegularef26.Diff. -/
import Derived.Test.YtopoefcklipaeaaGreatDoorGWd
import Derived.Test.YtopoefcklipaeaaGreatDoorGWb
import Derived.Test.YtopoefcklipaeaaGreatDoorGRo
import Derived.Test.YtopoefcklipaeaaGreatDoorGRj
namespace Go.Proofs.YtopoefcklipaeaaGreatDoor
open Go.RowKit
theorem elemUs : Elem Tryz.prog 96 45 1 24 := Elem.mk (z := .slice none 0 0) Tryz.underlying96 (by kernel_rfl) (by decide) rfl
def lvR (l : List Nat) (n : Nat) (As : Nat → Option Addr) (cs : Nat → Nat) : List (List Value) := (List.range (n + 1)).map fun i => [.slice (As i) (lev l i).length (cs i)]
theorem lvR_len (l : List Nat) (n : Nat) (As : Nat → Option Addr) (cs : Nat → Nat) : (lvR l n As cs).length = n + 1 := by simp [lvR]
def LvB (w : World) (base : Nat) (v : Value) (l : List Nat) (n : Nat) (As : Nat → Option Addr) (cs : Nat → Nat) : Prop := OwS w base 45 1 v (lvR l n As cs) ∧ ∀ i, i ≤ n → (lev l i).length ≤ cs i ∧ U64S w w.heap.size (As i) (lev l i) ∧ ∀ a, As i = some a → v.ownBlock ≠ some a.block ∧ a.block < w.heap.size
def LvA (w : World) (base : Nat) (v : Value) (l : List Nat) (n : Nat) : Prop := ∃ As cs, LvB w base v l n As cs
def LvaP (l : List Nat) (w w' : World) (e : Ending) : Prop := ∃ v n, e = .returned v ∧ n ≤ 100000 ∧ Tall l n ∧ LvA w' w.heap.size v l n
theorem LvA.read {w : World} {base n : Nat} {v : Value} {l : List Nat} (h : LvA w base v l n) : ∃ g c', v = .slice (some ⟨g, 0, none⟩) (n + 1) c' ∧ (base ≤ g ∧ g < w.heap.size) ∧ ∀ i, i ≤ n → ∃ A c, (lev l i).length ≤ c ∧ w.cell? ⟨g, i, none⟩ = some (.slice A (lev l i).length c) ∧ U64S w w.heap.size A (lev l i) := by
 obtain ⟨As, cs, ho, ha⟩ := h
 obtain ⟨g, cap, rfl, -, -⟩ := ho.pos (by rw [lvR_len]; omega)
 refine ⟨g, cap, by rw [lvR_len], ho.lt rfl, fun i hi => ?_⟩
 have hx : (lvR l n As cs)[i]? = some [.slice (As i) (lev l i).length (cs i)] := by rw [lvR, List.getElem?_map, List.getElem?_range (by omega)]; rfl
 obtain ⟨h1, h2, _⟩ := ha i hi
 exact ⟨As i, cs i, h1, by simpa using ho.cell (k := i) (j := 0) hx rfl, h2⟩
theorem LvB.call {w w' : World} {base n : Nat} {v : Value} {l : List Nat} {As : Nat → Option Addr} {cs : Nat → Nat} (h : LvB w base v l n As cs) (hb : Below w.heap.size w w') : LvB w' base v l n As cs :=
 ⟨h.1.below hb, fun i hi => ⟨(h.2 i hi).1, RdS.more (RdS.below' (h.2 i hi).2.1 hb (Nat.le_refl _)) hb.size, fun a ha => ⟨((h.2 i hi).2.2 a ha).1, Nat.lt_of_lt_of_le ((h.2 i hi).2.2 a ha).2 hb.size⟩⟩⟩
theorem LvA.call {w w' : World} {base n : Nat} {v : Value} {l : List Nat} (h : LvA w base v l n) (hb : Below w.heap.size w w') : LvA w' base v l n := by
 obtain ⟨As, cs, h⟩ := h
 exact ⟨As, cs, h.call hb⟩
theorem LvB.push {w W : World} {base n A0 : Nat} {v v' : Value} {A5 : Option Addr} {c5 : Nat} {l : List Nat} {As : Nat → Option Addr} {cs : Nat → Nat} (h : LvB w base v l n As cs) (o : Obj) (hu : U64S w w.heap.size A5 (lev l (n + 1))) (hc : (lev l (n + 1)).length ≤ c5) (hA : ∀ a, A5 = some a → A0 ≤ a.block ∧ a.block < w.heap.size) (hv0 : ∀ k, v.ownBlock = some k → k < A0)
  (ho : OwS W base 45 1 v' (lvR l n As cs ++ [[.slice A5 (lev l (n + 1)).length c5]])) (hg : (w.alloc o).grownBy W v.ownBlock) (hv : v'.ownBlock = v.ownBlock ∨ v'.ownBlock = some (w.heap.size + 1)) : LvA W base v' l (n + 1) := by
 obtain ⟨_, ha⟩ := h
 have hb : Below w.heap.size w (w.alloc o) := below_laid
 have hsz : w.heap.size ≤ W.heap.size := Nat.le_trans (Nat.le_succ _) (by simpa using hg.size)
 have key : ∀ (A : Option Addr) (m : List Nat), U64S w w.heap.size A m → (∀ a, A = some a → v.ownBlock ≠ some a.block ∧ a.block < w.heap.size) → U64S W W.heap.size A m ∧ ∀ a, A = some a → v'.ownBlock ≠ some a.block ∧ a.block < W.heap.size := fun A m h1 h2 => by
  refine ⟨RdS.more (RdS.keepBlk (RdS.below' h1 hb (Nat.le_refl _)) fun a ha => hg.block a.block (by simp; have := (h2 a ha).2; omega) (fun e => (h2 a ha).1 e.symm)) hsz, fun a ha => ⟨?_, Nat.lt_of_lt_of_le (h2 a ha).2 hsz⟩⟩
  rcases hv with e | e
  ·rw [e]; exact (h2 a ha).1
  ·rw [e]
   intro e2
   injection e2 with e2
   have := (h2 a ha).2
   omega
 refine ⟨fun i => if i = n + 1 then A5 else As i, fun i => if i = n + 1 then c5 else cs i, ?_, fun i hi => ?_⟩
 ·unfold lvR at ho ⊢
  rw [List.range_succ, List.map_append]
  have : (List.range (n + 1)).map (fun i => [Value.slice (if i = n + 1 then A5 else As i) (lev l i).length (if i = n + 1 then c5 else cs i)]) = (List.range (n + 1)).map fun i => [.slice (As i) (lev l i).length (cs i)] := by
   refine List.map_congr_left fun i hi => ?_
   have := List.mem_range.1 hi
   rw [if_neg (by omega), if_neg (by omega)]
  rw [this]
  simpa using ho
 ·by_cases e : i = n + 1
  ·subst e
   simp only [if_pos]
   refine ⟨hc, key A5 _ hu fun a ha => ⟨fun e => ?_, (hA a ha).2⟩⟩
   have := hv0 _ e
   have := (hA a ha).1
   omega
  ·simp only [if_neg e]
   obtain ⟨g1, g2, g3⟩ := ha i (by omega)
   exact ⟨g1, key (As i) _ g2 g3⟩
set_option maxHeartbeats 4000000 in
set_option maxRecDepth 100000 in
theorem levels_all {A : Option Addr} {B c : Nat} {l : List Nat} (w : World) (h : U64S w B A l) (hB : B ≤ w.heap.size) (hn : l.length ≤ 100000) :
  Calls Tryz.prog 33 #[.slice A l.length c] w fun r w' => LvaP l w w' r ∧ Below w.heap.size w w' := by
 have HU := Lib.hid h
 have HLL := Lib.hid hn
 clear h
 go_enter Tryz.func33, Tryz.ntmps33
 have hz : OwS (w.alloc (.cells #[] 38)) w.heap.size 38 1 (.slice (some ⟨w.heap.size, 0, none⟩) 0 0) [] := OwS.lit (by simp) (heap_alloc_new w _) rfl rfl (by decide) (Nat.le_refl _)
 have hrr : U64S (w.alloc (.cells #[] 38)) w.heap.size A l := (HU.out.below' (below_laid.mono hB) (Nat.le_refl _)).more hB
 go_wp2_with (at_builtin; refine wpList_apS rfl (.tmp 7) (.tmp 8) _ rfl elemU64 rfl hz w.heap.size _ _ c (l.map u64C) rfl hrr (by simp) (u64C_all l) (by simp [maxLen]; omega) (by simp; omega) (by simp) ?_)
 intro v1 w1 hown1 hg1 _
 have hb1 : Below w.heap.size w w1 := ((Below.refl w.heap.size w).alloc (Nat.le_refl _) _).grown hg1 (by simp) (fun k h => (hz.lt h).1)
 have HO1 : Hid (OwS w1 w.heap.size 38 1 v1 (l.map u64C)) := by simpa [Hid] using hown1
 have HB1 := Lib.hid hb1
 obtain ⟨A1, c1, rfl, hu1, hc1⟩ := HO1.out.u64s
 have HU1 := Lib.hid hu1
 clear hown1 hg1 hb1 hz hrr hu1
 go_upto_region 2 with (fail)
 have HV2 : Hid (LvA (w1.alloc (.cells #[.slice A1 l.length c1] 45)) w.heap.size (.slice (some ⟨w1.heap.size, 0, none⟩) 1 1) l 0) := by
  refine ⟨fun _ => A1, fun _ => c1, ?_, fun i hi => ?_⟩
  ·exact OwS.lit (base := w.heap.size) (size := 1) (rows := [[.slice A1 l.length c1]]) (n := 1) (by simp) (heap_alloc_new w1 (.cells #[.slice A1 l.length c1] 45)) rfl rfl (by decide) HB1.out.size
  ·obtain rfl : i = 0 := by omega
   refine ⟨hc1, RdS.more (RdS.below' HU1.out below_laid (Nat.le_refl _)) (by simp), fun a ha => ?_⟩
   have h1 : a.block < w1.heap.size := (HO1.out.lt (k := a.block) (by rw [show A1 = some a from ha]; rfl)).2
   refine ⟨fun e => ?_, by simp; omega⟩
   have e2 : some w1.heap.size = some a.block := e
   injection e2 with e2
   omega
 have HB2 : Hid (Below w.heap.size w (w1.alloc (.cells #[.slice A1 l.length c1] 45))) := HB1.out.alloc HB1.out.size _
 generalize w1.alloc _ = w2 at *
 generalize w1.heap.size = G at *
 clear HO1 HU1
 go_wp2
 go_loopw [3] (fun s3 wr => ∃ (cur : List Nat) (n f : Nat), cur = lev l n ∧ (∀ i, i < n → 1 < (lev l i).length) ∧ n + cur.length ≤ 100001 ∧ n ≤ 100000 ∧ cur.length ≤ f ∧ topF f cur = topL l ∧ LvA wr w.heap.size s3 l n ∧ Below w.heap.size w wr) (fun s3 _ => 200000 - lenV s3)
 case atStart => exact ⟨l, 0, l.length, rfl, fun i h => absurd h (Nat.not_lt_zero _), by have := HLL.out; omega, by omega, Nat.le_refl _, rfl, HV2.out, HB2.out⟩
 case round =>
  obtain ⟨cur, n, f, hcu, hta, hnc, hn5, hf, hR, hO, hb⟩ := hrel
  obtain ⟨g, c', rfl, hgl, hall⟩ := hO.read
  obtain ⟨A3, c3, hc3, hcell, hu⟩ := hall n (Nat.le_refl _)
  rw [← hcu] at hc3 hcell hu
  have HCU := Lib.hid hcu
  have HTL := Lib.hid hta
  have HGB := Lib.hid hgl
  have HO := Lib.hid hO
  have HB := Lib.hid hb
  have HU4 := Lib.hid hu
  have HR := Lib.hid hR
  have q1 : ((n + 1 : Nat) : Int) - 1 = (n : Int) := by omega
  have q1' : (n : Int) + 1 - 1 = (n : Int) := by omega
  have q2 : IntKind.i64.wrap (n : Int) = (n : Int) := IntWalk.i64_in _ (by omega)
  have q3 : ¬ (n : Int) < 0 := by omega
  have q4 : (n : Int) < ((n + 1 : Nat) : Int) := by omega
  have q4' : (n : Int) < (n : Int) + 1 := by omega
  clear hO hb hu hR HV2 HB2 hcu hta hgl hall
  by_cases h1 : 1 < cur.length
  case neg =>
   have h1I : ¬ (1 : Int) < (cur.length : Int) := by omega
   have HTA : Hid (Tall l n) := ⟨by rw [← HCU.out]; omega, HTL.out⟩
   go_wp2
   go_ret
   exact ⟨⟨_, n, rfl, hn5, HTA.out, HO.out⟩, HB.out⟩
  case pos =>
   have h1I : (1 : Int) < (cur.length : Int) := by omega
   generalize wr = wo at *
   have hwo : w.heap.size ≤ wo.heap.size := HB.out.size
   have HGL : Hid (g < wo.heap.size) := HGB.out.2
   have HTN : Hid (∀ i, i < n + 1 → 1 < (lev l i).length) := fun i hi => by
    rcases Nat.lt_or_ge i n with g | g
    ·exact HTL.out i g
    ·obtain rfl : i = n := by omega
     rw [← HCU.out]; exact h1
   go_wp2
   go_loopw [5, 6] (fun s5 s6 wr => ∃ i j : Nat, i = 4 * j ∧ j ≤ (cur.length + 3) / 4 ∧ s6 = .int .i64 i ∧ OwS wr wo.heap.size 38 1 s5 ((upK cur j).map u64C) ∧ Below wo.heap.size wo wr) (fun _ s6 _ => cur.length + 8 - (intOf s6).toNat)
   case atStart => exact ⟨0, 0, rfl, Nat.zero_le _, rfl, OwS.nil _ _ _ _, Below.refl _ _⟩
   case round =>
    obtain ⟨i, j, hij, hj, rfl, hO, hb⟩ := hrel
    by_cases hic : i < cur.length
    case pos =>
     have hiI : (i : Int) < (cur.length : Int) := by omega
     have hi0 : ¬ (i : Int) < 0 := by omega
     have hi0' : (0 : Int) ≤ (i : Int) := by omega
     have HIJ : Hid (i = 4 * j) := hij
     obtain ⟨hi, hhi⟩ : ∃ hi, min (i + 4) cur.length = hi := ⟨_, rfl⟩
     have p1 : IntKind.i64.wrap ((i : Int) + 4) = (i : Int) + 4 := IntWalk.i64_in _ (by omega)
     have p2 : ¬ c3 = i := by omega
     have p3 : min ((i : Int) + 4) (cur.length : Int) = (hi : Int) := by omega
     have p4 : (i : Int) ≤ (hi : Int) := by omega
     have p5 : (hi : Int) ≤ (c3 : Int) := by omega
     have hpl : ((cur.drop i).take 4).length = hi - i := by rw [List.length_take, List.length_drop]; omega
     obtain ⟨b, o, hA3⟩ : ∃ b o, A3 = some ⟨b, o, none⟩ := by
      obtain ⟨b, o, e, -⟩ := HU4.out.2 (by simp; omega)
      exact ⟨b, o, e⟩
     have hrd : U64S wr wo.heap.size (some ⟨b, o + i, none⟩) ((cur.drop i).take 4) := by
      have h0 := RdS.below' HU4.out hb (Nat.le_refl _)
      rw [hA3] at h0
      show RdS _ _ 1 _ (((cur.drop i).take 4).map u64C)
      rw [List.map_take, List.map_drop]
      have := RdS.drop1 h0 i
      exact RdS.take this 4
     have HRN := Lib.hid (run26 (c := c3 - i) wr hrd hb.size (by rw [hpl]; omega))
     rw [hpl] at HRN
     have HUS : Hid (upK cur (j + 1) = upK cur j ++ [ruN ((cur.drop i).take 4)]) := by rw [Hid, upK_succ, hij]
     have HMJ : Hid (j + 1 ≤ (cur.length + 3) / 4) := by rw [Hid]; omega
     have hps : (upK cur j).length ≤ 100000 := by rw [upK_len]; omega
     generalize ruN ((cur.drop i).take 4) = rn at *
     generalize upK cur j = uk at *
     have HOO := Lib.hid hO
     have HB5 := Lib.hid hb
     subst hA3
     clear hO hb hij hhi hpl hj hrd
     go_wp2_with fail
     refine HRN.out.mono ?_
     rintro r wj ⟨rfl, hbj⟩
     have HOJ := Lib.hid (HOO.out.below hbj)
     have HBJ := Lib.hid (HB5.out.trans (hbj.mono HB5.out.size))
     have hwj : wo.heap.size ≤ wj.heap.size := HBJ.out.size
     clear hbj HRN
     go_wp2_with (at_builtin; refine wpList_ap1 rfl (.tmp 31) (.tmp 41) _ rfl elemU64 rfl HOJ.out (u64C rn) _ (by rfl) wj.heap.size (by rfl) (by rfl) (u64C_one rn) (by simp [maxLen]; omega) (by simp; omega) hwj ?_)
     intro v5 w5 hown5 hg5 _
     have HB6 : Hid (Below wo.heap.size wo w5) := (HBJ.out.alloc hwj _).grown hg5 (by simp; omega) (fun k h => (HOJ.out.lt h).1)
     have HO6 : Hid (OwS w5 wo.heap.size 38 1 v5 ((upK cur (j + 1)).map u64C)) := by
      rw [Hid, HUS.out, List.map_append]
      exact hown5
     clear hown5 hg5
     go_wp2
     go_roundw
     case rel => exact ⟨i + 4, j + 1, by have := HIJ.out; omega, HMJ.out, by go_num, HO6.out, HB6.out⟩
     case measure => simp [intOf] <;> omega
    case neg =>
     have hiI : ¬ (i : Int) < (cur.length : Int) := by omega
     obtain rfl : j = (cur.length + 3) / 4 := by omega
     have HO2 : Hid (OwS wr wo.heap.size 38 1 u5 ((upL cur).map u64C)) := hO
     obtain ⟨A5, c5, rfl, hu5, hc5⟩ := HO2.out.u64s
     obtain ⟨f', hf', hR'⟩ := topF_step h1 hf HR.out
     have HR2 := Lib.hid hR'
     have HF2 := Lib.hid hf'
     have HB2 := Lib.hid hb
     have HU5 := Lib.hid hu5
     have HC5 : Hid ((upL cur).length ≤ c5) := hc5
     have HUN : Hid ((upL cur).length = (cur.length + 3) / 4) := upL_len cur
     obtain ⟨As, cs, hob⟩ := HO.out.call hb
     have HOB := Lib.hid hob
     have HOR := Lib.hid hob.1
     have HCN : Hid (lev l (n + 1) = upL cur) := by rw [Hid, HCU.out]; rfl
     have hwr : w.heap.size ≤ wr.heap.size := Nat.le_trans hwo hb.size
     have HRN : Hid ((lvR l n As cs).length = n + 1) := lvR_len _ _ _ _
     have hrl : (lvR l n As cs).length ≤ 200000 := by rw [HRN.out]; omega
     obtain ⟨rw2, hrw⟩ : ∃ q, lvR l n As cs = q := ⟨_, rfl⟩
     have HRW := Lib.hid hrw
     rw [hrw] at HOR HRN hrl
     clear hO hb hu5 hR' hf' hob hij hj hrw
     have HOG := Lib.hid (fun k hk => (HO2.out.lt (k := k) hk).1)
     generalize hg : (upL cur).length = ul at *
     go_wp2_with (at_builtin; refine wpList_ap1 rfl (.tmp 43) (.tmp 45) _ rfl elemUs rfl HOR.out [.slice A5 ul c5] _ (by rfl) wr.heap.size (by rfl) (by rfl) (by intro u hu; rw [List.mem_singleton] at hu; subst hu; rfl) (by simp only [maxLen]; omega) (by omega) hwr ?_)
     intro v5 w5 hown5 hg5 hv5
     have hA5 : Hid (∀ a, A5 = some a → wo.heap.size ≤ a.block ∧ a.block < wr.heap.size) := fun a ha => HO2.out.lt (by rw [ha]; rfl)
     have hb2 : Below wr.heap.size wr (wr.alloc (.cells #[.slice A5 ul c5] 45)) := below_laid
     have HB6 : Hid (Below w.heap.size w w5) := ((HB.out.trans (HB2.out.mono hwo)).alloc hwr _).grown hg5 (by simp; omega) (fun k h => (HOR.out.lt h).1)
     have HV6 : Hid (LvA w5 w.heap.size v5 l (n + 1)) := by
      have hl1 : (lev l (n + 1)).length = ul := by rw [HCN.out, hg]
      refine HOB.out.push (A0 := wo.heap.size) (A5 := A5) (c5 := c5) (.cells #[.slice A5 ul c5] 45) (by rw [HCN.out]; exact HU5.out) (by rw [hl1]; exact HC5.out) hA5.out (fun k hk => ?_) (by rw [HRW.out, hl1]; exact hown5) hg5 hv5
      have e2 : some g = some k := hk
      injection e2 with e2
      have := HGL.out
      omega
     have HNN : Hid (n + 1 + (upL cur).length ≤ 100001) := by rw [Hid, hg, HUN.out]; omega
     have HML : Hid (lenV v5 = n + 2) := by
      obtain ⟨_, _, rfl, -⟩ := HV6.out.read
      rfl
     have HFF : Hid ((upL cur).length ≤ f') := by rw [Hid, hg]; exact HF2.out
     clear hown5 hg5 hv5 hb2
     go_wp2
     go_roundw
     case rel => exact ⟨upL cur, n + 1, f', HCN.out.symm, HTN.out, HNN.out, by omega, HFF.out, HR2.out, HV6.out, HB6.out⟩
     case measure => simp only [HML.out]; simp [lenV]; omega
end Go.Proofs.YtopoefcklipaeaaGreatDoor
namespace Go.Proofs.YtopoefcklipaeaaGreatDoor
open Go.RowKit
theorem elemIntH : Elem Tryz.prog 47 3 1 8 := Elem.mk (z := .int .i64 0) Tryz.underlying47 (by kernel_rfl) (by decide) rfl
theorem icH (x : Int) : ∀ u ∈ icell x, u.oneCell' = true := by intro u hu; rw [icell, List.mem_singleton] at hu; subst hu; rfl
def refI (x y : List Nat) (d k : Nat) : List Int := ((List.range k).filter fun i => chT x y i (d + 1)).map fun i => ((i : Nat) : Int)
theorem refI_succ (x y : List Nat) (d k : Nat) : refI x y d (k + 1) = refI x y d k ++ if chT x y k (d + 1) = true then [(k : Int)] else [] := by
 unfold refI
 rw [List.range_succ, List.filter_append, List.map_append]
 congr 1
 by_cases h : chT x y k (d + 1) = true <;> simp [h]
theorem refI_len (x y : List Nat) (d k : Nat) : (refI x y d k).length ≤ k := by
 unfold refI
 rw [List.length_map]
 exact Nat.le_trans (List.length_filter_le _ _) (by simp)
def RdfP (x y : List Nat) (_w : World) (e : Ending) : Prop := ∃ d A c, e = .returned (.tuple #[.slice A (refD x y d).length c, .int .i64 0]) ∧ Tall x d ∧ Tall y d
set_option maxHeartbeats 4000000 in
set_option maxRecDepth 100000 in
theorem ref_diff {A A' : Option Addr} {B c c' : Nat} {x y : List Nat} (w : World) (hx : U64S w B A x) (hy : U64S w B A' y) (hB : B ≤ w.heap.size) (hxy : x.length = y.length) (hn : x.length ≤ 100000) :
  Calls Tryz.prog 10 #[.slice A x.length c, .slice A' y.length c'] w fun r w' => RdfP x y w' r ∧ Below w.heap.size w w' := by
 have HLX := Lib.hid (levels_all (c := c) w hx hB hn)
 have HLY := Lib.hid (fun (W : World) (hW : Below w.heap.size w W) => levels_all (c := c') W (hy.below' hW hB) (Nat.le_trans hB hW.size) (by omega))
 have HXY := Lib.hid hxy
 rw [← hxy] at HLY
 clear hx hy
 have hyx : y.length = x.length := hxy.symm
 rw [hyx]
 clear hyx hxy
 go_enter Tryz.func10, Tryz.ntmps10
 go_wp2_with fail
 refine HLX.out.mono ?_
 rintro r w1 ⟨⟨v, d, rfl, hd5, htx, hv⟩, hb1⟩
 have HB1 := Lib.hid hb1
 have HV := Lib.hid hv
 have HTX := Lib.hid htx
 clear hv hb1 htx HLX
 go_wp2_with fail
 refine (HLY.out w1 HB1.out).mono ?_
 rintro r w2 ⟨⟨v', d', rfl, _, hty, hv'⟩, hb2⟩
 obtain rfl : d = d' := HTX.out.uniq hty fun i => lev_len HXY.out i
 have HTY := Lib.hid hty
 have HB2 := Lib.hid (HB1.out.trans (hb2.mono HB1.out.size))
 obtain ⟨g, e1, rfl, hg, hga⟩ := (HV.out.call hb2).read
 obtain ⟨g', e2, rfl, hg', hga'⟩ := hv'.read
 have HGA := Lib.hid hga
 have HGB := Lib.hid hga'
 have HGL := Lib.hid (And.intro hg.2 hg'.2)
 have hz : w.heap.size ≤ w2.heap.size := HB2.out.size
 clear hb2 hga hga' hv' hty hg hg' HV HLY
 go_wp2
 go_loopw [8, 9] (fun s8 s9 wr => ∃ k : Nat, k ≤ x.length ∧ s9 = .int .i64 k ∧ OwS wr w2.heap.size 3 1 s8 ((refI x y d k).map icell) ∧ Below w2.heap.size w2 wr) (fun _ s9 _ => x.length - (intOf s9).toNat)
 case atStart => exact ⟨0, by omega, rfl, OwS.nil _ _ _ _, Below.refl _ _⟩
 case round =>
  obtain ⟨k, hk, rfl, hO, hb⟩ := hrel
  have HO := Lib.hid hO
  have HB := Lib.hid hb
  obtain ⟨A5, c5, rfl, -⟩ := hO.form
  have hlI0 : ((refI x y d k).map icell).length = (refI x y d k).length := List.length_map _
  rw [hlI0] at HO ⊢
  clear hO hb hlI0
  by_cases hkn : k < x.length
  case neg =>
   have hkI : ¬ (k : Int) < (x.length : Int) := by omega
   obtain rfl : k = x.length := by omega
   have hl : (refI x y d x.length).length = (refD x y d).length := by simp [refI, refD]
   rw [hl]
   go_wp2
   go_ret2
   exact ⟨⟨d, A5, c5, rfl, HTX.out, HTY.out⟩, HB2.out.trans (HB.out.mono hz)⟩
  case pos =>
   have hkI : (k : Int) < (x.length : Int) := by omega
   have HKX : Hid (k < x.length) := hkn
   have hrl : (refI x y d k).length ≤ 100000 := by have := refI_len x y d k; omega
   have HS := Lib.hid (refI_succ x y d k)
   generalize refI x y d k = rk at *
   generalize wr = wo at *
   have hzo : w2.heap.size ≤ wo.heap.size := HB.out.size
   go_wp2
   go_loopw [10, 11, 12] (fun s10 s11 s12 wr => ∃ l : Nat, l ≤ d + 1 ∧ s12 = .int .i64 l ∧ s11 = .int .i64 ((k / 4 ^ l : Nat) : Int) ∧ s10 = .bool (chT x y k l) ∧ Below wo.heap.size wo wr) (fun _ _ s12 _ => d + 1 - (intOf s12).toNat)
   case atStart => exact ⟨0, by omega, rfl, by simp, rfl, Below.refl _ _⟩
   case round =>
    obtain ⟨l, hl, rfl, rfl, rfl, hb⟩ := hrel
    have HBI := Lib.hid hb
    by_cases hld : l < d + 1
    case neg =>
     have hlI : ¬ (l : Int) < (d : Int) + 1 := by omega
     have hlI' : ¬ (l : Int) < ((d + 1 : Nat) : Int) := by omega
     obtain rfl : l = d + 1 := by omega
     have HO2 := Lib.hid (HO.out.below hb)
     have HB3 : Hid (Below w2.heap.size w2 wr) := HB.out.trans (hb.mono HB.out.size)
     have hzr : w2.heap.size ≤ wr.heap.size := HB3.out.size
     obtain ⟨cb, hcb⟩ : ∃ cb, chT x y k (d + 1) = cb := ⟨_, rfl⟩
     rw [hcb] at HS ⊢
     clear hb hcb hld
     obtain ⟨qq, hqq⟩ : ∃ qq : Nat, k / 4 ^ (d + 1) = qq := ⟨_, rfl⟩
     rw [hqq]
     clear hqq
     cases cb with
     | false =>
      simp only [Bool.false_eq_true, if_false, List.append_nil] at HS
      go_wp2
      go_roundw
      case rel => exact ⟨k + 1, by omega, by go_num, by rw [HS.out]; exact HO2.out, HB3.out⟩
      case measure => simp [intOf] <;> omega
     | true =>
      simp only [if_true] at HS
      go_wp2_with (at_builtin; refine wpList_ap1 rfl (.tmp 56) (.tmp 58) _ rfl elemIntH rfl HO2.out (icell (k : Int)) _ (by rfl) wr.heap.size (by rfl) (by rfl) (icH _) (by simp [maxLen]; omega) (by simp; omega) hzr ?_)
      intro v5 w5 hown5 hg5 _
      have HB5 : Hid (Below w2.heap.size w2 w5) := (HB3.out.alloc hzr _).grown hg5 (by simp; omega) (fun k h => (HO2.out.lt h).1)
      have HO5 : Hid (OwS w5 w2.heap.size 3 1 v5 ((refI x y d (k + 1)).map icell)) := by
       rw [Hid, HS.out, List.map_append]
       exact hown5
      clear hown5 hg5
      go_wp2
      go_roundw
      case rel => exact ⟨k + 1, by omega, by go_num, HO5.out, HB5.out⟩
      case measure => simp [intOf] <;> omega
    case pos =>
     have hlI : (l : Int) < (d : Int) + 1 := by omega
     have hlI' : (l : Int) < ((d + 1 : Nat) : Int) := by omega
     have hl0 : ¬ (l : Int) < 0 := by omega
     have hl1 : (0 : Int) ≤ (l : Int) := by omega
     obtain ⟨q4, hq4⟩ : ∃ q4 : Nat, k / 4 ^ (l + 1) = q4 := ⟨_, rfl⟩
     have hqq : k / 4 ^ l / 4 = q4 := by rw [← hq4, Nat.pow_succ, Nat.div_div_eq_div_mul]
     have HQ4 := Lib.hid hq4
     have hq1 : k / 4 ^ l ≤ 100000 := Nat.le_trans (Nat.div_le_self _ _) (by omega)
     have k4 : Int.tdiv ((k / 4 ^ l : Nat) : Int) 4 = (q4 : Int) := by rw [← hqq]; exact tdiv_nat _ 4
     have k5 : IntKind.i64.wrap (q4 : Int) = (q4 : Int) := IntWalk.i64_in _ (by omega)
     have h1 := lev_in HKX.out l
     have hll := lev_len HXY.out l
     obtain ⟨s, hs⟩ : ∃ s, (lev x l)[k / 4 ^ l]? = some s := ⟨_, List.getElem?_eq_getElem h1⟩
     obtain ⟨t, ht⟩ : ∃ t, (lev y l)[k / 4 ^ l]? = some t := ⟨_, List.getElem?_eq_getElem (by omega)⟩
     have HCN : Hid (chT x y k (l + 1) = (chT x y k l && (some s != some t))) := by rw [Hid, chT, hs, ht]
     obtain ⟨A1, c1, _, hc1, hu1⟩ := HGA.out l (by omega)
     obtain ⟨A2, c2, _, hc2, hu2⟩ := HGB.out l (by omega)
     have hb12 : Below w2.heap.size w2 wr := HB.out.trans (hb.mono HB.out.size)
     obtain ⟨b1, o1, rfl, hb1, hs1⟩ := U64S.at_ hu1 hs
     obtain ⟨b2, o2, rfl, hb2, hs2⟩ := U64S.at_ hu2 ht
     have g1 : wr.cell? ⟨g, l, none⟩ = some (.slice (some ⟨b1, o1, none⟩) (lev x l).length c1) := (hb12.cell (p := ⟨g, l, none⟩) HGL.out.1).trans hc1
     have g2 : wr.cell? ⟨g', l, none⟩ = some (.slice (some ⟨b2, o2, none⟩) (lev y l).length c2) := (hb12.cell (p := ⟨g', l, none⟩) HGL.out.2).trans hc2
     have g3 : wr.cell? ⟨b1, o1 + k / 4 ^ l, none⟩ = some (.int .u64 (s : Int)) := (hb12.cell (p := ⟨b1, o1 + k / 4 ^ l, none⟩) hb1).trans hs1
     have g4 : wr.cell? ⟨b2, o2 + k / 4 ^ l, none⟩ = some (.int .u64 (t : Int)) := (hb12.cell (p := ⟨b2, o2 + k / 4 ^ l, none⟩) hb2).trans hs2
     have i1 : ((k / 4 ^ l : Nat) : Int) < ((lev x l).length : Int) := by omega
     have i2 : ((k / 4 ^ l : Nat) : Int) < ((lev y l).length : Int) := by omega
     have i3 : ¬ ((k / 4 ^ l : Nat) : Int) < 0 := by omega
     have i4 : (0 : Int) ≤ ((k / 4 ^ l : Nat) : Int) := by omega
     clear hs ht hc1 hc2 hu1 hu2 hs1 hs2 hb12 h1 hll hq4 hqq
     generalize (lev x l).length = n1 at *
     generalize (lev y l).length = n2 at *
     generalize k / 4 ^ l = q at *
     obtain ⟨cb, hcb⟩ : ∃ cb, chT x y k l = cb := ⟨_, rfl⟩
     rw [hcb] at HCN ⊢
     clear hcb hb
     cases cb with
     | false =>
      rw [Bool.false_and] at HCN
      go_wp2_with fail
      go_quiet (fail)
      rename_i nq
      go_wp2
      go_roundw
      case rel => exact ⟨l + 1, by omega, by go_num, by rw [HQ4.out], by rw [HCN.out], below_drewN HBI.out _⟩
      case measure => simp [intOf] <;> omega
     | true =>
      rw [Bool.true_and] at HCN
      by_cases hst : s = t
      ·subst hst
       have e0 : (some s != some s) = false := by simp
       rw [e0] at HCN
       clear e0
       go_wp2_with fail
       go_quiet (fail)
       go_wp2
       go_roundw
       case rel => exact ⟨l + 1, by omega, by go_num, by rw [HQ4.out], by rw [HCN.out], below_drewN HBI.out _⟩
       case measure => simp [intOf] <;> omega
      ·have e0 : (some s != some t) = true := by simp [hst]
       have e1 : ((s : Int) == (t : Int)) = false := by rw [beq_eq_false_iff_ne]; omega
       have e2 : ((s : Int) != (t : Int)) = true := by rw [bne, e1]; rfl
       rw [e0] at HCN
       clear e0 hst
       go_wp2_with fail
       go_quiet (fail)
       go_wp2
       go_roundw
       case rel => exact ⟨l + 1, by omega, by go_num, by rw [HQ4.out], by rw [HCN.out], below_drewN HBI.out _⟩
       case measure => simp [intOf] <;> omega
end Go.Proofs.YtopoefcklipaeaaGreatDoor
