/- Walk of tegulalaw22.awake: the document's examples. -/
import Derived.Test.YtkjjojmidhjjdaaGreatTwX
import Derived.Test.YtkjjojmidhjjdaaGreatSmB
import Derived.Test.YtkjjojmidhjjdaaGreatSmD
namespace Go.Proofs.YtkjjojmidhjjdaaGreat
open Go.RowKit

/-- the layout of the examples -/
def LA : LayD := ⟨5, compL 5 4, 1, 2⟩
theorem la_small : smallL 160 = LA := by
  have h : smallDes 160 = (5, compL 5 4) := by decide +kernel
  unfold smallL
  rw [h]
  rfl
theorem la_ok : LayX LA := by rw [← la_small]; exact small_layX 160
def mA : Mv := ⟨0, 2, ⟨4, 4⟩⟩
theorem aw1 : choR LA [] 0 [true, false, false, false, false] = (⟨4, 4⟩, 0) := by decide +kernel
theorem aw2 : choR LA [] 0 [false, false, false, false, true] = (⟨0, 0⟩, 11) := by decide +kernel
theorem aw3 : appR LA [] mA = ([mA], 0) := by decide +kernel
theorem aw4 : validM LA [mA] = true := by decide +kernel
theorem aw5 : usedL LA [mA] 4 = [4] := by decide +kernel
theorem aw6 : choR LA [mA] 1 [true, false, false, false, false] = (⟨3, 4⟩, 0) := by decide +kernel
theorem lit_bools (W : World) (l : List Bool) (hl : l.length ≤ 1000) : BoolS (W.alloc (.cells (l.map Value.bool).toArray 4)) (W.alloc (.cells (l.map Value.bool).toArray 4)).heap.size (some ⟨W.heap.size, 0, none⟩) l := by
  have h : OwS (W.alloc (.cells (l.map Value.bool).toArray 4)) W.heap.size 4 1 (.slice (some ⟨W.heap.size, 0, none⟩) l.length l.length) (l.map fun b => [.bool b]) := by
    refine OwS.lit (fun r hr => by obtain ⟨b, -, rfl⟩ := List.mem_map.1 hr; rfl) (heap_alloc_new W _) ?_ (by simp) (by simp [maxLen]; omega) (Nat.le_refl _)
    clear hl
    induction l with
    | nil => rfl
    | cons b l ih => simpa using ih
  have h2 := h.reads
  exact h2
theorem ch_call {W : World} {A Am : Option Addr} {c cm : Nat} (ms : List Mv) (g : Int) (l : List Bool) (hv : GsV W W.heap.size A LA.gs) (hM : MvS W W.heap.size Am ms) (hwf : ∀ m ∈ ms, PlWf m.to) (hn : ms.length ≤ 1000) (hl : l.length ≤ 1000) :
    Calls Tryz.prog 17 #[layAgg LA A c, .slice Am ms.length cm, .int .i64 g, .slice (some ⟨W.heap.size, 0, none⟩) l.length l.length] (W.alloc (.cells (l.map Value.bool).toArray 4)) fun r w' => r = .returned (.tuple #[(choR LA ms g l).1.agg, .int .i64 (choR LA ms g l).2]) ∧ Below W.heap.size W w' := by
  have hb : Below W.heap.size W (W.alloc (.cells (l.map Value.bool).toArray 4)) := below_laid
  refine (sChoose_any (L := LA) (A := A) (Am := Am) (B := (W.alloc (.cells (l.map Value.bool).toArray 4)).heap.size) (c := c) (cm := cm) (ms := ms) (dead := l) (cd := l.length) g _ la_ok ((hv.below hb (Nat.le_refl _)).more hb.size) ((RdS.below' hM hb (Nat.le_refl _)).more hb.size) hwf (lit_bools W l hl) (by omega) (Nat.le_refl _) (by omega)).mono ?_
  rintro r w' ⟨h1, h2⟩
  exact ⟨h1, hb.trans (h2.mono hb.size)⟩
/-- what awake keeps: the layout's box, the groups -/
structure AwS (w : World) (X : Nat) (A : Option Addr) (c : Nat) (wr : World) : Prop where
  bel : Below w.heap.size w wr
  lay : LayB wr X LA A c
  gs : GsV wr wr.heap.size A LA.gs
theorem AwS.below {w wr w' : World} {X c : Nat} {A : Option Addr} (h : AwS w X A c wr) (hb : Below wr.heap.size wr w') : AwS w X A c w' :=
  ⟨h.bel.trans (hb.mono h.bel.size), h.lay.below hb h.lay.lt, (h.gs.below hb (Nat.le_refl _)).more hb.size⟩
set_option maxHeartbeats 4000000 in
set_option maxRecDepth 100000 in
theorem awake_any (w : World) : Calls Tryz.prog 5 #[] w fun r w' => r = .returned (.bool true) ∧ Below w.heap.size w w' := by
  have HC : Hid (ComC 5 4 LA) := by rw [← la_small]; exact com_54 (by decide)
  go_enter Tryz.func5, Tryz.ntmps5
  go_wp2_with fail
  refine (HC.out w).mono ?_
  rintro r w1 ⟨⟨v, rfl, hG⟩, hb1⟩
  obtain ⟨vs, hgs⟩ := hG
  obtain ⟨A, c, rfl, -, -⟩ := hgs.2.1.form
  have hlen : (vsRows vs LA.gs).length = LA.n := vsRows_len hgs.1
  rw [hlen] at hgs ⊢
  have HV1 := Lib.hid hgs.toV
  have HB1 := Lib.hid hb1
  clear hgs hb1 hlen HC
  go_upto_region 2 with (fail)
  generalize hW2 : w1.alloc _ = w2
  have H2 : Hid (AwS w w1.heap.size A c w2) := by
    rw [← hW2]
    exact ⟨HB1.out.trans (below_laid.mono HB1.out.size), LayB.made w1 LA A c, (HV1.out.below below_laid (Nat.le_refl _)).more (by simp)⟩
  generalize w1.heap.size = X at *
  clear hW2 HB1 HV1
  have k2 : Calls Tryz.prog 17 #[.agg #[.int .i64 (LA.disks : Int), .slice A LA.n c, .int .i64 (LA.tiles : Int), .int .i64 (LA.spare : Int)], .slice none 0 0, .int .i64 0, .slice (some ⟨w2.heap.size, 0, none⟩) 5 5] (w2.alloc (.cells #[.bool true, .bool false, .bool false, .bool false, .bool false] 4)) fun r w' => r = .returned (.tuple #[.agg #[.int .i64 4, .int .i64 4], .int .i64 0]) ∧ Below w2.heap.size w2 w' := by
    have h := ch_call (A := A) (c := c) (Am := none) (cm := 0) [] 0 [true, false, false, false, false] H2.out.gs (RdS.nil _ _ _ _) (by simp) (by simp) (by simp)
    rw [aw1] at h
    exact h
  have K2 := Lib.hid k2
  clear k2
  obtain ⟨l0, l1, l2, l3⟩ := H2.out.lay.cells
  go_wp2_with fail
  refine K2.out.mono ?_
  rintro r w3 ⟨rfl, hb3⟩
  have H3 := Lib.hid (H2.out.below hb3)
  clear hb3 l0 l1 l2 l3 K2 H2
  go_upto_region 3 with (fail)
  generalize hW4 : w3.alloc _ = w4
  have hP4 : PlB w4 w3.heap.size ⟨4, 4⟩ := by rw [← hW4]; exact heap_alloc_new w3 _
  have H4 : Hid (AwS w X A c w4) := by rw [← hW4]; exact Lib.hid (H3.out.below below_laid)
  have HP4 := Lib.hid hP4
  generalize w3.heap.size = Y at *
  clear hW4 H3 hP4
  have k4 : Calls Tryz.prog 17 #[.agg #[.int .i64 (LA.disks : Int), .slice A LA.n c, .int .i64 (LA.tiles : Int), .int .i64 (LA.spare : Int)], .slice none 0 0, .int .i64 0, .slice (some ⟨w4.heap.size, 0, none⟩) 5 5] (w4.alloc (.cells #[.bool false, .bool false, .bool false, .bool false, .bool true] 4)) fun r w' => r = .returned (.tuple #[.agg #[.int .i64 0, .int .i64 0], .int .i64 11]) ∧ Below w4.heap.size w4 w' := by
    have h := ch_call (A := A) (c := c) (Am := none) (cm := 0) [] 0 [false, false, false, false, true] H4.out.gs (RdS.nil _ _ _ _) (by simp) (by simp) (by simp)
    rw [aw2] at h
    exact h
  have K4 := Lib.hid k4
  clear k4
  obtain ⟨l0, l1, l2, l3⟩ := H4.out.lay.cells
  go_wp2_with fail
  refine K4.out.mono ?_
  rintro r w5 ⟨rfl, hb5⟩
  have H5 := Lib.hid (H4.out.below hb5)
  have HP5 := Lib.hid (HP4.out.below hb5 HP4.out.lt)
  clear hb5 l0 l1 l2 l3 K4 H4 HP4
  go_upto_region 4 with (fail)
  generalize hW6 : w5.alloc _ = w6
  have H6 : Hid (AwS w X A c w6) := by rw [← hW6]; exact Lib.hid (H5.out.below below_laid)
  have HP6 : Hid (PlB w6 Y ⟨4, 4⟩) := by rw [← hW6]; exact Lib.hid (HP5.out.below below_laid HP5.out.lt)
  generalize w5.heap.size = Z at *
  clear hW6 H5 HP5
  have k6 : Calls Tryz.prog 18 #[.agg #[.int .i64 (LA.disks : Int), .slice A LA.n c, .int .i64 (LA.tiles : Int), .int .i64 (LA.spare : Int)], .slice none 0 0, .agg #[.int .i64 0, .int .i64 2, .int .i64 4, .int .i64 4]] w6 fun r w' => (∃ v, r = .returned (.tuple #[v, .int .i64 0]) ∧ OwS w' w6.heap.size 60 4 v ([mA].map Mv.cells)) ∧ Below w6.heap.size w6 w' := by
    have h := sApply_any (L := LA) (A := A) (Am := none) (B := w6.heap.size) (c := c) (cm := 0) (ms := []) mA w6 la_ok H6.out.gs (RdS.nil _ _ _ _) (by simp) ⟨by decide, by decide⟩ (Nat.le_refl _) (by simp)
    rw [aw3] at h
    exact h
  have K6 := Lib.hid k6
  clear k6
  obtain ⟨l0, l1, l2, l3⟩ := H6.out.lay.cells
  go_wp2_with fail
  refine K6.out.mono ?_
  rintro r w7 ⟨⟨v7, rfl, hown7⟩, hb7⟩
  have H7 := Lib.hid (H6.out.below hb7)
  have HP7 := Lib.hid (HP6.out.below hb7 HP6.out.lt)
  obtain ⟨A7, c7, rfl, -, -⟩ := hown7.form
  have hM7 : MvS w7 w7.heap.size A7 [mA] := hown7.reads
  have HM7 := Lib.hid hM7
  clear hown7 hM7 hb7 l0 l1 l2 l3 K6 H6 HP6
  simp only [List.map_cons, List.map_nil, List.length_cons, List.length_nil, Nat.zero_add]
  have hwf : ∀ m ∈ [mA], PlWf m.to := by
    intro m hm
    obtain rfl := List.mem_singleton.1 hm
    exact ⟨by decide, by decide⟩
  have HWF := Lib.hid hwf
  have k7 : Calls Tryz.prog 9 #[.agg #[.int .i64 (LA.disks : Int), .slice A LA.n c, .int .i64 (LA.tiles : Int), .int .i64 (LA.spare : Int)], .slice A7 1 c7, .int .i64 4] w7 fun r w' => (∃ v, r = .returned (.tuple #[v, .int .i64 0]) ∧ OwS w' w7.heap.size 3 1 v (([4] : List Int).map icell)) ∧ Below w7.heap.size w7 w' := by
    refine (sUsed_any (L := LA) (A := A) (Am := A7) (B := w7.heap.size) (c := c) (cm := c7) (ms := [mA]) 4 w7 la_ok H7.out.gs HM7.out HWF.out (Nat.le_refl _) (by simp)).mono ?_
    rintro r w' ⟨h1, h2⟩
    have h3 := h1.2.2 aw4 (by decide)
    rw [aw5] at h3
    exact ⟨h3, h2⟩
  have K7 := Lib.hid k7
  clear k7 hwf
  obtain ⟨l0, l1, l2, l3⟩ := H7.out.lay.cells
  go_wp2_with fail
  refine K7.out.mono ?_
  rintro r w8 ⟨⟨v8, rfl, hown8⟩, hb8⟩
  have H8 := Lib.hid (H7.out.below hb8)
  have HP8 := Lib.hid (HP7.out.below hb8 HP7.out.lt)
  have HM8 : Hid (MvS w8 w8.heap.size A7 [mA]) := (RdS.below' HM7.out hb8 (Nat.le_refl _)).more hb8.size
  obtain ⟨A8, c8, rfl, -, -⟩ := hown8.form
  have hI8 : IntS w8 w8.heap.size A8 [4] := hown8.reads
  have HI8 := Lib.hid hI8
  clear hown8 hI8 hb8 l0 l1 l2 l3 K7 H7 HP7 HM7
  simp only [List.map_cons, List.map_nil, List.length_cons, List.length_nil, Nat.zero_add]
  have k8 : Calls Tryz.prog 17 #[.agg #[.int .i64 (LA.disks : Int), .slice A LA.n c, .int .i64 (LA.tiles : Int), .int .i64 (LA.spare : Int)], .slice A7 1 c7, .int .i64 1, .slice (some ⟨w8.heap.size, 0, none⟩) 5 5] (w8.alloc (.cells #[.bool true, .bool false, .bool false, .bool false, .bool false] 4)) fun r w' => r = .returned (.tuple #[.agg #[.int .i64 3, .int .i64 4], .int .i64 0]) ∧ Below w8.heap.size w8 w' := by
    have h := ch_call (A := A) (c := c) (Am := A7) (cm := c7) [mA] 1 [true, false, false, false, false] H8.out.gs HM8.out HWF.out (by simp) (by simp)
    rw [aw6] at h
    exact h
  have K8 := Lib.hid k8
  clear k8
  obtain ⟨l0, l1, l2, l3⟩ := H8.out.lay.cells
  go_wp2_with fail
  refine K8.out.mono ?_
  rintro r w9 ⟨rfl, hb9⟩
  have H9 := Lib.hid (H8.out.below hb9)
  have HP9 := Lib.hid (HP8.out.below hb9 HP8.out.lt)
  have HI9 : Hid (IntS w9 w9.heap.size A8 [4]) := (RdS.below' HI8.out hb9 (Nat.le_refl _)).more hb9.size
  clear hb9 l0 l1 l2 l3 K8 H8 HP8 HM8 HI8
  go_upto_region 7 with (fail)
  generalize hW10 : w9.alloc _ = w10
  have hP10 : PlB w10 w9.heap.size ⟨3, 4⟩ := by rw [← hW10]; exact heap_alloc_new w9 _
  have H10 : Hid (AwS w X A c w10) := by rw [← hW10]; exact Lib.hid (H9.out.below below_laid)
  have HQ10 : Hid (PlB w10 Y ⟨4, 4⟩) := by rw [← hW10]; exact Lib.hid (HP9.out.below below_laid HP9.out.lt)
  have HI10 : Hid (IntS w10 w10.heap.size A8 [4]) := by rw [← hW10]; exact (RdS.below' HI9.out below_laid (Nat.le_refl _)).more (by simp)
  have HP10 := Lib.hid hP10
  generalize w9.heap.size = V at *
  clear hW10 H9 HP9 HI9 hP10
  have k10 : Calls Tryz.prog 11 #[.slice A8 1 c8, .slice (some ⟨w10.heap.size, 0, none⟩) 1 1] (w10.alloc (.cells #[.int .i64 4] 3)) fun r w' => r = .returned (.bool true) ∧ Below w10.heap.size w10 w' := by
    have hl : IntS (w10.alloc (.cells #[.int .i64 4] 3)) (w10.alloc (.cells #[.int .i64 4] 3)).heap.size (some ⟨w10.heap.size, 0, none⟩) [4] := by
      have h : OwS (w10.alloc (.cells #[.int .i64 4] 3)) w10.heap.size 3 1 (.slice (some ⟨w10.heap.size, 0, none⟩) 1 1) (([4] : List Int).map icell) := OwS.lit (by simp [icell]) (heap_alloc_new w10 _) rfl rfl (by decide) (Nat.le_refl _)
      exact h.reads
    have hb : Below w10.heap.size w10 (w10.alloc (.cells #[.int .i64 4] 3)) := below_laid
    refine (sameints_any (a := [4]) (b := [4]) (c1 := c8) (c2 := 1) _ (RdS.below' HI10.out hb (Nat.le_refl _)) hl (by simp) (by simp) hb.size (Nat.le_refl _)).mono ?_
    rintro r w' ⟨h1, h2⟩
    exact ⟨h1, hb.trans (h2.mono hb.size)⟩
  have K10 := Lib.hid k10
  clear k10
  obtain ⟨p0, p1, -, -⟩ := HQ10.out.cells
  obtain ⟨q0, q1, -, -⟩ := HP10.out.cells
  have HK := Lib.hid (fun W (hb : Below w10.heap.size w10 W) => (HP10.out.below hb HP10.out.lt).cells)
  go_wp2_with fail
  refine K10.out.mono ?_
  rintro r w11 ⟨rfl, hb11⟩
  obtain ⟨q0, q1, -, -⟩ := HK.out w11 hb11
  have HBE := Lib.hid (H10.out.bel.trans (hb11.mono H10.out.bel.size))
  clear HK hb11
  go_wp2
  go_ret
  exact ⟨rfl, HBE.out⟩
end Go.Proofs.YtkjjojmidhjjdaaGreat
