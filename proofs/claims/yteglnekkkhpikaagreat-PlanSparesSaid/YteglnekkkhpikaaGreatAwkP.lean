/- Walk of tegulalaw23.awake: the document's example. -/
import Derived.Test.YteglnekkkhpikaaGreatPwN
import Derived.Test.YteglnekkkhpikaaGreatSmB
namespace Go.Proofs.YteglnekkkhpikaaGreat
open Go.RowKit

/-- the layout of the example, and its tasks -/
def LP : LayD := ⟨5, compL 5 4, 1, 1⟩
theorem lp_small : smallL 80 = LP := by
  have h : smallDes 80 = (5, compL 5 4) := by decide +kernel
  unfold smallL
  rw [h]
  rfl
theorem lp_ok : LayX LP := by rw [← lp_small]; exact small_layX 80
theorem lp_des : desB LP.disks LP.w LP.r 3 LP.gs = true := by decide +kernel
def tskP (k : Nat) : Tsk := ⟨k, 0, [3], ⟨(4 : Int) - (k : Int), 4⟩⟩
def TP : List Tsk := (List.range 4).map tskP
theorem tp_at {k : Nat} (h : k < 4) : TP[k]? = some (tskP k) := by
  unfold TP
  rw [List.getElem?_map, List.getElem?_range h]
  rfl
theorem ap1 : planL LP [] 0 [true, false, false, false, false] = (TP, 0) := by kernel_rfl
theorem ap2 : loadL LP [] 4 TP = (3, 0) := by kernel_rfl
theorem ap3 : shareV LP 3 = 7 := by kernel_rfl
theorem lit_boolP (W : World) (l : List Bool) (hl : l.length ≤ 1000) : BoolS (W.alloc (.cells (l.map Value.bool).toArray 4)) (W.alloc (.cells (l.map Value.bool).toArray 4)).heap.size (some ⟨W.heap.size, 0, none⟩) l := by
  have h : OwS (W.alloc (.cells (l.map Value.bool).toArray 4)) W.heap.size 4 1 (.slice (some ⟨W.heap.size, 0, none⟩) l.length l.length) (l.map fun b => [.bool b]) := by
    refine OwS.lit (fun r hr => by obtain ⟨b, -, rfl⟩ := List.mem_map.1 hr; rfl) (heap_alloc_new W _) ?_ (by simp) (by simp [maxLen]; omega) (Nat.le_refl _)
    clear hl
    induction l with
    | nil => rfl
    | cons b l ih => simpa using ih
  exact h.reads
/-- what awake keeps -/
structure AwP (w : World) (X : Nat) (A : Option Addr) (c : Nat) (wr : World) : Prop where
  bel : Below w.heap.size w wr
  lay : LayB wr X LP A c
  gs : GsV wr wr.heap.size A LP.gs
theorem AwP.below {w wr w' : World} {X c : Nat} {A : Option Addr} (h : AwP w X A c wr) (hb : Below wr.heap.size wr w') : AwP w X A c w' :=
  ⟨h.bel.trans (hb.mono h.bel.size), h.lay.below hb h.lay.lt, (h.gs.below hb (Nat.le_refl _)).more hb.size⟩
set_option maxHeartbeats 4000000 in
set_option maxRecDepth 100000 in
theorem awakeP_any (w : World) : Calls Tryz.prog 8 #[] w fun r w' => r = .returned (.bool true) ∧ Below w.heap.size w w' := by
  have HC : Hid (ComC 5 4 LP) := by rw [← lp_small]; exact com_54 (by decide)
  go_enter Tryz.func8, Tryz.ntmps8
  go_wp2_with fail
  refine (HC.out w).mono ?_
  rintro r w1 ⟨⟨v, rfl, hG⟩, hb1⟩
  obtain ⟨vs, hgs⟩ := hG
  obtain ⟨A, c, rfl, -, -⟩ := hgs.2.1.form
  have hlen : (vsRows vs LP.gs).length = LP.n := vsRows_len hgs.1
  rw [hlen] at hgs ⊢
  have HV1 := Lib.hid hgs.toV
  have HB1 := Lib.hid hb1
  clear hgs hb1 hlen HC
  go_upto_region 2 with (fail)
  generalize hW2 : w1.alloc _ = w2
  have H2 : Hid (AwP w w1.heap.size A c w2) := by
    rw [← hW2]
    exact ⟨HB1.out.trans (below_laid.mono HB1.out.size), LayB.made w1 LP A c, (HV1.out.below below_laid (Nat.le_refl _)).more (by simp)⟩
  generalize w1.heap.size = X at *
  clear hW2 HB1 HV1
  have k2 : Calls Tryz.prog 12 #[.agg #[.int .i64 (LP.disks : Int), .slice A LP.n c, .int .i64 (LP.tiles : Int), .int .i64 (LP.spare : Int)], .slice none 0 0, .int .i64 0, .slice (some ⟨w2.heap.size, 0, none⟩) 5 5] (w2.alloc (.cells #[.bool true, .bool false, .bool false, .bool false, .bool false] 4)) fun r w' => (∃ At ct, r = .returned (.tuple #[.slice At 4 ct, .int .i64 0]) ∧ TskS w' w'.heap.size At TP) ∧ Below w2.heap.size w2 w' := by
    have hb : Below w2.heap.size w2 (w2.alloc (.cells #[.bool true, .bool false, .bool false, .bool false, .bool false] 4)) := below_laid
    have h := prebuild_any (L := LP) (A := A) (Am := none) (Ad := some ⟨w2.heap.size, 0, none⟩) (B := (w2.alloc (.cells #[.bool true, .bool false, .bool false, .bool false, .bool false] 4)).heap.size) (c := c) (cm := 0) (cd := 5) (ms := []) (dead := [true, false, false, false, false]) 0 (w2.alloc (.cells #[.bool true, .bool false, .bool false, .bool false, .bool false] 4)) lp_ok ((H2.out.gs.below hb (Nat.le_refl _)).more hb.size) (RdS.nil _ _ _ _) (by simp) (lit_boolP w2 [true, false, false, false, false] (by decide)) (Nat.le_refl _) (by simp) (by simp)
    rw [ap1] at h
    refine h.mono ?_
    rintro r w' ⟨⟨v, rfl, ho⟩, hb2⟩
    obtain ⟨At, ct, rfl⟩ := ho.form
    exact ⟨⟨At, ct, rfl, ho.reads⟩, hb.trans (hb2.mono hb.size)⟩
  have K2 := Lib.hid k2
  clear k2
  obtain ⟨l0, l1, l2, l3⟩ := H2.out.lay.cells
  go_wp2_with fail
  refine K2.out.mono ?_
  rintro r w3 ⟨⟨At, ct, rfl, hts⟩, hb3⟩
  have H3 := Lib.hid (H2.out.below hb3)
  have HT3 := Lib.hid hts
  clear hb3 hts l0 l1 l2 l3 K2 H2
  go_wp2
  go_loopw [4] (fun s4 wr => ∃ k : Nat, k ≤ 4 ∧ s4 = .int .i64 k ∧ Below w3.heap.size w3 wr) (fun s4 _ => 4 - (intOf s4).toNat)
  case atStart => exact ⟨0, by omega, rfl, Below.refl _ _⟩
  case round =>
    obtain ⟨k, hk, rfl, hb⟩ := hrel
    have HBK := Lib.hid hb
    have HTK := Lib.hid (HT3.out.below hb (Nat.le_refl _))
    have HK := Lib.hid (H3.out.below hb)
    clear hb
    by_cases hk4 : k < 4
    case pos =>
      have hkI : (k : Int) < 4 := by omega
      obtain ⟨b1, o1, Af, cf, rfl, -, hrf, x0, x1, x2, x3, x4⟩ := HTK.out.at_ (tp_at hk4)
      obtain ⟨b2, o2, rfl, -, q0⟩ := nat_atR hrf (k := 0) (x := 3) rfl
      have HQ : Hid (∀ o, (wr.alloc o).cell? ⟨b2, o2, none⟩ = some (.int .i64 3)) := fun o => ((below_laid (w := wr) (o := o)).cell (p := ⟨b2, o2, none⟩) (block_lt_of_cell q0)).trans q0
      unfold tskP at x0 x1 x2 x3 x4
      simp only [List.length_cons, List.length_nil, Nat.zero_add, Int.natCast_zero] at x0 x1 x2 x3 x4
      clear hrf q0
      go_upto_region 9 with (fail)
      generalize hW4 : wr.alloc _ = w4
      have hb4 : Below wr.heap.size wr w4 := by rw [← hW4]; exact below_laid
      have hblk : w4.heap[wr.heap.size]? = some (.cells #[.int .i64 (k : Int), .int .i64 0, .slice (some ⟨b2, o2, none⟩) 1 cf, .int .i64 ((4 : Int) - (k : Int)), .int .i64 4] 52) := by rw [← hW4]; exact heap_alloc_new wr _
      obtain ⟨y0, y1, y2, y3, y4, -, -, -, -, -⟩ := tsk_cells hblk
      have q0 : w4.cell? ⟨b2, o2, none⟩ = some (.int .i64 3) := by rw [← hW4]; exact HQ.out _
      have HB4 := Lib.hid (HBK.out.trans (hb4.mono HBK.out.size))
      have f1 : ((k : Int) != (k : Int)) = false := by simp
      clear hW4 hb4 hblk x0 x1 x2 x3 x4 HQ
      generalize wr.heap.size = T at *
      go_wp2
      go_roundw
      case rel => exact ⟨k + 1, by omega, by go_num, HB4.out⟩
      case measure => simp [intOf] <;> omega
    case neg =>
      have hkI : ¬ (k : Int) < 4 := by omega
      have hld := pload_any (L := LP) (A := A) (Am := none) (At := At) (B := wr.heap.size) (c := c) (cm := 0) (ct := ct) (ms := []) (ts := TP) 4 wr lp_ok HK.out.gs (RdS.nil _ _ _ _) (by simp) (HTK.out.more HBK.out.size) (Nat.le_refl _) (by simp) (by decide) (by decide)
      rw [ap2] at hld
      unfold layAgg at hld
      have HLD := Lib.hid hld
      have HSH := Lib.hid (fun W (h : AwP w X A c W) => pshare_any (L := LP) (A := A) (B := W.heap.size) (c := c) (lam := 3) W lp_ok (by decide) lp_des h.gs (Nat.le_refl _))
      unfold layAgg at HSH
      rw [ap3] at HSH
      clear hld
      obtain ⟨l0, l1, l2, l3⟩ := HK.out.lay.cells
      go_wp2_with fail
      refine HLD.out.mono ?_
      rintro r w5 ⟨rfl, hb5⟩
      have H5 := Lib.hid (HK.out.below hb5)
      obtain ⟨l0, l1, l2, l3⟩ := H5.out.lay.cells
      clear hb5 HLD
      go_wp2_with fail
      refine (HSH.out w5 H5.out).mono ?_
      rintro r w6 ⟨rfl, hb6⟩
      have HE := Lib.hid (H5.out.bel.trans (hb6.mono H5.out.bel.size))
      clear hb6
      go_wp2
      go_ret
      exact ⟨rfl, HE.out⟩
end Go.Proofs.YteglnekkkhpikaaGreat
