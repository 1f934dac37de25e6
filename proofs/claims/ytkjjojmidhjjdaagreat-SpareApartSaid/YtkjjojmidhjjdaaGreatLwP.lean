/- Walk of tegulalaw22.SpareApart. -/
import Derived.Test.YtkjjojmidhjjdaaGreatLwO
namespace Go.Proofs.YtkjjojmidhjjdaaGreat
open Go.RowKit

/-- the disks that are marked are those of the pieces so far -/
def UsdB (L : LayD) (ms : List Mv) (g i : Nat) (ul : List Bool) : Prop := ul.length = L.disks ∧ ∀ e : Nat, e < L.disks → (ul[e]? = some true ↔ ∃ k : Nat, k < i ∧ (whereL L ms g k).disk = (e : Int))
theorem usd_zero (L : LayD) (ms : List Mv) (g : Nat) : UsdB L ms g 0 (List.replicate L.disks false) := by
  refine ⟨by simp, fun e he => ⟨fun h => ?_, fun ⟨k, h, _⟩ => absurd h (by omega)⟩⟩
  rw [List.getElem?_replicate, if_pos he] at h
  cases h
theorem usd_next {L : LayD} {ms : List Mv} {g i e : Nat} {ul : List Bool} (h : UsdB L ms g i ul) (he : e < L.disks) (hw : (whereL L ms g i).disk = (e : Int)) : UsdB L ms g (i + 1) (ul.set e true) := by
  refine ⟨by rw [List.length_set]; exact h.1, fun x hx => ?_⟩
  by_cases hxe : e = x
  · subst hxe
    rw [List.getElem?_set_self (by rw [h.1]; exact he)]
    exact ⟨fun _ => ⟨i, by omega, hw⟩, fun _ => rfl⟩
  · rw [List.getElem?_set_ne hxe, h.2 x hx]
    constructor
    · rintro ⟨k, hk, h2⟩
      exact ⟨k, by omega, h2⟩
    · rintro ⟨k, hk, h2⟩
      refine ⟨k, ?_, h2⟩
      rcases Nat.lt_or_eq_of_le (Nat.le_of_lt_succ hk) with h3 | rfl
      · exact h3
      · rw [hw] at h2
        omega
theorem usd_free {L : LayD} {ms : List Mv} {g i e : Nat} {ul : List Bool} (ok : LayOk L) (hm : MvOk L ms) (h : UsdB L ms g i ul) (hi : i < L.w) (he : e < L.disks) (hw : (whereL L ms g i).disk = (e : Int)) : ul[e]? = some false := by
  obtain ⟨b, hb⟩ := at_some (l := ul) (i := e) (by rw [h.1]; exact he)
  cases b
  · exact hb
  · obtain ⟨k, hk, h2⟩ := (h.2 e he).1 hb
    exact absurd (h2.trans hw.symm) (apart_ne (apart_all ok hm (g : Int)) (by omega) hi (by omega))
def cntG (g : Nat) (l : List (Nat × Nat)) : Nat := (l.filter fun x => x.1 == g).length
theorem cnt_yes {g k : Nat} {l : List (Nat × Nat)} {x : Nat × Nat} (hx : l[k]? = some x) (h : x.1 = g) : cntG g (l.take (k + 1)) = cntG g (l.take k) + 1 := by
  unfold cntG
  rw [List.take_add_one, hx]
  simp [List.filter_append, List.filter, h]
theorem cnt_no {g k : Nat} {l : List (Nat × Nat)} {x : Nat × Nat} (hx : l[k]? = some x) (h : ¬ x.1 = g) : cntG g (l.take (k + 1)) = cntG g (l.take k) := by
  unfold cntG
  have h2 : (x.1 == g) = false := by simpa using h
  rw [List.take_add_one, hx]
  simp [List.filter_append, List.filter, h2]
def ApR (L : LayD) (ms : List Mv) (g : Nat) (w5 : World) (s11 : Value) (wr : World) : Prop := ∃ (i : Nat) (ul : List Bool), i ≤ L.w ∧ s11 = .int .i64 i ∧ UsdB L ms g i ul ∧ OwS wr w5.heap.size 4 1 (.slice (some ⟨w5.heap.size, 0, none⟩) L.disks L.disks) (rowsB ul) ∧ Below w5.heap.size w5 wr
def ApS (ol : List (Nat × Nat)) (g : Nat) (wl : World) (s16 s17 : Value) (wr : World) : Prop := ∃ k : Nat, k ≤ ol.length ∧ s17 = .int .i64 k ∧ s16 = .int .i64 (cntG g (ol.take k) : Int) ∧ Below wl.heap.size wl wr
set_option maxHeartbeats 8000000 in
set_option maxRecDepth 100000 in
theorem spareapart_any (n : Nat) (hn : n < 65536) (raw : List Nat) (Ar : Option Addr) (cr : Nat) (gr : Nat) (hgr : gr < 65536) (w : World) (hR : BytR w w.heap.size Ar raw) (h256 : ∀ x ∈ raw, x < 256) :
    Calls Tryz.prog 4 #[.int .u16 (n : Int), .slice Ar raw.length cr, .int .u16 (gr : Int)] w fun r w' => r = .returned (.bool true) ∧ Below w.heap.size w w' := by
  have HA := Lib.hid (fun W => awake_any W)
  have HSM := Lib.hid (fun W => small_any n hn W)
  have HX : Hid (LayX (smallL n)) := small_layX n
  have HR := Lib.hid hR
  clear hR
  by_cases h20 : 20 < raw.length
  · have h20I : (20 : Int) < (raw.length : Int) := by omega
    go_enter Tryz.func4, Tryz.ntmps4
    go_wp2_with fail
    refine (HA.out _).mono ?_
    rintro r w1 ⟨rfl, hb1⟩
    have hb : Below w.heap.size w w1 := hb1
    go_wp2
    go_ret
    exact ⟨rfl, hb⟩
  have h20I : ¬ (20 : Int) < (raw.length : Int) := by omega
  have HMC := Lib.hid (fun (w0 : World) (X : Nat) (A : Option Addr) (c : Nat) (W : World) (h : LwI w0 X (smallL n) A c W) (hR : BytR w0 w0.heap.size Ar raw) => moves_call (cr := cr) HX.out h hR h256 (by omega))
  have HSL := Lib.hid (fun (w0 w1 w2 : World) (r : Ending) (hb : Below w0.heap.size w0 w1) (h : SmlP n w1 r w2) => small_laid hb h)
  have HOK : Hid (MvOk (smallL n) (movesL (smallL n) raw)) := moves_ok _ _
  have HD13 : Hid ((smallL n).disks ≤ 13) := small_d13 n
  have HLN : Hid ((movesL (smallL n) raw).length ≤ 20) := by have := moves_len (smallL n) raw; exact Nat.le_trans this (by omega)
  clear h256
  unfold layAgg at HMC HSL
  generalize SmlP n = SP at HSM HSL
  clear hn
  obtain ⟨L, hL⟩ : ∃ L, smallL n = L := ⟨_, rfl⟩
  rw [hL] at HX HMC HSL HOK HLN HD13
  obtain ⟨ms, hms⟩ : ∃ ms, movesL L raw = ms := ⟨_, rfl⟩
  rw [hms] at HMC HOK HLN
  have HWF : Hid (∀ x ∈ ms, PlWf x.to) := wf_moves HX.out.ok HOK.out
  have HVM : Hid (validM L ms = true) := ok_valid HOK.out
  clear hL hms
  go_enter Tryz.func4, Tryz.ntmps4
  have HB0 : Hid (Below w.heap.size w w) := Below.refl _ _
  have HR0 := HR
  clear HR
  go_wp2_with fail
  refine (HA.out w).mono ?_
  rintro r w1 ⟨rfl, hb1⟩
  have HB1 := Lib.hid hb1
  clear hb1 HA
  go_wp2_with fail
  refine (HSM.out w1).mono ?_
  rintro r w2 hsm
  obtain ⟨A, c, rfl, -, hi3⟩ := HSL.out w w1 w2 r HB1.out hsm
  have HI3 := Lib.hid hi3
  clear hsm hi3 HSL HSM HB1
  go_upto_region 6 with (fail)
  generalize w2.alloc _ = w3 at *
  generalize w2.heap.size = X at *
  obtain ⟨l0, l1, l2, l3⟩ := HI3.out.lay.cells
  go_wp2_with fail
  refine (HMC.out w X A c w3 HI3.out HR0.out).mono ?_
  rintro r w4 ⟨Am, cm, rfl, hj4⟩
  have HJ4 := Lib.hid hj4
  clear hj4 l0 l1 l2 l3 HI3 HMC HR0
  have hln := HLN.out
  have hcv : ∀ W : World, (convert 22 3 (.int .u16 (gr : Int))).run Tryz.prog W = .ok (.int .i64 (gr : Int)) W := fun W => conv_u16 _ (by omega) (by omega) W
  have hG1 : 1 ≤ L.G := by unfold LayD.G; exact Nat.mul_pos HX.out.ok.tiles.1 HX.out.ok.n.1
  have hw16 := HX.out.ok.w
  obtain ⟨g, hg⟩ : ∃ g, gr % L.G = g := ⟨_, rfl⟩
  have hgl : g < L.G := by rw [← hg]; exact Nat.mod_lt _ (by omega)
  have k1 : Int.tmod (gr : Int) (L.G : Int) = (g : Int) := by rw [← hg]; exact tmod_nat _ _
  have k2 : ¬ (L.G : Int) = 0 := by omega
  have k3 : ¬ L.G = 0 := by omega
  have k4 : IntKind.i64.wrap (g : Int) = (g : Int) := IntWalk.i64_in _ (by have := HX.out.ok.G; omega)
  have hwg := fun (W : World) => r21groups (L := L) (A := A) (c := c) W HX.out
  have hww := fun (W : World) (h : LwJ w X L A c Am ms W) => r21width (L := L) (A := A) (B := W.heap.size) (c := c) W HX.out h.gs (Nat.le_refl _)
  have hwh := fun (i : Nat) (W : World) (h : LwJ w X L A c Am ms W) => sWhere_any (L := L) (A := A) (Am := Am) (B := W.heap.size) (c := c) (cm := cm) (ms := ms) (g : Int) (i : Int) W HX.out h.gs h.mv HWF.out (Nat.le_refl _) (by omega)
  have hod := fun (e : Nat) (W : World) (h : LwJ w X L A c Am ms W) => sOnDisk_any (L := L) (A := A) (Am := Am) (B := W.heap.size) (c := c) (cm := cm) (ms := ms) (e : Int) W HX.out h.gs h.mv HWF.out (Nat.le_refl _) (by omega)
  unfold layAgg at hwg hww hwh hod
  have HWG := Lib.hid hwg
  have HWW := Lib.hid hww
  have HWH := Lib.hid hwh
  have HOD := Lib.hid hod
  clear hwg hww hwh hod hg
  obtain ⟨l0, l1, l2, l3⟩ := HJ4.out.lay.cells
  go_wp2_with fail
  refine (HWG.out w4).mono ?_
  rintro r w5 ⟨rfl, hb5⟩
  have HJ5 := Lib.hid (HJ4.out.below hb5)
  clear hb5 l0 l1 l2 l3 HJ4 HWG
  have hmk : ∀ W : World, (Instr.makeSlice 49 (.int .i64 (L.disks : Int)) (.int .i64 (L.disks : Int))).run Tryz.prog W = .ok (.slice (some ⟨W.heap.size, 0, none⟩) L.disks L.disks) (W.alloc (.cells (madeCells #[.bool false] L.disks) 4)) := fun W => make_boolsS W L.disks (by have := HD13.out; omega)
  obtain ⟨l0, l1, l2, l3⟩ := HJ5.out.lay.cells
  go_wp2
  have H0 : Hid (ApR L ms g w5 (.int .i64 0) (w5.alloc (.cells (madeCells #[.bool false] L.disks) 4))) := ⟨0, _, by omega, rfl, usd_zero L ms g, made_falses w5 L.disks (by have := HD13.out; omega), below_laid⟩
  generalize w5.alloc _ = w6 at *
  clear hmk hcv k1 k2 k3 k4 l0 l1 l2 l3
  go_loopw [11, 12, 13, 14, 15, 16, 17] (fun s11 _ _ _ _ _ _ wr => ApR L ms g w5 s11 wr) (fun s11 _ _ _ _ _ _ _ => L.w - (intOf s11).toNat)
  case atStart => exact H0.out
  case round =>
    clear H0
    obtain ⟨i, ul, hi, rfl, hus, hown, hb⟩ := hrel
    have HO := Lib.hid hown
    have HB := Lib.hid hb
    have HU := Lib.hid hus
    have HJR := Lib.hid (HJ5.out.below hb)
    clear hown hb hus
    obtain ⟨l0, l1, l2, l3⟩ := HJR.out.lay.cells
    go_wp2_with fail
    refine (HWW.out wr HJR.out).mono ?_
    rintro r w7 ⟨rfl, hb7⟩
    have HJ7 := Lib.hid (HJR.out.below hb7)
    have HO7 := Lib.hid (HO.out.below hb7)
    have HB7 := Lib.hid (HB.out.trans (hb7.mono HB.out.size))
    clear hb7 l0 l1 l2 l3 HJR HO HB
    by_cases hiw : i < L.w
    case neg =>
      have hiI : ¬ (i : Int) < (L.w : Int) := by omega
      have HE := Lib.hid HJ7.out.bel
      go_wp2
      go_ret
      exact ⟨rfl, HE.out⟩
    case pos =>
      have hiI : (i : Int) < (L.w : Int) := by omega
      have HIP : Hid (isP L (g : Int) (i : Int) = true) := by unfold Hid isP; simp only [Bool.and_eq_true, decide_eq_true_eq]; omega
      obtain ⟨hw1, hw2⟩ := where_ok HX.out.ok HOK.out (g : Int) (i : Int)
      obtain ⟨⟨wd, wb⟩, hwk⟩ : ∃ t, whereL L ms (g : Int) (i : Int) = t := ⟨_, rfl⟩
      have hon := on_one HX.out.ok HOK.out hgl hiw
      rw [hwk] at hw1 hw2 hon
      simp only at hw1 hw2 hon
      obtain ⟨e, rfl⟩ : ∃ e : Nat, wd = (e : Int) := ⟨wd.toNat, by omega⟩
      have hed : e < L.disks := by omega
      have hdk : (whereL L ms (g : Int) (i : Int)).disk = (e : Int) := by rw [hwk]
      have hfree := usd_free HX.out.ok HOK.out HU.out hiw hed hdk
      have HUN := Lib.hid (usd_next HU.out hed hdk)
      have HWK := Lib.hid hwk
      have hul := HU.out.1
      have HON := Lib.hid hon
      clear hw1 hw2 hwk hdk hon HU
      obtain ⟨l0, l1, l2, l3⟩ := HJ7.out.lay.cells
      go_wp2_with fail
      refine (HWH.out i w7 HJ7.out).mono ?_
      rintro r w8 ⟨hr8, hb8⟩
      have hr8' := hr8.2.2 HVM.out HIP.out
      rw [HWK.out] at hr8'
      obtain rfl := hr8'
      unfold Plc.agg
      have HJ8 := Lib.hid (HJ7.out.below hb8)
      have HO8 := Lib.hid (HO7.out.below hb8)
      have HB8 := Lib.hid (HB7.out.trans (hb8.mono HB7.out.size))
      clear hr8 hb8 l0 l1 l2 l3 HJ7 HO7 HB7 HWK
      go_upto_region 13 with (fail)
      generalize hW9 : w8.alloc _ = w9
      have HP9 : Hid (PlB w9 w8.heap.size ⟨(e : Int), wb⟩) := by rw [← hW9]; exact heap_alloc_new w8 _
      have hb9 : Below w8.heap.size w8 w9 := by rw [← hW9]; exact below_laid
      have HJ9 := Lib.hid (HJ8.out.below hb9)
      have HO9 := Lib.hid (HO8.out.below hb9)
      have HB9 := Lib.hid (HB8.out.trans (hb9.mono HB8.out.size))
      have hYU : w5.heap.size < w8.heap.size := (HO8.out.lt (k := w5.heap.size) rfl).2
      generalize w8.heap.size = Y at *
      clear hW9 hb9 HJ8 HO8 HB8
      have hrk : (rowsB ul)[e]? = some [.bool false] := by unfold rowsB; rw [List.getElem?_map, hfree]; rfl
      have uc : w9.cell? ⟨w5.heap.size, e, none⟩ = some (.bool false) := by
        obtain ⟨b, off, ee, -, h⟩ := HO9.out.reads.2 (by simp [rowsB]; omega)
        cases ee
        have h' := h e _ hrk 0 _ rfl
        simpa using h'
      have hst := HO9.out.set (k := e) (j := 0) hrk (by omega) (.bool true)
      simp only [Nat.mul_one, Nat.add_zero] at hst
      have HST := Lib.hid hst
      have uf := HO9.out.frozen e
      obtain ⟨p0, p1, -, -⟩ := HP9.out.cells
      have f1 : decide ((e : Int) < 0) = false := by rw [decide_eq_false_iff_not]; omega
      have f2 : decide (L.disks ≤ e) = false := by rw [decide_eq_false_iff_not]; omega
      have f3 : decide ((L.disks : Int) ≤ (e : Int)) = false := by rw [decide_eq_false_iff_not]; omega
      have heI : (e : Int) < (L.disks : Int) := by omega
      clear hst hrk hfree hul
      go_upto_region 16 with (fail)
      have HP10 : Hid (PlB (w9.setCell ⟨w5.heap.size, e, none⟩ (.bool true)) Y ⟨(e : Int), wb⟩) := HP9.out.far (by show Y ≠ w5.heap.size; omega) _
      have HB10 : Hid (Below w5.heap.size w5 (w9.setCell ⟨w5.heap.size, e, none⟩ (.bool true))) := HB9.out.setCell (Nat.le_refl _) _
      have HO10 : Hid (OwS (w9.setCell ⟨w5.heap.size, e, none⟩ (.bool true)) w5.heap.size 4 1 (.slice (some ⟨w5.heap.size, 0, none⟩) L.disks L.disks) (rowsB (ul.set e true))) := by
        have h := HST.out.1
        unfold rowsB at h ⊢
        rw [List.map_set]
        exact h
      have HJ10 := Lib.hid (HJ5.out.below HB10.out)
      clear HST uc uf p0 p1 f1 f2 f3 heI HJ9 HO9 HB9 HP9
      generalize w9.setCell ⟨w5.heap.size, e, none⟩ (.bool true) = w10 at *
      obtain ⟨l0, l1, l2, l3⟩ := HJ10.out.lay.cells
      obtain ⟨p0, p1, -, -⟩ := HP10.out.cells
      go_wp2_with fail
      refine (HOD.out e w10 HJ10.out).mono ?_
      rintro r w11 ⟨hr11, hb11⟩
      have f0 : (decide ((0 : Int) ≤ (e : Int)) && decide ((e : Int) < (L.disks : Int))) = true := by rw [Bool.and_eq_true]; exact ⟨by rw [decide_eq_true_iff]; omega, by rw [decide_eq_true_iff]; omega⟩
      obtain ⟨v, ts, rfl, hown11, hp, hs⟩ := hr11.2.2 HVM.out f0
      rw [Int.toNat_natCast] at hp
      obtain rfl := sort_on HX.out.ok HOK.out hed hp hs
      rw [← memN_toI] at hown11
      have hol : (onL L ms (e : Int)).length ≤ 65536 := by
        rw [onL_to]
        exact Nat.le_trans (onTo_len L ms (e : Int) L.G) (Nat.le_trans (Nat.mul_le_mul HX.out.ok.G HX.out.ok.w.2) (by decide))
      obtain ⟨ol, hoo⟩ : ∃ ol, onL L ms (e : Int) = ol := ⟨_, rfl⟩
      rw [hoo] at hown11 HON hol
      obtain ⟨A14, c14, rfl, -, -⟩ := hown11.form
      rw [List.length_map] at hown11 ⊢
      have hq11 := hown11.reads
      have HQ11 : Hid (RdS w11 w11.heap.size 2 A14 (ol.map memN)) := hq11
      have HO11 := Lib.hid (HO10.out.below hb11)
      have HB11 := Lib.hid (HB10.out.trans (hb11.mono HB10.out.size))
      have HCN : Hid (cntG g ol = 1) := by unfold Hid cntG; rw [HON.out]; rfl
      have HCL : Hid (∀ k, cntG g (ol.take k) ≤ 1) := fun k => by
        have h1 := HON.out
        have h2 := (List.Sublist.filter (fun x : Nat × Nat => x.1 == g) (List.take_sublist k ol)).length_le
        rw [h1] at h2
        exact h2
      have HPC : Hid (∀ x ∈ ol, x.1 = g → x.2 = i) := fun x hx hxg => by
        have h1 : x ∈ ol.filter (fun x => x.1 == g) := List.mem_filter.2 ⟨hx, by simpa using hxg⟩
        rw [HON.out] at h1
        rw [List.mem_singleton.1 h1]
      clear hr11 hown11 hq11 hp hs f0 hoo l0 l1 l2 l3 p0 p1 hb11 HON HJ10 HO10 HB10 HP10
      generalize wr = wo at *
      go_wp2
      go_loopw [16, 17] (fun s16 s17 wr => ApS ol g w11 s16 s17 wr) (fun _ s17 _ => ol.length - (intOf s17).toNat)
      case atStart => exact ⟨0, by omega, rfl, rfl, Below.refl _ _⟩
      case round =>
        obtain ⟨k, hk, rfl, rfl, hb⟩ := hrel
        have HBK := Lib.hid hb
        by_cases hko : k < ol.length
        case neg =>
          have hkI : ¬ (k : Int) < (ol.length : Int) := by omega
          obtain rfl : k = ol.length := by omega
          rw [List.take_length, HCN.out]
          have HOX := Lib.hid (HO11.out.below hb)
          have HBX := Lib.hid (HB11.out.trans (hb.mono HB11.out.size))
          clear hb HCL HPC
          go_wp2
          go_roundw
          case rel => exact ⟨i + 1, _, by omega, by go_num, HUN.out, HOX.out, HBX.out⟩
          case measure => simp [intOf] <;> omega
        case pos =>
          have hkI : (k : Int) < (ol.length : Int) := by omega
          obtain ⟨x, hx⟩ := at_some hko
          obtain ⟨b1, o1, rfl, -, q0, q1⟩ := pair_at (RdS.below' HQ11.out hb (Nat.le_refl _)) hx
          have HY : Hid (x.1 = g → cntG g (ol.take (k + 1)) = cntG g (ol.take k) + 1) := fun h => cnt_yes hx h
          have HN : Hid (¬ x.1 = g → cntG g (ol.take (k + 1)) = cntG g (ol.take k)) := fun h => cnt_no hx h
          have HPX : Hid (x.1 = g → x.2 = i) := HPC.out x (List.mem_of_getElem? hx)
          have hcl := HCL.out k
          obtain ⟨cn, hcn⟩ : ∃ cn, cntG g (ol.take k) = cn := ⟨_, rfl⟩
          simp only [hcn] at HY HN hcl ⊢
          obtain ⟨xg, xp⟩ := x
          simp only at q0 q1 HY HN HPX
          clear hx hb hcn
          have wc : IntKind.i64.wrap ((cn : Int) + 1) = (cn : Int) + 1 := IntWalk.i64_in _ (by omega)
          by_cases hxg : xg = g
          · have HR := Lib.hid (HY.out hxg)
            have hxp := HPX.out hxg
            subst hxg hxp
            clear HY HN HPX
            go_wp2
            go_roundw
            case rel => exact ⟨k + 1, by omega, by go_num, by rw [HR.out]; go_num, HBK.out⟩
            case measure => simp [intOf] <;> omega
          · have HR := Lib.hid (HN.out hxg)
            have f1 : ((xg : Int) == (g : Int)) = false := by simp; omega
            have f2 : (xg == g) = false := by simp; omega
            have f3 : decide (xg = g) = false := by simp; omega
            clear HY HN HPX
            go_wp2
            go_roundw
            case rel => exact ⟨k + 1, by omega, by go_num, by rw [HR.out], HBK.out⟩
            case measure => simp [intOf] <;> omega
end Go.Proofs.YtkjjojmidhjjdaaGreat
