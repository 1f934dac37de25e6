/- Walk of plan.Load. -/
import Derived.Test.YteglnekkkhpikaaGreatPwK
import Derived.Test.YteglnekkkhpikaaGreatGPab
namespace Go.Proofs.YteglnekkkhpikaaGreat
open Go.RowKit

/-- the pieces that a task names are pieces -/
def okTk (L : LayD) (t : Tsk) : Bool := (t.p :: t.frm).all fun (i : Nat) => isP L (t.g : Int) (i : Int)
def cntTo (L : LayD) (ms : List Mv) (d : Int) (g : Nat) (l : List Nat) : Nat := l.countP fun (i : Nat) => (whereL L ms (g : Int) (i : Int)).disk == d
def sumT (L : LayD) (ms : List Mv) (d : Int) (ts : List Tsk) : Nat := (ts.map fun t => cntTo L ms d t.g t.frm).sum
/-- plan's Load -/
def loadL (L : LayD) (ms : List Mv) (d : Int) (ts : List Tsk) : Int × Int := if (validM L ms && ts.all (okTk L)) = false then (0, 1) else if (decide (0 ≤ d) && decide (d < (L.disks : Int))) = false then (0, 2) else (((sumT L ms d ts : Nat) : Int), 0)
theorem cntTo_take {L : LayD} {ms : List Mv} {d : Int} {g : Nat} {l : List Nat} {j x : Nat} (h : l[j]? = some x) : cntTo L ms d g (l.take (j + 1)) = cntTo L ms d g (l.take j) + if (whereL L ms (g : Int) (x : Int)).disk = d then 1 else 0 := by
  unfold cntTo
  rw [List.take_add_one, h, List.countP_append]
  simp only [Option.toList_some, List.countP_cons, List.countP_nil, Nat.zero_add, beq_iff_eq]
theorem sumT_take {L : LayD} {ms : List Mv} {d : Int} {ts : List Tsk} {k : Nat} {t : Tsk} (h : ts[k]? = some t) : sumT L ms d (ts.take (k + 1)) = sumT L ms d (ts.take k) + cntTo L ms d t.g t.frm := by
  unfold sumT
  rw [List.take_add_one, h]
  simp
theorem cntTo_le (L : LayD) (ms : List Mv) (d : Int) (g : Nat) (l : List Nat) : cntTo L ms d g l ≤ l.length := List.countP_le_length
theorem sumT_le {L : LayD} {ms : List Mv} {d : Int} {ts : List Tsk} (h : ∀ t ∈ ts, t.frm.length ≤ 1000) : sumT L ms d ts ≤ ts.length * 1000 := by
  unfold sumT
  induction ts with
  | nil => simp
  | cons t ts ih =>
    have h1 := ih fun x hx => h x (by simp [hx])
    have h2 := h t (by simp)
    have h3 := cntTo_le L ms d t.g t.frm
    simp only [List.map_cons, List.sum_cons, List.length_cons, Nat.add_mul]
    omega
def LdR (L : LayD) (ms : List Mv) (d : Int) (ts : List Tsk) (w0 : World) (s10 s27 : Value) (wr : World) : Prop := ∃ k : Nat, k ≤ ts.length ∧ s27 = .int .i64 k ∧ s10 = .int .i64 (sumT L ms d (ts.take k) : Nat) ∧ (∀ t ∈ ts.take k, okTk L t = true) ∧ Below w0.heap.size w0 wr
def LdH (L : LayD) (g : Nat) (l : List Nat) (w0 : World) (s38 : Value) (wr : World) : Prop := ∃ j : Nat, j ≤ l.length ∧ s38 = .int .i64 j ∧ (∀ x ∈ l.take j, isP L (g : Int) (x : Int) = true) ∧ Below w0.heap.size w0 wr
def LdW (L : LayD) (ms : List Mv) (d : Int) (g base : Nat) (l : List Nat) (w0 : World) (s10 s56 : Value) (wr : World) : Prop := ∃ j : Nat, j ≤ l.length ∧ s56 = .int .i64 j ∧ s10 = .int .i64 ((base + cntTo L ms d g (l.take j) : Nat) : Int) ∧ Below w0.heap.size w0 wr
set_option maxHeartbeats 8000000 in
set_option maxRecDepth 100000 in
theorem pload_any {L : LayD} {A Am At : Option Addr} {B c cm ct : Nat} {ms : List Mv} {ts : List Tsk} (d : Int) (w : World) (hx : LayX L) (hv : GsV w B A L.gs) (hM : MvS w B Am ms) (hwf : ∀ m ∈ ms, PlWf m.to) (hT : TskS w B At ts) (hB : B ≤ w.heap.size) (hlen : ms.length ≤ 10000) (htl : ts.length ≤ 10000) (hfl : ∀ t ∈ ts, t.frm.length ≤ 1000) :
    Calls Tryz.prog 16 #[layAgg L A c, .slice Am ms.length cm, .slice At ts.length ct, .int .i64 d] w fun r w' => r = .returned (.tuple #[.int .i64 (loadL L ms d ts).1, .int .i64 (loadL L ms d ts).2]) ∧ Below w.heap.size w w' := by
  have HV := Lib.hid hv
  have HM := Lib.hid hM
  have HT := Lib.hid hT
  have HX := Lib.hid hx
  have HF := Lib.hid hfl
  have hva := fun (W : World) hv hM hB => svalid_any (L := L) (A := A) (Am := Am) (B := B) (c := c) (cm := cm) (ms := ms) W hx hv hM hwf hB (by omega)
  have hho := fun (g p : Int) (W : World) hv hB => lhome2_any (L := L) (A := A) (B := B) (c := c) g p W hx hv hB
  have hwh := fun (g p : Int) (W : World) hv hM hB => sWhere_any (L := L) (A := A) (Am := Am) (B := B) (c := c) (cm := cm) (ms := ms) g p W hx hv hM hwf hB (by omega)
  unfold layAgg at *
  have HVA := Lib.hid hva
  have HHO := Lib.hid hho
  have HWH := Lib.hid hwh
  have HRB : Hid (∀ res, loadL L ms d ts = res → (if (validM L ms && ts.all (okTk L)) = false then ((0 : Int), (1 : Int)) else if (decide (0 ≤ d) && decide (d < (L.disks : Int))) = false then (0, 2) else (((sumT L ms d ts : Nat) : Int), (0 : Int))) = res) := fun res h => h
  obtain ⟨⟨rn, re⟩, hres⟩ : ∃ res, loadL L ms d ts = res := ⟨_, rfl⟩
  rw [hres]
  have hrb := HRB.out (rn, re) hres
  obtain ⟨vb, hvb⟩ : ∃ vb, validM L ms = vb := ⟨_, rfl⟩
  have HVB := Lib.hid hvb
  rw [hvb] at HVA hrb
  clear hv hM hT hva hho hwh hres HRB hvb hwf hfl
  go_enter Tryz.func16, Tryz.ntmps16
  go_upto_region 1 with (fail)
  generalize hW0 : w.alloc _ = w0
  have hl0 : LayB w0 w.heap.size L A c := by rw [← hW0]; exact LayB.made w L A c
  have hb0 : Below w.heap.size w w0 := by rw [← hW0]; exact below_laid
  have HL0 := Lib.hid hl0
  have HB0 := Lib.hid hb0
  obtain ⟨l0, l1, l2, l3⟩ := hl0.cells
  clear hW0 hl0 hb0
  go_wp2_with fail
  refine (HVA.out w0 (HV.out.below HB0.out hB) (HM.out.below' HB0.out hB) (Nat.le_trans hB HB0.out.size)).mono ?_
  rintro r w1 ⟨rfl, hb1⟩
  have HB1 := Lib.hid (HB0.out.trans (hb1.mono HB0.out.size))
  have HL1 := Lib.hid (HL0.out.below hb1 HL0.out.lt)
  clear hb1 HVA l0 l1 l2 l3 HL0 HB0
  cases vb
  case false =>
    rw [if_pos (by simp)] at hrb
    injection hrb with e1 e2
    subst e1 e2
    go_wp2
    go_ret2
    exact ⟨rfl, HB1.out⟩
  case true =>
    have HRR := Lib.hid hrb
    clear hrb
    go_wp2
    go_loopw [10, 27] (fun s10 s27 wr => LdR L ms d ts w1 s10 s27 wr) (fun _ s27 _ => ts.length - (intOf s27).toNat)
    case atStart => exact ⟨0, by omega, rfl, rfl, by simp, Below.refl _ _⟩
    case round =>
      obtain ⟨k, hk, rfl, rfl, hok, hb⟩ := hrel
      have HOK := Lib.hid hok
      have HBK := Lib.hid hb
      have HLK := Lib.hid (HL1.out.below hb HL1.out.lt)
      have HWK := Lib.hid (HB1.out.trans (hb.mono HB1.out.size))
      have hsum : sumT L ms d (ts.take k) ≤ 10000 * 1000 := Nat.le_trans (sumT_le fun t ht => HF.out t (List.mem_of_mem_take ht)) (Nat.mul_le_mul_right _ (Nat.le_trans (Nat.le_trans (List.length_take_le _ _) hk) htl))
      clear hok hb
      by_cases hkt : k < ts.length
      case neg =>
        have hkI : ¬ (k : Int) < (ts.length : Int) := by omega
        have hkt2 : ts.take k = ts := List.take_of_length_le (by omega)
        rw [hkt2] at HOK ⊢
        have hall : ts.all (okTk L) = true := List.all_eq_true.2 HOK.out
        have hrb := HRR.out
        rw [hall, if_neg (by simp)] at hrb
        obtain ⟨l0, l1, l2, l3⟩ := HLK.out.cells
        clear HRR hall
        by_cases h1 : d < 0
        case pos =>
          have f0 : (decide (0 ≤ d) && decide (d < (L.disks : Int))) = false := by rw [Bool.and_eq_false_iff]; left; rw [decide_eq_false_iff_not]; omega
          rw [if_pos f0] at hrb
          injection hrb with e1 e2
          subst e1 e2
          have f1 : decide (d < 0) = true := by rw [decide_eq_true_iff]; exact h1
          clear f0 h1
          go_wp2
          go_ret2
          exact ⟨rfl, HWK.out⟩
        case neg =>
          have f1 : decide (d < 0) = false := by rw [decide_eq_false_iff_not]; exact h1
          by_cases h2 : d < (L.disks : Int)
          case neg =>
            have f0 : (decide (0 ≤ d) && decide (d < (L.disks : Int))) = false := by rw [Bool.and_eq_false_iff]; right; rw [decide_eq_false_iff_not]; exact h2
            rw [if_pos f0] at hrb
            injection hrb with e1 e2
            subst e1 e2
            have f2 : decide ((L.disks : Int) ≤ d) = true := by rw [decide_eq_true_iff]; omega
            clear f0 h1 h2
            go_wp2
            go_ret2
            exact ⟨rfl, HWK.out⟩
          case pos =>
            have f0 : (decide (0 ≤ d) && decide (d < (L.disks : Int))) = true := by rw [Bool.and_eq_true]; exact ⟨by rw [decide_eq_true_iff]; omega, by rw [decide_eq_true_iff]; exact h2⟩
            rw [if_neg (by rw [f0]; decide)] at hrb
            injection hrb with e1 e2
            subst e1 e2
            have f2 : decide ((L.disks : Int) ≤ d) = false := by rw [decide_eq_false_iff_not]; omega
            clear f0 h1 h2
            go_wp2
            go_ret2
            exact ⟨rfl, HWK.out⟩
      case pos =>
        have hkI : (k : Int) < (ts.length : Int) := by omega
        obtain ⟨t, ht⟩ := at_some hkt
        have HST := Lib.hid (sumT_take (L := L) (ms := ms) (d := d) ht)
        have HFN := Lib.hid (HF.out t (List.mem_of_getElem? ht))
        have HOT : Hid (okTk L t = true → ∀ x ∈ ts.take (k + 1), okTk L x = true) := fun h x hx => by
          rw [List.take_add_one, ht] at hx
          rcases List.mem_append.1 hx with h1 | h1
          · exact HOK.out x h1
          · simp at h1
            subst h1
            exact h
        have HNO : Hid (okTk L t = false → (rn, re) = (0, 1)) := fun h => by
          have h1 := HRR.out
          rw [if_pos] at h1
          · exact h1.symm
          · rw [Bool.and_eq_false_iff]
            right
            rw [List.all_eq_false]
            exact ⟨t, List.mem_of_getElem? ht, by rw [h]; decide⟩
        obtain ⟨b1, o1, Af, cf, rfl, -, hrf, x0, x1, x2, x3, x4⟩ := (HT.out.below HWK.out hB).at_ ht
        have HRF := Lib.hid (hrf.more (Nat.le_trans hB HWK.out.size))
        obtain ⟨g, p, fr, ⟨td, tb⟩⟩ := t
        simp only at x0 x1 x2 x3 x4 HST HFN HRF
        have HOD : Hid (okTk L ⟨g, p, fr, ⟨td, tb⟩⟩ = (p :: fr).all fun (i : Nat) => isP L (g : Int) (i : Int)) := rfl
        obtain ⟨ot, hot⟩ : ∃ ot, okTk L ⟨g, p, fr, ⟨td, tb⟩⟩ = ot := ⟨_, rfl⟩
        rw [hot] at HOT HNO HOD
        obtain ⟨sk, hsk⟩ : ∃ sk, sumT L ms d (ts.take k) = sk := ⟨_, rfl⟩
        rw [hsk] at HST hsum ⊢
        have hfn := HFN.out
        clear hrf ht hot hsk HOK HRR
        go_upto_region 7 with (fail)
        generalize hW2 : wr.alloc _ = w2
        have hb2 : Below wr.heap.size wr w2 := by rw [← hW2]; exact below_laid
        have HK2 : Hid (w2.heap[wr.heap.size]? = some (.cells #[.int .i64 (g : Int), .int .i64 (p : Int), .slice Af fr.length cf, .int .i64 td, .int .i64 tb] 52)) := by rw [← hW2]; exact heap_alloc_new wr _
        obtain ⟨y0, y1, y2, y3, y4, f0, f1, f2, f3, f4⟩ := tsk_cells HK2.out
        have HB2 := Lib.hid (HBK.out.trans (hb2.mono HBK.out.size))
        have HL2 := Lib.hid (HLK.out.below hb2 HLK.out.lt)
        have HR2 := Lib.hid (RdS.below' HRF.out hb2 (Nat.le_refl _))
        have hT2 : wr.heap.size < w2.heap.size := blk_lt HK2.out
        have hs1 : w1.heap.size ≤ wr.heap.size := HBK.out.size
        clear hW2 hb2 f0 f1 f2 f3 f4 x0 x1 x2 x3 x4 HBK HLK HRF
        have hown : OwS (w2.alloc (.cells #[.int .i64 (p : Int)] 3)) w2.heap.size 3 1 (.slice (some ⟨w2.heap.size, 0, none⟩) 1 1) [[.int .i64 (p : Int)]] := OwS.lit (by simp) (heap_alloc_new w2 _) rfl rfl (by decide) (Nat.le_refl _)
        have HOWN := Lib.hid hown
        have hrd : RdS (w2.alloc (.cells #[.int .i64 (p : Int)] 3)) wr.heap.size 1 Af (natR fr) := RdS.below' HR2.out below_laid (by omega)
        have HRD := Lib.hid hrd
        have HNL := Lib.hid (show (natR fr).length = fr.length by unfold natR; simp)
        have HN1 : Hid (∀ r ∈ natR fr, ∀ u ∈ r, u.oneCell' = true) := fun r hr u hu => by
          obtain ⟨x, -, rfl⟩ := List.mem_map.1 hr
          simp at hu
          subst hu
          rfl
        clear hown hrd
        generalize hTT : wr.heap.size = T at *
        go_wp2_with (at_builtin; refine wpList_apS rfl (.tmp 33) (.tmp 35) _ rfl elemIntS rfl HOWN.out T Af fr.length cf (natR fr) (by rfl) HRD.out HNL.out.symm HN1.out (by rw [HNL.out]; simp [maxLen]; omega) (by rw [HNL.out]; simp; omega) (by simp) ?_)
        rintro v3 w3 hown3 hg3 -
        have HO3 : Hid (OwS w3 w2.heap.size 3 1 v3 (natR (p :: fr))) := hown3
        obtain ⟨A3, c3, rfl, -, -⟩ := hown3.form
        have hb3 : Below w2.heap.size w2 w3 := ((Below.refl w2.heap.size w2).alloc (Nat.le_refl _) _).grown hg3 (by simp) (fun q hq => by cases hq; exact Nat.le_refl _)
        have HB3 := Lib.hid (HB2.out.trans (hb3.mono HB2.out.size))
        have HL3 := Lib.hid (HL2.out.below hb3 HL2.out.lt)
        have HK3 : Hid (w3.heap[T]? = some (.cells #[.int .i64 (g : Int), .int .i64 (p : Int), .slice Af fr.length cf, .int .i64 td, .int .i64 tb] 52)) := (hb3.block T hT2).trans HK2.out
        have HR3 := Lib.hid (RdS.below' HR2.out hb3 (by omega))
        have hnl : ([Value.int .i64 (p : Int)] :: natR fr).length = (p :: fr).length := by simp [HNL.out]
        rw [hnl] at HO3 ⊢
        have hll : (p :: fr).length ≤ 1001 := by simp; omega
        obtain ⟨l, hl⟩ : ∃ l, p :: fr = l := ⟨_, rfl⟩
        have HFL : Hid (∀ y ∈ fr, y ∈ l) := fun y hy => by rw [← hl]; simp [hy]
        rw [hl] at HO3 HOD hll ⊢
        have HRD3 : Hid (RdS w3 w3.heap.size 1 A3 (natR l)) := HO3.out.reads
        have hTw : T < w3.heap.size := blk_lt HK3.out
        clear hown3 hg3 hb3 hnl HB2 HL2 HK2 HR2 HOWN HRD HNL HN1 HO3 y0 y1 y2 y3 y4 hl hT2
        obtain ⟨wo, rfl⟩ : ∃ wo : World, wo = wr := ⟨_, rfl⟩
        go_wp2
        go_loopw [38] (fun s38 wr => LdH L g l w3 s38 wr) (fun s38 _ => l.length - (intOf s38).toNat)
        case atStart => exact ⟨0, by omega, rfl, by simp, Below.refl _ _⟩
        case round =>
          obtain ⟨j, hj, rfl, hip, hb⟩ := hrel
          have HIP := Lib.hid hip
          have HBJ := Lib.hid hb
          have HLJ := Lib.hid (HL3.out.below hb HL3.out.lt)
          have HKJ : Hid (wr.heap[T]? = some (.cells #[.int .i64 (g : Int), .int .i64 (p : Int), .slice Af fr.length cf, .int .i64 td, .int .i64 tb] 52)) := (hb.block T hTw).trans HK3.out
          have HWJ := Lib.hid (HB1.out.trans ((HB3.out.trans (hb.mono HB3.out.size)).mono HB1.out.size))
          obtain ⟨y0, y1, y2, y3, y4, f0, f1, f2, f3, f4⟩ := tsk_cells HKJ.out
          obtain ⟨l0, l1, l2, l3⟩ := HLJ.out.cells
          clear hip f0 f1 f2 f3 f4
          by_cases hjl : j < l.length
          case pos =>
            have hjI : (j : Int) < (l.length : Int) := by omega
            obtain ⟨x, hx⟩ := at_some hjl
            obtain ⟨b3, o3, rfl, -, q1⟩ := nat_atR (RdS.below' HRD3.out hb (Nat.le_refl _)) hx
            have HMX := Lib.hid (List.mem_of_getElem? hx)
            have HTK : Hid (isP L (g : Int) (x : Int) = true → ∀ y ∈ l.take (j + 1), isP L (g : Int) (y : Int) = true) := fun h y hy => by
              rw [List.take_add_one, hx] at hy
              rcases List.mem_append.1 hy with h1 | h1
              · exact HIP.out y h1
              · simp at h1
                subst h1
                exact h
            clear hb hx
            go_wp2_with fail
            refine (HHO.out (g : Int) (x : Int) wr (HV.out.below HWJ.out hB) (Nat.le_trans hB HWJ.out.size)).mono ?_
            rintro r w4 ⟨hr, hb4⟩
            have HB4 := Lib.hid (HBJ.out.trans (hb4.mono HBJ.out.size))
            have HW4 := Lib.hid (HWJ.out.trans (hb4.mono HWJ.out.size))
            have HA4 : Hid (∀ o, Below w3.heap.size w3 (w4.alloc o) ∧ Below w.heap.size w (w4.alloc o)) := fun o => ⟨HB4.out.alloc HB4.out.size o, HW4.out.alloc HW4.out.size o⟩
            clear hb4 l0 l1 l2 l3 y0 y1 y2 y3 y4 q1
            cases hi : isP L (g : Int) (x : Int) with
            | true =>
              obtain rfl := hr.1 hi
              have HR := Lib.hid (HTK.out hi)
              clear hi hr HTK
              generalize homeL L _ _ = hm
              unfold Plc.agg
              go_wp2
              go_roundw
              case rel => exact ⟨j + 1, by omega, by go_num, HR.out, (HA4.out _).1⟩
              case measure => simp [intOf] <;> omega
            | false =>
              obtain rfl := hr.2 hi
              have hno := HNO.out (by
                rw [HOD.out, List.all_eq_false]
                exact ⟨x, HMX.out, by rw [hi]; decide⟩)
              injection hno with e1 e2
              subst e1 e2
              clear hi hr HTK HNO
              unfold Plc.agg
              go_wp2
              go_ret2
              exact ⟨rfl, (HA4.out _).2⟩
          case neg =>
            have hjI : ¬ (j : Int) < (l.length : Int) := by omega
            have HALL : Hid (∀ y ∈ l, isP L (g : Int) (y : Int) = true) := fun y hy => HIP.out y (by rw [List.take_of_length_le (by omega)]; exact hy)
            have hot : ot = true := by
              rw [HOD.out]
              exact List.all_eq_true.2 HALL.out
            have HOK := Lib.hid (HOT.out hot)
            have HR4 := Lib.hid (RdS.below' HR3.out hb (by omega))
            have hTr : T < wr.heap.size := blk_lt HKJ.out
            have HB4 := Lib.hid (HB3.out.trans (hb.mono HB3.out.size))
            clear hb hot HOT HNO HOD HB3 HL3 HK3 HR3 HRD3 HIP HBJ
            have HFR : Hid (∀ y ∈ fr, isP L (g : Int) (y : Int) = true) := fun y hy => HALL.out y (HFL.out y hy)
            obtain ⟨wp, rfl⟩ : ∃ wp : World, wp = wr := ⟨_, rfl⟩
            go_wp2
            go_loopw [10, 56] (fun s10 s56 wr => LdW L ms d g sk fr wp s10 s56 wr) (fun _ s56 _ => fr.length - (intOf s56).toNat)
            case atStart => exact ⟨0, by omega, rfl, rfl, Below.refl _ _⟩
            case round =>
              obtain ⟨i, hi, rfl, rfl, hb⟩ := hrel
              have HBI := Lib.hid hb
              have HLI := Lib.hid (HLJ.out.below hb HLJ.out.lt)
              have HKI : Hid (wr.heap[T]? = some (.cells #[.int .i64 (g : Int), .int .i64 (p : Int), .slice Af fr.length cf, .int .i64 td, .int .i64 tb] 52)) := (hb.block T hTr).trans HKJ.out
              have HWI := Lib.hid (HWJ.out.trans (hb.mono HWJ.out.size))
              have HB5 := Lib.hid (HB4.out.trans (hb.mono HB4.out.size))
              have hcn : cntTo L ms d g (fr.take i) ≤ 1000 := Nat.le_trans (cntTo_le _ _ _ _ _) (Nat.le_trans (List.length_take_le _ _) (by omega))
              by_cases hif : i < fr.length
              case neg =>
                have hiI : ¬ (i : Int) < (fr.length : Int) := by omega
                have hft : fr.take i = fr := List.take_of_length_le (by omega)
                rw [hft] at hcn ⊢
                have HS2 : Hid (sk + cntTo L ms d g fr = sumT L ms d (ts.take (k + 1))) := HST.out.symm
                clear hb hft
                go_wp2
                go_roundw
                case rel => exact ⟨k + 1, by omega, by go_num, by rw [HS2.out], HOK.out, HB5.out⟩
                case measure => simp [intOf] <;> omega
              case pos =>
                have hiI : (i : Int) < (fr.length : Int) := by omega
                obtain ⟨x, hx⟩ := at_some hif
                obtain ⟨b4, o4, rfl, -, q1⟩ := nat_atR (RdS.below' HR4.out hb (by omega)) hx
                have HIX := Lib.hid (HFR.out x (List.mem_of_getElem? hx))
                have HCT := Lib.hid (cntTo_take (L := L) (ms := ms) (d := d) (g := g) hx)
                obtain ⟨y0, y1, y2, y3, y4, f0, f1, f2, f3, f4⟩ := tsk_cells HKI.out
                obtain ⟨l0, l1, l2, l3⟩ := HLI.out.cells
                clear hb hx f0 f1 f2 f3 f4
                go_wp2_with fail
                refine (HWH.out (g : Int) (x : Int) wr (HV.out.below HWI.out hB) (HM.out.below' HWI.out hB) (Nat.le_trans hB HWI.out.size)).mono ?_
                rintro r w4 ⟨hr, hb4⟩
                obtain rfl := hr.2.2 HVB.out HIX.out
                obtain ⟨⟨wd, wb⟩, hwl⟩ : ∃ t, whereL L ms (g : Int) (x : Int) = t := ⟨_, rfl⟩
                rw [hwl] at HCT ⊢
                simp only at HCT
                unfold Plc.agg
                generalize cntTo L ms d g (fr.take i) = cn at *
                have HB6 := Lib.hid (HBI.out.trans (hb4.mono HBI.out.size))
                clear hr hb4 hwl l0 l1 l2 l3 y0 y1 y2 y3 y4 q1
                go_upto_region 18 with (fail)
                generalize hW5 : w4.alloc _ = w5
                have hpl : PlB w5 w4.heap.size ⟨wd, wb⟩ := by rw [← hW5]; exact heap_alloc_new w4 _
                obtain ⟨p0, p1, -, -⟩ := hpl.cells
                have HB7 : Hid (Below wp.heap.size wp w5) := by rw [← hW5]; exact HB6.out.alloc HB6.out.size _
                clear hW5 hpl HB6
                generalize w4.heap.size = S at *
                by_cases he : wd = d
                · subst he
                  have HC := HCT.out
                  rw [if_pos rfl] at HC
                  have HCC := Lib.hid HC
                  clear HC HCT
                  go_wp2
                  go_roundw
                  case rel => exact ⟨i + 1, by omega, by go_num, by rw [HCC.out]; go_num, HB7.out⟩
                  case measure => simp [intOf] <;> omega
                · have HC := HCT.out
                  rw [if_neg he] at HC
                  have HCC := Lib.hid HC
                  have f1 : (wd == d) = false := by simpa using he
                  clear HC HCT
                  go_wp2
                  go_roundw
                  case rel => exact ⟨i + 1, by omega, by go_num, by rw [HCC.out]; rfl, HB7.out⟩
                  case measure => simp [intOf] <;> omega
end Go.Proofs.YteglnekkkhpikaaGreat
