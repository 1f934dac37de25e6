/- Walk of tegulalaw22.SpareFits. -/
import Derived.Test.YtkjjojmidhjjdaaLwS
namespace Go.Proofs.Ytkjjojmidhjjdaa
open Go.RowKit

def RndP (n : Nat) (wl : World) (s : Value) (wr : World) : Prop := ∃ i : Nat, i ≤ n ∧ s = .int .i64 i ∧ Below wl.heap.size wl wr
set_option maxHeartbeats 8000000 in
set_option maxRecDepth 100000 in
theorem sparefits_any (n : Nat) (hn : n < 65536) (raw : List Nat) (Ar : Option Addr) (cr : Nat) (x : Int) (y : Nat) (hy : y < 65536) (w : World) (hR : BytR w w.heap.size Ar raw) (h256 : ∀ x ∈ raw, x < 256) :
    Calls Try.prog 6 #[.int .u16 (n : Int), .slice Ar raw.length cr, .agg #[.int .i64 x, .int .u16 (y : Int)]] w fun r w' => r = .returned (.bool true) ∧ Below w.heap.size w w' := by
  have HA := Lib.hid (fun W => awake_any W)
  have HSM := Lib.hid (fun W => small_any n hn W)
  have HX : Hid (LayX (smallL n)) := small_layX n
  have HR := Lib.hid hR
  clear hR
  by_cases h20 : 20 < raw.length
  · have h20I : (20 : Int) < (raw.length : Int) := by omega
    go_enter Try.func6, Try.ntmps6
    go_wp2_with fail
    refine (HA.out _).mono ?_
    rintro r w1 ⟨rfl, hb1⟩
    have hb : Below w.heap.size w w1 := below_laid.trans (hb1.mono (by simp))
    go_wp2
    go_ret
    exact ⟨rfl, hb⟩
  have h20I : ¬ (20 : Int) < (raw.length : Int) := by omega
  have HMC := Lib.hid (fun (w0 : World) (X : Nat) (A : Option Addr) (c : Nat) (W : World) (h : LwI w0 X (smallL n) A c W) (hR : BytR w0 w0.heap.size Ar raw) => moves_call (cr := cr) HX.out h hR h256 (by omega))
  have HSL := Lib.hid (fun (w0 w1 w2 : World) (r : Ending) (hb : Below w0.heap.size w0 w1) (h : SmlP n w1 r w2) => small_laid hb h)
  have HOK : Hid (MvOk (smallL n) (movesL (smallL n) raw)) := moves_ok _ _
  have HD13 : Hid ((smallL n).disks ≤ 13) := small_d13 n
  have HLN : Hid ((movesL (smallL n) raw).length ≤ 20) := by have := moves_len (smallL n) raw; exact Nat.le_trans this (by omega)
  clear h256
  unfold layAgg at HMC HSL
  generalize SmlP n = SP at HSM HSL
  clear hn
  obtain ⟨L, hL⟩ : ∃ L, smallL n = L := ⟨_, rfl⟩
  rw [hL] at HX HMC HSL HOK HLN HD13
  obtain ⟨ms, hms⟩ : ∃ ms, movesL L raw = ms := ⟨_, rfl⟩
  rw [hms] at HMC HOK HLN
  have HWF : Hid (∀ x ∈ ms, PlWf x.to) := wf_moves HX.out.ok HOK.out
  have HVM : Hid (validM L ms = true) := ok_valid HOK.out
  clear hL hms
  go_enter Try.func6, Try.ntmps6
  go_wp2_with fail
  generalize hW0 : w.alloc _ = w0
  have hbx : w0.heap[w.heap.size]? = some (.cells #[.int .i64 x, .int .u16 (y : Int)] 25) := by rw [← hW0]; exact heap_alloc_new w _
  have hb0 : Below w.heap.size w w0 := by rw [← hW0]; exact below_laid
  have hR0 : BytR w0 w0.heap.size Ar raw := (RdS.below' HR.out hb0 (Nat.le_refl _)).more hb0.size
  have HR0 := Lib.hid hR0
  have HB0 := Lib.hid hb0
  have HBX := Lib.hid hbx
  have HZ0 : Hid (w.heap.size < w0.heap.size) := blk_lt hbx
  clear hW0 hb0 hR0 hbx HR
  refine (HA.out w0).mono ?_
  rintro r w1 ⟨rfl, hb1⟩
  have HB1 := Lib.hid hb1
  clear hb1 HA
  go_wp2_with fail
  refine (HSM.out w1).mono ?_
  rintro r w2 hsm
  obtain ⟨A, c, rfl, -, hi3⟩ := HSL.out w0 w1 w2 r HB1.out hsm
  have HI3 := Lib.hid hi3
  clear hsm hi3 HSL HSM HB1
  go_upto_region 6 with (fail)
  generalize w2.alloc _ = w3 at *
  generalize w2.heap.size = X at *
  obtain ⟨l0, l1, l2, l3⟩ := HI3.out.lay.cells
  go_wp2_with fail
  refine (HMC.out w0 X A c w3 HI3.out HR0.out).mono ?_
  rintro r w4 ⟨Am, cm, rfl, hj4⟩
  have HJ4 := Lib.hid hj4
  clear hj4 l0 l1 l2 l3 HI3 HMC HR0
  have hln := HLN.out
  have HBC : Hid (∀ W, LwJ w0 X L A c Am ms W → W.heap[w.heap.size]? = some (.cells #[.int .i64 x, .int .u16 (y : Int)] 25)) := fun W h => (h.bel.block _ HZ0.out).trans HBX.out
  have hcx : ∀ W, LwJ w0 X L A c Am ms W → W.cell? ⟨w.heap.size, 0, none⟩ = some (.int .i64 x) ∧ W.cell? ⟨w.heap.size, 1, none⟩ = some (.int .u16 (y : Int)) := fun W h =>
    ⟨by rw [cell_of_row _ _ _ _ _ _ (HBC.out W h)]; rfl, by rw [cell_of_row _ _ _ _ _ _ (HBC.out W h)]; rfl⟩
  have HCX := Lib.hid hcx
  clear hcx HBC HBX
  obtain ⟨l0, l1, l2, l3⟩ := HJ4.out.lay.cells
  obtain ⟨x0, x1⟩ := HCX.out w4 HJ4.out
  have HMK := Lib.hid (marks_any L.disks y HD13.out hy w4)
  go_wp2_with fail
  refine HMK.out.mono ?_
  rintro r w5 ⟨⟨v5, rfl, hown5⟩, hb5⟩
  have hdl : (marksL L.disks y).length = L.disks := marks_len y L.disks
  obtain ⟨dl, hdd⟩ : ∃ dl, marksL L.disks y = dl := ⟨_, rfl⟩
  rw [hdd] at hown5 hdl
  clear hdd
  obtain ⟨Ad, cd, rfl, -, -⟩ := hown5.form
  have hrl : (rowsB dl).length = L.disks := by rw [← hdl]; simp [rowsB]
  have HJ5 := Lib.hid (HJ4.out.below hb5)
  have hD5 : BoolS w5 w5.heap.size Ad dl := hown5.reads
  rw [hrl]
  have HDL := Lib.hid hdl
  have HD5 := Lib.hid hD5
  clear hown5 hb5 hrl hD5 hdl l0 l1 l2 l3 x0 x1 HMK HJ4
  have HGC : Hid (∀ W, LwJ w0 X L A c Am ms W → Calls Try.prog 14 #[.agg #[.int .i64 (L.disks : Int), .slice A L.n c, .int .i64 (L.tiles : Int), .int .i64 (L.spare : Int)]] W fun r w' => r = .returned (.int .i64 (L.G : Int)) ∧ Below W.heap.size W w') := fun W _ => r21groups (L := L) (A := A) (c := c) W HX.out
  have hG := HX.out.ok.G
  have hG1 : 1 ≤ L.G := by unfold LayD.G; exact Nat.mul_pos HX.out.ok.tiles.1 HX.out.ok.n.1
  obtain ⟨r1, hr1⟩ : ∃ r1, Int.tmod x (L.G : Int) = r1 := ⟨_, rfl⟩
  have hr1a : r1 < (L.G : Int) := by rw [← hr1]; exact Int.tmod_lt_of_pos x (by omega)
  have hr1b : -(L.G : Int) < r1 := by rw [← hr1]; exact Int.lt_tmod_of_pos x (by omega)
  obtain ⟨n2, hn2⟩ : ∃ n2 : Nat, r1 + (L.G : Int) = (n2 : Int) := ⟨(r1 + (L.G : Int)).toNat, by omega⟩
  obtain ⟨gg, hgg⟩ : ∃ gg, n2 % L.G = gg := ⟨_, rfl⟩
  have hggl : gg < L.G := by rw [← hgg]; exact Nat.mod_lt _ (by omega)
  have k1 : IntKind.i64.wrap r1 = r1 := IntWalk.i64_in _ (by omega)
  have k2 : IntKind.i64.wrap (r1 + (L.G : Int)) = (n2 : Int) := by rw [IntWalk.i64_in _ (by omega), hn2]
  have k3 : Int.tmod (n2 : Int) (L.G : Int) = (gg : Int) := by rw [← hgg]; exact tmod_nat _ _
  have k4 : IntKind.i64.wrap (gg : Int) = (gg : Int) := IntWalk.i64_in _ (by omega)
  have k5 : ¬ (L.G : Int) = 0 := by omega
  have k6 : ¬ L.G = 0 := by omega
  have X5 := fun d xs => (HJ5.out.below (below_regrown w5 d xs)).lay.cells
  have Z5 := fun d xs => HCX.out _ (HJ5.out.below (below_regrown w5 d xs))
  have KG := Lib.hid (fun d xs => HGC.out (Sort.grow (redrawn w5 d) xs) (HJ5.out.below (below_regrown w5 d xs)))
  clear hn2 hgg hr1a hr1b hG
  go_upto_region 8 with (fail)
  refine quiet_below (by kernel_rfl) (by kernel_rfl) ?_
  repeat (go_big_quiet_step (first | (go_at_call 14; exact Calls.regrown_of (KG.out _ _))))
  refine wpQuiet_nil ?_
  intro w6 hb6
  have HJ6 := Lib.hid (HJ5.out.below hb6)
  have HD6 : Hid (BoolS w6 w6.heap.size Ad dl) := (RdS.below' HD5.out hb6 (Nat.le_refl _)).more hb6.size
  clear X5 Z5 KG hb6 k1 k2 k3 k4 k5 k6 hr1 HJ5 HD5 HGC hG1
  have hch := sChoose_any (L := L) (A := A) (Am := Am) (Ad := Ad) (B := w6.heap.size) (c := c) (cm := cm) (cd := cd) (ms := ms) (dead := dl) (gg : Int) w6 HX.out HJ6.out.gs HJ6.out.mv HWF.out HD6.out (by have := HD13.out; rw [HDL.out]; omega) (Nat.le_refl _) (by omega)
  rw [HDL.out] at hch
  have hcr : choR L ms (gg : Int) dl = match chooseL L ms (gg : Int) dl with | none => (⟨0, 0⟩, 11) | some t => (t, 0) := by
    have hb : (decide (0 ≤ (gg : Int)) && decide ((gg : Int) < (L.G : Int))) = true := by rw [Bool.and_eq_true]; exact ⟨by rw [decide_eq_true_iff]; omega, by rw [decide_eq_true_iff]; omega⟩
    unfold choR
    rw [if_neg (by rintro (h1 | h1); (rw [HVM.out] at h1; cases h1); exact h1 HDL.out), if_neg (by rw [hb]; decide)] <;> rfl
  rw [hcr] at hch
  obtain ⟨oc, hoc⟩ : ∃ oc, chooseL L ms (gg : Int) dl = oc := ⟨_, rfl⟩
  rw [hoc] at hch
  have HOC := Lib.hid hoc
  have HCH := Lib.hid hch
  clear hch hcr hoc
  unfold layAgg at HCH
  obtain ⟨l0, l1, l2, l3⟩ := HJ6.out.lay.cells
  go_wp2_with fail
  refine HCH.out.mono ?_
  rintro r w7 ⟨hr7, hb7⟩
  have HJ7 := Lib.hid (HJ6.out.below hb7)
  have HD7 : Hid (BoolS w7 w7.heap.size Ad dl) := (RdS.below' HD6.out hb7 (Nat.le_refl _)).more hb7.size
  clear hb7 l0 l1 l2 l3 HJ6 HD6 HCH
  cases oc with
  | none =>
    obtain rfl := hr7
    unfold Plc.agg
    have HE := Lib.hid (HB0.out.trans ((HJ7.out.below (below_laid (w := w7) (o := .cells #[.int .i64 0, .int .i64 0] 38))).bel.mono HB0.out.size))
    go_wp2
    go_ret
    exact ⟨rfl, HE.out⟩
  | some t =>
  obtain rfl := hr7
  obtain ⟨hto, hdf, -, -⟩ := choose_spec HOC.out
  have hto' := hto
  unfold toOk at hto'
  simp only [Bool.and_eq_true, decide_eq_true_eq] at hto'
  obtain ⟨⟨⟨ht1, ht2⟩, ht3⟩, ht4⟩ := hto'
  obtain ⟨td, tb⟩ := t
  simp only at ht1 ht2 ht3 ht4 hdf
  obtain ⟨d, rfl⟩ : ∃ d : Nat, td = (d : Int) := ⟨td.toNat, by omega⟩
  have hdd : d < L.disks := by omega
  have hdv : dl[d]? = some false := by
    obtain ⟨v, hv⟩ := at_some (l := dl) (i := d) (by rw [HDL.out]; exact hdd)
    have h : dl[((d : Int)).toNat]?.getD false = false := hdf
    rw [Int.toNat_natCast, hv] at h
    rw [hv]
    exact congrArg some h
  have HTW := Lib.hid (PlWf.ok HX.out.ok hto)
  have HFA := Lib.hid (fun (i : Nat) (hi : i < L.w) => fits_apply (L := L) HX.out.ok HOK.out (g := (gg : Int)) (i := (i : Int)) (show isP L (gg : Int) (i : Int) = true by unfold isP; simp only [Bool.and_eq_true, decide_eq_true_eq]; omega) HOC.out)
  unfold Plc.agg
  simp only
  go_upto_region 12 with (fail)
  generalize hW8 : w7.alloc _ = w8
  have HP8 : Hid (PlB w8 w7.heap.size ⟨(d : Int), tb⟩) := by rw [← hW8]; exact heap_alloc_new w7 _
  have HJ8 : Hid (LwJ w0 X L A c Am ms w8) := by rw [← hW8]; exact Lib.hid (HJ7.out.below below_laid)
  have hD8 : BoolS w8 w8.heap.size Ad dl := by rw [← hW8]; exact (RdS.below' HD7.out below_laid (Nat.le_refl _)).more (by simp)
  generalize w7.heap.size = Y at *
  clear hW8 HJ7 HD7 hdf hto
  obtain ⟨bd, od, hAd, hbd, -⟩ := BoolS.at_ hD8 hdv
  subst hAd
  have HDC : Hid (∀ W k v, Below w8.heap.size w8 W → dl[k]? = some v → W.cell? ⟨bd, od + k, none⟩ = some (.bool v)) := fun W k v hW hk => by
    obtain ⟨b', o', e, -, h⟩ := BoolS.at_ (RdS.below' hD8 hW (Nat.le_refl _)) hk
    cases e
    exact h
  clear hD8
  have f1 : decide ((d : Int) < 0) = false := by rw [decide_eq_false_iff_not]; omega
  have f2 : decide (L.disks ≤ d) = false := by rw [decide_eq_false_iff_not]; omega
  have f2' : decide ((L.disks : Int) ≤ (d : Int)) = false := by rw [decide_eq_false_iff_not]; omega
  have f3 : decide (tb < (L.homes : Int)) = false := by rw [decide_eq_false_iff_not]; omega
  have hdI : (d : Int) < (L.disks : Int) := by omega
  have X8 := fun e xs => (HJ8.out.below (below_regrown w8 e xs)).lay.cells
  have Y8 := fun e xs => (HP8.out.below (below_regrown w8 e xs) HP8.out.lt).cells
  have Z8 := fun e xs => HDC.out _ d false (below_regrown w8 e xs) hdv
  have KH := Lib.hid (fun e xs => r21homes (L := L) (A := A) (B := w8.heap.size) (c := c) (Sort.grow (redrawn w8 e) xs) HX.out (HJ8.out.gs.below (below_regrown w8 e xs) (Nat.le_refl _)) (below_regrown w8 e xs).size)
  unfold layAgg at KH
  refine quiet_below (by kernel_rfl) (by kernel_rfl) ?_
  repeat (go_big_quiet_step (first | (go_at_call 23; exact Calls.regrown_of (KH.out _ _))))
  refine wpQuiet_nil ?_
  intro w9 hb9
  have HJ9 := Lib.hid (HJ8.out.below hb9)
  have HP9 := Lib.hid (HP8.out.below hb9 HP8.out.lt)
  have HDC9 : Hid (∀ W k v, Below w9.heap.size w9 W → dl[k]? = some v → W.cell? ⟨bd, od + k, none⟩ = some (.bool v)) := fun W k v hW hk => HDC.out W k v (hb9.trans (hW.mono hb9.size)) hk
  clear X8 Y8 Z8 KH hb9 f1 f2 f2' f3 HJ8 HP8 HDC hdv
  have hw16 := HX.out.ok.w
  have hww := fun (W : World) (h : LwJ w0 X L A c Am ms W) => r21width (L := L) (A := A) (B := W.heap.size) (c := c) W HX.out h.gs (Nat.le_refl _)
  have hwr := fun (k : Nat) (hk : k < L.w) (W : World) (h : LwJ w0 X L A c Am ms W) => r22where (L := L) (A := A) (Am := Am) (B := W.heap.size) (c := c) (cm := cm) (ms := ms) gg k W HX.out h.gs h.mv (Nat.le_refl _) hggl hk (by omega)
  unfold layAgg at hww hwr
  unfold Plc.agg at hwr
  have HWW := Lib.hid hww
  have HWR := Lib.hid hwr
  clear hww hwr
  go_wp2
  go_loopw [13, 14, 15, 16, 17, 18] (fun s13 _ _ _ _ _ wr => RndP L.w w9 s13 wr) (fun s13 _ _ _ _ _ _ => L.w - (intOf s13).toNat)
  case atStart => exact ⟨0, by omega, rfl, Below.refl _ _⟩
  case round =>
    obtain ⟨i, hi, rfl, hb⟩ := hrel
    have HBR := Lib.hid hb
    have HJR := Lib.hid (HJ9.out.below hb)
    clear hb
    obtain ⟨l0, l1, l2, l3⟩ := HJR.out.lay.cells
    go_wp2_with fail
    refine (HWW.out wr HJR.out).mono ?_
    rintro r wa ⟨rfl, hba⟩
    have HBA := Lib.hid (HBR.out.trans (hba.mono HBR.out.size))
    have HJA := Lib.hid (HJR.out.below hba)
    clear hba l0 l1 l2 l3 HBR HJR
    by_cases hiw : i < L.w
    case neg =>
      have hiI : ¬ (i : Int) < (L.w : Int) := by omega
      have HE := Lib.hid (HB0.out.trans (HJA.out.bel.mono HB0.out.size))
      go_wp2
      go_ret
      exact ⟨rfl, HE.out⟩
    case pos =>
      have hiI : (i : Int) < (L.w : Int) := by omega
      obtain ⟨hw1, hw2⟩ := where_ok HX.out.ok HOK.out (gg : Int) (i : Int)
      have hwq := HWR.out i hiw wa HJA.out
      obtain ⟨⟨wd, wb⟩, hwk⟩ : ∃ t, whereL L ms (gg : Int) (i : Int) = t := ⟨_, rfl⟩
      rw [hwk] at hw1 hw2 hwq
      simp only at hw1 hw2 hwq
      obtain ⟨e, rfl⟩ : ∃ e : Nat, wd = (e : Int) := ⟨wd.toNat, by omega⟩
      have heI : (e : Int) < (L.disks : Int) := hw2
      obtain ⟨bv, hbv⟩ := at_some (l := dl) (i := e) (by rw [HDL.out]; omega)
      have HCE := Lib.hid (fun W (hW : Below w9.heap.size w9 W) => HDC9.out W e bv hW hbv)
      have HWQ := Lib.hid hwq
      have hfd := fun k x b W => field38 k x b W
      clear hw1 hw2 hwq hwk hbv
      obtain ⟨l0, l1, l2, l3⟩ := HJA.out.lay.cells
      go_wp2_with fail
      refine HWQ.out.mono ?_
      rintro r wb' ⟨rfl, hbb⟩
      have HBB := Lib.hid (HBA.out.trans (hbb.mono HBA.out.size))
      have HJB := Lib.hid (HJA.out.below hbb)
      have ce := HCE.out wb' HBB.out
      clear hbb l0 l1 l2 l3 HBA HJA HWQ HCE
      cases bv
      · go_wp2
        go_roundw
        case rel =>
          first
            | exact ⟨i + 1, by omega, by go_num, HBB.out⟩
            | (repeat apply Exists.intro
               apply And.intro
               case right => (repeat' apply And.intro) <;> rfl
               case left => exact ⟨i + 1, by omega, by go_num, HBB.out⟩)
        case measure => simp [intOf] <;> omega
      · go_upto_region 18 with (fail)
        clear ce hfd heI
        have hpb := HP9.out.below HBB.out HP9.out.lt
        have HPB := Lib.hid hpb
        obtain ⟨p0, p1, -, -⟩ := hpb.cells
        obtain ⟨hap, hov⟩ := HFA.out i hiw
        obtain ⟨out, hout⟩ : ∃ out, withM ms ⟨(gg : Int), (i : Int), ⟨(d : Int), tb⟩⟩ = out := ⟨_, rfl⟩
        rw [hout] at hap hov
        have hol : out.length ≤ 30 := by rw [← hout]; exact Nat.le_trans (withM_len _ _) (by omega)
        have HOV := Lib.hid hov
        have HWI : Hid (∀ k : Nat, whereL L out (gg : Int) (k : Int) = if k = i then ⟨(d : Int), tb⟩ else whereL L ms (gg : Int) (k : Int)) := fun k => by
          rw [← hout, where_with HOK.out.ord]
          by_cases hk : k = i
          · subst hk
            rw [if_pos ⟨rfl, rfl⟩, if_pos rfl, if_neg]
            show ¬ (d : Int) = -1
            omega
          · rw [if_neg (fun h => hk (by have := h.2; simp only at this; omega)), if_neg hk]
        have ha := sApply_any (L := L) (A := A) (Am := Am) (B := wb'.heap.size) (c := c) (cm := cm) (ms := ms) ⟨(gg : Int), (i : Int), ⟨(d : Int), tb⟩⟩ wb' HX.out HJB.out.gs HJB.out.mv HWF.out HTW.out (Nat.le_refl _) (by omega)
        have har : appR L ms ⟨(gg : Int), (i : Int), ⟨(d : Int), tb⟩⟩ = (out, 0) := by unfold appR; rw [HVM.out]; exact hap
        rw [har] at ha
        unfold layAgg Mv.agg at ha
        simp only at ha
        have HAC := Lib.hid ha
        clear ha har hap hout hpb hov
        obtain ⟨l0, l1, l2, l3⟩ := HJB.out.lay.cells
        go_wp2_with fail
        refine HAC.out.mono ?_
        rintro r wc ⟨⟨vo, rfl, howno⟩, hbc⟩
        obtain ⟨Ao, co, rfl, -, -⟩ := howno.form
        rw [List.length_map] at howno ⊢
        have HBC' := Lib.hid (HBB.out.trans (hbc.mono HBB.out.size))
        have HJC := Lib.hid (HJB.out.below hbc)
        have HPC := Lib.hid (HPB.out.below hbc HPB.out.lt)
        have hmo : MvS wc wc.heap.size Ao out := howno.reads
        have HMO := Lib.hid hmo
        clear howno hmo hbc l0 l1 l2 l3 p0 p1 HAC HBB HJB HPB
        have hval := svalid_any (L := L) (A := A) (Am := Ao) (B := wc.heap.size) (c := c) (cm := co) (ms := out) wc HX.out HJC.out.gs HMO.out (wf_moves HX.out.ok HOV.out) (Nat.le_refl _) (by omega)
        rw [ok_valid HOV.out] at hval
        unfold layAgg at hval
        have HVA := Lib.hid hval
        clear hval
        obtain ⟨l0, l1, l2, l3⟩ := HJC.out.lay.cells
        go_wp2_with fail
        refine HVA.out.mono ?_
        rintro r wd ⟨rfl, hbd'⟩
        have HBD := Lib.hid (HBC'.out.trans (hbd'.mono HBC'.out.size))
        have HJD := Lib.hid (HJC.out.below hbd')
        have HPD := Lib.hid (HPC.out.below hbd' HPC.out.lt)
        have HMD : Hid (MvS wd wd.heap.size Ao out) := (RdS.below' HMO.out hbd' (Nat.le_refl _)).more hbd'.size
        clear hbd' l0 l1 l2 l3 HVA HBC' HJC HPC HMO
        generalize wr = wo at *
        go_wp2
        go_loopw [16, 17, 18] (fun s16 _ _ wr => RndP L.w wd s16 wr) (fun s16 _ _ _ => L.w - (intOf s16).toNat)
        case atStart => exact ⟨0, by omega, rfl, Below.refl _ _⟩
        case round =>
          obtain ⟨k, hk, rfl, hb⟩ := hrel
          have HBR := Lib.hid hb
          have HJR := Lib.hid (HJD.out.below hb)
          have HPR := Lib.hid (HPD.out.below hb HPD.out.lt)
          have HMR : Hid (MvS wr wr.heap.size Ao out) := (RdS.below' HMD.out hb (Nat.le_refl _)).more hb.size
          clear hb
          obtain ⟨l0, l1, l2, l3⟩ := HJR.out.lay.cells
          go_wp2_with fail
          refine (HWW.out wr HJR.out).mono ?_
          rintro r we ⟨rfl, hbe⟩
          have HBE := Lib.hid (HBR.out.trans (hbe.mono HBR.out.size))
          have HJE := Lib.hid (HJR.out.below hbe)
          have HPE := Lib.hid (HPR.out.below hbe HPR.out.lt)
          have HME : Hid (MvS we we.heap.size Ao out) := (RdS.below' HMR.out hbe (Nat.le_refl _)).more hbe.size
          clear hbe l0 l1 l2 l3 HBR HJR HPR HMR
          by_cases hkw : k < L.w
          case neg =>
            have hkI : ¬ (k : Int) < (L.w : Int) := by omega
            have HZ := Lib.hid (HBD.out.trans (HBE.out.mono HBD.out.size))
            go_wp2
            go_roundw
            case rel =>
              first
                | exact ⟨i + 1, by omega, by go_num, HZ.out⟩
                | (repeat apply Exists.intro
                   apply And.intro
                   case right => (repeat' apply And.intro) <;> rfl
                   case left => exact ⟨i + 1, by omega, by go_num, HZ.out⟩)
            case measure => simp [intOf] <;> omega
          case pos =>
            have hkI : (k : Int) < (L.w : Int) := by omega
            have hwh := sWhere_any (L := L) (A := A) (Am := Ao) (B := we.heap.size) (c := c) (cm := co) (ms := out) (gg : Int) (k : Int) we HX.out HJE.out.gs HME.out (wf_moves HX.out.ok HOV.out) (Nat.le_refl _) (by omega)
            unfold layAgg at hwh
            have HWC := Lib.hid hwh
            have HIP : Hid (isP L (gg : Int) (k : Int) = true) := by unfold Hid isP; simp only [Bool.and_eq_true, decide_eq_true_eq]; omega
            have hwq := HWI.out k
            obtain ⟨⟨vd, vb⟩, hvk⟩ : ∃ t, whereL L out (gg : Int) (k : Int) = t := ⟨_, rfl⟩
            rw [hvk] at hwq
            have HVK := Lib.hid hvk
            have HWQ := Lib.hid hwq
            clear hwh hwq hvk
            obtain ⟨l0, l1, l2, l3⟩ := HJE.out.lay.cells
            go_wp2_with fail
            refine HWC.out.mono ?_
            rintro r wf ⟨hrf, hbf⟩
            have hrf' := hrf.2.2 (ok_valid HOV.out) HIP.out
            rw [HVK.out] at hrf'
            obtain rfl := hrf'
            unfold Plc.agg
            have HBF := Lib.hid (HBE.out.trans (hbf.mono HBE.out.size))
            have HJF := Lib.hid (HJE.out.below hbf)
            have HPF := Lib.hid (HPE.out.below hbf HPE.out.lt)
            clear hrf hbf l0 l1 l2 l3 HWC HBE HJE HPE HME
            go_upto_region 25 with (fail)
            generalize hWg : wf.alloc _ = wg
            have HQG : Hid (PlB wg wf.heap.size ⟨vd, vb⟩) := by rw [← hWg]; exact heap_alloc_new wf _
            have hbg : Below wf.heap.size wf wg := by rw [← hWg]; exact below_laid
            have HBG := Lib.hid (HBF.out.trans (hbg.mono HBF.out.size))
            have HJG := Lib.hid (HJF.out.below hbg)
            have HPG := Lib.hid (HPF.out.below hbg HPF.out.lt)
            generalize wf.heap.size = V at *
            clear hWg hbg HBF HJF HPF
            have XG := fun e xs => (HJG.out.below (below_regrown wg e xs)).lay.cells
            have YG := fun e xs => (HPG.out.below (below_regrown wg e xs) HPG.out.lt).cells
            have ZG := fun e xs => (HQG.out.below (below_regrown wg e xs) HQG.out.lt).cells
            have hkw22 := fun e xs => HWR.out k hkw (Sort.grow (redrawn wg e) xs) (HJG.out.below (below_regrown wg e xs))
            by_cases hki : k = i
            case pos =>
              have hq := HWQ.out
              rw [if_pos hki] at hq
              cases hq
              have KW := Lib.hid hkw22
              subst k
              have f0 : ((i : Int) != (i : Int)) = false := by simp
              clear hkw22
              refine quiet_below (by kernel_rfl) (by kernel_rfl) ?_
              repeat (go_big_quiet_step (first | (go_at_call 22; exact Calls.regrown_of (KW.out _ _))))
              refine wpQuiet_nil ?_
              intro wh hbh
              have HBH := Lib.hid (HBG.out.trans (hbh.mono HBG.out.size))
              clear XG YG ZG KW hbh
              go_wp2
              go_roundw
              case rel =>
                first
                  | exact ⟨i + 1, by omega, by go_num, HBH.out⟩
                  | (repeat apply Exists.intro
                     apply And.intro
                     case right => (repeat' apply And.intro) <;> rfl
                     case left => exact ⟨i + 1, by omega, by go_num, HBH.out⟩)
              case measure => simp [intOf] <;> omega
            case neg =>
              have hq := HWQ.out
              rw [if_neg hki] at hq
              rw [← hq] at hkw22
              simp only at hkw22
              have KW := Lib.hid hkw22
              clear hkw22 hq
              have f0 : ((k : Int) == (i : Int)) = false := by simp; omega
              have f00 : (k == i) = false := by simp; omega
              have f01 : ((k : Int) != (i : Int)) = true := by simp; omega
              have f02 : (k != i) = true := by simp; omega
              have f03 : decide (k = i) = false := by simp; omega
              refine quiet_below (by kernel_rfl) (by kernel_rfl) ?_
              repeat (go_big_quiet_step (first | (go_at_call 22; exact Calls.regrown_of (KW.out _ _))))
              refine wpQuiet_nil ?_
              intro wh hbh
              have HBH := Lib.hid (HBG.out.trans (hbh.mono HBG.out.size))
              clear XG YG ZG KW hbh
              go_wp2
              go_roundw
              case rel =>
                first
                  | exact ⟨k + 1, by omega, by go_num, HBH.out⟩
                  | (repeat apply Exists.intro
                     apply And.intro
                     case right => (repeat' apply And.intro) <;> rfl
                     case left => exact ⟨k + 1, by omega, by go_num, HBH.out⟩)
              case measure => simp [intOf] <;> omega
end Go.Proofs.Ytkjjojmidhjjdaa
