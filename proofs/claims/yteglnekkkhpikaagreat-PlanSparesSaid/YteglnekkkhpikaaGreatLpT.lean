/- Walk of tegulalaw23.PlanTasks. -/
import Derived.Test.YteglnekkkhpikaaGreatLpA
namespace Go.Proofs.YteglnekkkhpikaaGreat
open Go.RowKit

/-- a rebuild of a dead disk fails without tasks, or goes through -/
theorem reb_cases {L : LayD} {ms : List Mv} {dl : List Bool} {e : Nat} (he : e < L.disks) (hd : dl[e]? = some true) :
    ((rebL L ms (e : Int) dl).2 ≠ 0 ∧ (rebL L ms (e : Int) dl).1 = []) ∨ ((rebL L ms (e : Int) dl).2 = 0 ∧ ∃ fin, RebOk L (fun _ g => helpL L ms g dl) dl (onL L ms (e : Int)) ms (rebL L ms (e : Int) dl).1 fin) := by
  have h1 : rebL L ms (e : Int) dl = refG L ms dl (onL L ms (e : Int)) ms [] := by
    unfold rebL
    rw [if_neg (by simp; omega), if_neg (by simp [hd])]
  rw [h1]
  rcases hr : refG L ms dl (onL L ms (e : Int)) ms [] with ⟨ts, er⟩
  by_cases h0 : er = 0
  · subst h0
    obtain ⟨new, fin, hn, ho⟩ := rebG_ok _ _ _ _ hr
    simp only [List.nil_append] at hn
    subst hn
    exact .inr ⟨rfl, fin, ho⟩
  · exact .inl ⟨h0, rebG_err _ _ _ _ _ hr h0⟩
theorem bool_cell {w : World} {B b off : Nat} {l : List Bool} (h : BoolS w B (some ⟨b, off, none⟩) l) {k : Nat} {v : Bool} (hk : l[k]? = some v) : w.cell? ⟨b, off + k, none⟩ = some (.bool v) := by
  obtain ⟨b', o', e, -, h⟩ := BoolS.at_ h hk
  cases e
  exact h
theorem at_getD {l : List Bool} {k : Nat} (hk : k < l.length) (h : l[k]?.getD false = false) : l[k]? = some false := by
  rw [List.getElem?_eq_getElem hk] at h ⊢
  simpa using h
/-- what the laws keep behind a rebuild -/
structure LtS (w0 : World) (X : Nat) (L : LayD) (A : Option Addr) (c : Nat) (Am : Option Addr) (ms : List Mv) (At : Option Addr) (ts : List Tsk) (bd od : Nat) (dl : List Bool) (wr : World) : Prop extends LwJ w0 X L A c Am ms wr where
  tk : TskS wr wr.heap.size At ts
  dd : BoolS wr wr.heap.size (some ⟨bd, od, none⟩) dl
theorem LtS.below {w0 wr w' : World} {X : Nat} {L : LayD} {A : Option Addr} {c : Nat} {Am : Option Addr} {ms : List Mv} {At : Option Addr} {ts : List Tsk} {bd od : Nat} {dl : List Bool} (h : LtS w0 X L A c Am ms At ts bd od dl wr) (hb : Below wr.heap.size wr w') : LtS w0 X L A c Am ms At ts bd od dl w' :=
  ⟨h.toLwJ.below hb, (h.tk.below hb (Nat.le_refl _)).more hb.size, (RdS.below' h.dd hb (Nat.le_refl _)).more hb.size⟩
set_option maxHeartbeats 8000000 in
set_option maxRecDepth 100000 in
theorem plantasks_any (n : Nat) (hn : n < 65536) (raw : List Nat) (Ar : Option Addr) (cr : Nat) (x y : Nat) (hx256 : x < 256) (hy : y < 65536) (w : World) (hR : BytR w w.heap.size Ar raw) (h256 : ∀ x ∈ raw, x < 256) :
    Calls Tryz.prog 5 #[.int .u16 (n : Int), .slice Ar raw.length cr, .agg #[.int .u8 (x : Int), .int .u16 (y : Int)]] w fun r w' => r = .returned (.bool true) ∧ Below w.heap.size w w' := by
  have HA := Lib.hid (fun W => awakeP_any W)
  have HSM := Lib.hid (fun W => small_any n hn W)
  have HX : Hid (LayX (smallL n)) := small_layX n
  have HR := Lib.hid hR
  clear hR
  by_cases h20 : 12 < raw.length
  · have h20I : (12 : Int) < (raw.length : Int) := by omega
    go_enter Tryz.func5, Tryz.ntmps5
    go_wp2_with fail
    refine (HA.out _).mono ?_
    rintro r w1 ⟨rfl, hb1⟩
    have hb : Below w.heap.size w w1 := below_laid.trans (hb1.mono (by simp))
    go_wp2
    go_ret
    exact ⟨rfl, hb⟩
  have h20I : ¬ (12 : Int) < (raw.length : Int) := by omega
  have HMC := Lib.hid (fun (w0 : World) (X : Nat) (A : Option Addr) (c : Nat) (W : World) (h : LwI w0 X (smallL n) A c W) (hR : BytR w0 w0.heap.size Ar raw) => moves_call (cr := cr) HX.out h hR h256 (by omega))
  have HSL := Lib.hid (fun (w0 w1 w2 : World) (r : Ending) (hb : Below w0.heap.size w0 w1) (h : SmlP n w1 r w2) => small_laid hb h)
  have HOK : Hid (MvOk (smallL n) (movesL (smallL n) raw)) := moves_ok _ _
  have HLN : Hid ((movesL (smallL n) raw).length ≤ 20) := by have := moves_len (smallL n) raw; exact Nat.le_trans this (by omega)
  clear h256
  unfold layAgg at HMC HSL
  generalize SmlP n = SP at HSM HSL
  clear hn
  obtain ⟨L, hL⟩ : ∃ L, smallL n = L := ⟨_, rfl⟩
  rw [hL] at HX HMC HSL HOK HLN
  obtain ⟨ms, hms⟩ : ∃ ms, movesL L raw = ms := ⟨_, rfl⟩
  rw [hms] at HMC HOK HLN
  have HWF : Hid (∀ x ∈ ms, PlWf x.to) := wf_mvs HX.out HOK.out
  have HVM : Hid (validM L ms = true) := ok_valid HOK.out
  have hdk := HX.out.ok.disks
  have HDD := Lib.hid (fun W => dead_any L.disks x y W hdk hx256 hy)
  obtain ⟨e, he⟩ : ∃ e, x % L.disks = e := ⟨_, rfl⟩
  have hed : e < L.disks := by rw [← he]; exact Nat.mod_lt _ (by omega)
  have HDE : Hid (∀ W r W', DeadP L.disks x y W r W' → ∃ (a : Addr) (l : List Bool), r = .returned (.tuple #[.slice (some a) L.disks L.disks, .int .i64 (e : Int)]) ∧ l.length = L.disks ∧ l[e]? = some true ∧ OwS W' W.heap.size 4 1 (.slice (some a) L.disks L.disks) (l.map fun b => [.bool b]) ∧ Below W.heap.size W W') := fun W r W' h => by
    obtain ⟨a, l, h1, h2, h3, -, h4, h5⟩ := h
    rw [he] at h1 h3
    exact ⟨a, l, h1, h2, h3, h4, h5⟩
  generalize DeadP L.disks x y = DP at HDD HDE
  clear hL hms he hx256 hy
  go_enter Tryz.func5, Tryz.ntmps5
  go_wp2_with fail
  generalize hW0 : w.alloc _ = w0
  have hbx : w0.heap[w.heap.size]? = some (.cells #[.int .u8 (x : Int), .int .u16 (y : Int)] 25) := by rw [← hW0]; exact heap_alloc_new w _
  have hb0 : Below w.heap.size w w0 := by rw [← hW0]; exact below_laid
  have hR0 : BytR w0 w0.heap.size Ar raw := (RdS.below' HR.out hb0 (Nat.le_refl _)).more hb0.size
  have HR0 := Lib.hid hR0
  have HB0 := Lib.hid hb0
  have HBX := Lib.hid hbx
  have HZ0 : Hid (w.heap.size < w0.heap.size) := blk_lt hbx
  clear hW0 hb0 hR0 hbx HR
  refine (HA.out w0).mono ?_
  rintro r w1 ⟨rfl, hb1⟩
  have HB1 := Lib.hid hb1
  clear hb1 HA
  go_wp2_with fail
  refine (HSM.out w1).mono ?_
  rintro r w2 hsm
  obtain ⟨A, c, rfl, -, hi3⟩ := HSL.out w0 w1 w2 r HB1.out hsm
  have HI3 := Lib.hid hi3
  clear hsm hi3 HSL HSM HB1
  go_upto_region 6 with (fail)
  generalize w2.alloc _ = w3 at *
  generalize w2.heap.size = X at *
  obtain ⟨l0, l1, l2, l3⟩ := HI3.out.lay.cells
  go_wp2_with fail
  refine (HMC.out w0 X A c w3 HI3.out HR0.out).mono ?_
  rintro r w4 ⟨Am, cm, rfl, hj4⟩
  have HJ4 := Lib.hid hj4
  have hbx4 := (hj4.bel.block _ HZ0.out).trans HBX.out
  have x0 : w4.cell? ⟨w.heap.size, 0, none⟩ = some (.int .u8 (x : Int)) := by rw [cell_of_row _ _ _ _ _ _ hbx4]; rfl
  have x1 : w4.cell? ⟨w.heap.size, 1, none⟩ = some (.int .u16 (y : Int)) := by rw [cell_of_row _ _ _ _ _ _ hbx4]; rfl
  clear hj4 hbx4 l0 l1 l2 l3 HI3 HMC HR0 HBX HZ0
  obtain ⟨l0, l1, l2, l3⟩ := HJ4.out.lay.cells
  go_wp2_with fail
  refine (HDD.out w4).mono ?_
  rintro r w5 hdp
  obtain ⟨ad, dl, rfl, hdlen, hdone, hdown, hb5⟩ := HDE.out w4 r w5 hdp
  have HJ5 := Lib.hid (HJ4.out.below hb5)
  have HD5 : Hid (BoolS w5 w5.heap.size (some ad) dl) := hdown.reads
  have HDN := Lib.hid hdlen
  have HD1 := Lib.hid hdone
  have hmsn := HLN.out
  clear hdp hdlen hdone hdown hb5 HDD HDE HJ4 l0 l1 l2 l3 x0 x1
  obtain ⟨bd, od, had, -, -⟩ := BoolS.at_ HD5.out HD1.out
  injection had with had
  subst had
  have hpr := prebuild_any (L := L) (A := A) (Am := Am) (Ad := some ⟨bd, od, none⟩) (B := w5.heap.size) (c := c) (cm := cm) (cd := L.disks) (ms := ms) (dead := dl) (e : Int) w5 HX.out HJ5.out.gs HJ5.out.mv HWF.out HD5.out (Nat.le_refl _) (by omega) (by rw [HDN.out]; omega)
  rw [planL_reb HX.out.ok HOK.out (d := (e : Int)) HDN.out, HDN.out] at hpr
  have hsm := reb_small HX.out.ok HOK.out (e : Int) dl
  have hcs := reb_cases (L := L) (ms := ms) hed HD1.out
  unfold layAgg at hpr
  obtain ⟨⟨ts, er⟩, hres⟩ : ∃ res, rebL L ms (e : Int) dl = res := ⟨_, rfl⟩
  simp only [hres] at hpr hsm hcs
  have HPR := Lib.hid hpr
  have HCS := Lib.hid hcs
  have HS1 := Lib.hid (Nat.le_trans hsm.1 HX.out.ok.G)
  clear hpr hsm hres hcs
  obtain ⟨l0, l1, l2, l3⟩ := HJ5.out.lay.cells
  go_wp2_with fail
  refine HPR.out.mono ?_
  rintro r w7 ⟨⟨v7, rfl, ht7⟩, hb7⟩
  obtain ⟨A7, c7, rfl⟩ := ht7.form
  have HT7 : Hid (LtS w0 X L A c Am ms A7 ts bd od dl w7) := ⟨HJ5.out.below hb7, ht7.reads, (RdS.below' HD5.out hb7 (Nat.le_refl _)).more hb7.size⟩
  clear ht7 hb7 HPR HJ5 HD5 l0 l1 l2 l3
  rcases HCS.out with ⟨hne, rfl⟩ | ⟨rfl, fin, hrb⟩
  · have f1 : (er != 0) = true := by simpa using hne
    have f2 : (er == 0) = false := by simpa using hne
    have HE := Lib.hid (HB0.out.trans (HT7.out.bel.mono HB0.out.size))
    simp only [List.length_nil]
    clear hne HCS
    go_wp2
    go_ret
    exact ⟨rfl, HE.out⟩
  have hrt := reb_tasks HX.out.ok hrb HOK.out (fun x hx => on_isP x hx) (onL_inc HX.out.ok HOK.out e) (fun _ _ _ => rfl)
  have HMP := Lib.hid hrt.1
  have HTK := Lib.hid hrt.2.1
  have hlen : (onL L ms (e : Int)).length = ts.length := by rw [← hrt.1, List.length_map]
  have hro := fun (W : World) (h : LtS w0 X L A c Am ms A7 ts bd od dl W) => r22on (L := L) (A := A) (Am := Am) (B := W.heap.size) (c := c) (cm := cm) (ms := ms) (e : Int) W HX.out h.gs h.mv (Nat.le_refl _) (by omega)
  have hts := HS1.out
  unfold layAgg at hro
  have HOM : Hid (∀ x ∈ onL L ms (e : Int), x.1 < L.G) := fun x hx => by
    obtain ⟨g, i⟩ := x
    exact (onL_mem.1 hx).1
  obtain ⟨ol, hol⟩ : ∃ ol, onL L ms (e : Int) = ol := ⟨_, rfl⟩
  rw [hol] at hlen HMP HOM
  simp only [hol] at hro
  have HRO := Lib.hid hro
  have HLE := Lib.hid hlen
  clear hrt hro hol hlen hrb HCS
  obtain ⟨l0, l1, l2, l3⟩ := HT7.out.lay.cells
  go_wp2_with fail
  refine (HRO.out w7 HT7.out).mono ?_
  rintro r w8 ⟨⟨v8, rfl, ho8⟩, hb8⟩
  obtain ⟨A8, c8, rfl, -, -⟩ := ho8.form
  rw [List.length_map] at ho8 ⊢
  rw [HLE.out] at ho8 ⊢
  have HT8 := Lib.hid (HT7.out.below hb8)
  have hq8 := ho8.reads
  have HQ8 : Hid (RdS w8 w8.heap.size 2 A8 (ol.map memN)) := hq8
  have f1 : ((ts.length : Int) != (ts.length : Int)) = false := by simp
  clear ho8 hb8 hq8 HRO HT7 l0 l1 l2 l3
  go_wp2
  go_loopw [14] (fun s14 wr => CntR ts.length w8 s14 wr) (fun s14 _ => ts.length - (intOf s14).toNat)
  case atStart => exact ⟨0, by omega, rfl, Below.refl _ _⟩
  case round =>
    obtain ⟨i, hi, rfl, hb⟩ := hrel
    have HBI := Lib.hid hb
    by_cases hit : i < ts.length
    case neg =>
      have hiI : ¬ (i : Int) < (ts.length : Int) := by omega
      have HE := Lib.hid (HB0.out.trans ((HT8.out.below hb).bel.mono HB0.out.size))
      clear hb
      go_wp2
      go_ret
      exact ⟨rfl, HE.out⟩
    case pos =>
      have hiI : (i : Int) < (ts.length : Int) := by omega
      obtain ⟨t, ht⟩ := at_some hit
      have htk := HTK.out t (List.mem_of_getElem? ht)
      have hox : ol[i]? = some (t.g, t.p) := by rw [← HMP.out, List.getElem?_map, ht]; rfl
      have hgG := HOM.out _ (List.mem_of_getElem? hox)
      have HTI := Lib.hid (HT8.out.below hb)
      obtain ⟨b1, o1, Af, cf, rfl, -, hrf, x0, x1, x2, x3, x4⟩ := HTI.out.tk.at_ ht
      obtain ⟨b2, o2, rfl, -, q0, q1⟩ := pair_atP (RdS.below' HQ8.out hb (Nat.le_refl _)) hox
      obtain ⟨hfl, hfp, hfd⟩ := from_good HX.out.ok HOK.out htk.hs
      have hto := htk.to
      have hlv := htk.live
      have hfree := htk.free
      obtain ⟨g, p, fr, ⟨td, tb⟩⟩ := t
      simp only at x0 x1 x2 x3 x4 q0 q1 hfl hfp hfd hto hlv hfree hgG hrf
      have hfl1 : fr.length + 3 ≤ L.w := by have := HX.out.ok.w; omega
      have hfl2 : L.w ≤ fr.length + 3 := by omega
      clear hfl
      unfold toOk at hto
      simp only [Bool.and_eq_true, decide_eq_true_eq] at hto
      obtain ⟨tn, rfl⟩ : ∃ tn : Nat, td = (tn : Int) := ⟨td.toNat, by omega⟩
      have htn : tn < L.disks := by omega
      rw [Int.toNat_natCast] at hlv
      have HDC := Lib.hid (at_getD (by rw [HDN.out]; exact htn) hlv)
      have HFP := Lib.hid hfp
      have HFD := Lib.hid hfd
      have HFR := Lib.hid hfree
      have HRF := Lib.hid hrf
      have HQI : Hid (∀ W, Below wr.heap.size wr W → W.cell? ⟨b2, o2 + i * 2, none⟩ = some (.int .i64 (g : Int)) ∧ W.cell? ⟨b2, o2 + i * 2 + 1, none⟩ = some (.int .i64 (p : Int))) := fun W hW => ⟨(hW.cell (p := ⟨b2, _, none⟩) (block_lt_of_cell q0)).trans q0, (hW.cell (p := ⟨b2, _, none⟩) (block_lt_of_cell q1)).trans q1⟩
      clear hb ht htk hox hfp hfd hto hlv hfree hrf q0 q1
      go_upto_region 18 with (fail)
      generalize hW3 : wr.alloc _ = w3
      have hb3 : Below wr.heap.size wr w3 := by rw [← hW3]; exact below_laid
      have HK3 : Hid (w3.heap[wr.heap.size]? = some (.cells #[.int .i64 (g : Int), .int .i64 (p : Int), .slice Af fr.length cf, .int .i64 (tn : Int), .int .i64 tb] 52)) := by rw [← hW3]; exact heap_alloc_new wr _
      have HT3 := Lib.hid (HTI.out.below hb3)
      have HB3 := Lib.hid (HBI.out.trans (hb3.mono HBI.out.size))
      have HF3 := Lib.hid (RdS.below' HRF.out hb3 (Nat.le_refl _))
      have HQ3 : Hid (∀ W, Below w3.heap.size w3 W → W.cell? ⟨b2, o2 + i * 2, none⟩ = some (.int .i64 (g : Int)) ∧ W.cell? ⟨b2, o2 + i * 2 + 1, none⟩ = some (.int .i64 (p : Int))) := fun W hW => HQI.out W (hb3.trans (hW.mono hb3.size))
      have hTl : wr.heap.size < w3.heap.size := blk_lt HK3.out
      have HFB : Hid (wr.heap.size ≤ wr.heap.size) := Nat.le_refl _
      clear hW3 hb3 HQI x0 x1 x2 x3 x4 HTI HBI HRF HFB
      generalize wr.heap.size = T at *
      have hw := HX.out.ok.w
      have hdk60 := HX.out.ok.disks
      have k1 : IntKind.i64.wrap ((L.w : Int) - 3) = (fr.length : Int) := by rw [IntWalk.i64_in _ (by omega)]; omega
      have f2 : ((g : Int) != (g : Int)) = false := by simp
      have f3 : ((p : Int) != (p : Int)) = false := by simp
      have f4 : ((fr.length : Int) != (fr.length : Int)) = false := by simp
      have f5 : decide ((tn : Int) < 0) = false := by rw [decide_eq_false_iff_not]; omega
      have f6 : decide (L.disks ≤ tn) = false := by rw [decide_eq_false_iff_not]; omega
      have f7 : decide ((L.disks : Int) ≤ (tn : Int)) = false := by rw [decide_eq_false_iff_not]; omega
      have htI : (tn : Int) < (L.disks : Int) := by omega
      have X3 := fun d xs => (HT3.out.below (below_regrown w3 d xs)).lay.cells
      have Y3 := fun d xs => tsk_cells (((below_regrown w3 d xs).block T hTl).trans HK3.out)
      have Z3 := fun d xs => HQ3.out _ (below_regrown w3 d xs)
      have V3 := fun d xs => bool_cell (HT3.out.below (below_regrown w3 d xs)).dd HDC.out
      have hww := fun (W : World) (h : LtS w0 X L A c Am ms (some ⟨b1, o1, none⟩) ts bd od dl W) => r21width (L := L) (A := A) (B := W.heap.size) (c := c) W HX.out h.gs (Nat.le_refl _)
      unfold layAgg at hww
      have HWW := Lib.hid hww
      have KW := Lib.hid (fun d xs => HWW.out (Sort.grow (redrawn w3 d) xs) (HT3.out.below (below_regrown w3 d xs)))
      clear hww
      refine quiet_below (by kernel_rfl) (by kernel_rfl) ?_
      repeat (go_big_quiet_step (first | (go_at_call 17; exact Calls.regrown_of (KW.out _ _))))
      refine wpQuiet_nil ?_
      intro w4 hb4
      have HT4 := Lib.hid (HT3.out.below hb4)
      have HB4 := Lib.hid (HB3.out.trans (hb4.mono HB3.out.size))
      have HF4 := Lib.hid (RdS.below' HF3.out hb4 (by omega))
      have HK4 : Hid (w4.heap[T]? = some (.cells #[.int .i64 (g : Int), .int .i64 (p : Int), .slice Af fr.length cf, .int .i64 (tn : Int), .int .i64 tb] 52)) := (hb4.block T hTl).trans HK3.out
      have hTl4 : T < w4.heap.size := blk_lt HK4.out
      clear X3 Y3 Z3 V3 KW hb4 k1 f1 f2 f3 f4 f5 f6 f7 htI HT3 HB3 HF3 HK3 HQ3 hTl
      obtain ⟨wo, rfl⟩ : ∃ wo : World, wo = wr := ⟨_, rfl⟩
      go_wp2
      go_loopw [16] (fun s16 wr => CntR fr.length w4 s16 wr) (fun s16 _ => fr.length - (intOf s16).toNat)
      case atStart => exact ⟨0, by omega, rfl, Below.refl _ _⟩
      case round =>
        obtain ⟨k, hk, rfl, hb⟩ := hrel
        have HBK := Lib.hid hb
        have HTK5 := Lib.hid (HT4.out.below hb)
        have HKK : Hid (wr.heap[T]? = some (.cells #[.int .i64 (g : Int), .int .i64 (p : Int), .slice Af fr.length cf, .int .i64 (tn : Int), .int .i64 tb] 52)) := (hb.block T hTl4).trans HK4.out
        have HFK := Lib.hid (RdS.below' HF4.out hb (by omega))
        have hTk : T < wr.heap.size := blk_lt HKK.out
        obtain ⟨x0, x1, x2, x3, x4, e0, e1, e2, e3, e4⟩ := tsk_cells HKK.out
        clear e0 e1 e2 e3 e4 hb
        by_cases hkf : k < fr.length
        case neg =>
          have hkI : ¬ (k : Int) < (fr.length : Int) := by omega
          have HB5 := Lib.hid (HB4.out.trans (HBK.out.mono HB4.out.size))
          obtain ⟨wp, rfl⟩ : ∃ wp : World, wp = wr := ⟨_, rfl⟩
          clear HBK HT4 HB4 HF4 HK4 hTl4 HFK
          go_wp2
          go_loopw [17] (fun s17 wr => CntR L.w wp s17 wr) (fun s17 _ => L.w - (intOf s17).toNat)
          case atStart => exact ⟨0, by omega, rfl, Below.refl _ _⟩
          case round =>
            obtain ⟨j, hj, rfl, hb⟩ := hrel
            have HTJ := Lib.hid (HTK5.out.below hb)
            have HBJ := Lib.hid (HB5.out.trans (hb.mono HB5.out.size))
            have HBW := Lib.hid hb
            have HKJ : Hid (wr.heap[T]? = some (.cells #[.int .i64 (g : Int), .int .i64 (p : Int), .slice Af fr.length cf, .int .i64 (tn : Int), .int .i64 tb] 52)) := (hb.block T hTk).trans HKK.out
            have hTj : T < wr.heap.size := blk_lt HKJ.out
            clear hb x0 x1 x2 x3 x4
            obtain ⟨l0, l1, l2, l3⟩ := HTJ.out.lay.cells
            go_wp2_with fail
            refine (HWW.out wr HTJ.out).mono ?_
            rintro r w6 ⟨rfl, hb6⟩
            have HT6 := Lib.hid (HTJ.out.below hb6)
            have HB6 := Lib.hid (HBW.out.trans (hb6.mono HBW.out.size))
            have HC6 := Lib.hid (HBJ.out.trans (hb6.mono HBJ.out.size))
            have HK6 : Hid (w6.heap[T]? = some (.cells #[.int .i64 (g : Int), .int .i64 (p : Int), .slice Af fr.length cf, .int .i64 (tn : Int), .int .i64 tb] 52)) := (hb6.block T hTj).trans HKJ.out
            have hT6 : T < w6.heap.size := blk_lt HK6.out
            clear hb6 l0 l1 l2 l3 HTJ HBJ HBW HKJ hTj
            by_cases hjw : j < L.w
            case neg =>
              have hjI : ¬ (j : Int) < (L.w : Int) := by omega
              go_wp2
              go_roundw
              case rel => exact ⟨i + 1, by omega, by go_num, HC6.out⟩
              case measure => simp [intOf] <;> omega
            case pos =>
              have hjI : (j : Int) < (L.w : Int) := by omega
              have hwk := HFR.out j hjw
              obtain ⟨⟨wd, wb⟩, hwl⟩ : ∃ t, whereL L ms (g : Int) (j : Int) = t := ⟨_, rfl⟩
              have hwh := fun (W : World) (h : LtS w0 X L A c Am ms (some ⟨b1, o1, none⟩) ts bd od dl W) => r22where (L := L) (A := A) (Am := Am) (B := W.heap.size) (c := c) (cm := cm) (ms := ms) g j W HX.out h.gs h.mv (Nat.le_refl _) hgG hjw (by omega)
              rw [hwl] at hwh hwk
              unfold layAgg Plc.agg at hwh
              have HWH := Lib.hid hwh
              simp only at hwk
              have f1 : (wd == (tn : Int)) = false := by simpa using hwk
              have f38 := fun (k : IntKind) (x : Int) (b : Value) (W : World) => field38 k x b W
              have X6 := fun d xs => (HT6.out.below (below_regrown w6 d xs)).lay.cells
              have Y6 := fun d xs => tsk_cells (((below_regrown w6 d xs).block T hT6).trans HK6.out)
              have KH := Lib.hid (fun d xs => HWH.out (Sort.grow (redrawn w6 d) xs) (HT6.out.below (below_regrown w6 d xs)))
              clear hwh hwl hwk
              go_upto_region 28 with (fail)
              refine quiet_below (by kernel_rfl) (by kernel_rfl) ?_
              repeat (go_big_quiet_step (first | (go_at_call 23; exact Calls.regrown_of (KH.out _ _))))
              refine wpQuiet_nil ?_
              intro w9 hb9
              have HB9 := Lib.hid (HB6.out.trans (hb9.mono HB6.out.size))
              clear X6 Y6 KH hb9 f38
              go_wp2
              go_roundw
              case rel => exact ⟨j + 1, by omega, by go_num, HB9.out⟩
              case measure => simp [intOf] <;> omega
        case pos =>
          have hkI : (k : Int) < (fr.length : Int) := by omega
          obtain ⟨x, hx⟩ := at_some hkf
          obtain ⟨hxw, hxd⟩ := HFD.out x (List.mem_of_getElem? hx)
          obtain ⟨b3, o3, rfl, -, y0⟩ := nat_atR HFK.out hx
          have hwo := where_ok HX.out.ok HOK.out (g : Int) (x : Int)
          have hwh := fun (W : World) (h : LtS w0 X L A c Am ms (some ⟨b1, o1, none⟩) ts bd od dl W) => r22where (L := L) (A := A) (Am := Am) (B := W.heap.size) (c := c) (cm := cm) (ms := ms) g x W HX.out h.gs h.mv (Nat.le_refl _) hgG hxw (by omega)
          obtain ⟨⟨wd, wb⟩, hwl⟩ : ∃ t, whereL L ms (g : Int) (x : Int) = t := ⟨_, rfl⟩
          rw [hwl] at hwh hwo hxd
          simp only at hwo hxd
          obtain ⟨wn, rfl⟩ : ∃ wn : Nat, wd = (wn : Int) := ⟨wd.toNat, by omega⟩
          rw [Int.toNat_natCast] at hxd
          have hwn : wn < L.disks := by omega
          have HDX := Lib.hid (at_getD (by rw [HDN.out]; exact hwn) hxd)
          unfold layAgg Plc.agg at hwh
          have HWH := Lib.hid hwh
          have hwnI : (wn : Int) < (L.disks : Int) := by omega
          have f1 : decide ((x : Int) < 0) = false := by rw [decide_eq_false_iff_not]; omega
          have f2 : decide (L.w ≤ x) = false := by rw [decide_eq_false_iff_not]; omega
          have f3 : decide ((L.w : Int) ≤ (x : Int)) = false := by rw [decide_eq_false_iff_not]; omega
          have f38 := fun (k : IntKind) (x : Int) (b : Value) (W : World) => field38 k x b W
          have HY : Hid (∀ W, Below wr.heap.size wr W → W.cell? ⟨b3, o3 + k, none⟩ = some (.int .i64 (x : Int))) := fun W hW => (hW.cell (p := ⟨b3, _, none⟩) (block_lt_of_cell y0)).trans y0
          have HPV : Hid (0 < k → ∃ y : Nat, y < x ∧ fr[k - 1]? = some y) := fun h => by
            obtain ⟨y, hy⟩ := at_some (l := fr) (i := k - 1) (by omega)
            have hp := List.pairwise_iff_getElem.1 HFP.out (k - 1) k (by omega) hkf (by omega)
            obtain ⟨e1, e2⟩ := List.getElem?_eq_some_iff.1 hy
            obtain ⟨e3, e4⟩ := List.getElem?_eq_some_iff.1 hx
            rw [e2, e4] at hp
            exact ⟨y, hp, hy⟩
          have X5 := fun d xs => (HTK5.out.below (below_regrown wr d xs)).lay.cells
          have Y5 := fun d xs => tsk_cells (((below_regrown wr d xs).block T hTk).trans HKK.out)
          have Z5 := fun d xs => HY.out _ (below_regrown wr d xs)
          have V5 := fun d xs => bool_cell (HTK5.out.below (below_regrown wr d xs)).dd HDX.out
          have KW := Lib.hid (fun d xs => HWW.out (Sort.grow (redrawn wr d) xs) (HTK5.out.below (below_regrown wr d xs)))
          have KH := Lib.hid (fun d xs => HWH.out (Sort.grow (redrawn wr d) xs) (HTK5.out.below (below_regrown wr d xs)))
          clear hwh hwl hwo hxd hx y0
          go_upto_region 23 with (fail)
          clear x0 x1 x2 x3 x4
          rcases Nat.eq_zero_or_pos k with hk0 | hk0
          case' inl =>
            have hk1 : k ≤ 0 := by omega
            have g1 : decide ((0 : Int) < (k : Int)) = false := by rw [decide_eq_false_iff_not]; omega
            have g2 : decide (0 < k) = false := by rw [decide_eq_false_iff_not]; omega
            clear hk0
          case' inr =>
            obtain ⟨y, hyx, hy⟩ := HPV.out hk0
            obtain ⟨b3', o3', e, -, z0⟩ := nat_atR HFK.out hy
            injection e with e
            injection e with e1 e2
            subst e1 e2
            have HZ : Hid (∀ W, Below wr.heap.size wr W → W.cell? ⟨b3, o3 + (k - 1), none⟩ = some (.int .i64 (y : Int))) := fun W hW => (hW.cell (p := ⟨b3, _, none⟩) (block_lt_of_cell z0)).trans z0
            have W5 := fun d xs => HZ.out _ (below_regrown wr d xs)
            have g1 : decide ((0 : Int) < (k : Int)) = true := by rw [decide_eq_true_iff]; omega
            have g2 : decide (0 < k) = true := by rw [decide_eq_true_iff]; omega
            have g3 : IntKind.i64.wrap ((k : Int) - 1) = ((k - 1 : Nat) : Int) := by rw [IntWalk.i64_in _ (by omega)]; omega
            have g4 : decide ((x : Int) ≤ (y : Int)) = false := by rw [decide_eq_false_iff_not]; omega
            have g5 : decide (x ≤ y) = false := by rw [decide_eq_false_iff_not]; omega
            have g6 : (0 : Int) ≤ ((k - 1 : Nat) : Int) := by omega
            have g7 : ((k - 1 : Nat) : Int) < (fr.length : Int) := by omega
            clear hy z0
          all_goals
            refine quiet_below (by kernel_rfl) (by kernel_rfl) ?_
            repeat (go_big_quiet_step (first | (go_at_call 17; exact Calls.regrown_of (KW.out _ _)) | (go_at_call 23; exact Calls.regrown_of (KH.out _ _))))
            refine wpQuiet_nil ?_
            intro w9 hb9
            have HB9 := Lib.hid (HBK.out.trans (hb9.mono HBK.out.size))
            clear X5 Y5 Z5 V5 KW KH hb9 f38
            (try clear W5)
            go_wp2
            go_roundw
            case rel => exact ⟨k + 1, by omega, by go_num, HB9.out⟩
            case measure => simp [intOf] <;> omega
end Go.Proofs.YteglnekkkhpikaaGreat
