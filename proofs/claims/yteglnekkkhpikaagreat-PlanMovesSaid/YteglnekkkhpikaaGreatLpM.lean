/- Walk of tegulalaw23.PlanMoves. -/
import Derived.Test.YteglnekkkhpikaaGreatLpT
namespace Go.Proofs.YteglnekkkhpikaaGreat
open Go.RowKit

/-- the loop that applies the tasks -/
def MvR (L : LayD) (ms : List Mv) (dl : List Bool) (ts : List Tsk) (fin : List Mv) (w8 : World) (s13 s14 : Value) (wr : World) : Prop :=
  ∃ (i : Nat) (r : List (Nat × Nat)) (now : List Mv) (An : Option Addr) (cn : Nat), i ≤ ts.length ∧ s14 = .int .i64 i ∧ s13 = .slice An now.length cn ∧ MvS wr wr.heap.size An now ∧ MvOk L now ∧ now.length ≤ 20 + i ∧ (∀ x ∈ r, isP L x.1 x.2 = true) ∧
    RebOk L (fun _ g => helpL L ms g dl) dl r now (ts.drop i) fin ∧ Below w8.heap.size w8 wr
theorem reb_nil {L : LayD} {hf : List Mv → Nat → List Nat} {dead : List Bool} {r : List (Nat × Nat)} {now fin : List Mv} (h : RebOk L hf dead r now [] fin) : now = fin := by
  cases h
  rfl
theorem reb_cons {L : LayD} {hf : List Mv → Nat → List Nat} {dead : List Bool} {r : List (Nat × Nat)} {now fin : List Mv} {t : Tsk} {ts : List Tsk} (h : RebOk L hf dead r now (t :: ts) fin) : ∃ r', r = (t.g, t.p) :: r' ∧ chooseL L now t.g dead = some t.to ∧ RebOk L hf dead r' (withM now ⟨t.g, t.p, t.to⟩) ts fin := by
  cases h with
  | cons h1 h2 h3 => exact ⟨_, rfl, h2, h3⟩
set_option maxHeartbeats 8000000 in
set_option maxRecDepth 100000 in
theorem planmoves_any (n : Nat) (hn : n < 65536) (raw : List Nat) (Ar : Option Addr) (cr : Nat) (x y : Nat) (hx256 : x < 256) (hy : y < 65536) (w : World) (hR : BytR w w.heap.size Ar raw) (h256 : ∀ x ∈ raw, x < 256) :
    Calls Tryz.prog 6 #[.int .u16 (n : Int), .slice Ar raw.length cr, .agg #[.int .u8 (x : Int), .int .u16 (y : Int)]] w fun r w' => r = .returned (.bool true) ∧ Below w.heap.size w w' := by
  have HA := Lib.hid (fun W => awakeP_any W)
  have HSM := Lib.hid (fun W => small_any n hn W)
  have HX : Hid (LayX (smallL n)) := small_layX n
  have HR := Lib.hid hR
  clear hR
  by_cases h20 : 12 < raw.length
  · have h20I : (12 : Int) < (raw.length : Int) := by omega
    go_enter Tryz.func6, Tryz.ntmps6
    go_wp2_with fail
    refine (HA.out _).mono ?_
    rintro r w1 ⟨rfl, hb1⟩
    have hb : Below w.heap.size w w1 := below_laid.trans (hb1.mono (by simp))
    go_wp2
    go_ret
    exact ⟨rfl, hb⟩
  have h20I : ¬ (12 : Int) < (raw.length : Int) := by omega
  have HMC := Lib.hid (fun (w0 : World) (X : Nat) (A : Option Addr) (c : Nat) (W : World) (h : LwI w0 X (smallL n) A c W) (hR : BytR w0 w0.heap.size Ar raw) => moves_call (cr := cr) HX.out h hR h256 (by omega))
  have HSL := Lib.hid (fun (w0 w1 w2 : World) (r : Ending) (hb : Below w0.heap.size w0 w1) (h : SmlP n w1 r w2) => small_laid hb h)
  have HOK : Hid (MvOk (smallL n) (movesL (smallL n) raw)) := moves_ok _ _
  have HLN : Hid ((movesL (smallL n) raw).length ≤ 20) := by have := moves_len (smallL n) raw; exact Nat.le_trans this (by omega)
  clear h256
  unfold layAgg at HMC HSL
  generalize SmlP n = SP at HSM HSL
  clear hn
  obtain ⟨L, hL⟩ : ∃ L, smallL n = L := ⟨_, rfl⟩
  rw [hL] at HX HMC HSL HOK HLN
  obtain ⟨ms, hms⟩ : ∃ ms, movesL L raw = ms := ⟨_, rfl⟩
  rw [hms] at HMC HOK HLN
  have HWF : Hid (∀ x ∈ ms, PlWf x.to) := wf_mvs HX.out HOK.out
  have HVM : Hid (validM L ms = true) := ok_valid HOK.out
  have hdk := HX.out.ok.disks
  have HDD := Lib.hid (fun W => dead_any L.disks x y W hdk hx256 hy)
  obtain ⟨e, he⟩ : ∃ e, x % L.disks = e := ⟨_, rfl⟩
  have hed : e < L.disks := by rw [← he]; exact Nat.mod_lt _ (by omega)
  have HDE : Hid (∀ W r W', DeadP L.disks x y W r W' → ∃ (a : Addr) (l : List Bool), r = .returned (.tuple #[.slice (some a) L.disks L.disks, .int .i64 (e : Int)]) ∧ l.length = L.disks ∧ l[e]? = some true ∧ OwS W' W.heap.size 4 1 (.slice (some a) L.disks L.disks) (l.map fun b => [.bool b]) ∧ Below W.heap.size W W') := fun W r W' h => by
    obtain ⟨a, l, h1, h2, h3, -, h4, h5⟩ := h
    rw [he] at h1 h3
    exact ⟨a, l, h1, h2, h3, h4, h5⟩
  generalize DeadP L.disks x y = DP at HDD HDE
  clear hL hms he hx256 hy
  go_enter Tryz.func6, Tryz.ntmps6
  go_wp2_with fail
  generalize hW0 : w.alloc _ = w0
  have hbx : w0.heap[w.heap.size]? = some (.cells #[.int .u8 (x : Int), .int .u16 (y : Int)] 25) := by rw [← hW0]; exact heap_alloc_new w _
  have hb0 : Below w.heap.size w w0 := by rw [← hW0]; exact below_laid
  have hR0 : BytR w0 w0.heap.size Ar raw := (RdS.below' HR.out hb0 (Nat.le_refl _)).more hb0.size
  have HR0 := Lib.hid hR0
  have HB0 := Lib.hid hb0
  have HBX := Lib.hid hbx
  have HZ0 : Hid (w.heap.size < w0.heap.size) := blk_lt hbx
  clear hW0 hb0 hR0 hbx HR
  refine (HA.out w0).mono ?_
  rintro r w1 ⟨rfl, hb1⟩
  have HB1 := Lib.hid hb1
  clear hb1 HA
  go_wp2_with fail
  refine (HSM.out w1).mono ?_
  rintro r w2 hsm
  obtain ⟨A, c, rfl, -, hi3⟩ := HSL.out w0 w1 w2 r HB1.out hsm
  have HI3 := Lib.hid hi3
  clear hsm hi3 HSL HSM HB1
  go_upto_region 6 with (fail)
  generalize w2.alloc _ = w3 at *
  generalize w2.heap.size = X at *
  obtain ⟨l0, l1, l2, l3⟩ := HI3.out.lay.cells
  go_wp2_with fail
  refine (HMC.out w0 X A c w3 HI3.out HR0.out).mono ?_
  rintro r w4 ⟨Am, cm, rfl, hj4⟩
  have HJ4 := Lib.hid hj4
  have hbx4 := (hj4.bel.block _ HZ0.out).trans HBX.out
  have x0 : w4.cell? ⟨w.heap.size, 0, none⟩ = some (.int .u8 (x : Int)) := by rw [cell_of_row _ _ _ _ _ _ hbx4]; rfl
  have x1 : w4.cell? ⟨w.heap.size, 1, none⟩ = some (.int .u16 (y : Int)) := by rw [cell_of_row _ _ _ _ _ _ hbx4]; rfl
  clear hj4 hbx4 l0 l1 l2 l3 HI3 HMC HR0 HBX HZ0
  obtain ⟨l0, l1, l2, l3⟩ := HJ4.out.lay.cells
  go_wp2_with fail
  refine (HDD.out w4).mono ?_
  rintro r w5 hdp
  obtain ⟨ad, dl, rfl, hdlen, hdone, hdown, hb5⟩ := HDE.out w4 r w5 hdp
  have HJ5 := Lib.hid (HJ4.out.below hb5)
  have HD5 : Hid (BoolS w5 w5.heap.size (some ad) dl) := hdown.reads
  have HDN := Lib.hid hdlen
  have HD1 := Lib.hid hdone
  have hmsn := HLN.out
  clear hdp hdlen hdone hdown hb5 HDD HDE HJ4 l0 l1 l2 l3 x0 x1
  obtain ⟨bd, od, had, -, -⟩ := BoolS.at_ HD5.out HD1.out
  injection had with had
  subst had
  have hpr := prebuild_any (L := L) (A := A) (Am := Am) (Ad := some ⟨bd, od, none⟩) (B := w5.heap.size) (c := c) (cm := cm) (cd := L.disks) (ms := ms) (dead := dl) (e : Int) w5 HX.out HJ5.out.gs HJ5.out.mv HWF.out HD5.out (Nat.le_refl _) (by omega) (by rw [HDN.out]; omega)
  rw [planL_reb HX.out.ok HOK.out (d := (e : Int)) HDN.out, HDN.out] at hpr
  have hsm := reb_small HX.out.ok HOK.out (e : Int) dl
  have hcs := reb_cases (L := L) (ms := ms) hed HD1.out
  unfold layAgg at hpr
  obtain ⟨⟨ts, er⟩, hres⟩ : ∃ res, rebL L ms (e : Int) dl = res := ⟨_, rfl⟩
  simp only [hres] at hpr hsm hcs
  have HPR := Lib.hid hpr
  have HCS := Lib.hid hcs
  have HS1 := Lib.hid (Nat.le_trans hsm.1 HX.out.ok.G)
  clear hpr hsm hres hcs
  obtain ⟨l0, l1, l2, l3⟩ := HJ5.out.lay.cells
  go_wp2_with fail
  refine HPR.out.mono ?_
  rintro r w7 ⟨⟨v7, rfl, ht7⟩, hb7⟩
  obtain ⟨A7, c7, rfl⟩ := ht7.form
  have HT7 : Hid (LtS w0 X L A c Am ms A7 ts bd od dl w7) := ⟨HJ5.out.below hb7, ht7.reads, (RdS.below' HD5.out hb7 (Nat.le_refl _)).more hb7.size⟩
  clear ht7 hb7 HPR HJ5 HD5 l0 l1 l2 l3
  rcases HCS.out with ⟨hne, rfl⟩ | ⟨rfl, fin, hrb⟩
  · have f1 : (er != 0) = true := by simpa using hne
    have f2 : (er == 0) = false := by simpa using hne
    have HE := Lib.hid (HB0.out.trans (HT7.out.bel.mono HB0.out.size))
    simp only [List.length_nil]
    clear hne HCS
    go_wp2
    go_ret
    exact ⟨rfl, HE.out⟩
  have hml := moves_law HX.out.ok HOK.out (d := e) (by rw [HD1.out]; rfl) hrb
  have HFO := Lib.hid hml.1
  have HFN := Lib.hid hml.2.1
  have HFW := Lib.hid hml.2.2
  have HRB := Lib.hid hrb
  have HIS : Hid (∀ x ∈ onL L ms (e : Int), isP L x.1 x.2 = true) := fun x hx => on_isP x hx
  have hts := HS1.out
  clear hml hrb HCS
  have hz : OwS (w7.alloc (.cells #[] 62)) w7.heap.size 62 4 (.slice (some ⟨w7.heap.size, 0, none⟩) 0 0) [] := OwS.lit (by simp) (heap_alloc_new w7 _) rfl rfl (by decide) (Nat.le_refl _)
  have hrr : MvS (w7.alloc (.cells #[] 62)) w7.heap.size Am ms := RdS.below' HT7.out.mv below_laid (Nat.le_refl _)
  have HZ := Lib.hid hz
  have HRR := Lib.hid hrr
  clear hz hrr
  go_wp2_with (at_builtin; refine wpList_apS rfl (.tmp 46) (.tmp 47) _ rfl elemMv rfl HZ.out w7.heap.size _ _ cm (ms.map Mv.cells) rfl HRR.out (by simp) (fun r hr => by obtain ⟨m, -, rfl⟩ := List.mem_map.1 hr; exact Mv.one m) (by simp [maxLen]; omega) (by simp; omega) (by simp) ?_)
  rintro v8 w8 hown8 hg8 -
  have hb8 : Below w7.heap.size w7 w8 := ((Below.refl w7.heap.size w7).alloc (Nat.le_refl _) _).grown hg8 (by simp) (fun k h => (HZ.out.lt h).1)
  obtain ⟨A8, c8, rfl, -, -⟩ := hown8.form
  rw [List.length_map] at hown8 ⊢
  have HT8 := Lib.hid (HT7.out.below hb8)
  have H0 : Hid (MvR L ms dl ts fin w8 (.slice A8 ms.length c8) (.int .i64 0) w8) := ⟨0, _, ms, A8, c8, by omega, rfl, rfl, (OwS.rds hown8).2, HOK.out, by omega, HIS.out, HRB.out, Below.refl _ _⟩
  clear hown8 hg8 hb8 HZ HRR HT7 HRB HIS
  go_wp2
  go_loopw [13, 14] (fun s13 s14 wr => MvR L ms dl ts fin w8 s13 s14 wr) (fun _ s14 _ => ts.length - (intOf s14).toNat)
  case atStart => exact H0.out
  case round =>
    clear H0
    obtain ⟨i, r, now, An, cn, hi, rfl, rfl, hmn, hokn, hnl, hir, hrb, hb⟩ := hrel
    have HMN := Lib.hid hmn
    have HKN := Lib.hid hokn
    have HIR := Lib.hid hir
    have HRB := Lib.hid hrb
    have HBI := Lib.hid hb
    have HTI := Lib.hid (HT8.out.below hb)
    clear hmn hokn hir hrb hb
    by_cases hit : i < ts.length
    case pos =>
      have hiI : (i : Int) < (ts.length : Int) := by omega
      obtain ⟨t, ht⟩ := at_some hit
      have hdr : ts.drop i = t :: ts.drop (i + 1) := by
        obtain ⟨h1, h2⟩ := List.getElem?_eq_some_iff.1 ht
        rw [List.drop_eq_getElem_cons h1, h2]
      have hrb := HRB.out
      rw [hdr] at hrb
      obtain ⟨r', hr', hch, hrb2⟩ := reb_cons hrb
      have hip := HIR.out (t.g, t.p) (by rw [hr']; simp)
      have HIR2 : Hid (∀ x ∈ r', isP L x.1 x.2 = true) := fun x hx => HIR.out x (by rw [hr']; simp [hx])
      obtain ⟨b1, o1, Af, cf, rfl, -, hrf, x0, x1, x2, x3, x4⟩ := HTI.out.tk.at_ ht
      obtain ⟨g, p, fr, ⟨td, tb⟩⟩ := t
      simp only at x0 x1 x2 x3 x4 hch hrb2 hip
      have HRB2 := Lib.hid hrb2
      have hfa := fits_apply HX.out.ok HKN.out (i := (p : Int)) hip hch
      have HFO2 := Lib.hid hfa.2
      have hwt : PlWf ⟨td, tb⟩ := toOk_wf HX.out (choose_spec hch).1
      have hsa := sApply_any (L := L) (A := A) (Am := An) (B := wr.heap.size) (c := c) (cm := cn) (ms := now) ⟨g, p, ⟨td, tb⟩⟩
      have happ : appR L now ⟨g, p, ⟨td, tb⟩⟩ = (withM now ⟨g, p, ⟨td, tb⟩⟩, 0) := by
        unfold appR
        rw [if_neg (by rw [ok_valid HKN.out]; decide)]
        exact hfa.1
      have HWL := Lib.hid (withM_len now ⟨g, p, ⟨td, tb⟩⟩)
      have HAC : Hid (∀ W, Below wr.heap.size wr W → Calls Tryz.prog 24 #[.agg #[.int .i64 (L.disks : Int), .slice A L.n c, .int .i64 (L.tiles : Int), .int .i64 (L.spare : Int)], .slice An now.length cn, .agg #[.int .i64 (g : Int), .int .i64 (p : Int), .int .i64 td, .int .i64 tb]] W fun r w' => ∃ An' cn', r = .returned (.tuple #[.slice An' (withM now ⟨g, p, ⟨td, tb⟩⟩).length cn', .int .i64 0]) ∧ MvS w' w'.heap.size An' (withM now ⟨g, p, ⟨td, tb⟩⟩) ∧ Below wr.heap.size wr w') := fun W hW => by
        have h := hsa W HX.out (HTI.out.gs.below hW (Nat.le_refl _)) (RdS.below' HMN.out hW (Nat.le_refl _)) (wf_mvs HX.out HKN.out) hwt hW.size (by omega)
        rw [happ] at h
        unfold layAgg Mv.agg at h
        exact h.mono fun r w' h => by
          obtain ⟨⟨v, hr, ho⟩, hb⟩ := h
          obtain ⟨An', cn', e, -, -⟩ := ho.form
          subst e
          rw [List.length_map] at ho hr
          exact ⟨An', cn', hr, (OwS.rds ho).2, hW.trans (hb.mono hW.size)⟩
      obtain ⟨l0, l1, l2, l3⟩ := HTI.out.lay.cells
      clear hrf ht hdr hrb hr' hch hrb2 hip hfa hwt hsa happ x2
      go_wp2_with fail
      go_upto_region 15 with (fail)
      go_cut [12, 13] (fun s12 s13 wx => ∃ An' cn', s12 = .int .i64 0 ∧ s13 = .slice An' (withM now ⟨g, p, ⟨td, tb⟩⟩).length cn' ∧ MvS wx wx.heap.size An' (withM now ⟨g, p, ⟨td, tb⟩⟩) ∧ Below wr.heap.size wr wx)
      case first =>
        refine wp_region_any (by kernel_rfl) ?_
        (try change wpAny _ _ _ _ _ _ _ (World.drew _))
        refine any_head 0 18 (fuel := 6) (by kernel_rfl) ?_
        simp only [List.take_succ_cons, List.take_zero, List.drop_succ_cons, List.drop_zero]
        repeat (go_big_quiet_step (fail))
        refine wpQuiet_nil ?_
        intro wq hwq
        have hbq : Below wr.heap.size wr wq := by
          obtain ⟨nq, rfl⟩ := hwq
          exact below_drewN (Below.refl _ _).drew _
        clear hwq
        refine wpAny_ready (rs := [18]) (by kernel_rfl) (by simp) (AllReady.cons rfl (fun K hK => ?_) AllReady.nil)
        (go_simp; go_wp2_with (go_at_call 24; ((with_reducible refine (HAC.out _ hbq).mono ?_); rintro r wA ⟨An', cn', rfl, hownA, hbA⟩)))
        (try refine hK _ _ ?_)
        (try clear hK K)
        (try simp only [List.getElem_toArray, List.getElem_cons_zero, List.getElem_cons_succ, Act.put, List.setIfInBounds_toArray, List.set_cons_zero, List.set_cons_succ])
        refine wpAny_take (i := 19) (v := ?_) rfl (by kernel_rfl) (by kernel_rfl) (by kernel_rfl) (fun _ _ _ h => h) (Or.inl ⟨by rfl, ?_⟩) ?_
        rotate_left
        · (intro W; go_simp; try with_reducible rfl)
        simp only [List.getElem_toArray, List.getElem_cons_zero, List.getElem_cons_succ, Act.put, List.setIfInBounds_toArray, List.set_cons_zero, List.set_cons_succ]
        refine wpAny_take (i := 20) (v := ?_) rfl (by kernel_rfl) (by kernel_rfl) (by kernel_rfl) (fun _ _ _ h => h) (Or.inl ⟨by rfl, ?_⟩) ?_
        rotate_left
        · (intro W; go_simp; try with_reducible rfl)
        simp only [List.getElem_toArray, List.getElem_cons_zero, List.getElem_cons_succ, Act.put, List.setIfInBounds_toArray, List.set_cons_zero, List.set_cons_succ]
        refine wpAny_take (i := 21) (v := ?_) rfl (by kernel_rfl) (by kernel_rfl) (by kernel_rfl) (fun _ _ _ h => h) (Or.inl ⟨by rfl, ?_⟩) ?_
        rotate_left
        · (intro W; go_simp; try with_reducible rfl)
        simp only [List.getElem_toArray, List.getElem_cons_zero, List.getElem_cons_succ, Act.put, List.setIfInBounds_toArray, List.set_cons_zero, List.set_cons_succ]
        refine wpAny_take (i := 22) (v := ?_) rfl (by kernel_rfl) (by kernel_rfl) (by kernel_rfl) (fun _ _ _ h => h) (Or.inl ⟨by rfl, ?_⟩) ?_
        rotate_left
        · (intro W; go_simp; try with_reducible rfl)
        simp only [List.getElem_toArray, List.getElem_cons_zero, List.getElem_cons_succ, Act.put, List.setIfInBounds_toArray, List.set_cons_zero, List.set_cons_succ]
        refine wpAny_take (i := 23) (v := ?_) rfl (by kernel_rfl) (by kernel_rfl) (by kernel_rfl) (fun _ _ _ h => h) (Or.inl ⟨by rfl, ?_⟩) ?_
        rotate_left
        · (intro W; go_simp; try with_reducible rfl)
        simp only [List.getElem_toArray, List.getElem_cons_zero, List.getElem_cons_succ, Act.put, List.setIfInBounds_toArray, List.set_cons_zero, List.set_cons_succ]
        refine wpAny_done (by kernel_rfl) ?_ _
        go_wp2_with fail
        go_meet
        exact ⟨An', cn', rfl, rfl, hownA, hbA⟩
      obtain ⟨An', cn', rfl, rfl, hmx, hbx⟩ := hcut
      have HMX := Lib.hid hmx
      have HBX := Lib.hid (HBI.out.trans (hbx.mono HBI.out.size))
      clear hmx hbx HAC l0 l1 l2 l3 x0 x1 x3 x4
      go_wp2
      go_roundw
      case rel => exact ⟨i + 1, r', _, An', cn', by omega, by go_num, rfl, HMX.out, HFO2.out, by have := HWL.out; omega, HIR2.out, HRB2.out, HBX.out⟩
      case measure => simp [intOf] <;> omega
    case neg =>
      have hiI : ¬ (i : Int) < (ts.length : Int) := by omega
      have hrb := HRB.out
      rw [List.drop_eq_nil_of_le (by omega)] at hrb
      obtain rfl := reb_nil hrb
      have HVC := Lib.hid (fun (W : World) (h : Below wr.heap.size wr W) => r22valid (L := L) (A := A) (Am := An) (B := wr.heap.size) (c := c) (cm := cn) (ms := now) W HX.out (HTI.out.gs.below h (Nat.le_refl _)) (RdS.below' HMN.out h (Nat.le_refl _)) h.size (by omega))
      have HOC := Lib.hid (fun (W : World) (h : Below wr.heap.size wr W) => r22on (L := L) (A := A) (Am := An) (B := wr.heap.size) (c := c) (cm := cn) (ms := now) (e : Int) W HX.out (HTI.out.gs.below h (Nat.le_refl _)) (RdS.below' HMN.out h (Nat.le_refl _)) h.size (by omega))
      have HGC := Lib.hid (fun (W : World) => r21groups (L := L) (A := A) (c := c) W HX.out)
      have HWC := Lib.hid (fun (W : World) (h : Below wr.heap.size wr W) => r21width (L := L) (A := A) (B := wr.heap.size) (c := c) W HX.out (HTI.out.gs.below h (Nat.le_refl _)) h.size)
      have HW1 := Lib.hid (fun (g i : Nat) (hg : g < L.G) (hi : i < L.w) (W : World) (h : Below wr.heap.size wr W) => r22where (L := L) (A := A) (Am := Am) (B := wr.heap.size) (c := c) (cm := cm) (ms := ms) g i W HX.out (HTI.out.gs.below h (Nat.le_refl _)) (RdS.below' HTI.out.mv h (Nat.le_refl _)) h.size hg hi (by omega))
      have HW2 := Lib.hid (fun (g i : Nat) (hg : g < L.G) (hi : i < L.w) (W : World) (h : Below wr.heap.size wr W) => r22where (L := L) (A := A) (Am := An) (B := wr.heap.size) (c := c) (cm := cn) (ms := now) g i W HX.out (HTI.out.gs.below h (Nat.le_refl _)) (RdS.below' HMN.out h (Nat.le_refl _)) h.size hg hi (by omega))
      unfold layAgg at HVC HOC HGC HWC HW1 HW2
      rw [ok_valid HFO.out] at HVC
      rw [HFN.out] at HOC
      have hGb := HX.out.ok.G
      have hwb := HX.out.ok.w
      clear hrb HRB HIR
      obtain ⟨wo, rfl⟩ : ∃ wo : World, wo = wr := ⟨_, rfl⟩
      obtain ⟨l0, l1, l2, l3⟩ := HTI.out.lay.cells
      go_wp2_with fail
      refine (HVC.out wo (Below.refl _ _)).mono ?_
      rintro r w9 ⟨rfl, hb9⟩
      have HB9 := Lib.hid hb9
      obtain ⟨l0, l1, l2, l3⟩ := (HTI.out.below hb9).lay.cells
      clear hb9
      go_wp2_with fail
      refine (HOC.out w9 HB9.out).mono ?_
      rintro r w10 ⟨⟨v10, rfl, ho10⟩, hb10⟩
      obtain ⟨A10, c10, rfl, -, -⟩ := ho10.form
      have HB10 := Lib.hid (HB9.out.trans (hb10.mono HB9.out.size))
      simp only [List.map_nil, List.length_nil]
      clear ho10 hb10 HB9 HVC HOC l0 l1 l2 l3
      go_wp2
      go_loopw [15] (fun s15 wr => CntR L.G w10 s15 wr) (fun s15 _ => L.G - (intOf s15).toNat)
      case atStart => exact ⟨0, by omega, rfl, Below.refl _ _⟩
      case round =>
        obtain ⟨g, hg, rfl, hb⟩ := hrel
        have HBG := Lib.hid (HB10.out.trans (hb.mono HB10.out.size))
        have HBR := Lib.hid hb
        obtain ⟨l0, l1, l2, l3⟩ := (HTI.out.below HBG.out).lay.cells
        clear hb
        go_wp2_with fail
        refine (HGC.out wr).mono ?_
        rintro r w11 ⟨rfl, hb11⟩
        have HB11 := Lib.hid (HBG.out.trans (hb11.mono HBG.out.size))
        have HBR11 := Lib.hid (HBR.out.trans (hb11.mono HBR.out.size))
        clear hb11 HBG HBR l0 l1 l2 l3
        obtain ⟨wp, rfl⟩ : ∃ wp : World, wp = wr := ⟨_, rfl⟩
        by_cases hgG : g < L.G
        case neg =>
          have hgI : ¬ (g : Int) < (L.G : Int) := by omega
          have HE := Lib.hid (HB0.out.trans ((HTI.out.below HB11.out).bel.mono HB0.out.size))
          go_wp2
          go_ret
          exact ⟨rfl, HE.out⟩
        case pos =>
          have hgI : (g : Int) < (L.G : Int) := by omega
          go_wp2
          go_loopw [16] (fun s16 wr => CntR L.w w11 s16 wr) (fun s16 _ => L.w - (intOf s16).toNat)
          case atStart => exact ⟨0, by omega, rfl, Below.refl _ _⟩
          case round =>
            obtain ⟨k, hk, rfl, hb⟩ := hrel
            have HBK := Lib.hid (HB11.out.trans (hb.mono HB11.out.size))
            have HBR := Lib.hid hb
            obtain ⟨l0, l1, l2, l3⟩ := (HTI.out.below HBK.out).lay.cells
            clear hb
            go_wp2_with fail
            refine (HWC.out wr HBK.out).mono ?_
            rintro r w12 ⟨rfl, hb12⟩
            have HB12 := Lib.hid (HBK.out.trans (hb12.mono HBK.out.size))
            have HBR12 := Lib.hid (HBR.out.trans (hb12.mono HBR.out.size))
            have HT12 := Lib.hid (HTI.out.below HB12.out)
            clear hb12 HBK HBR l0 l1 l2 l3
            by_cases hkw : k < L.w
            case neg =>
              have hkI : ¬ (k : Int) < (L.w : Int) := by omega
              have HBE := Lib.hid (HBR11.out.trans (HBR12.out.mono HBR11.out.size))
              go_wp2
              go_roundw
              case rel => exact ⟨g + 1, by omega, by go_num, HBE.out⟩
              case measure => simp [intOf] <;> omega
            case pos =>
              have hkI : (k : Int) < (L.w : Int) := by omega
              have h1 := fun W h => HW1.out g k hgG hkw W h
              have h2 := fun W h => HW2.out g k hgG hkw W h
              have h3 := HFW.out g k
              obtain ⟨⟨wd, wb⟩, hwl⟩ : ∃ t, whereL L ms (g : Int) (k : Int) = t := ⟨_, rfl⟩
              rw [hwl] at h1 h3
              unfold Plc.agg at h1 h2
              simp only at h3
              have H1 := Lib.hid h1
              have H2 := Lib.hid h2
              have H3 := Lib.hid h3
              clear h1 h2 h3 hwl
              obtain ⟨l0, l1, l2, l3⟩ := HT12.out.lay.cells
              go_wp2_with fail
              refine (H1.out w12 HB12.out).mono ?_
              rintro r w13 ⟨rfl, hb13⟩
              have HB13 := Lib.hid (HB12.out.trans (hb13.mono HB12.out.size))
              have HBR13 := Lib.hid (HBR12.out.trans (hb13.mono HBR12.out.size))
              clear hb13 HB12 HBR12 HT12 l0 l1 l2 l3
              go_upto_region 27 with (fail)
              generalize hW14 : w13.alloc _ = w14
              have hb14 : Below w13.heap.size w13 w14 := by rw [← hW14]; exact below_laid
              have HP14 : Hid (PlB w14 w13.heap.size ⟨wd, wb⟩) := by rw [← hW14]; exact heap_alloc_new w13 _
              have HB14 := Lib.hid (HB13.out.trans (hb14.mono HB13.out.size))
              have HBR14 := Lib.hid (HBR13.out.trans (hb14.mono HBR13.out.size))
              have HT14 := Lib.hid (HTI.out.below HB14.out)
              clear hW14 hb14 HB13 HBR13
              generalize w13.heap.size = Y at *
              have X14 := fun d xs => (HT14.out.below (below_regrown w14 d xs)).lay.cells
              have Y14 := fun d xs => (HP14.out.below (below_regrown w14 d xs) HP14.out.lt).cells
              by_cases hwd : wd = (e : Int)
              case pos =>
                subst hwd
                have f1 : ((e : Int) != (e : Int)) = false := by simp
                refine quiet_below (by kernel_rfl) (by kernel_rfl) ?_
                repeat (go_big_quiet_step (fail))
                refine wpQuiet_nil ?_
                intro w15 hb15
                have HB15 := Lib.hid (HBR14.out.trans (hb15.mono HBR14.out.size))
                clear X14 Y14 hb15
                go_wp2
                go_roundw
                case rel => exact ⟨k + 1, by omega, by go_num, HB15.out⟩
                case measure => simp [intOf] <;> omega
              case neg =>
                have f1 : (wd != (e : Int)) = true := by simpa using hwd
                have f2 : (wd == (e : Int)) = false := by simpa using hwd
                have h2 := H2.out
                rw [H3.out hwd] at h2
                have KH := Lib.hid (fun d xs => h2 (Sort.grow (redrawn w14 d) xs) (HB14.out.trans ((below_regrown w14 d xs).mono HB14.out.size)))
                clear h2 hwd
                refine quiet_below (by kernel_rfl) (by kernel_rfl) ?_
                repeat (go_big_quiet_step (first | (go_at_call 23; exact Calls.regrown_of (KH.out _ _))))
                refine wpQuiet_nil ?_
                intro w15 hb15
                have HB15 := Lib.hid (HBR14.out.trans (hb15.mono HBR14.out.size))
                clear X14 Y14 KH hb15
                go_wp2
                go_roundw
                case rel => exact ⟨k + 1, by omega, by go_num, HB15.out⟩
                case measure => simp [intOf] <;> omega
end Go.Proofs.YteglnekkkhpikaaGreat
