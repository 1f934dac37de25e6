/- Walk of tegulalaw23.PlanErrors. -/
import Derived.Test.YteglnekkkhpikaaGreatLpT
namespace Go.Proofs.YteglnekkkhpikaaGreat
open Go.RowKit

/-- a task that a literal lays, with one piece to compute from -/
theorem lit_task1 (W : World) (a g p : Nat) (b d : Int) : TskS ((W.alloc (.cells #[.int .i64 (a : Int)] 3)).alloc (.cells #[.int .i64 (g : Int), .int .i64 (p : Int), .slice (some ⟨W.heap.size, 0, none⟩) 1 1, .int .i64 d, .int .i64 b] 52)) (W.heap.size + 1 + 1) (some ⟨W.heap.size + 1, 0, none⟩) [⟨g, p, [a], ⟨d, b⟩⟩] := by
  have h1 : OwS ((W.alloc (.cells #[.int .i64 (a : Int)] 3)).alloc (.cells #[.int .i64 (g : Int), .int .i64 (p : Int), .slice (some ⟨W.heap.size, 0, none⟩) 1 1, .int .i64 d, .int .i64 b] 52)) W.heap.size 3 1 (.slice (some ⟨W.heap.size, 0, none⟩) 1 1) (natR [a]) := (OwS.lit (w := W.alloc (.cells #[.int .i64 (a : Int)] 3)) (base := W.heap.size) (rows := natR [a]) (by simp [natR]) (heap_alloc_new W _) rfl rfl (by simp [natR, maxLen]) (Nat.le_refl _)).alloc _
  have h2 := heap_alloc_new (W.alloc (.cells #[.int .i64 (a : Int)] 3)) (.cells #[.int .i64 (g : Int), .int .i64 (p : Int), .slice (some ⟨W.heap.size, 0, none⟩) 1 1, .int .i64 d, .int .i64 b] 52)
  have hz : (W.alloc (.cells #[.int .i64 (a : Int)] 3)).heap.size = W.heap.size + 1 := by simp
  rw [hz] at h2
  have h3 := OwS.lit (base := W.heap.size) (size := 5) (rows := [[.int .i64 (g : Int), .int .i64 (p : Int), .slice (some ⟨W.heap.size, 0, none⟩) 1 1, .int .i64 d, .int .i64 b]]) (n := 1) (by simp) h2 rfl rfl (by decide) (Nat.le_succ _)
  have e1 := h1.reads
  have e2 := h3.reads
  simp only [World.size_alloc] at e1 e2
  refine ⟨[(some ⟨W.heap.size, 0, none⟩, 1)], rfl, e2, fun i q t hq ht => ?_⟩
  match i, hq, ht with
  | 0, hq, ht =>
    simp at hq ht
    subst hq ht
    exact e1
/-- .. with none -/
theorem lit_task0 (W : World) (g p : Nat) (b d : Int) : TskS (W.alloc (.cells #[.int .i64 (g : Int), .int .i64 (p : Int), .slice none 0 0, .int .i64 d, .int .i64 b] 52)) (W.heap.size + 1) (some ⟨W.heap.size, 0, none⟩) [⟨g, p, [], ⟨d, b⟩⟩] := by
  have h3 := OwS.lit (base := W.heap.size) (size := 5) (rows := [[.int .i64 (g : Int), .int .i64 (p : Int), .slice none 0 0, .int .i64 d, .int .i64 b]]) (n := 1) (by simp) (heap_alloc_new W (.cells #[.int .i64 (g : Int), .int .i64 (p : Int), .slice none 0 0, .int .i64 d, .int .i64 b] 52)) rfl rfl (by decide) (Nat.le_refl _)
  have e2 := h3.reads
  simp only [World.size_alloc] at e2
  refine ⟨[(none, 0)], rfl, e2, fun i q t hq ht => ?_⟩
  match i, hq, ht with
  | 0, hq, ht =>
    simp at hq ht
    subst hq ht
    exact RdS.nil _ _ _ _
theorem RdS.tail1 {w : World} {B b off : Nat} {r : List Value} {rows : List (List Value)} (h : RdS w B 1 (some ⟨b, off, none⟩) (r :: rows)) : RdS w B 1 (some ⟨b, off + 1, none⟩) rows := by
  refine ⟨fun x hx => h.1 x (by simp [hx]), fun hn => ?_⟩
  obtain ⟨b', o', e, hb, hc⟩ := h.2 (by simp)
  cases e
  refine ⟨b, off + 1, rfl, hb, fun i x hx j v hv => ?_⟩
  have := hc (i + 1) x (by simpa using hx) j v hv
  rw [show off + (i + 1) * 1 + j = off + 1 + i * 1 + j by omega] at this
  exact this
/-- the errors of a rebuild and of a load with no dead disk and no task -/
theorem errs_of {L : LayD} {ms : List Mv} {d : Int} : planL L ms d (List.replicate L.disks false) = ([], if validM L ms = false then 1 else if (decide (0 ≤ d) && decide (d < (L.disks : Int))) = false then 2 else 8) ∧ loadL L ms d [] = (0, if validM L ms = false then 1 else if (decide (0 ≤ d) && decide (d < (L.disks : Int))) = false then 2 else 0) := by
  have hr : (List.replicate L.disks false)[d.toNat]?.getD false = false := by
    rw [List.getElem?_replicate]
    split <;> rfl
  unfold planL loadL
  rw [hr]
  cases validM L ms with
  | false => simp
  | true =>
    by_cases h : (decide (0 ≤ d) && decide (d < (L.disks : Int))) = false
    · simp only [h, List.length_replicate, List.all_nil, Bool.and_true, decide_true, if_true, Bool.true_eq_false, if_false]
      simp [sumT]
    · simp only [h, List.length_replicate, List.all_nil, Bool.and_true, decide_true, if_true, Bool.true_eq_false, if_false]
      simp [sumT]
theorem load_bad {L : LayD} {ms : List Mv} {d : Int} {t : Tsk} (h : okTk L t = false) : loadL L ms d [t] = (0, 1) := by
  unfold loadL
  rw [if_pos (by simp [h])]
set_option maxHeartbeats 8000000 in
set_option maxRecDepth 100000 in
theorem planerrors_any (n : Nat) (hn : n < 65536) (ms : List Mv) (Am : Option Addr) (cm : Nat) (d : Int) (w : World) (hM : MvS w w.heap.size Am ms) (hwf : ∀ m ∈ ms, PlWf m.to) :
    Calls Tryz.prog 4 #[.int .u16 (n : Int), .slice Am ms.length cm, .int .i64 d] w fun r w' => r = .returned (.bool true) ∧ Below w.heap.size w w' := by
  have HA := Lib.hid (fun W => awakeP_any W)
  have HSM := Lib.hid (fun W => small_any n hn W)
  have HX : Hid (LayX (smallL n)) := small_layX n
  have HM := Lib.hid hM
  have HWF := Lib.hid hwf
  clear hM hwf
  by_cases h20 : 12 < ms.length
  · have h20I : (12 : Int) < (ms.length : Int) := by omega
    go_enter Tryz.func4, Tryz.ntmps4
    go_wp2_with fail
    refine (HA.out _).mono ?_
    rintro r w1 ⟨rfl, hb1⟩
    have hb : Below w.heap.size w w1 := hb1
    go_wp2
    go_ret
    exact ⟨rfl, hb⟩
  have h20I : ¬ (12 : Int) < (ms.length : Int) := by omega
  have HSL := Lib.hid (fun (w0 w1 w2 : World) (r : Ending) (hb : Below w0.heap.size w0 w1) (h : SmlP n w1 r w2) => small_laid hb h)
  unfold layAgg at HSL
  generalize SmlP n = SP at HSM HSL
  clear hn
  obtain ⟨L, hL⟩ : ∃ L, smallL n = L := ⟨_, rfl⟩
  rw [hL] at HX HSL
  have hdk := HX.out.ok.disks
  have hw16 := HX.out.ok.w
  have hG := HX.out.ok.G
  clear hL
  have hmk : ∀ W : World, (Instr.makeSlice 35 (.int .i64 (L.disks : Int)) (.int .i64 (L.disks : Int))).run Tryz.prog W = .ok (.slice (some ⟨W.heap.size, 0, none⟩) L.disks L.disks) (W.alloc (.cells (madeCells #[.bool false] L.disks) 4)) := fun W => make_boolsS W L.disks (by omega)
  have HMD := Lib.hid (fun W => made_falses W L.disks (by omega))
  have HER := Lib.hid (errs_of (L := L) (ms := ms) (d := d))
  go_enter Tryz.func4, Tryz.ntmps4
  go_wp2_with fail
  refine (HA.out w).mono ?_
  rintro r w1 ⟨rfl, hb1⟩
  have HB1 := Lib.hid hb1
  clear hb1 HA
  go_wp2_with fail
  refine (HSM.out w1).mono ?_
  rintro r w2 hsm
  obtain ⟨A, c, rfl, -, hi3⟩ := HSL.out w w1 w2 r HB1.out hsm
  have HI3 := Lib.hid hi3
  clear hsm hi3 HSL HSM HB1
  go_upto_region 6 with (fail)
  generalize w2.alloc _ = w3 at *
  generalize w2.heap.size = X at *
  have HJ3 : Hid (LwJ w X L A c Am ms w3) := ⟨HI3.out, HI3.out.rd HM.out⟩
  clear HI3 HM
  obtain ⟨l0, l1, l2, l3⟩ := HJ3.out.lay.cells
  go_upto_region 7 with (fail)
  generalize hW4 : w3.alloc _ = w4
  have HJ4 : Hid (LwJ w X L A c Am ms w4) := by rw [← hW4]; exact Lib.hid (HJ3.out.below below_laid)
  have hd4 : OwS w4 w3.heap.size 4 1 (.slice (some ⟨w3.heap.size, 0, none⟩) L.disks L.disks) (rowsB (List.replicate L.disks false)) := by rw [← hW4]; exact HMD.out w3
  have HD4 : Hid (BoolS w4 w4.heap.size (some ⟨w3.heap.size, 0, none⟩) (List.replicate L.disks false)) := hd4.reads
  clear hW4 hd4 HJ3 HMD l0 l1 l2 l3 hmk
  generalize w3.heap.size = D at *
  have hlr : (List.replicate L.disks false).length = L.disks := by simp
  have hpr := prebuild_any (L := L) (A := A) (Am := Am) (Ad := some ⟨D, 0, none⟩) (B := w4.heap.size) (c := c) (cm := cm) (cd := L.disks) (ms := ms) (dead := List.replicate L.disks false) d w4 HX.out HJ4.out.gs HJ4.out.mv HWF.out HD4.out (Nat.le_refl _) (by omega) (by rw [hlr]; omega)
  rw [HER.out.1, hlr] at hpr
  have hld := fun (W : World) (h : LwJ w X L A c Am ms W) => pload_any (L := L) (A := A) (Am := Am) (At := none) (B := W.heap.size) (c := c) (cm := cm) (ct := 0) (ms := ms) (ts := []) d W HX.out h.gs h.mv HWF.out ⟨[], rfl, RdS.nil _ _ _ _, fun i p t hp => by simp at hp⟩ (Nat.le_refl _) (by omega) (by simp) (by simp)
  rw [HER.out.2] at hld
  unfold layAgg at hpr hld
  obtain ⟨ea, hea⟩ : ∃ ea, (if validM L ms = false then (1 : Int) else if (decide (0 ≤ d) && decide (d < (L.disks : Int))) = false then 2 else 8) = ea := ⟨_, rfl⟩
  obtain ⟨eb, heb⟩ : ∃ eb, (if validM L ms = false then (1 : Int) else if (decide (0 ≤ d) && decide (d < (L.disks : Int))) = false then 2 else 0) = eb := ⟨_, rfl⟩
  rw [hea] at hpr
  rw [heb] at hld
  have HPR := Lib.hid hpr
  have HLD := Lib.hid hld
  have HEA := Lib.hid hea
  have HEB := Lib.hid heb
  clear hpr hld hea heb HER
  obtain ⟨l0, l1, l2, l3⟩ := HJ4.out.lay.cells
  go_wp2_with fail
  refine HPR.out.mono ?_
  rintro r w5 ⟨⟨v5, rfl, ht5⟩, hb5⟩
  obtain ⟨A5, c5, rfl⟩ := ht5.form
  have HJ5 := Lib.hid (HJ4.out.below hb5)
  have HD5 : Hid (BoolS w5 w5.heap.size (some ⟨D, 0, none⟩) (List.replicate L.disks false)) := (RdS.below' HD4.out hb5 (Nat.le_refl _)).more hb5.size
  simp only [List.length_nil]
  clear ht5 hb5 HPR HJ4 HD4 l0 l1 l2 l3
  obtain ⟨l0, l1, l2, l3⟩ := HJ5.out.lay.cells
  go_wp2_with fail
  refine (HLD.out w5 HJ5.out).mono ?_
  rintro r w6 ⟨rfl, hb6⟩
  have HJ6 := Lib.hid (HJ5.out.below hb6)
  have HD6 : Hid (BoolS w6 w6.heap.size (some ⟨D, 0, none⟩) (List.replicate L.disks false)) := (RdS.below' HD5.out hb6 (Nat.le_refl _)).more hb6.size
  clear hb6 HLD HJ5 HD5 l0 l1 l2 l3
  have HKS : Hid (∀ W, Below w6.heap.size w6 W → (W.cell? ⟨X, 0, none⟩ = some (.int .i64 (L.disks : Int)) ∧ W.cell? ⟨X, 1, none⟩ = some (.slice A L.n c) ∧ W.cell? ⟨X, 2, none⟩ = some (.int .i64 (L.tiles : Int)) ∧ W.cell? ⟨X, 3, none⟩ = some (.int .i64 (L.spare : Int)))) := fun W hW => (HJ6.out.below hW).lay.cells
  have HCW : Hid (∀ W, Below w6.heap.size w6 W → Calls Tryz.prog 17 #[.agg #[.int .i64 (L.disks : Int), .slice A L.n c, .int .i64 (L.tiles : Int), .int .i64 (L.spare : Int)]] W fun r w' => r = .returned (.int .i64 (L.w : Int)) ∧ Below w6.heap.size w6 w') := fun W hW => by
    have h := r21width (L := L) (A := A) (B := W.heap.size) (c := c) W HX.out (HJ6.out.below hW).gs (Nat.le_refl _)
    unfold layAgg at h
    exact h.mono fun r w' h => ⟨h.1, hW.trans (h.2.mono hW.size)⟩
  have HCL : Hid (∀ W, Below w6.heap.size w6 W → Calls Tryz.prog 16 #[.agg #[.int .i64 (L.disks : Int), .slice A L.n c, .int .i64 (L.tiles : Int), .int .i64 (L.spare : Int)], .slice Am ms.length cm, .slice (some ⟨W.heap.size + 1, 0, none⟩) 1 1, .int .i64 0] ((W.alloc (.cells #[.int .i64 (L.w : Int)] 3)).alloc (.cells #[.int .i64 0, .int .i64 0, .slice (some ⟨W.heap.size, 0, none⟩) 1 1, .int .i64 0, .int .i64 0] 52)) fun r w' => r = .returned (.tuple #[.int .i64 0, .int .i64 1]) ∧ Below w6.heap.size w6 w') := fun W hW => by
    have hb2 : Below W.heap.size W ((W.alloc (.cells #[.int .i64 (L.w : Int)] 3)).alloc (.cells #[.int .i64 0, .int .i64 0, .slice (some ⟨W.heap.size, 0, none⟩) 1 1, .int .i64 0, .int .i64 0] 52)) := below_two W _ _
    have hJ := (HJ6.out.below hW).below hb2
    have hT := lit_task1 W L.w 0 0 0 0
    have h := pload_any (L := L) (A := A) (Am := Am) (At := some ⟨W.heap.size + 1, 0, none⟩) (B := W.heap.size + 1 + 1) (c := c) (cm := cm) (ct := 1) (ms := ms) (ts := [⟨0, 0, [L.w], ⟨0, 0⟩⟩]) 0 _ HX.out (by have := hJ.gs; simpa using this) (by have := hJ.mv; simpa using this) HWF.out hT (by simp) (by omega) (by simp) (by simp)
    rw [load_bad (by unfold okTk isP; simp)] at h
    unfold layAgg at h
    exact h.mono fun r w' h => ⟨h.1, hW.trans ((hb2.trans (h.2.mono hb2.size)).mono hW.size)⟩
  go_upto_region 9 with (fail)
  go_cut [14] (fun s14 wx => s14 = .int .i64 1 ∧ Below w6.heap.size w6 wx)
  case first =>
    go_region_held3 (fun W => W.cell? ⟨X, 0, none⟩ = some (.int .i64 (L.disks : Int)) ∧ W.cell? ⟨X, 1, none⟩ = some (.slice A L.n c) ∧ W.cell? ⟨X, 2, none⟩ = some (.int .i64 (L.tiles : Int)) ∧ W.cell? ⟨X, 3, none⟩ = some (.int .i64 (L.spare : Int)))
      (first | with_reducible exact HKS.out _ (Below.refl w6.heap.size w6) | with_reducible exact HKS.out _ (Below.refl w6.heap.size w6).drew | with_reducible exact HKS.out _ hbA | with_reducible exact HKS.out _ (hbA.alloc hbA.size _) | with_reducible exact HKS.out _ ((hbA.alloc hbA.size _).alloc (Nat.le_trans hbA.size (by simp)) _) | with_reducible exact HKS.out _ hbB | (trace_state; fail))
      (first
        | (go_at_call 17; first
          | ((with_reducible refine (HCW.out _ (Below.refl w6.heap.size w6)).mono ?_); rintro r wA ⟨rfl, hbA⟩)
          | ((with_reducible refine (HCW.out _ (Below.refl w6.heap.size w6).drew).mono ?_); rintro r wA ⟨rfl, hbA⟩)
          | (trace_state; fail))
        | (go_at_call 16; first
          | ((with_reducible refine (HCL.out _ hbA).mono ?_); rintro r wB ⟨rfl, hbB⟩)
          | (trace_state; fail))
        | fail)
    all_goals
      go_wp2_with fail
      go_meet
      exact ⟨rfl, hbB⟩
  obtain ⟨rfl, hbc⟩ := hcut
  have HJ7 := Lib.hid (HJ6.out.below hbc)
  have HD7 : Hid (BoolS wc wc.heap.size (some ⟨D, 0, none⟩) (List.replicate L.disks false)) := (RdS.below' HD6.out hbc (Nat.le_refl _)).more hbc.size
  clear hbc HKS HCW HCL HJ6 HD6
  generalize wc = w7 at *
  have HKS : Hid (∀ W, Below w7.heap.size w7 W → (W.cell? ⟨X, 0, none⟩ = some (.int .i64 (L.disks : Int)) ∧ W.cell? ⟨X, 1, none⟩ = some (.slice A L.n c) ∧ W.cell? ⟨X, 2, none⟩ = some (.int .i64 (L.tiles : Int)) ∧ W.cell? ⟨X, 3, none⟩ = some (.int .i64 (L.spare : Int)))) := fun W hW => (HJ7.out.below hW).lay.cells
  have HCG : Hid (∀ W, Below w7.heap.size w7 W → Calls Tryz.prog 18 #[.agg #[.int .i64 (L.disks : Int), .slice A L.n c, .int .i64 (L.tiles : Int), .int .i64 (L.spare : Int)]] W fun r w' => r = .returned (.int .i64 (L.G : Int)) ∧ Below w7.heap.size w7 w') := fun W hW => by
    have h := r21groups (L := L) (A := A) (c := c) W HX.out
    unfold layAgg at h
    exact h.mono fun r w' h => ⟨h.1, hW.trans (h.2.mono hW.size)⟩
  have HCL : Hid (∀ W, Below w7.heap.size w7 W → Calls Tryz.prog 16 #[.agg #[.int .i64 (L.disks : Int), .slice A L.n c, .int .i64 (L.tiles : Int), .int .i64 (L.spare : Int)], .slice Am ms.length cm, .slice (some ⟨W.heap.size, 0, none⟩) 1 1, .int .i64 0] (W.alloc (.cells #[.int .i64 (L.G : Int), .int .i64 0, .slice none 0 0, .int .i64 0, .int .i64 0] 52)) fun r w' => r = .returned (.tuple #[.int .i64 0, .int .i64 1]) ∧ Below w7.heap.size w7 w') := fun W hW => by
    have hb2 : Below W.heap.size W (W.alloc (.cells #[.int .i64 (L.G : Int), .int .i64 0, .slice none 0 0, .int .i64 0, .int .i64 0] 52)) := below_laid
    have hJ := (HJ7.out.below hW).below hb2
    have hT := lit_task0 W L.G 0 0 0
    have h := pload_any (L := L) (A := A) (Am := Am) (At := some ⟨W.heap.size, 0, none⟩) (B := W.heap.size + 1) (c := c) (cm := cm) (ct := 1) (ms := ms) (ts := [⟨L.G, 0, [], ⟨0, 0⟩⟩]) 0 _ HX.out (by have := hJ.gs; simpa using this) (by have := hJ.mv; simpa using this) HWF.out hT (by simp) (by omega) (by simp) (by simp)
    rw [load_bad (by unfold okTk isP; simp)] at h
    unfold layAgg at h
    exact h.mono fun r w' h => ⟨h.1, hW.trans ((hb2.trans (h.2.mono hb2.size)).mono hW.size)⟩
  go_upto_region 10 with (fail)
  go_cut [16] (fun s16 wx => s16 = .int .i64 1 ∧ Below w7.heap.size w7 wx)
  case first =>
    go_region_held3 (fun W => W.cell? ⟨X, 0, none⟩ = some (.int .i64 (L.disks : Int)) ∧ W.cell? ⟨X, 1, none⟩ = some (.slice A L.n c) ∧ W.cell? ⟨X, 2, none⟩ = some (.int .i64 (L.tiles : Int)) ∧ W.cell? ⟨X, 3, none⟩ = some (.int .i64 (L.spare : Int)))
      (first | with_reducible exact HKS.out _ (Below.refl w7.heap.size w7) | with_reducible exact HKS.out _ (Below.refl w7.heap.size w7).drew | with_reducible exact HKS.out _ hbA | with_reducible exact HKS.out _ (hbA.alloc hbA.size _) | with_reducible exact HKS.out _ hbB | (trace_state; fail))
      (first
        | (go_at_call 18; first
          | ((with_reducible refine (HCG.out _ (Below.refl w7.heap.size w7)).mono ?_); rintro r wA ⟨rfl, hbA⟩)
          | ((with_reducible refine (HCG.out _ (Below.refl w7.heap.size w7).drew).mono ?_); rintro r wA ⟨rfl, hbA⟩)
          | (trace_state; fail))
        | (go_at_call 16; first
          | ((with_reducible refine (HCL.out _ hbA).mono ?_); rintro r wB ⟨rfl, hbB⟩)
          | (trace_state; fail))
        | fail)
    all_goals
      go_wp2_with fail
      go_meet
      exact ⟨rfl, hbB⟩
  obtain ⟨rfl, hbc⟩ := hcut
  have HJ8 := Lib.hid (HJ7.out.below hbc)
  have HD8 : Hid (BoolS wc wc.heap.size (some ⟨D, 0, none⟩) (List.replicate L.disks false)) := (RdS.below' HD7.out hbc (Nat.le_refl _)).more hbc.size
  clear hbc HKS HCG HCL HJ7 HD7
  generalize wc = w8 at *
  have HDT : Hid (∀ W, Below w8.heap.size w8 W → BoolS W W.heap.size (some ⟨D, 1, none⟩) (List.replicate (L.disks - 1) false)) := fun W hW => by
    have h := (RdS.below' HD8.out hW (Nat.le_refl _)).more hW.size
    have e : List.replicate L.disks false = false :: List.replicate (L.disks - 1) false := by
      rw [← List.replicate_succ]
      congr 1
      omega
    rw [e] at h
    exact RdS.tail1 h
  have hcap : ¬ L.disks = 1 := by omega
  have hc1 : (1 : Int) ≤ (L.disks : Int) := by omega
  have hc2 : (L.disks : Int) ≤ (L.disks : Int) := by omega
  obtain ⟨l0, l1, l2, l3⟩ := HJ8.out.lay.cells
  go_upto_region 11 with (fail)
  have HRC : Hid (∀ W, Below w8.heap.size w8 W → Calls Tryz.prog 12 #[.agg #[.int .i64 (L.disks : Int), .slice A L.n c, .int .i64 (L.tiles : Int), .int .i64 (L.spare : Int)], .slice none 0 0, .int .i64 0, .slice (some ⟨D, 1, none⟩) (L.disks - 1) (L.disks - 1)] W fun r w' => (∃ A9 c9, r = .returned (.tuple #[.slice A9 0 c9, .int .i64 1])) ∧ Below w8.heap.size w8 w') := fun W hW => by
    have h := prebuild_any (L := L) (A := A) (Am := none) (Ad := some ⟨D, 1, none⟩) (B := W.heap.size) (c := c) (cm := 0) (cd := L.disks - 1) (ms := []) (dead := List.replicate (L.disks - 1) false) 0 W HX.out (HJ8.out.below hW).gs (RdS.nil _ _ _ _) (by simp) (HDT.out W hW) (Nat.le_refl _) (by simp) (by simp; omega)
    have hp : planL L [] 0 (List.replicate (L.disks - 1) false) = ([], 1) := by
      unfold planL
      rw [if_pos]
      rw [Bool.and_eq_false_iff]
      right
      simp
      omega
    rw [hp, List.length_replicate] at h
    unfold layAgg at h
    refine h.mono ?_
    rintro r w' ⟨⟨v, rfl, ho⟩, hb⟩
    obtain ⟨A9, c9, rfl⟩ := ho.form
    exact ⟨⟨A9, c9, rfl⟩, hW.trans (hb.mono hW.size)⟩
  go_cut [18] (fun s18 wx => s18 = .int .i64 1 ∧ Below w8.heap.size w8 wx)
  case first =>
    refine wp_region_any (by kernel_rfl) ?_
    (try change wpAny _ _ _ _ _ _ _ (World.drew _))
    refine any_head 0 3 (fuel := 6) (by kernel_rfl) ?_
    simp only [List.take_succ_cons, List.take_zero, List.drop_succ_cons, List.drop_zero]
    repeat (go_big_quiet_step (fail))
    refine wpQuiet_nil ?_
    intro wq hwq
    have hbq : Below w8.heap.size w8 wq := by
      obtain ⟨nq, rfl⟩ := hwq
      exact below_drewN (Below.refl _ _).drew _
    clear hwq
    refine wpAny_ready (rs := [3]) (by kernel_rfl) (by simp) (AllReady.cons rfl (fun K hK => ?_) AllReady.nil)
    (go_simp; go_wp2_with (go_at_call 12; ((with_reducible refine (HRC.out _ hbq).mono ?_); rintro r wA ⟨⟨A9, c9, rfl⟩, hbA⟩)))
    (try refine hK _ _ ?_)
    (try clear hK K)
    (try simp only [List.getElem_toArray, List.getElem_cons_zero, List.getElem_cons_succ, Act.put, List.setIfInBounds_toArray, List.set_cons_zero, List.set_cons_succ])
    refine wpAny_take (i := 4) (v := ?_) rfl (by kernel_rfl) (by kernel_rfl) (by kernel_rfl) (fun _ _ _ h => h) (Or.inl ⟨by rfl, ?_⟩) ?_
    rotate_left
    · (intro W; go_simp; try with_reducible rfl)
    simp only [List.getElem_toArray, List.getElem_cons_zero, List.getElem_cons_succ, Act.put, List.setIfInBounds_toArray, List.set_cons_zero, List.set_cons_succ]
    refine wpAny_take (i := 5) (v := ?_) rfl (by kernel_rfl) (by kernel_rfl) (by kernel_rfl) (fun _ _ _ h => h) (Or.inl ⟨by rfl, ?_⟩) ?_
    rotate_left
    · (intro W; go_simp; try with_reducible rfl)
    simp only [List.getElem_toArray, List.getElem_cons_zero, List.getElem_cons_succ, Act.put, List.setIfInBounds_toArray, List.set_cons_zero, List.set_cons_succ]
    refine wpAny_take (i := 6) (v := ?_) rfl (by kernel_rfl) (by kernel_rfl) (by kernel_rfl) (fun _ _ _ h => h) (Or.inl ⟨by rfl, ?_⟩) ?_
    rotate_left
    · (intro W; go_simp; try with_reducible rfl)
    simp only [List.getElem_toArray, List.getElem_cons_zero, List.getElem_cons_succ, Act.put, List.setIfInBounds_toArray, List.set_cons_zero, List.set_cons_succ]
    refine wpAny_take (i := 7) (v := ?_) rfl (by kernel_rfl) (by kernel_rfl) (by kernel_rfl) (fun _ _ _ h => h) (Or.inl ⟨by rfl, ?_⟩) ?_
    rotate_left
    · (intro W; go_simp; try with_reducible rfl)
    simp only [List.getElem_toArray, List.getElem_cons_zero, List.getElem_cons_succ, Act.put, List.setIfInBounds_toArray, List.set_cons_zero, List.set_cons_succ]
    refine wpAny_take (i := 8) (v := ?_) rfl (by kernel_rfl) (by kernel_rfl) (by kernel_rfl) (fun _ _ _ h => h) (Or.inl ⟨by rfl, ?_⟩) ?_
    rotate_left
    · (intro W; go_simp; try with_reducible rfl)
    simp only [List.getElem_toArray, List.getElem_cons_zero, List.getElem_cons_succ, Act.put, List.setIfInBounds_toArray, List.set_cons_zero, List.set_cons_succ]
    refine wpAny_done (by kernel_rfl) ?_ _
    go_wp2_with fail
    go_meet
    exact ⟨rfl, hbA⟩
  obtain ⟨rfl, hbc⟩ := hcut
  have HJ9 := Lib.hid (HJ8.out.below hbc)
  clear hbc HRC HDT HD8 HJ8 l0 l1 l2 l3 hcap hc1 hc2
  generalize wc = w9 at *
  have HZC := Lib.hid (fun W => prebuild_zero W)
  have HZS := Lib.hid (fun W => pshare_zero W)
  go_wp2_with fail
  refine (HZC.out w9).mono ?_
  rintro r w10 ⟨rfl, hb10⟩
  have HJ10 := Lib.hid (HJ9.out.below hb10)
  clear hb10 HZC HJ9
  obtain ⟨lam, hl1, hdes⟩ := HX.out.des
  have KZ := Lib.hid (fun d xs => HZS.out (Sort.grow (redrawn w10 d) xs))
  have hps := fun (d : Nat) (xs : Array Obj) => pshare_any (L := L) (A := A) (B := w10.heap.size) (c := c) (lam := lam) (Sort.grow (redrawn w10 d) xs) HX.out hl1 hdes (HJ10.out.gs.below (below_regrown w10 d xs) (Nat.le_refl _)) (below_regrown w10 d xs).size
  have hrs := fun (d : Nat) (xs : Array Obj) => r23share (L := L) (A := A) (B := w10.heap.size) (c := c) (lam := lam) (Sort.grow (redrawn w10 d) xs) HX.out hl1 hdes (HJ10.out.gs.below (below_regrown w10 d xs) (Nat.le_refl _)) (below_regrown w10 d xs).size
  unfold layAgg at hps hrs
  obtain ⟨sv, hsv⟩ : ∃ sv, shareV L lam = sv := ⟨_, rfl⟩
  simp only [hsv] at hps hrs
  have KP := Lib.hid hps
  have KR := Lib.hid hrs
  have hsv2 : ((sv : Int) != (sv : Int)) = false := by simp
  clear hps hrs hdes hsv hl1
  have X10 := fun d xs => (HJ10.out.below (below_regrown w10 d xs)).lay.cells
  go_upto_region 13 with (fail)
  refine quiet_below (by kernel_rfl) (by kernel_rfl) ?_
  repeat (go_big_quiet_step (first | (go_at_call 19; first | with_reducible exact Calls.regrown_of (KZ.out _ _) | with_reducible exact Calls.regrown_of (KP.out _ _)) | (go_at_call 20; exact Calls.regrown_of (KR.out _ _))))
  refine wpQuiet_nil ?_
  intro w11 hb11
  have HJ11 := Lib.hid (HJ10.out.below hb11)
  clear X10 KZ KP KR hb11 HZS HJ10 hsv2
  have hvc := r22valid (L := L) (A := A) (Am := Am) (B := w11.heap.size) (c := c) (cm := cm) (ms := ms) w11 HX.out HJ11.out.gs HJ11.out.mv (Nat.le_refl _) (by omega)
  unfold layAgg at hvc
  obtain ⟨vb, hvb⟩ : ∃ vb, validM L ms = vb := ⟨_, rfl⟩
  rw [hvb] at hvc HEA HEB
  have HVC := Lib.hid hvc
  clear hvc hvb
  obtain ⟨l0, l1, l2, l3⟩ := HJ11.out.lay.cells
  go_wp2_with fail
  refine HVC.out.mono ?_
  rintro r w12 ⟨rfl, hb12⟩
  have HJ12 := Lib.hid (HJ11.out.below hb12)
  have HE := Lib.hid HJ12.out.bel
  clear hb12 HVC HJ11 l0 l1 l2 l3
  obtain ⟨l0, l1, l2, l3⟩ := HJ12.out.lay.cells
  have hea := HEA.out
  have heb := HEB.out
  cases vb
  case false =>
    rw [if_pos rfl] at hea heb
    subst hea heb
    go_wp2
    go_ret
    exact ⟨rfl, HE.out⟩
  case true =>
    rw [if_neg (by simp)] at hea heb
    by_cases h1 : d < 0
    case pos =>
      have f0 : (decide (0 ≤ d) && decide (d < (L.disks : Int))) = false := by rw [Bool.and_eq_false_iff]; left; rw [decide_eq_false_iff_not]; omega
      rw [if_pos f0] at hea heb
      subst hea heb
      have f1 : decide (d < 0) = true := by rw [decide_eq_true_iff]; exact h1
      clear f0 h1
      go_wp2
      go_ret
      exact ⟨rfl, HE.out⟩
    case neg =>
      have f1 : decide (d < 0) = false := by rw [decide_eq_false_iff_not]; exact h1
      by_cases h2 : d < (L.disks : Int)
      case neg =>
        have f0 : (decide (0 ≤ d) && decide (d < (L.disks : Int))) = false := by rw [Bool.and_eq_false_iff]; right; rw [decide_eq_false_iff_not]; exact h2
        rw [if_pos f0] at hea heb
        subst hea heb
        have f2 : decide ((L.disks : Int) ≤ d) = true := by rw [decide_eq_true_iff]; omega
        clear f0 h1 h2
        go_wp2
        go_ret
        exact ⟨rfl, HE.out⟩
      case pos =>
        have f0 : (decide (0 ≤ d) && decide (d < (L.disks : Int))) = true := by rw [Bool.and_eq_true]; exact ⟨by rw [decide_eq_true_iff]; omega, by rw [decide_eq_true_iff]; exact h2⟩
        rw [if_neg (by rw [f0]; decide)] at hea heb
        subst hea heb
        have f2 : decide ((L.disks : Int) ≤ d) = false := by rw [decide_eq_false_iff_not]; omega
        clear f0 h1 h2
        go_wp2
        go_ret
        exact ⟨rfl, HE.out⟩
end Go.Proofs.YteglnekkkhpikaaGreat
