/- Walk of tegulalaw22.SpareValid. -/
import Derived.Test.YtkjjojmidhjjdaaLwS
import Derived.Test.YtkjjojmidhjjdaaOdC
import Derived.Deep.RegionHeld3
namespace Go.Proofs.Ytkjjojmidhjjdaa
open Go.RowKit

theorem isP_zero {L : LayD} (hx : LayX L) : isP L 0 0 = true := by
  have hG1 : 1 ≤ L.G := by unfold LayD.G; exact Nat.mul_pos hx.ok.tiles.1 hx.ok.n.1
  have hw := hx.ok.w
  unfold isP
  simp only [Bool.and_eq_true, decide_eq_true_eq]
  omega
theorem in_zero {L : LayD} (hx : LayX L) : (decide ((0 : Int) ≤ 0) && decide ((0 : Int) < (L.disks : Int))) = true := by
  have := hx.ok.disks
  rw [Bool.and_eq_true]
  exact ⟨by decide, by rw [decide_eq_true_iff]; omega⟩
/-- an error as the law wants it: ErrArg for invalid moves, else OK -/
def ErrV (res : Bool) (e : Int) : Prop := (res = false → e = 1) ∧ (res = true → e = 0)
theorem err_no : ErrV false 1 := ⟨fun _ => rfl, fun h => (by cases h)⟩
theorem err_yes : ErrV true 0 := ⟨fun h => (by cases h), fun _ => rfl⟩
theorem whe_err {L : LayD} {ms : List Mv} {r : Ending} (hx : LayX L) (h : WheP L ms 0 0 r) : ∃ (t : Plc) (e : Int), r = .returned (.tuple #[.agg #[.int .i64 t.disk, .int .i64 t.block], .int .i64 e]) ∧ ErrV (validM L ms) e := by
  rcases hv : validM L ms with _ | _
  · exact ⟨⟨0, 0⟩, 1, h.1 hv, err_no⟩
  · exact ⟨_, 0, h.2.2 hv (isP_zero hx), err_yes⟩
theorem odk_err {L : LayD} {ms : List Mv} {B : Nat} {w' : World} {r : Ending} (hx : LayX L) (h : OdkP L ms 0 B w' r) : ∃ (v : Value) (e : Int), r = .returned (.tuple #[v, .int .i64 e]) ∧ ErrV (validM L ms) e := by
  rcases hv : validM L ms with _ | _
  · exact ⟨_, 1, h.1 hv, err_no⟩
  · obtain ⟨v, ts, h1, -⟩ := h.2.2 hv (in_zero hx)
    exact ⟨v, 0, h1, err_yes⟩
theorem use_err {L : LayD} {ms : List Mv} {B : Nat} {w' : World} {r : Ending} (hx : LayX L) (h : UseP L ms 0 B w' r) : ∃ (v : Value) (e : Int), r = .returned (.tuple #[v, .int .i64 e]) ∧ ErrV (validM L ms) e := by
  rcases hv : validM L ms with _ | _
  · exact ⟨_, 1, h.1 hv, err_no⟩
  · obtain ⟨v, h1, -⟩ := h.2.2 hv (in_zero hx)
    exact ⟨v, 0, h1, err_yes⟩
theorem cho_err {L : LayD} {ms : List Mv} {dead : List Bool} (hx : LayX L) (hd : dead.length = L.disks) : (validM L ms = false → (choR L ms 0 dead).2 = 1) ∧ (validM L ms = true → (choR L ms 0 dead).2 ≠ 1) := by
  constructor
  · intro h
    unfold choR
    rw [if_pos (.inl h)]
  · intro h
    have hG1 : 1 ≤ L.G := by unfold LayD.G; exact Nat.mul_pos hx.ok.tiles.1 hx.ok.n.1
    unfold choR
    rw [if_neg (by rintro (h1 | h1); (rw [h] at h1; cases h1); exact h1 hd), if_neg]
    · split <;> simp
    · have : (decide ((0 : Int) ≤ 0) && decide ((0 : Int) < (L.G : Int))) = true := by rw [Bool.and_eq_true]; exact ⟨by decide, by rw [decide_eq_true_iff]; omega⟩
      rw [this]
      decide
theorem app_err {L : LayD} {ms : List Mv} (hx : LayX L) : (validM L ms = false → (appR L ms ⟨0, 0, ⟨-1, 0⟩⟩).2 = 1) ∧ (validM L ms = true → (appR L ms ⟨0, 0, ⟨-1, 0⟩⟩).2 ≠ 2) := by
  constructor
  · intro h
    unfold appR
    rw [if_pos h]
  · intro h
    unfold appR
    rw [if_neg (by rw [h]; decide)]
    unfold applyL
    rw [if_neg (by show ¬ isP L 0 0 = false; rw [isP_zero hx]; decide)]
    split
    · simp
    · split <;> simp
theorem cho_len {L : LayD} {dead : List Bool} (hd : dead.length ≠ L.disks) : choR L [] 0 dead = (⟨0, 0⟩, 1) := by
  unfold choR
  rw [if_pos (.inr hd)]
theorem two2 (w : World) (o1 o2 : Obj) : ((w.alloc o1).alloc o2).heap[w.heap.size + 1]? = some o2 := by
  have h := heap_alloc_new (w.alloc o1) o2
  have e : (w.alloc o1).heap.size = w.heap.size + 1 := by simp
  rw [e] at h
  exact h
theorem two1 (w : World) (o1 o2 : Obj) : ((w.alloc o1).alloc o2).heap[w.heap.size]? = some o1 :=
  ((below_laid (w := w.alloc o1) (o := o2)).block w.heap.size (by simp)).trans (heap_alloc_new w o1)
/-- made dead disks read as such -/
theorem made_bools {W : World} {b n : Nat} (h : W.heap[b]? = some (.cells (madeCells #[.bool false] n) 4)) (hn : n ≤ 1000) : BoolS W W.heap.size (some ⟨b, 0, none⟩) (List.replicate n false) := by
  have e : (List.replicate n false).map (fun b => [Value.bool b]) = List.replicate n [.bool false] := by simp
  have ho : OwS W 0 4 1 (.slice (some ⟨b, 0, none⟩) n n) ((List.replicate n false).map fun b => [.bool b]) := by
    refine OwS.lit ?_ h ?_ (by simp) (by simp [maxLen]; omega) (Nat.zero_le _)
    · rw [e]
      intro r hr
      rw [(List.mem_replicate.1 hr).2]
      rfl
    · rw [e, flat_rep, made_list]
  have h2 := ho.reads
  exact h2
set_option maxHeartbeats 8000000 in
set_option maxRecDepth 100000 in
theorem sparevalid_any (n : Nat) (hn : n < 65536) (ms : List Mv) (Am : Option Addr) (cm : Nat) (w : World) (hM : MvS w w.heap.size Am ms) (hwf : ∀ m ∈ ms, PlWf m.to) :
    Calls Try.prog 8 #[.int .u16 (n : Int), .slice Am ms.length cm] w fun r w' => r = .returned (.bool true) ∧ Below w.heap.size w w' := by
  have HA := Lib.hid (fun W => awake_any W)
  have HSM := Lib.hid (fun W => small_any n hn W)
  have HX : Hid (LayX (smallL n)) := small_layX n
  have HM := Lib.hid hM
  have HWF := Lib.hid hwf
  have HD13 : Hid ((smallL n).disks ≤ 13) := small_d13 n
  clear hM hwf
  by_cases h30 : 30 < ms.length
  · have h30I : (30 : Int) < (ms.length : Int) := by omega
    go_enter Try.func8, Try.ntmps8
    go_wp2_with fail
    refine (HA.out _).mono ?_
    rintro r w1 ⟨rfl, hb1⟩
    go_wp2
    go_ret
    exact ⟨rfl, hb1⟩
  have h30I : ¬ (30 : Int) < (ms.length : Int) := by omega
  have hln : ms.length ≤ 30 := by omega
  have HSL := Lib.hid (fun (w1 w2 : World) (r : Ending) (hb : Below w.heap.size w w1) (h : SmlP n w1 r w2) => small_laid hb h)
  unfold layAgg at HSL
  generalize SmlP n = SP at HSM HSL
  clear hn
  obtain ⟨L, hL⟩ : ∃ L, smallL n = L := ⟨_, rfl⟩
  rw [hL] at HX HSL HD13
  clear hL
  go_enter Try.func8, Try.ntmps8
  go_wp2_with fail
  refine (HA.out w).mono ?_
  rintro r w1 ⟨rfl, hb1⟩
  have HB1 := Lib.hid hb1
  clear hb1 HA
  go_wp2_with fail
  refine (HSM.out w1).mono ?_
  rintro r w2 hsm
  obtain ⟨A, c, rfl, -, hi3⟩ := HSL.out w1 w2 r HB1.out hsm
  have HI3 := Lib.hid hi3
  clear hsm hi3 HSL HSM HB1
  go_upto_region 6 with (fail)
  generalize w2.alloc _ = w4 at *
  generalize w2.heap.size = X at *
  have HJ4 : Hid (LwJ w X L A c Am ms w4) := ⟨HI3.out, HI3.out.rd HM.out⟩
  clear HI3
  have HKS : Hid (∀ W, Below w4.heap.size w4 W → (W.cell? ⟨X, 0, none⟩ = some (.int .i64 (L.disks : Int)) ∧ W.cell? ⟨X, 1, none⟩ = some (.slice A L.n c) ∧ W.cell? ⟨X, 2, none⟩ = some (.int .i64 (L.tiles : Int)) ∧ W.cell? ⟨X, 3, none⟩ = some (.int .i64 (L.spare : Int)))) := fun W hW => (HJ4.out.below hW).lay.cells
  have HCP : Hid (∀ W, Below w4.heap.size w4 W → Calls Try.prog 16 #[.slice Am ms.length cm] W fun r w' => (∃ A5 c5, r = .returned (.slice A5 ms.length c5) ∧ MvS w' w'.heap.size A5 ms) ∧ Below w4.heap.size w4 w') := fun W hW =>
    (copied_any (c := cm) W (HJ4.out.below hW).mv (Nat.le_refl _) (by omega)).mono fun r w' ⟨⟨v, h1, h2⟩, h3⟩ => by
      obtain ⟨A5, c5, rfl, -, -⟩ := h2.form
      rw [List.length_map] at h1 h2
      exact ⟨⟨A5, c5, h1, h2.reads⟩, hW.trans (h3.mono hW.size)⟩
  have HVC : Hid (∀ W Ax cx, Below w4.heap.size w4 W → MvS W W.heap.size Ax ms → Calls Try.prog 25 #[.agg #[.int .i64 (L.disks : Int), .slice A L.n c, .int .i64 (L.tiles : Int), .int .i64 (L.spare : Int)], .slice Ax ms.length cx] W fun r w' => r = .returned (.bool (validM L ms)) ∧ Below w4.heap.size w4 w') := fun W Ax cx hW hM =>
    (svalid_any (L := L) (A := A) (Am := Ax) (B := W.heap.size) (c := c) (cm := cx) (ms := ms) W HX.out (HJ4.out.below hW).gs hM HWF.out (Nat.le_refl _) (by omega)).mono fun r w' h => ⟨h.1, hW.trans (h.2.mono hW.size)⟩
  go_cut [6] (fun s6 wx => s6 = .bool (validM L ms) ∧ Below w4.heap.size w4 wx)
  case first =>
    go_region_held3 (fun W => W.cell? ⟨X, 0, none⟩ = some (.int .i64 (L.disks : Int)) ∧ W.cell? ⟨X, 1, none⟩ = some (.slice A L.n c) ∧ W.cell? ⟨X, 2, none⟩ = some (.int .i64 (L.tiles : Int)) ∧ W.cell? ⟨X, 3, none⟩ = some (.int .i64 (L.spare : Int)))
      (first | with_reducible exact HKS.out _ (Below.refl _ _) | with_reducible exact HKS.out _ (Below.refl _ _).drew | with_reducible exact HKS.out _ hb5 | with_reducible exact HKS.out _ hb6)
      (first
        | (go_at_call 16; first
          | ((with_reducible refine (HCP.out _ (Below.refl w4.heap.size w4).drew).mono ?_); rintro r w5 ⟨⟨A5, c5, rfl, hm5⟩, hb5⟩)
          | ((with_reducible refine (HCP.out _ (Below.refl w4.heap.size w4)).mono ?_); rintro r w5 ⟨⟨A5, c5, rfl, hm5⟩, hb5⟩))
        | (go_at_call 25; ((with_reducible refine (HVC.out _ _ _ hb5 hm5).mono ?_); rintro r w6 ⟨rfl, hb6⟩))
        | fail)
    all_goals
      go_wp2_with fail
      go_meet
      exact ⟨rfl, hb6⟩
  obtain ⟨rfl, hbc⟩ := hcut
  have HJ5 := Lib.hid (HJ4.out.below hbc)
  clear hbc HKS HCP HVC HJ4
  generalize wc = w5 at *
  have h7 := r22valid (L := L) (A := A) (Am := Am) (B := w5.heap.size) (c := c) (cm := cm) (ms := ms) w5 HX.out HJ5.out.gs HJ5.out.mv (Nat.le_refl _) (by omega)
  unfold layAgg at h7
  have H7 := Lib.hid h7
  have HEW := Lib.hid (fun (r : Ending) (h : WheP L ms 0 0 r) => whe_err HX.out h)
  have HEO := Lib.hid (fun (B : Nat) (w' : World) (r : Ending) (h : OdkP L ms 0 B w' r) => odk_err HX.out h)
  have HEU := Lib.hid (fun (B : Nat) (w' : World) (r : Ending) (h : UseP L ms 0 B w' r) => use_err HX.out h)
  have HEC := Lib.hid (fun (dead : List Bool) (h : dead.length = L.disks) => cho_err (ms := ms) HX.out h)
  have HEA := Lib.hid (app_err (ms := ms) HX.out)
  have hwh := fun (W : World) (h : LwJ w X L A c Am ms W) => sWhere_any (L := L) (A := A) (Am := Am) (B := W.heap.size) (c := c) (cm := cm) (ms := ms) 0 0 W HX.out h.gs h.mv HWF.out (Nat.le_refl _) (by omega)
  have hod := fun (W : World) (h : LwJ w X L A c Am ms W) => sOnDisk_any (L := L) (A := A) (Am := Am) (B := W.heap.size) (c := c) (cm := cm) (ms := ms) 0 W HX.out h.gs h.mv HWF.out (Nat.le_refl _) (by omega)
  have hus := fun (W : World) (h : LwJ w X L A c Am ms W) => sUsed_any (L := L) (A := A) (Am := Am) (B := W.heap.size) (c := c) (cm := cm) (ms := ms) 0 W HX.out h.gs h.mv HWF.out (Nat.le_refl _) (by omega)
  have hap := fun (W : World) (h : LwJ w X L A c Am ms W) => sApply_any (L := L) (A := A) (Am := Am) (B := W.heap.size) (c := c) (cm := cm) (ms := ms) ⟨0, 0, ⟨-1, 0⟩⟩ W HX.out h.gs h.mv HWF.out ⟨by decide, by decide⟩ (Nat.le_refl _) (by omega)
  have hch := fun (W : World) (b : Nat) (h : LwJ w X L A c Am ms W) (hb : W.heap[b]? = some (.cells (madeCells #[.bool false] L.disks) 4)) => sChoose_any (L := L) (A := A) (Am := Am) (Ad := some ⟨b, 0, none⟩) (B := W.heap.size) (c := c) (cm := cm) (cd := L.disks) (ms := ms) (dead := List.replicate L.disks false) 0 W HX.out h.gs h.mv HWF.out (made_bools hb (by have := HD13.out; omega)) (by have := HD13.out; rw [List.length_replicate]; omega) (Nat.le_refl _) (by omega)
  have hc2 := fun (W : World) (b : Nat) (h : LwJ w X L A c Am ms W) (hb : W.heap[b]? = some (.cells (madeCells #[.bool false] (L.disks + 1)) 4)) => sChoose_any (L := L) (A := A) (Am := none) (Ad := some ⟨b, 0, none⟩) (B := W.heap.size) (c := c) (cm := 0) (cd := L.disks + 1) (ms := []) (dead := List.replicate (L.disks + 1) false) 0 W HX.out h.gs (RdS.nil _ _ _ _) (by simp) (made_bools hb (by have := HD13.out; omega)) (by have := HD13.out; rw [List.length_replicate]; omega) (Nat.le_refl _) (by simp)
  rw [cho_len (by rw [List.length_replicate]; omega)] at hc2
  simp only [List.length_replicate] at hch hc2
  have hce := HEC.out (List.replicate L.disks false) (by simp)
  obtain ⟨⟨⟨pd, pb⟩, ed⟩, hcr⟩ : ∃ q, choR L ms 0 (List.replicate L.disks false) = q := ⟨_, rfl⟩
  rw [hcr] at hch hce
  obtain ⟨⟨ao, ae⟩, har⟩ : ∃ q, appR L ms ⟨0, 0, ⟨-1, 0⟩⟩ = q := ⟨_, rfl⟩
  rw [har] at hap HEA
  unfold layAgg at hwh hod hus hap hch hc2
  unfold Plc.agg at hch hc2
  unfold Mv.agg at hap
  simp only at hap hch hc2 hce
  have HCE := Lib.hid hce
  have HWH := Lib.hid hwh
  have HOD := Lib.hid hod
  have HUS := Lib.hid hus
  have HAP := Lib.hid hap
  have HCH := Lib.hid hch
  have HC2 := Lib.hid hc2
  obtain ⟨res, hres⟩ : ∃ res, validM L ms = res := ⟨_, rfl⟩
  rw [hres] at H7 HEW HEO HEU HCE HEA ⊢
  clear h7 hwh hod hus hap hch hc2 hce hcr har hres HEC
  obtain ⟨l0, l1, l2, l3⟩ := HJ5.out.lay.cells
  go_wp2_with fail
  refine H7.out.mono ?_
  rintro r w6 ⟨rfl, hb6⟩
  have HJ6 := Lib.hid (HJ5.out.below hb6)
  clear hb6 l0 l1 l2 l3 H7 HJ5
  obtain ⟨l0, l1, l2, l3⟩ := HJ6.out.lay.cells
  go_wp2_with fail
  refine (HWH.out w6 HJ6.out).mono ?_
  rintro r w7 ⟨hr7, hb7⟩
  obtain ⟨⟨qd, qb⟩, ea, rfl, hea⟩ := HEW.out r hr7
  have HJ7 := Lib.hid (HJ6.out.below hb7)
  have HEa := Lib.hid hea
  clear hr7 hea hb7 l0 l1 l2 l3 HWH HEW HJ6
  go_upto_region 10 with (fail)
  generalize hW8 : w7.alloc _ = w8
  have HJ8 : Hid (LwJ w X L A c Am ms w8) := by rw [← hW8]; exact Lib.hid (HJ7.out.below below_laid)
  generalize w7.heap.size = Y at *
  clear hW8 HJ7
  obtain ⟨l0, l1, l2, l3⟩ := HJ8.out.lay.cells
  go_wp2_with fail
  refine (HOD.out w8 HJ8.out).mono ?_
  rintro r w9 ⟨hr9, hb9⟩
  obtain ⟨v9, eb, rfl, heb⟩ := HEO.out _ _ r hr9
  have HJ9 := Lib.hid (HJ8.out.below hb9)
  have HEb := Lib.hid heb
  clear hr9 heb hb9 l0 l1 l2 l3 HOD HEO HJ8
  obtain ⟨l0, l1, l2, l3⟩ := HJ9.out.lay.cells
  go_wp2_with fail
  refine (HUS.out w9 HJ9.out).mono ?_
  rintro r w10 ⟨hr10, hb10⟩
  obtain ⟨v10, ec, rfl, hec⟩ := HEU.out _ _ r hr10
  have HJ10 := Lib.hid (HJ9.out.below hb10)
  have HEc := Lib.hid hec
  clear hr10 hec hb10 l0 l1 l2 l3 HUS HEU HJ9
  go_upto_region 12 with (fail)
  have hmk : ∀ W : World, (Instr.makeSlice 35 (.int .i64 (L.disks : Int)) (.int .i64 (L.disks : Int))).run Try.prog W = .ok (.slice (some ⟨W.heap.size, 0, none⟩) L.disks L.disks) (W.alloc (.cells (madeCells #[.bool false] L.disks) 4)) := fun W => make_boolsS W L.disks (by have := HD13.out; omega)
  have HKS : Hid (∀ W, Below w10.heap.size w10 W → (W.cell? ⟨X, 0, none⟩ = some (.int .i64 (L.disks : Int)) ∧ W.cell? ⟨X, 1, none⟩ = some (.slice A L.n c) ∧ W.cell? ⟨X, 2, none⟩ = some (.int .i64 (L.tiles : Int)) ∧ W.cell? ⟨X, 3, none⟩ = some (.int .i64 (L.spare : Int)))) := fun W hW => (HJ10.out.below hW).lay.cells
  have HCC : Hid (∀ (W : World) (b : Nat), Below w10.heap.size w10 W → W.heap[b]? = some (.cells (madeCells #[.bool false] L.disks) 4) → Calls Try.prog 13 #[.agg #[.int .i64 (L.disks : Int), .slice A L.n c, .int .i64 (L.tiles : Int), .int .i64 (L.spare : Int)], .slice Am ms.length cm, .int .i64 0, .slice (some ⟨b, 0, none⟩) L.disks L.disks] W fun r w' => r = .returned (.tuple #[.agg #[.int .i64 pd, .int .i64 pb], .int .i64 ed]) ∧ Below W.heap.size W w' ∧ Below w10.heap.size w10 w') := fun W b hW hb =>
    (HCH.out W b (HJ10.out.below hW) hb).mono fun r w' h => ⟨h.1, h.2, hW.trans (h.2.mono hW.size)⟩
  go_cut [14] (fun s14 wx => s14 = .int .i64 ed ∧ Below w10.heap.size w10 wx)
  case first =>
    go_region_held3 (fun W => W.cell? ⟨X, 0, none⟩ = some (.int .i64 (L.disks : Int)) ∧ W.cell? ⟨X, 1, none⟩ = some (.slice A L.n c) ∧ W.cell? ⟨X, 2, none⟩ = some (.int .i64 (L.tiles : Int)) ∧ W.cell? ⟨X, 3, none⟩ = some (.int .i64 (L.spare : Int)))
      (first | with_reducible exact HKS.out _ (Below.refl w10.heap.size w10) | with_reducible exact HKS.out _ (Below.refl w10.heap.size w10).drew | with_reducible exact HKS.out _ ((Below.refl w10.heap.size w10).alloc (Nat.le_refl _) _) | with_reducible exact HKS.out _ ((Below.refl w10.heap.size w10).alloc (Nat.le_refl _) _).drew | with_reducible exact HKS.out _ ((Below.refl w10.heap.size w10).drew.alloc (Nat.le_refl _) _) | with_reducible exact HKS.out _ (((Below.refl w10.heap.size w10).alloc (Nat.le_refl _) _).alloc (by simp) _) | with_reducible exact HKS.out _ (((Below.refl w10.heap.size w10).alloc (Nat.le_refl _) _).alloc (by simp) _).drew | with_reducible exact HKS.out _ (((Below.refl w10.heap.size w10).drew.alloc (Nat.le_refl _) _).alloc (by simp) _) | with_reducible exact HKS.out _ (((Below.refl w10.heap.size w10).alloc (Nat.le_refl _) _).drew.alloc (by simp) _) | with_reducible exact HKS.out _ hbB | with_reducible exact HKS.out _ (hbB.alloc hbB.size _) | with_reducible exact HKS.out _ ((hbB.setCell (Nat.le_refl _) _).setCell (Nat.le_refl _) _) | with_reducible exact HKS.out _ ((hbB.setCell (by simp) _).setCell (by simp) _) | (trace_state; fail))
      (first
        | (go_at_call 13; first
          | ((with_reducible refine (HCC.out _ _ ((Below.refl w10.heap.size w10).alloc (Nat.le_refl _) _).drew (heap_alloc_new w10 _)).mono ?_); rintro r wB ⟨rfl, hbQ, hbB⟩)
          | ((with_reducible refine (HCC.out _ _ ((Below.refl w10.heap.size w10).drew.alloc (Nat.le_refl _) _) (heap_alloc_new w10.drew _)).mono ?_); rintro r wB ⟨rfl, hbQ, hbB⟩)
          | ((with_reducible refine (HCC.out _ _ (((Below.refl w10.heap.size w10).alloc (Nat.le_refl _) _).alloc (by simp) _).drew (two1 w10 _ _)).mono ?_); rintro r wB ⟨rfl, hbQ, hbB⟩; have hz : PlB wB (w10.heap.size + 1) ⟨0, 0⟩ := (hbQ.block _ (by simp <;> omega)).trans (two2 w10 _ _); obtain ⟨y0, y1, g0, g1⟩ := hz.cells)
          | ((with_reducible refine (HCC.out _ _ (((Below.refl w10.heap.size w10).alloc (Nat.le_refl _) _).alloc (by simp) _).drew (two2 w10 _ _)).mono ?_); rintro r wB ⟨rfl, hbQ, hbB⟩; have hz : PlB wB (w10.heap.size) ⟨0, 0⟩ := (hbQ.block _ (by simp <;> omega)).trans (two1 w10 _ _); obtain ⟨y0, y1, g0, g1⟩ := hz.cells)
          | ((with_reducible refine (HCC.out _ _ (((Below.refl w10.heap.size w10).drew.alloc (Nat.le_refl _) _).alloc (by simp) _) (two1 w10.drew _ _)).mono ?_); rintro r wB ⟨rfl, hbQ, hbB⟩; have hz : PlB wB (w10.heap.size + 1) ⟨0, 0⟩ := (hbQ.block _ (by simp <;> omega)).trans (two2 w10.drew _ _); obtain ⟨y0, y1, g0, g1⟩ := hz.cells)
          | ((with_reducible refine (HCC.out _ _ (((Below.refl w10.heap.size w10).drew.alloc (Nat.le_refl _) _).alloc (by simp) _) (two2 w10.drew _ _)).mono ?_); rintro r wB ⟨rfl, hbQ, hbB⟩; have hz : PlB wB (w10.heap.size) ⟨0, 0⟩ := (hbQ.block _ (by simp <;> omega)).trans (two1 w10.drew _ _); obtain ⟨y0, y1, g0, g1⟩ := hz.cells)
          | ((with_reducible refine (HCC.out _ _ (((Below.refl w10.heap.size w10).alloc (Nat.le_refl _) _).drew.alloc (by simp) _) (two1 w10 _ _)).mono ?_); rintro r wB ⟨rfl, hbQ, hbB⟩; have hz : PlB wB (w10.heap.size + 1) ⟨0, 0⟩ := (hbQ.block _ (by simp <;> omega)).trans (two2 w10 _ _); obtain ⟨y0, y1, g0, g1⟩ := hz.cells)
          | ((with_reducible refine (HCC.out _ _ (((Below.refl w10.heap.size w10).alloc (Nat.le_refl _) _).drew.alloc (by simp) _) (two2 w10 _ _)).mono ?_); rintro r wB ⟨rfl, hbQ, hbB⟩; have hz : PlB wB (w10.heap.size) ⟨0, 0⟩ := (hbQ.block _ (by simp <;> omega)).trans (two1 w10 _ _); obtain ⟨y0, y1, g0, g1⟩ := hz.cells)
          | (trace_state; fail))
        | fail)
    all_goals
      go_wp2_with fail
      go_meet
      refine ⟨rfl, ?_⟩
      first
        | with_reducible exact hbB.alloc hbB.size _
        | with_reducible exact (hbB.setCell (Nat.le_refl _) _).setCell (Nat.le_refl _) _
        | with_reducible exact (hbB.setCell (by simp) _).setCell (by simp) _
  obtain ⟨rfl, hbc⟩ := hcut
  have HJ12 := Lib.hid (HJ10.out.below hbc)
  clear hbc HKS HCC hmk HCH HJ10
  generalize wc = w12 at *
  obtain ⟨l0, l1, l2, l3⟩ := HJ12.out.lay.cells
  go_wp2_with fail
  refine (HAP.out w12 HJ12.out).mono ?_
  rintro r w13 ⟨⟨v13, rfl, -⟩, hb13⟩
  have HJ13 := Lib.hid (HJ12.out.below hb13)
  clear hb13 l0 l1 l2 l3 HJ12 HAP
  go_upto_region 14 with (fail)
  have hsum : IntKind.i64.wrap ((L.disks : Int) + 1) = ((L.disks + 1 : Nat) : Int) := by rw [IntWalk.i64_in _ (by have := HD13.out; omega)]; omega
  have hmk : ∀ W : World, (Instr.makeSlice 35 (.int .i64 (L.disks + 1 : Nat)) (.int .i64 (L.disks + 1 : Nat))).run Try.prog W = .ok (.slice (some ⟨W.heap.size, 0, none⟩) (L.disks + 1) (L.disks + 1)) (W.alloc (.cells (madeCells #[.bool false] (L.disks + 1)) 4)) := fun W => make_boolsS W (L.disks + 1) (by have := HD13.out; omega)
  have HKS : Hid (∀ W, Below w13.heap.size w13 W → (W.cell? ⟨X, 0, none⟩ = some (.int .i64 (L.disks : Int)) ∧ W.cell? ⟨X, 1, none⟩ = some (.slice A L.n c) ∧ W.cell? ⟨X, 2, none⟩ = some (.int .i64 (L.tiles : Int)) ∧ W.cell? ⟨X, 3, none⟩ = some (.int .i64 (L.spare : Int)))) := fun W hW => (HJ13.out.below hW).lay.cells
  have HCD : Hid (∀ (W : World) (b : Nat), Below w13.heap.size w13 W → W.heap[b]? = some (.cells (madeCells #[.bool false] (L.disks + 1)) 4) → Calls Try.prog 13 #[.agg #[.int .i64 (L.disks : Int), .slice A L.n c, .int .i64 (L.tiles : Int), .int .i64 (L.spare : Int)], .slice none 0 0, .int .i64 0, .slice (some ⟨b, 0, none⟩) (L.disks + 1) (L.disks + 1)] W fun r w' => r = .returned (.tuple #[.agg #[.int .i64 0, .int .i64 0], .int .i64 1]) ∧ Below W.heap.size W w' ∧ Below w13.heap.size w13 w') := fun W b hW hb =>
    (HC2.out W b (HJ13.out.below hW) hb).mono fun r w' h => ⟨h.1, h.2, hW.trans (h.2.mono hW.size)⟩
  obtain ⟨dn, hdn⟩ : ∃ dn, L.disks + 1 = dn := ⟨_, rfl⟩
  rw [hdn] at hsum hmk HCD
  clear HC2
  go_cut [18] (fun s18 wx => s18 = .int .i64 1 ∧ Below w13.heap.size w13 wx)
  case first =>
    go_region_held3 (fun W => W.cell? ⟨X, 0, none⟩ = some (.int .i64 (L.disks : Int)) ∧ W.cell? ⟨X, 1, none⟩ = some (.slice A L.n c) ∧ W.cell? ⟨X, 2, none⟩ = some (.int .i64 (L.tiles : Int)) ∧ W.cell? ⟨X, 3, none⟩ = some (.int .i64 (L.spare : Int)))
      (first | with_reducible exact HKS.out _ (Below.refl w13.heap.size w13) | with_reducible exact HKS.out _ (Below.refl w13.heap.size w13).drew | with_reducible exact HKS.out _ ((Below.refl w13.heap.size w13).alloc (Nat.le_refl _) _) | with_reducible exact HKS.out _ ((Below.refl w13.heap.size w13).alloc (Nat.le_refl _) _).drew | with_reducible exact HKS.out _ ((Below.refl w13.heap.size w13).drew.alloc (Nat.le_refl _) _) | with_reducible exact HKS.out _ (((Below.refl w13.heap.size w13).alloc (Nat.le_refl _) _).alloc (by simp) _) | with_reducible exact HKS.out _ (((Below.refl w13.heap.size w13).alloc (Nat.le_refl _) _).alloc (by simp) _).drew | with_reducible exact HKS.out _ (((Below.refl w13.heap.size w13).drew.alloc (Nat.le_refl _) _).alloc (by simp) _) | with_reducible exact HKS.out _ (((Below.refl w13.heap.size w13).alloc (Nat.le_refl _) _).drew.alloc (by simp) _) | with_reducible exact HKS.out _ hbB | with_reducible exact HKS.out _ (hbB.alloc hbB.size _) | with_reducible exact HKS.out _ ((hbB.setCell (Nat.le_refl _) _).setCell (Nat.le_refl _) _) | with_reducible exact HKS.out _ ((hbB.setCell (by simp) _).setCell (by simp) _) | (trace_state; fail))
      (first
        | (go_at_call 13; first
          | ((with_reducible refine (HCD.out _ _ ((Below.refl w13.heap.size w13).alloc (Nat.le_refl _) _).drew (heap_alloc_new w13 _)).mono ?_); rintro r wB ⟨rfl, hbQ, hbB⟩)
          | ((with_reducible refine (HCD.out _ _ ((Below.refl w13.heap.size w13).drew.alloc (Nat.le_refl _) _) (heap_alloc_new w13.drew _)).mono ?_); rintro r wB ⟨rfl, hbQ, hbB⟩)
          | ((with_reducible refine (HCD.out _ _ (((Below.refl w13.heap.size w13).alloc (Nat.le_refl _) _).alloc (by simp) _).drew (two1 w13 _ _)).mono ?_); rintro r wB ⟨rfl, hbQ, hbB⟩; have hz : PlB wB (w13.heap.size + 1) ⟨0, 0⟩ := (hbQ.block _ (by simp <;> omega)).trans (two2 w13 _ _); obtain ⟨y0, y1, g0, g1⟩ := hz.cells)
          | ((with_reducible refine (HCD.out _ _ (((Below.refl w13.heap.size w13).alloc (Nat.le_refl _) _).alloc (by simp) _).drew (two2 w13 _ _)).mono ?_); rintro r wB ⟨rfl, hbQ, hbB⟩; have hz : PlB wB (w13.heap.size) ⟨0, 0⟩ := (hbQ.block _ (by simp <;> omega)).trans (two1 w13 _ _); obtain ⟨y0, y1, g0, g1⟩ := hz.cells)
          | ((with_reducible refine (HCD.out _ _ (((Below.refl w13.heap.size w13).drew.alloc (Nat.le_refl _) _).alloc (by simp) _) (two1 w13.drew _ _)).mono ?_); rintro r wB ⟨rfl, hbQ, hbB⟩; have hz : PlB wB (w13.heap.size + 1) ⟨0, 0⟩ := (hbQ.block _ (by simp <;> omega)).trans (two2 w13.drew _ _); obtain ⟨y0, y1, g0, g1⟩ := hz.cells)
          | ((with_reducible refine (HCD.out _ _ (((Below.refl w13.heap.size w13).drew.alloc (Nat.le_refl _) _).alloc (by simp) _) (two2 w13.drew _ _)).mono ?_); rintro r wB ⟨rfl, hbQ, hbB⟩; have hz : PlB wB (w13.heap.size) ⟨0, 0⟩ := (hbQ.block _ (by simp <;> omega)).trans (two1 w13.drew _ _); obtain ⟨y0, y1, g0, g1⟩ := hz.cells)
          | ((with_reducible refine (HCD.out _ _ (((Below.refl w13.heap.size w13).alloc (Nat.le_refl _) _).drew.alloc (by simp) _) (two1 w13 _ _)).mono ?_); rintro r wB ⟨rfl, hbQ, hbB⟩; have hz : PlB wB (w13.heap.size + 1) ⟨0, 0⟩ := (hbQ.block _ (by simp <;> omega)).trans (two2 w13 _ _); obtain ⟨y0, y1, g0, g1⟩ := hz.cells)
          | ((with_reducible refine (HCD.out _ _ (((Below.refl w13.heap.size w13).alloc (Nat.le_refl _) _).drew.alloc (by simp) _) (two2 w13 _ _)).mono ?_); rintro r wB ⟨rfl, hbQ, hbB⟩; have hz : PlB wB (w13.heap.size) ⟨0, 0⟩ := (hbQ.block _ (by simp <;> omega)).trans (two1 w13 _ _); obtain ⟨y0, y1, g0, g1⟩ := hz.cells)
          | (trace_state; fail))
        | fail)
    all_goals
      go_wp2_with fail
      go_meet
      refine ⟨rfl, ?_⟩
      first
        | with_reducible exact hbB.alloc hbB.size _
        | with_reducible exact (hbB.setCell (Nat.le_refl _) _).setCell (Nat.le_refl _) _
        | with_reducible exact (hbB.setCell (by simp) _).setCell (by simp) _
  obtain ⟨rfl, hbc⟩ := hcut
  have HJ14 := Lib.hid (HJ13.out.below hbc)
  clear hbc HKS HCD hmk hsum hdn HJ13
  generalize wc = w14 at *
  have HVZ := Lib.hid (svalid_zero w14)
  go_wp2_with fail
  refine HVZ.out.mono ?_
  rintro r w15 ⟨rfl, hb15⟩
  have HE := Lib.hid (HJ14.out.bel.trans (hb15.mono HJ14.out.bel.size))
  clear hb15 HVZ
  cases res
  · obtain rfl := HEa.out.1 rfl
    obtain rfl := HEb.out.1 rfl
    obtain rfl := HEc.out.1 rfl
    obtain rfl : ed = 1 := HCE.out.1 (by simp)
    obtain rfl : ae = 1 := HEA.out.1 (by simp)
    go_wp2
    go_ret
    exact ⟨rfl, HE.out⟩
  · obtain rfl := HEa.out.2 rfl
    obtain rfl := HEb.out.2 rfl
    obtain rfl := HEc.out.2 rfl
    have q1 : ed ≠ 1 := HCE.out.2 (by simp)
    have q2 : ae ≠ 2 := HEA.out.2 (by simp)
    have f1 : (ed == 1) = false := by simpa using q1
    have f2 : (ed != 1) = true := by simpa using q1
    have f3 : (ae == 2) = false := by simpa using q2
    have f4 : (ae != 2) = true := by simpa using q2
    go_wp2
    go_ret
    exact ⟨rfl, HE.out⟩
end Go.Proofs.Ytkjjojmidhjjdaa
