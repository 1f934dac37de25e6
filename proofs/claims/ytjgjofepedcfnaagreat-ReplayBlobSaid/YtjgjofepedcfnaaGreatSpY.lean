/- Walk of tegularef22.Valid. -/
import Derived.Test.YtjgjofepedcfnaaGreatGRd
namespace Go.Proofs.YtjgjofepedcfnaaGreat
open Go.RowKit
theorem valid_bad {L : LayD} {ms : List Mv} {i : Nat} {m : Mv} (hm : ms[i]? = some m) (h : ¬ StepOk L ms i m) : validM L ms = false := by
 rw [Bool.eq_false_iff]
 intro hv
 exact h ((valid_iff.1 hv).1 i m hm)
theorem valid_bad2 {L : LayD} {ms : List Mv} {i : Nat} {m : Mv} (hm : ms[i]? = some m) (h : ¬ apartL L ms m.g = true) : validM L ms = false := by
 rw [Bool.eq_false_iff]
 intro hv
 exact h ((valid_iff.1 hv).2 m (List.mem_of_getElem? hm))
theorem to_six (L : LayD) (m : Mv) : (isP L m.g m.p = false) ∨ (isP L m.g m.p = true ∧ m.to.disk < 0) ∨ (isP L m.g m.p = true ∧ ¬ m.to.disk < 0 ∧ (L.disks : Int) ≤ m.to.disk) ∨ (isP L m.g m.p = true ∧ ¬ m.to.disk < 0 ∧ ¬ (L.disks : Int) ≤ m.to.disk ∧ m.to.block < (L.homes : Int)) ∨
  (isP L m.g m.p = true ∧ ¬ m.to.disk < 0 ∧ ¬ (L.disks : Int) ≤ m.to.disk ∧ ¬ m.to.block < (L.homes : Int) ∧ (L.blocks : Int) ≤ m.to.block) ∨ (isP L m.g m.p = true ∧ ¬ m.to.disk < 0 ∧ ¬ (L.disks : Int) ≤ m.to.disk ∧ ¬ m.to.block < (L.homes : Int) ∧ ¬ (L.blocks : Int) ≤ m.to.block) := by
 cases isP L m.g m.p
 ·exact .inl rfl
 ·by_cases h1 : m.to.disk < 0
  ·exact .inr (.inl ⟨rfl, h1⟩)
  ·by_cases h2 : (L.disks : Int) ≤ m.to.disk
   ·exact .inr (.inr (.inl ⟨rfl, h1, h2⟩))
   ·by_cases h3 : m.to.block < (L.homes : Int)
    ·exact .inr (.inr (.inr (.inl ⟨rfl, h1, h2, h3⟩)))
    ·by_cases h4 : (L.blocks : Int) ≤ m.to.block
     ·exact .inr (.inr (.inr (.inr (.inl ⟨rfl, h1, h2, h3, h4⟩))))
     ·exact .inr (.inr (.inr (.inr (.inr ⟨rfl, h1, h2, h3, h4⟩))))
theorem toOk_iff {L : LayD} {t : Plc} : toOk L t = true ↔ ¬ t.disk < 0 ∧ ¬ (L.disks : Int) ≤ t.disk ∧ ¬ t.block < (L.homes : Int) ∧ ¬ (L.blocks : Int) ≤ t.block := by
 unfold toOk
 simp only [Bool.and_eq_true, decide_eq_true_eq]
 omega
def MvB (w : World) (X : Nat) (m : Mv) : Prop := w.heap[X]? = some (.cells #[.int .i64 m.g, .int .i64 m.p, .int .i64 m.to.disk, .int .i64 m.to.block] 89)
section
variable {w w' : World} {X : Nat} {m : Mv}
theorem MvB.cells (h : MvB w X m) : w.cell? ⟨X, 0, none⟩ = some (.int .i64 m.g) ∧ w.cell? ⟨X, 1, none⟩ = some (.int .i64 m.p) ∧ w.cell? ⟨X, 2, none⟩ = some (.int .i64 m.to.disk) ∧ w.cell? ⟨X, 3, none⟩ = some (.int .i64 m.to.block) :=
 ⟨by rw [cell_of_row _ _ _ _ _ _ h]; rfl, by rw [cell_of_row _ _ _ _ _ _ h]; rfl, by rw [cell_of_row _ _ _ _ _ _ h]; rfl, by rw [cell_of_row _ _ _ _ _ _ h]; rfl⟩
theorem MvB.lt (h : MvB w X m) : X < w.heap.size := (Array.getElem?_eq_some_iff.1 h).1
theorem MvB.below {C : Nat} (h : MvB w X m) (hb : Below C w w') (hC : X < C) : MvB w' X m := (hb.block _ hC).trans h
end
def Val1 (w0 : World) (L : LayD) (ms : List Mv) (X : Nat) (A : Option Addr) (c : Nat) (s5 : Value) (wr : World) : Prop :=
 ∃ i : Nat, i ≤ ms.length ∧ s5 = .int .i64 i ∧ (∀ (j : Nat) m, j < i → ms[j]? = some m → StepOk L ms j m) ∧ Below X w0 wr ∧ LayB wr X L A c
theorem field38 (k : IntKind) (x : Int) (b : Value) (W : World) : (Instr.field 87 (.agg #[.int k x, b]) 0).run Tryz.prog W = .ok (.int k x) W := by
 simp [go_sem, Instr.field, asAgg]
def Val9 (ms : List Mv) (i : Nat) (m : Mv) (res : Bool) (w : World) (L : LayD) (X M : Nat) (A : Option Addr) (c : Nat) (s : Value) (wx : World) : Prop :=
 ((s = .bool true ∧ res = false) ∨ (s = .bool false ∧ ∀ x, 0 < i → ms[i - 1]? = some x → ltM x m)) ∧ Below X w wx ∧ LayB wx X L A c ∧ MvB wx M m
def Val2 (ms : List Mv) (i : Nat) (m : Mv) (w : World) (L : LayD) (X M : Nat) (A : Option Addr) (c : Nat) (s : Value) (wx : World) : Prop :=
 ∃ k : Nat, k ≤ i ∧ s = .int .i64 k ∧ (∀ (j : Nat) x, j < k → ms[j]? = some x → x.to ≠ m.to) ∧ Below X w wx ∧ LayB wx X L A c ∧ MvB wx M m
set_option maxHeartbeats 8000000 in
set_option maxRecDepth 100000 in
theorem r22valid {L : LayD} {A Am : Option Addr} {B c cm : Nat} {ms : List Mv} (w : World) (hx : LayX L) (hv : GsV w B A L.gs) (hM : MvS w B Am ms) (hB : B ≤ w.heap.size) (hlen : ms.length ≤ 1000000) :
  Calls Tryz.prog 52 #[layAgg L A c, .slice Am ms.length cm] w fun r w' => r = .returned (.bool (validM L ms)) ∧ Below w.heap.size w w' := by
 have HV := Lib.hid hv
 have HM := Lib.hid hM
 have HBD := Lib.hid (fun i m hm h => valid_bad (L := L) (ms := ms) (i := i) (m := m) hm h)
 have HBD2 := Lib.hid (fun i m hm h => valid_bad2 (L := L) (ms := ms) (i := i) (m := m) hm h)
 have HGD := Lib.hid (fun h1 h2 => (valid_iff (L := L) (ms := ms)).2 ⟨h1, h2⟩)
 have HCV := Lib.hid (fun W hv hB => r21valid (L := L) (A := A) (B := B) (c := c) W hx hv hB)
 have HCI := Lib.hid (fun g p W hv hB => r21is (L := L) (A := A) (B := B) (c := c) g p W hx hv hB)
 have HCH := Lib.hid (fun W hv hB => r21homes (L := L) (A := A) (B := B) (c := c) W hx hv hB)
 have HCB := Lib.hid (fun W hv hB => r21blocks (L := L) (A := A) (B := B) (c := c) W hx hv hB)
 have HCW := Lib.hid (fun W hv hB => r21width (L := L) (A := A) (B := B) (c := c) W hx hv hB)
 have HCP := Lib.hid (fun g p W hv hM hB hg hp => r22where (L := L) (A := A) (Am := Am) (B := B) (c := c) (cm := cm) (ms := ms) g p W hx hv hM hB hg hp hlen)
 unfold layAgg at *
 have hw16 := hx.ok.w
 clear hv hM
 generalize validM L ms = res at *
 go_enter Tryz.func52, Tryz.ntmps52
 go_wp2_with fail
 have hl0 := LayB.made w L A c
 have hb0 : Below w.heap.size w (w.alloc (.cells #[.int .i64 L.disks, .slice A L.n c, .int .i64 L.tiles, .int .i64 L.spare] 36)) := below_laid
 generalize w.alloc _ = w0 at *
 have hB0 : B ≤ w0.heap.size := Nat.le_trans hB hb0.size
 refine (HCV.out w0 (HV.out.below hb0 hB) hB0).mono ?_
 rintro r w1 ⟨rfl, hb1⟩
 have H0 : Hid (Val1 w L ms w.heap.size A c (.int .i64 0) w1) := ⟨0, by omega, rfl, fun j m hj => absurd hj (by omega), hb0.trans (hb1.mono hb0.size), hl0.below hb1 hl0.lt⟩
 clear hb0 hb1 hl0 hB0
 go_wp2
 go_loopw [5, 6, 7] (fun s5 _ _ wr => Val1 w L ms w.heap.size A c s5 wr) (fun s5 _ _ _ => ms.length - (intOf s5).toNat)
 case atStart => exact H0.out
 case round =>
  clear H0
  obtain ⟨i, hi, rfl, hok, hb, hl⟩ := hrel
  have HOK := Lib.hid hok
  have HB := Lib.hid hb
  have HL := Lib.hid hl
  clear hok
  by_cases hin : i < ms.length
  ·have hiI : (i : Int) < (ms.length : Int) := by omega
   obtain ⟨m, hm⟩ := at_some hin
   have HMM := Lib.hid hm
   obtain ⟨b, off, rfl, hbB, q0, q1, q2, q3⟩ := MvS.at_ (HM.out.below' hb hB) hm
   have h6 := to_six L m
   clear hm hl
   go_upto_region 7 with (fail)
   have hmb : MvB (wr.alloc (.cells #[.int .i64 m.g, .int .i64 m.p, .int .i64 m.to.disk, .int .i64 m.to.block] 89)) wr.heap.size m := heap_alloc_new wr _
   have hl1 := HL.out.below (below_laid (w := wr) (o := .cells #[.int .i64 m.g, .int .i64 m.p, .int .i64 m.to.disk, .int .i64 m.to.block] 89)) HL.out.lt
   have hb1 := hb.trans ((below_laid (w := wr) (o := .cells #[.int .i64 m.g, .int .i64 m.p, .int .i64 m.to.disk, .int .i64 m.to.block] 89)).mono hb.size)
   have hwM : w.heap.size < wr.heap.size := HL.out.lt
   generalize wr.heap.size = M at *
   generalize wr.alloc _ = w1 at *
   clear hb HL HB q0 q1 q2 q3
   have HMB := Lib.hid hmb
   have HL1 := Lib.hid hl1
   have HB1 := Lib.hid hb1
   have hv1 := HV.out.below hb1 hB
   have hBs : ∀ d xs, B ≤ (Sort.grow (redrawn w1 d) xs).heap.size := fun d xs => Nat.le_trans hB (Nat.le_trans hb1.size (below_regrown w1 d xs).size)
   have X := fun d xs => (hl1.below (below_regrown w1 d xs) hl1.lt).cells
   have Y := fun d xs => (hmb.below (below_regrown w1 d xs) hmb.lt).cells
   have KI := Lib.hid (fun d xs => HCI.out m.g m.p (Sort.grow (redrawn w1 d) xs) (hv1.below (below_regrown w1 d xs) (Nat.le_trans hB hb1.size)) (hBs d xs))
   have KH := Lib.hid (fun d xs => HCH.out (Sort.grow (redrawn w1 d) xs) (hv1.below (below_regrown w1 d xs) (Nat.le_trans hB hb1.size)) (hBs d xs))
   have KB := Lib.hid (fun d xs => HCB.out (Sort.grow (redrawn w1 d) xs) (hv1.below (below_regrown w1 d xs) (Nat.le_trans hB hb1.size)) (hBs d xs))
   have HST : Hid ((isP L m.g m.p = false ∨ m.to.disk < 0 ∨ (L.disks : Int) ≤ m.to.disk ∨ m.to.block < (L.homes : Int) ∨ (L.blocks : Int) ≤ m.to.block) → res = false) := by
    intro hbad
    refine HBD.out i m HMM.out fun hs => ?_
    have h1 := hs.is
    have h2 := toOk_iff.1 hs.to
    rcases hbad with h | h | h | h | h
    ·rw [h] at h1; cases h1
    ·exact h2.1 h
    ·exact h2.2.1 h
    ·exact h2.2.2.1 h
    ·exact h2.2.2.2 h
   have HSG : Hid (isP L m.g m.p = true → ¬ m.to.disk < 0 → ¬ (L.disks : Int) ≤ m.to.disk → ¬ m.to.block < (L.homes : Int) → ¬ (L.blocks : Int) ≤ m.to.block → isP L m.g m.p = true ∧ toOk L m.to = true) := fun h1 h2 h3 h4 h5 => ⟨h1, toOk_iff.2 ⟨h2, h3, h4, h5⟩⟩
   obtain ⟨ip, hip⟩ : ∃ ip, isP L m.g m.p = ip := ⟨_, rfl⟩
   rw [hip] at h6 HST HSG KI
   have HIP := Lib.hid hip
   clear hip hmb hl1 hv1 hBs hb1
   rcases h6 with rfl | ⟨rfl, e1⟩ | ⟨rfl, e1, e2⟩ | ⟨rfl, e1, e2, e3⟩ | ⟨rfl, e1, e2, e3, e4⟩ | ⟨rfl, e1, e2, e3, e4⟩
   ·have HR : Hid (res = false) := HST.out (.inl rfl)
    refine quiet_below (by kernel_rfl) (by kernel_rfl) ?_
    repeat (go_big_quiet_step (first | (go_at_call 88; exact Calls.regrown_of (KI.out _ _)) | (go_at_call 99; exact Calls.regrown_of (KH.out _ _)) | (go_at_call 100; exact Calls.regrown_of (KB.out _ _))))
    refine wpQuiet_nil ?_
    intro w2 hb2
    go_wp2
    go_ret
    exact ⟨ret_bool (by rw [HR.out]), HB1.out.trans (hb2.mono HB1.out.size)⟩
   ·have HR : Hid (res = false) := HST.out (.inr (.inl e1))
    have f1 : decide (m.to.disk < 0) = true := by rw [decide_eq_true_iff]; exact e1
    clear e1
    refine quiet_below (by kernel_rfl) (by kernel_rfl) ?_
    repeat (go_big_quiet_step (first | (go_at_call 88; exact Calls.regrown_of (KI.out _ _)) | (go_at_call 99; exact Calls.regrown_of (KH.out _ _)) | (go_at_call 100; exact Calls.regrown_of (KB.out _ _))))
    refine wpQuiet_nil ?_
    intro w2 hb2
    go_wp2
    go_ret
    exact ⟨ret_bool (by rw [HR.out]), HB1.out.trans (hb2.mono HB1.out.size)⟩
   ·have HR : Hid (res = false) := HST.out (.inr (.inr (.inl e2)))
    have f1 : decide (m.to.disk < 0) = false := by rw [decide_eq_false_iff_not]; exact e1
    have f2 : decide ((L.disks : Int) ≤ m.to.disk) = true := by rw [decide_eq_true_iff]; exact e2
    clear e1
    clear e2
    refine quiet_below (by kernel_rfl) (by kernel_rfl) ?_
    repeat (go_big_quiet_step (first | (go_at_call 88; exact Calls.regrown_of (KI.out _ _)) | (go_at_call 99; exact Calls.regrown_of (KH.out _ _)) | (go_at_call 100; exact Calls.regrown_of (KB.out _ _))))
    refine wpQuiet_nil ?_
    intro w2 hb2
    go_wp2
    go_ret
    exact ⟨ret_bool (by rw [HR.out]), HB1.out.trans (hb2.mono HB1.out.size)⟩
   ·have HR : Hid (res = false) := HST.out (.inr (.inr (.inr (.inl e3))))
    have f1 : decide (m.to.disk < 0) = false := by rw [decide_eq_false_iff_not]; exact e1
    have f2 : decide ((L.disks : Int) ≤ m.to.disk) = false := by rw [decide_eq_false_iff_not]; exact e2
    have f3 : decide (m.to.block < (L.homes : Int)) = true := by rw [decide_eq_true_iff]; exact e3
    clear e1
    clear e2
    clear e3
    refine quiet_below (by kernel_rfl) (by kernel_rfl) ?_
    repeat (go_big_quiet_step (first | (go_at_call 88; exact Calls.regrown_of (KI.out _ _)) | (go_at_call 99; exact Calls.regrown_of (KH.out _ _)) | (go_at_call 100; exact Calls.regrown_of (KB.out _ _))))
    refine wpQuiet_nil ?_
    intro w2 hb2
    go_wp2
    go_ret
    exact ⟨ret_bool (by rw [HR.out]), HB1.out.trans (hb2.mono HB1.out.size)⟩
   ·have HR : Hid (res = false) := HST.out (.inr (.inr (.inr (.inr e4))))
    have f1 : decide (m.to.disk < 0) = false := by rw [decide_eq_false_iff_not]; exact e1
    have f2 : decide ((L.disks : Int) ≤ m.to.disk) = false := by rw [decide_eq_false_iff_not]; exact e2
    have f3 : decide (m.to.block < (L.homes : Int)) = false := by rw [decide_eq_false_iff_not]; exact e3
    have f4 : decide ((L.blocks : Int) ≤ m.to.block) = true := by rw [decide_eq_true_iff]; exact e4
    clear e1
    clear e2
    clear e3
    clear e4
    refine quiet_below (by kernel_rfl) (by kernel_rfl) ?_
    repeat (go_big_quiet_step (first | (go_at_call 88; exact Calls.regrown_of (KI.out _ _)) | (go_at_call 99; exact Calls.regrown_of (KH.out _ _)) | (go_at_call 100; exact Calls.regrown_of (KB.out _ _))))
    refine wpQuiet_nil ?_
    intro w2 hb2
    go_wp2
    go_ret
    exact ⟨ret_bool (by rw [HR.out]), HB1.out.trans (hb2.mono HB1.out.size)⟩
   ·have HGO := Lib.hid (HSG.out rfl e1 e2 e3 e4)
    have f1 : decide (m.to.disk < 0) = false := by rw [decide_eq_false_iff_not]; exact e1
    have f2 : decide ((L.disks : Int) ≤ m.to.disk) = false := by rw [decide_eq_false_iff_not]; exact e2
    have f3 : decide (m.to.block < (L.homes : Int)) = false := by rw [decide_eq_false_iff_not]; exact e3
    have f4 : decide ((L.blocks : Int) ≤ m.to.block) = false := by rw [decide_eq_false_iff_not]; exact e4
    clear e1 e2 e3 e4
    refine quiet_below (by kernel_rfl) (by kernel_rfl) ?_
    repeat (go_big_quiet_step (first | (go_at_call 88; exact Calls.regrown_of (KI.out _ _)) | (go_at_call 99; exact Calls.regrown_of (KH.out _ _)) | (go_at_call 100; exact Calls.regrown_of (KB.out _ _))))
    refine wpQuiet_nil ?_
    intro w2 hb2
    have HB2 := Lib.hid (HB1.out.trans (hb2.mono HB1.out.size))
    have HL2 := Lib.hid (HL1.out.below hb2 HL1.out.lt)
    have HM2 := Lib.hid (HMB.out.below hb2 HMB.out.lt)
    clear X Y KI KH KB HST HSG hb2 f1 f2 f3 f4
    clear HL1 HMB HB1
    obtain ⟨y0, y1, y2, y3⟩ := HM2.out.cells
    go_upto_region 9 with (fail)
    go_cut [97] (fun s97 wx => Val9 ms i m res w L w.heap.size M A c s97 wx)
    case first =>
     by_cases hi0 : i = 0
     ·subst hi0
      go_wp2_with fail
      go_quiet (fail)
      go_wp2_with fail
      go_meet
      exact ⟨.inr ⟨rfl, fun x h => absurd h (by omega)⟩, below_drewN HB2.out _, HL2.out, HM2.out⟩
     ·obtain ⟨q, rfl⟩ : ∃ q, i = q + 1 := ⟨i - 1, by omega⟩
      obtain ⟨x, hxq⟩ := at_some (l := ms) (i := q) (by omega)
      obtain ⟨b', off', hA, -, z0, z1, z2, z3⟩ := MvS.at_ (HM.out.below' HB2.out hB) hxq
      cases hA
      have HXQ := Lib.hid hxq
      have hpI : decide ((0 : Int) < (q : Int) + 1) = true := by rw [decide_eq_true_iff]; omega
      have HBX : Hid (¬ ltM x m → res = false) := fun h => HBD.out (q + 1) m HMM.out fun hs => h (hs.ord x (by omega) hxq)
      have HGX : Hid (ltM x m → ∀ y, 0 < q + 1 → ms[q + 1 - 1]? = some y → ltM y m) := fun h y _ hy => by
       rw [Nat.add_sub_cancel, HXQ.out] at hy
       cases hy
       exact h
      clear hxq hi0
      rcases (show m.g < x.g ∨ (¬ m.g < x.g ∧ x.g ≠ m.g) ∨ (¬ m.g < x.g ∧ x.g = m.g ∧ m.p ≤ x.p) ∨ (¬ m.g < x.g ∧ x.g = m.g ∧ ¬ m.p ≤ x.p) by omega) with e1 | ⟨e1, e2⟩ | ⟨e1, e2, e3⟩ | ⟨e1, e2, e3⟩
      ·have HR : Hid (res = false) := HBX.out (by unfold ltM; omega)
       have f1 : decide (m.g < x.g) = true := by rw [decide_eq_true_iff]; exact e1
       clear e1
       go_wp2_with fail
       go_quiet (fail)
       go_wp2_with fail
       go_meet
       exact ⟨.inl ⟨rfl, HR.out⟩, below_drewN HB2.out _, HL2.out, HM2.out⟩
      ·have HR := Lib.hid (HGX.out (by unfold ltM; omega))
       have f1 : decide (m.g < x.g) = false := by rw [decide_eq_false_iff_not]; exact e1
       have f2 : (x.g == m.g) = false := by simpa using e2
       clear e1 e2
       go_wp2_with fail
       go_quiet (fail)
       go_wp2_with fail
       go_meet
       exact ⟨.inr ⟨rfl, HR.out⟩, below_drewN HB2.out _, HL2.out, HM2.out⟩
      ·have HR : Hid (res = false) := HBX.out (by unfold ltM; omega)
       have f1 : decide (m.g < x.g) = false := by rw [decide_eq_false_iff_not]; exact e1
       have f2 : (x.g == m.g) = true := by simpa using e2
       have f3 : decide (m.p ≤ x.p) = true := by rw [decide_eq_true_iff]; exact e3
       clear e1 e2 e3
       go_wp2_with fail
       go_quiet (fail)
       go_wp2_with fail
       go_meet
       exact ⟨.inl ⟨rfl, HR.out⟩, below_drewN HB2.out _, HL2.out, HM2.out⟩
      ·have HR := Lib.hid (HGX.out (by unfold ltM; omega))
       have f1 : decide (m.g < x.g) = false := by rw [decide_eq_false_iff_not]; exact e1
       have f2 : (x.g == m.g) = true := by simpa using e2
       have f3 : decide (m.p ≤ x.p) = false := by rw [decide_eq_false_iff_not]; exact e3
       clear e1 e2 e3
       go_wp2_with fail
       go_quiet (fail)
       go_wp2_with fail
       go_meet
       exact ⟨.inr ⟨rfl, HR.out⟩, below_drewN HB2.out _, HL2.out, HM2.out⟩
    obtain ⟨h97, hb3, hl3, hm3⟩ := hcut
    have HB3 := Lib.hid hb3
    have HL3 := Lib.hid hl3
    have HM3 := Lib.hid hm3
    clear hb3 hl3 hm3 y0 y1 y2 y3
    rcases h97 with ⟨rfl, hR⟩ | ⟨rfl, hO⟩
    ·have HR := Lib.hid hR
     clear hR
     go_wp2
     go_ret
     exact ⟨ret_bool (by rw [HR.out]), HB3.out⟩
    have HO := Lib.hid hO
    clear hO
    go_wp2
    go_loopw [7] (fun s7 wr => Val2 ms i m w L w.heap.size M A c s7 wr) (fun s7 _ => i - (intOf s7).toNat)
    case atStart => exact ⟨0, by omega, rfl, fun j x hj => absurd hj (by omega), HB3.out, HL3.out, HM3.out⟩
    case round =>
     clear HB3 HL3 HM3
     obtain ⟨k, hk, rfl, hno, hb3, hl3, hm3⟩ := hrel
     have HB3 := Lib.hid hb3
     have HL3 := Lib.hid hl3
     have HM3 := Lib.hid hm3
     have HNO := Lib.hid hno
     clear hb3 hl3 hm3 hno
     by_cases hki : k < i
     ·have hkI : (k : Int) < (i : Int) := by omega
      obtain ⟨x, hxk⟩ := at_some (l := ms) (i := k) (by omega)
      obtain ⟨b', off', hA, -, z0, z1, z2, z3⟩ := MvS.at_ (HM.out.below' HB3.out hB) hxk
      cases hA
      obtain ⟨y0, y1, y2, y3⟩ := HM3.out.cells
      have HXK := Lib.hid hxk
      have HBX : Hid (x.to = m.to → res = false) := fun h => HBD.out i m HMM.out fun hs => hs.sep k x hki HXK.out h
      have HGX : Hid (x.to ≠ m.to → ∀ (j : Nat) y, j < k + 1 → ms[j]? = some y → y.to ≠ m.to) := fun h j y hj hy => by
       rcases Nat.lt_or_eq_of_le (Nat.le_of_lt_succ hj) with hj | rfl
       ·exact HNO.out j y hj hy
       ·rw [HXK.out] at hy; cases hy; exact h
      clear hxk
      by_cases e1 : x.to.disk = m.to.disk
      ·by_cases e2 : x.to.block = m.to.block
       ·have HR : Hid (res = false) := HBX.out (by cases hq : x.to; cases hq2 : m.to; rw [hq, hq2] at e1 e2; simp at e1 e2; rw [e1, e2])
        have f1 : (x.to.disk == m.to.disk) = true := by simpa using e1
        have f2 : (x.to.block == m.to.block) = true := by simpa using e2
        clear e1 e2
        go_wp2_with fail
        go_quiet (fail)
        go_wp2
        go_ret
        exact ⟨ret_bool (by rw [HR.out]), below_drewN HB3.out _⟩
       ·have HR := Lib.hid (HGX.out (fun h => e2 (by rw [h])))
        have f1 : (x.to.disk == m.to.disk) = true := by simpa using e1
        have f2 : (x.to.block == m.to.block) = false := by simpa using e2
        clear e1 e2
        go_wp2_with fail
        go_quiet (fail)
        go_wp2
        go_roundw
        case rel => exact ⟨k + 1, by omega, by go_num, HR.out, below_drewN HB3.out _, HL3.out, HM3.out⟩
        case measure => simp [intOf] <;> omega
      ·have HR := Lib.hid (HGX.out (fun h => e1 (by rw [h])))
       have f1 : (x.to.disk == m.to.disk) = false := by simpa using e1
       clear e1
       go_wp2_with fail
       go_quiet (fail)
       go_wp2
       go_roundw
       case rel => exact ⟨k + 1, by omega, by go_num, HR.out, below_drewN HB3.out _, HL3.out, HM3.out⟩
       case measure => simp [intOf] <;> omega
     ·have hkI : ¬ (k : Int) < (i : Int) := by omega
      have HKI : Hid (k = i) := by unfold Hid; omega
      go_wp2
      go_roundw
      case rel =>
       refine ⟨i + 1, by omega, by go_num, fun j x hj hx => ?_, HB3.out, HL3.out⟩
       rcases Nat.lt_or_eq_of_le (Nat.le_of_lt_succ hj) with hj | rfl
       ·exact HOK.out j x hj hx
       ·rw [HMM.out] at hx
        cases hx
        exact ⟨HIP.out, HGO.out.2, HO.out, fun j x hj hx => HNO.out j x (by rw [HKI.out]; exact hj) hx⟩
      case measure => simp [intOf] <;> omega
  ·have hiI : ¬ (i : Int) < (ms.length : Int) := by omega
   have HOA : Hid (∀ (j : Nat) m, ms[j]? = some m → StepOk L ms j m) := fun j m hj => HOK.out j m (by have := (List.getElem?_eq_some_iff.1 hj).1; omega) hj
   clear HOK hb hl
   go_wp2
   go_loopw [8, 9, 10, 11] (fun s8 _ _ _ wr => ∃ i : Nat, i ≤ ms.length ∧ s8 = .int .i64 i ∧ (∀ (j : Nat) m, j < i → ms[j]? = some m → apartL L ms m.g = true) ∧ Below w.heap.size w wr ∧ LayB wr w.heap.size L A c) (fun s8 _ _ _ _ => ms.length - (intOf s8).toNat)
   case atStart => exact ⟨0, by omega, rfl, fun j m hj => absurd hj (by omega), HB.out, HL.out⟩
   case round =>
    clear HB HL hiI
    obtain ⟨i, hi, rfl, hap, hb, hl⟩ := hrel
    have HAP := Lib.hid hap
    have HB := Lib.hid hb
    have HL := Lib.hid hl
    clear hap
    by_cases hin : i < ms.length
    ·have hiI : (i : Int) < (ms.length : Int) := by omega
     obtain ⟨m, hm⟩ := at_some hin
     obtain ⟨b, off, rfl, hbB, q0, -, -, -⟩ := MvS.at_ (HM.out.below' hb hB) hm
     obtain ⟨g, p, hg, hp, hgl, hpl⟩ := isP_nat (HOA.out i m hm).is
     rw [hg] at q0
     have HMM : Hid (∀ j x, j < i + 1 → ms[j]? = some x → (apartL L ms g = true) → apartL L ms x.g = true) := fun j x hj hx h => by
      rcases Nat.lt_or_eq_of_le (Nat.le_of_lt_succ hj) with hj | rfl
      ·exact HAP.out j x hj hx
      ·rw [hm] at hx; cases hx; rw [hg]; exact h
     have HBAD : Hid ((∃ a b : Nat, a < L.w ∧ b < a ∧ (whereL L ms g a).disk = (whereL L ms g b).disk) → res = false) := fun ⟨a, b, h1, h2, h3⟩ => HBD2.out i m hm fun h => by
      rw [hg] at h
      exact apart_iff.1 h a b h1 h2 h3
     have HGG : Hid ((∀ a b : Nat, a < L.w → b < a → (whereL L ms g a).disk ≠ (whereL L ms g b).disk) → apartL L ms g = true) := fun h => apart_iff.2 h
     clear hm hp hpl hg hb hl
     go_wp2
     clear q0
     go_loopw [10, 11] (fun s10 _ wr => ∃ a : Nat, a ≤ L.w ∧ s10 = .int .i64 a ∧ (∀ x y : Nat, x < a → y < x → (whereL L ms g x).disk ≠ (whereL L ms g y).disk) ∧ Below w.heap.size w wr ∧ LayB wr w.heap.size L A c) (fun s10 _ _ => L.w - (intOf s10).toNat)
     case atStart => exact ⟨0, by omega, rfl, fun x y hx => absurd hx (by omega), HB.out, HL.out⟩
     case round =>
      clear HB HL
      obtain ⟨a, ha, rfl, hne, hb, hl⟩ := hrel
      have HNE := Lib.hid hne
      have HB := Lib.hid hb
      have HL := Lib.hid hl
      obtain ⟨c0, c1, c2, c3⟩ := hl.cells
      have hB1 : B ≤ wr.heap.size := Nat.le_trans hB hb.size
      clear hne hb hl
      go_wp2_with fail
      refine (HCW.out wr (HV.out.below HB.out hB) hB1).mono ?_
      rintro r w2 ⟨rfl, hb2⟩
      have HB2 := Lib.hid (HB.out.trans (hb2.mono HB.out.size))
      have HL2 := Lib.hid (HL.out.below hb2 HL.out.lt)
      clear hb2 c0 c1 c2 c3 HB HL
      by_cases haw : a < L.w
      ·have haI : (a : Int) < (L.w : Int) := by omega
       go_wp2
       go_loopw [11] (fun s11 wr => ∃ q : Nat, q ≤ a ∧ s11 = .int .i64 q ∧ (∀ y : Nat, y < q → (whereL L ms g a).disk ≠ (whereL L ms g y).disk) ∧ Below w.heap.size w wr ∧ LayB wr w.heap.size L A c) (fun s11 _ => a - (intOf s11).toNat)
       case atStart => exact ⟨0, by omega, rfl, fun y hy => absurd hy (by omega), HB2.out, HL2.out⟩
       case round =>
        clear HB2 HL2 hB1
        obtain ⟨q, hq, rfl, hne, hb, hl⟩ := hrel
        have HNQ := Lib.hid hne
        have HB := Lib.hid hb
        have HL := Lib.hid hl
        clear hne
        by_cases hqa : q < a
        ·have hqI : (q : Int) < (a : Int) := by omega
         have X := fun d xs => (hl.below (below_regrown wr d xs) hl.lt).cells
         have hv1 := HV.out.below hb hB
         have hm1 := HM.out.below' hb hB
         have hB1 : B ≤ wr.heap.size := Nat.le_trans hB hb.size
         have KA := Lib.hid (fun (x : Nat) d xs (hxw : x < L.w) => HCP.out g x (Sort.grow (redrawn wr d) xs) (hv1.below (below_regrown wr d xs) hB1) (hm1.below' (below_regrown wr d xs) hB1) (Nat.le_trans hB1 (below_regrown wr d xs).size) hgl hxw)
         have HDQ : Hid ((whereL L ms g a).disk = (whereL L ms g q).disk → res = false) := fun h => HBAD.out ⟨a, q, haw, hqa, h⟩
         have HDN : Hid ((whereL L ms g a).disk ≠ (whereL L ms g q).disk → ∀ y : Nat, y < q + 1 → (whereL L ms g a).disk ≠ (whereL L ms g y).disk) := fun h y hy => by
          rcases Nat.lt_or_eq_of_le (Nat.le_of_lt_succ hy) with hy | rfl
          ·exact HNQ.out y hy
          ·exact h
         clear hl hv1 hm1
         unfold Plc.agg at KA
         obtain ⟨da, hda⟩ : ∃ da, (whereL L ms g a).disk = da := ⟨_, rfl⟩
         obtain ⟨dq, hdq⟩ : ∃ dq, (whereL L ms g q).disk = dq := ⟨_, rfl⟩
         rw [hda] at HDQ HDN
         rw [hdq] at HDQ HDN
         rw [hda] at HNQ
         have HDA := Lib.hid hda
         have hql : q < L.w := by omega
         by_cases e1 : da = dq
         ·have HR : Hid (res = false) := HDQ.out e1
          have f1 : (da == dq) = true := by simpa using e1
          clear e1
          go_wp2_with fail
          refine quiet_below (by kernel_rfl) (by kernel_rfl) ?_
          have hfd := fun k x b W => field38 k x b W
          repeat (go_big_quiet_step (first | (go_at_call 101; exact Calls.regrown_of (KA.out _ _ _ (by assumption)))))
          refine wpQuiet_nil ?_
          intro w2 hb2
          go_wp2
          go_ret
          exact ⟨ret_bool (by rw [HR.out]), HB.out.trans (hb2.mono HB.out.size)⟩
         ·have HR := Lib.hid (HDN.out e1)
          have f1 : (da == dq) = false := by simpa using e1
          clear e1
          go_wp2_with fail
          refine quiet_below (by kernel_rfl) (by kernel_rfl) ?_
          have hfd := fun k x b W => field38 k x b W
          repeat (go_big_quiet_step (first | (go_at_call 101; exact Calls.regrown_of (KA.out _ _ _ (by assumption)))))
          refine wpQuiet_nil ?_
          intro w2 hb2
          have HB3 := Lib.hid (HB.out.trans (hb2.mono HB.out.size))
          have HL3 := Lib.hid (HL.out.below hb2 HL.out.lt)
          clear hb2 X KA hfd hda hdq
          go_wp2
          go_roundw
          case rel => exact ⟨q + 1, by omega, by go_num, by rw [HDA.out]; exact HR.out, HB3.out, HL3.out⟩
          case measure => simp [intOf] <;> omega
        ·have hqI : ¬ (q : Int) < (a : Int) := by omega
         have HQA : Hid (q = a) := by unfold Hid; omega
         clear hl hb
         go_wp2
         go_roundw
         case rel =>
          refine ⟨a + 1, by omega, by go_num, fun x y hx hy => ?_, HB.out, HL.out⟩
          rcases Nat.lt_or_eq_of_le (Nat.le_of_lt_succ hx) with hx | rfl
          ·exact HNE.out x y hx hy
          ·exact HNQ.out y (by rw [HQA.out]; exact hy)
         case measure => simp [intOf] <;> omega
      ·have haI : ¬ (a : Int) < (L.w : Int) := by omega
       have HAW : Hid (apartL L ms g = true) := HGG.out fun x y hx hy => HNE.out x y (by omega) hy
       go_wp2
       go_roundw
       case rel => exact ⟨i + 1, by omega, by go_num, fun j x hj hx => HMM.out j x hj hx HAW.out, HB2.out, HL2.out⟩
       case measure => simp [intOf] <;> omega
    ·have hiI : ¬ (i : Int) < (ms.length : Int) := by omega
     have HR : Hid (res = true) := HGD.out HOA.out fun m hm => by
      obtain ⟨j, hj, rfl⟩ := List.mem_iff_getElem.1 hm
      exact HAP.out j _ (by omega) (List.getElem?_eq_getElem hj)
     clear hb hl
     go_wp2
     go_ret
     exact ⟨ret_bool (by rw [HR.out]), HB.out⟩
end Go.Proofs.YtjgjofepedcfnaaGreat
