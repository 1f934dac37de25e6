/- Walks of plan.Share and tegularef23.Share; plan.Rebuild and plan.Share of the empty layout. -/
import Derived.Test.YteglnekkkhpikaaGreatPwJ
namespace Go.Proofs.YteglnekkkhpikaaGreat
open Go.RowKit

theorem lam_le {d w r lam : Nat} {gs : List (List Nat)} (h : desB d w r lam gs = true) (hd : 2 ≤ d) : lam ≤ gs.length := by
  unfold desB at h
  simp only [Bool.and_eq_true, List.all_eq_true, decide_eq_true_eq, beq_iff_eq, List.mem_range, Bool.or_eq_true] at h
  rcases (h.2 0 (by omega)).2 1 (by omega) with h1 | h1
  · omega
  · rw [← h1]
    exact List.countP_le_length
/-- the share of a layout two of whose disks have lam groups in common -/
def shareV (L : LayD) (lam : Nat) : Nat := 2 * lam + (L.tiles * lam * (L.w - 3) + (L.w - 1) - 1) / (L.w - 1)
set_option maxHeartbeats 1000000 in
theorem prebuild_zero (w : World) : Calls Tryz.prog 12 #[.agg #[.int .i64 0, .slice none 0 0, .int .i64 0, .int .i64 0], .slice none 0 0, .int .i64 0, .slice none 0 0] w fun r w' => r = .returned (.tuple #[.slice none 0 0, .int .i64 1]) ∧ Below w.heap.size w w' := by
  have HC := Lib.hid (fun W => svalid_zero W)
  go_enter Tryz.func12, Tryz.ntmps12
  go_wp2_with fail
  have hb0 : Below w.heap.size w (w.alloc (.cells #[.int .i64 0, .slice none 0 0, .int .i64 0, .int .i64 0] 31)) := below_laid
  generalize w.alloc _ = w0 at *
  refine (HC.out w0).mono ?_
  rintro r w1 ⟨rfl, hb1⟩
  have HB := Lib.hid ((hb0.trans (hb1.mono hb0.size)))
  clear hb0 hb1
  go_wp2
  go_ret2
  exact ⟨rfl, HB.out⟩
set_option maxHeartbeats 1000000 in
theorem pshare_zero (w : World) : Calls Tryz.prog 19 #[.agg #[.int .i64 0, .slice none 0 0, .int .i64 0, .int .i64 0]] w fun r w' => r = .returned (.int .i64 0) ∧ Below w.heap.size w w' := by
  have HC := Lib.hid (fun W => lvalid_zero W)
  go_enter Tryz.func19, Tryz.ntmps19
  go_wp2_with fail
  have hb0 : Below w.heap.size w (w.alloc (.cells #[.int .i64 0, .slice none 0 0, .int .i64 0, .int .i64 0] 31)) := below_laid
  generalize w.alloc _ = w0 at *
  refine (HC.out w0).mono ?_
  rintro r w1 ⟨rfl, hb1⟩
  have HB := Lib.hid ((hb0.trans (hb1.mono hb0.size)))
  clear hb0 hb1
  go_wp2
  go_ret
  exact ⟨rfl, HB.out⟩
set_option maxHeartbeats 4000000 in
set_option maxRecDepth 100000 in
theorem pshare_any {L : LayD} {A : Option Addr} {B c lam : Nat} (w : World) (hx : LayX L) (hl : 1 ≤ lam) (hdes : desB L.disks L.w L.r lam L.gs = true) (hv : GsV w B A L.gs) (hB : B ≤ w.heap.size) : Calls Tryz.prog 19 #[layAgg L A c] w fun r w' => r = .returned (.int .i64 (shareV L lam : Int)) ∧ Below w.heap.size w w' := by
  have HV := Lib.hid hv
  have hw := hx.ok.w
  have hll : lam ≤ 4096 := Nat.le_trans (lam_le hdes hx.ok.disks.1) hx.ok.n.2
  have HVL := Lib.hid (fun W hv hB => lvalid_any (L := L) (A := A) (B := B) (c := c) W hx hv hB)
  have HDC := Lib.hid (fun W hv hB => dcheck_any (A := A) (B := B) (c := c) W hdes hv hB hx.ok.disks ⟨by omega, hw.2⟩ hx.ok.n.2 hl)
  have HDA := Lib.hid (fun W hv hB => ldata2_any (L := L) (A := A) (B := B) (c := c) W hx hv hB)
  have HWI := Lib.hid (fun W hv hB => lwidth_any (L := L) (A := A) (B := B) (c := c) W hx hv hB)
  have ht := hx.ok.tiles
  have e1 : L.tiles * lam ≤ 256 * 4096 := Nat.mul_le_mul ht.2 hll
  have e2 : L.tiles * lam * (L.w - 3) ≤ 256 * 4096 * 13 := Nat.mul_le_mul e1 (by omega)
  have HSV : Hid (shareV L lam = 2 * lam + (L.tiles * lam * (L.w - 3) + (L.w - 1) - 1) / (L.w - 1)) := rfl
  have c1 : (L.tiles : Int) * (lam : Int) = ((L.tiles * lam : Nat) : Int) := by simp
  have c2 : ((L.tiles * lam : Nat) : Int) * ((L.w - 3 : Nat) : Int) = ((L.tiles * lam * (L.w - 3) : Nat) : Int) := by rw [Int.natCast_mul (L.tiles * lam)]
  have c3 : (L.w : Int) - 1 = ((L.w - 1 : Nat) : Int) := by omega
  obtain ⟨nd, hnd⟩ : ∃ nd, L.w - 3 = nd := ⟨_, rfl⟩
  obtain ⟨t1, ht1⟩ : ∃ t1, L.tiles * lam = t1 := ⟨_, rfl⟩
  rw [hnd] at HDA c2 e2 HSV
  rw [ht1] at c1 c2 e1 e2 HSV
  obtain ⟨al, hal⟩ : ∃ al, t1 * nd = al := ⟨_, rfl⟩
  rw [hal] at c2 e2 HSV
  obtain ⟨n1, hn1⟩ : ∃ n1, L.w - 1 = n1 := ⟨_, rfl⟩
  rw [hn1] at c3 HSV
  have hn1b : 3 ≤ n1 ∧ n1 ≤ 15 := by omega
  obtain ⟨sv, hsv⟩ : ∃ sv, shareV L lam = sv := ⟨_, rfl⟩
  rw [hsv] at HSV ⊢
  have k1 : IntKind.i64.wrap ((L.tiles : Int) * (lam : Int)) = (t1 : Int) := by rw [c1]; exact IntWalk.i64_in _ (by omega)
  have k2 : IntKind.i64.wrap ((t1 : Int) * (nd : Int)) = (al : Int) := by rw [c2]; exact IntWalk.i64_in _ (by omega)
  have k3 : IntKind.i64.wrap ((L.w : Int) - 1) = (n1 : Int) := by rw [c3]; exact IntWalk.i64_in _ (by omega)
  unfold layAgg at *
  have HN : Hid (L.gs.length = L.n) := rfl
  rw [HN.out] at HDC
  clear hv hnd ht1 hal hn1 hsv c1 c2 c3 hdes
  go_enter Tryz.func19, Tryz.ntmps19
  go_upto_region 1 with (fail)
  generalize hW0 : w.alloc _ = w0
  have hl0 : LayB w0 w.heap.size L A c := by rw [← hW0]; exact LayB.made w L A c
  have hb0 : Below w.heap.size w w0 := by rw [← hW0]; exact below_laid
  have HL0 := Lib.hid hl0
  have HB0 := Lib.hid hb0
  obtain ⟨l0, l1, l2, l3⟩ := hl0.cells
  clear hW0 hl0 hb0
  go_wp2_with fail
  refine (HVL.out w0 (HV.out.below HB0.out hB) (Nat.le_trans hB HB0.out.size)).mono ?_
  rintro r w1 ⟨rfl, hb1⟩
  have HL1 := Lib.hid (HL0.out.below hb1 HL0.out.lt)
  have HB1 := Lib.hid (HB0.out.trans (hb1.mono HB0.out.size))
  clear hb1 l0 l1 l2 l3 HL0 HB0 HVL
  obtain ⟨l0, l1, l2, l3⟩ := HL1.out.cells
  go_wp2_with fail
  refine (HDC.out w1 (HV.out.below HB1.out hB) (Nat.le_trans hB HB1.out.size)).mono ?_
  rintro r w2 ⟨rfl, hb2⟩
  have HL2 := Lib.hid (HL1.out.below hb2 HL1.out.lt)
  have HB2 := Lib.hid (HB1.out.trans (hb2.mono HB1.out.size))
  clear hb2 l0 l1 l2 l3 HL1 HB1 HDC
  have X := fun d xs => (HL2.out.below (below_regrown w2 d xs) HL2.out.lt).cells
  have KD := Lib.hid (fun d xs => HDA.out (Sort.grow (redrawn w2 d) xs) ((HV.out.below HB2.out hB).below (below_regrown w2 d xs) (Nat.le_trans hB HB2.out.size)) (Nat.le_trans (Nat.le_trans hB HB2.out.size) (below_regrown w2 d xs).size))
  have KW := Lib.hid (fun d xs => HWI.out (Sort.grow (redrawn w2 d) xs) ((HV.out.below HB2.out hB).below (below_regrown w2 d xs) (Nat.le_trans hB HB2.out.size)) (Nat.le_trans (Nat.le_trans hB HB2.out.size) (below_regrown w2 d xs).size))
  go_upto_region 4 with (fail)
  refine quiet_below (by kernel_rfl) (by kernel_rfl) ?_
  repeat (go_big_quiet_step (first | (go_at_call 41; exact Calls.regrown_of (KD.out _ _)) | (go_at_call 42; exact Calls.regrown_of (KW.out _ _))))
  refine wpQuiet_nil ?_
  intro w3 hb3
  have HB3 := Lib.hid (HB2.out.trans (hb3.mono HB2.out.size))
  clear X KD KW hb3 HB2 HL2 k1 k2 k3
  have HR : Hid (2 * (lam : Int) + ((al : Int) + (n1 : Int) - 1) / (n1 : Int) = (sv : Int)) := by
    rw [Hid, HSV.out]
    push_cast
    rw [show (((al + n1 - 1 : Nat) : Int)) = (al : Int) + (n1 : Int) - 1 by omega]
  have hq : ((al : Int) + (n1 : Int) - 1) / (n1 : Int) ≤ (al : Int) + (n1 : Int) - 1 := Int.ediv_le_self _ (by omega)
  have hq0 : 0 ≤ ((al : Int) + (n1 : Int) - 1) / (n1 : Int) := Int.ediv_nonneg (by omega) (by omega)
  have hn0 : ¬ (n1 : Int) = 0 := by omega
  have hn00 : ¬ n1 = 0 := by omega
  go_wp2
  go_ret
  exact ⟨ret_int HR.out, HB3.out⟩
/-- the reference's count -/
def ShR (al n1 : Nat) (w0 : World) (s7 : Value) (wr : World) : Prop := ∃ k : Nat, s7 = .int .i64 k ∧ k ≤ al ∧ (∀ j, j < k → j * n1 < al) ∧ Below w0.heap.size w0 wr
theorem share_end {al n1 k : Nat} (hn : 0 < n1) (h : ∀ j, j < k → j * n1 < al) (hk : al ≤ k * n1) : k = (al + n1 - 1) / n1 := by
  have h1 : (al + n1 - 1) / n1 < k + 1 := by
    rw [Nat.div_lt_iff_lt_mul hn, Nat.add_mul]
    omega
  have h2 : k ≤ (al + n1 - 1) / n1 := by
    rw [Nat.le_div_iff_mul_le hn]
    rcases Nat.eq_zero_or_pos k with h0 | h0
    · subst h0; omega
    · have := h (k - 1) (by omega)
      rw [Nat.sub_mul] at this
      have h3 : n1 ≤ k * n1 := Nat.le_mul_of_pos_left n1 h0
      omega
  omega
set_option maxHeartbeats 4000000 in
set_option maxRecDepth 100000 in
theorem r23share {L : LayD} {A : Option Addr} {B c lam : Nat} (w : World) (hx : LayX L) (hl : 1 ≤ lam) (hdes : desB L.disks L.w L.r lam L.gs = true) (hv : GsV w B A L.gs) (hB : B ≤ w.heap.size) : Calls Tryz.prog 20 #[layAgg L A c] w fun r w' => r = .returned (.int .i64 (shareV L lam : Int)) ∧ Below w.heap.size w w' := by
  have HV := Lib.hid hv
  have hw := hx.ok.w
  have hll : lam ≤ 4096 := Nat.le_trans (lam_le hdes hx.ok.disks.1) hx.ok.n.2
  have HDC := Lib.hid (fun W hv hB => check7_any (A := A) (B := B) (c := c) W hdes hv hB hx.ok.disks ⟨by omega, hw.2⟩ hx.ok.n.2 hl)
  have HWI := Lib.hid (fun W hv hB => r21width (L := L) (A := A) (B := B) (c := c) W hx hv hB)
  have ht := hx.ok.tiles
  have e1 : L.tiles * lam ≤ 256 * 4096 := Nat.mul_le_mul ht.2 hll
  have e2 : L.tiles * lam * (L.w - 3) ≤ 256 * 4096 * 13 := Nat.mul_le_mul e1 (by omega)
  have HSV : Hid (shareV L lam = 2 * lam + (L.tiles * lam * (L.w - 3) + (L.w - 1) - 1) / (L.w - 1)) := rfl
  have c1 : (L.tiles : Int) * (lam : Int) = ((L.tiles * lam : Nat) : Int) := by simp
  have c2 : ((L.tiles * lam : Nat) : Int) * ((L.w - 3 : Nat) : Int) = ((L.tiles * lam * (L.w - 3) : Nat) : Int) := by rw [Int.natCast_mul (L.tiles * lam)]
  have c3 : (L.w : Int) - 1 = ((L.w - 1 : Nat) : Int) := by omega
  have c4 : (L.w : Int) - 3 = ((L.w - 3 : Nat) : Int) := by omega
  obtain ⟨nd, hnd⟩ : ∃ nd, L.w - 3 = nd := ⟨_, rfl⟩
  obtain ⟨t1, ht1⟩ : ∃ t1, L.tiles * lam = t1 := ⟨_, rfl⟩
  rw [hnd] at c2 c4 e2 HSV
  rw [ht1] at c1 c2 e1 e2 HSV
  obtain ⟨al, hal⟩ : ∃ al, t1 * nd = al := ⟨_, rfl⟩
  rw [hal] at c2 e2 HSV
  obtain ⟨n1, hn1⟩ : ∃ n1, L.w - 1 = n1 := ⟨_, rfl⟩
  rw [hn1] at c3 HSV
  have hn1b : 3 ≤ n1 ∧ n1 ≤ 15 := by omega
  have hndb : nd ≤ 13 := by omega
  obtain ⟨sv, hsv⟩ : ∃ sv, shareV L lam = sv := ⟨_, rfl⟩
  rw [hsv] at HSV ⊢
  have C1 := Lib.hid c1
  have C2 := Lib.hid c2
  unfold layAgg at *
  have HN : Hid (L.gs.length = L.n) := rfl
  rw [HN.out] at HDC
  clear hv hnd ht1 hal hn1 hsv hdes c1 c2
  go_enter Tryz.func20, Tryz.ntmps20
  go_upto_region 1 with (fail)
  generalize hW0 : w.alloc _ = w0
  have hl0 : LayB w0 w.heap.size L A c := by rw [← hW0]; exact LayB.made w L A c
  have hb0 : Below w.heap.size w w0 := by rw [← hW0]; exact below_laid
  have HL0 := Lib.hid hl0
  have HB0 := Lib.hid hb0
  obtain ⟨l0, l1, l2, l3⟩ := hl0.cells
  clear hW0 hl0 hb0
  go_wp2_with fail
  refine (HDC.out w0 (HV.out.below HB0.out hB) (Nat.le_trans hB HB0.out.size)).mono ?_
  rintro r w1 ⟨rfl, hb1⟩
  have HL1 := Lib.hid (HL0.out.below hb1 HL0.out.lt)
  have HB1 := Lib.hid (HB0.out.trans (hb1.mono HB0.out.size))
  clear hb1 l0 l1 l2 l3 HL0 HB0 HDC
  obtain ⟨l0, l1, l2, l3⟩ := HL1.out.cells
  go_wp2_with fail
  refine (HWI.out w1 (HV.out.below HB1.out hB) (Nat.le_trans hB HB1.out.size)).mono ?_
  rintro r w2 ⟨rfl, hb2⟩
  have HL2 := Lib.hid (HL1.out.below hb2 HL1.out.lt)
  have HB2 := Lib.hid (HB1.out.trans (hb2.mono HB1.out.size))
  clear hb2 l0 l1 l2 l3 HL1 HB1 HWI
  go_wp2
  go_loopw [7] (fun s7 wr => ShR al n1 w2 s7 wr) (fun s7 _ => al - (intOf s7).toNat)
  case atStart => exact ⟨0, rfl, by omega, fun j hj => absurd hj (by omega), Below.refl _ _⟩
  case round =>
    obtain ⟨k, rfl, hk, hlow, hb⟩ := hrel
    have HLO := Lib.hid hlow
    have HB := Lib.hid hb
    have HW := Lib.hid (HB2.out.trans (hb.mono HB2.out.size))
    obtain ⟨-, -, l2, -⟩ := (HL2.out.below hb HL2.out.lt).cells
    have hq : (k : Int) * (n1 : Int) = ((k * n1 : Nat) : Int) := by simp
    have hqb : k * n1 ≤ 256 * 4096 * 13 * 15 := Nat.mul_le_mul (by omega) hn1b.2
    have c1 := C1.out
    have c2 := C2.out
    clear hlow hb
    by_cases hlt : k * n1 < al
    · have HS : Hid (∀ j, j < k + 1 → j * n1 < al) := fun j hj => by
        rcases Nat.lt_or_eq_of_le (Nat.le_of_lt_succ hj) with hj | rfl
        · exact HLO.out j hj
        · exact hlt
      have hka : k + 1 ≤ al := by
        have : k * 1 ≤ k * n1 := Nat.mul_le_mul_left k (by omega)
        omega
      generalize k * n1 = q at *
      have hltI : (q : Int) < (al : Int) := by omega
      go_wp2
      go_roundw
      case rel => exact ⟨k + 1, by go_num, hka, HS.out, HB.out⟩
      case measure => simp [intOf] <;> omega
    · have HE := Lib.hid (share_end (by omega) HLO.out (by omega))
      generalize k * n1 = q at *
      have hltI : ¬ (q : Int) < (al : Int) := by omega
      have HR : Hid ((k : Int) + 2 * (lam : Int) = (sv : Int)) := by rw [Hid, HSV.out, ← HE.out]; push_cast; omega
      go_wp2
      go_ret
      exact ⟨ret_int HR.out, HW.out⟩
end Go.Proofs.YteglnekkkhpikaaGreat
