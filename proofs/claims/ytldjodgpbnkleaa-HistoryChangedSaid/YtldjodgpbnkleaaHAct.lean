/- Walks of tegulalaw45's act, on a recorder and on none. -/
import Derived.Test.YtldjodgpbnkleaaHSpec
import Derived.DataShut
namespace Go.Proofs.Ytldjodgpbnkleaa
open Go.RowKit

theorem conv_i8 (x : Int) (h0 : -128 ≤ x) (h1 : x ≤ 127) (W : World) : (convert 67 3 (.int .i8 x)).run Try.prog W = .ok (.int .i64 x) W := by
  rw [run_convert_int W 67 3 .i8 x (by rw [Try.underlying67]; rfl) (by kernel_rfl)]
  have hk : Try.prog.intKind 3 = .i64 := by kernel_rfl
  rw [hk]
  have : IntKind.i64.wrap x = x := by simp [IntKind.wrap, IntKind.bits, IntKind.signed]; omega
  rw [this]
def ActH.agg (a : ActH) : Value := .agg #[.int .u8 a.kind, .int .i8 a.op, .int .i8 a.val]
theorem m8 (k : Nat) : k % 8 = 0 ∨ k % 8 = 1 ∨ k % 8 = 2 ∨ k % 8 = 3 ∨ k % 8 = 4 ∨ k % 8 = 5 ∨ k % 8 = 6 ∨ k % 8 = 7 := by omega

theorem below_box {base : Nat} {w w' : World} {o : Obj} (hB : base ≤ w.heap.size) {rb : Nat} (h : BelR base rb (w.alloc o) w') : BelR base rb w w' := ((BelR.refl base rb w).alloc hB o).trans h

set_option maxHeartbeats 4000000 in
set_option maxRecDepth 100000 in
theorem hact_any (a : ActH) (ha : ActOk a) (n base rb : Nat) (hn1 : n ≤ 1000) (r : Rcd) (w : World) (h : RecOk w base rb r) (hB : base ≤ w.heap.size) (hn : RcdLe r 100000) :
    Calls Try.prog 32 #[.pointer (some ⟨rb, 0, none⟩), a.agg, .int .i64 (n : Int)] w (RecPost base rb w (actN r a n)) := by
  have hlt := h.lt
  have h2 : ∀ o, RecOk (w.alloc o) base rb r := fun o => h.below below_laid
  have hB2 : ∀ o, base ≤ (w.alloc o).heap.size := fun o => by simp; omega
  have HR := Lib.hid (fun o => hread_any a.op base rb r (w.alloc o) (h2 o) (hB2 o) hn)
  have HW := Lib.hid (fun f o => hwrite_any a.op a.val f base rb r (w.alloc o) (h2 o) (hB2 o) hn)
  have HF := Lib.hid (fun o => hflush_any base rb r (w.alloc o) (h2 o) (hB2 o) hn)
  have HC := Lib.hid (fun o => hcut_any base rb r (w.alloc o) (h2 o) (hB2 o) hn)
  have HD := Lib.hid (fun op o => hdone_any op a.val base rb r (w.alloc o) (h2 o) (hB2 o) hn)
  have HN : Hid (actN r a n = if a.kind % 8 = 7 then (0, recCut r) else if a.kind % 8 < 4 then recCallN r (actEv a n) else recDone r (actOp a n) a.val) := rfl
  have HE : Hid (actEv a n = if a.kind % 8 = 0 then ⟨1, n, false, a.op, 0, false⟩ else if a.kind % 8 = 1 then ⟨1, n, true, a.op, a.val, false⟩ else if a.kind % 8 = 2 then ⟨1, n, true, a.op, a.val, true⟩ else ⟨1, n, false, 0, 0, true⟩) := rfl
  have HO : Hid (actOp a n = if a.kind % 8 < 6 ∧ 0 < n then (a.op + 128) % (n : Int) else a.op) := rfl
  clear h hn h2 hB2
  obtain ⟨k1, o0, o1, v0, v1⟩ := ha
  obtain ⟨k, op, val⟩ := a
  simp only at *
  have co := fun W => conv_i8 op o0 o1 W
  have cv := fun W => conv_i8 val v0 v1 W
  unfold ActH.agg
  simp only
  rcases m8 k with hm | hm | hm | hm | hm | hm | hm | hm
  · have hkm : ((k : Int) % 8) = 0 := by omega
    have HX : Hid (actN r ⟨k, op, val⟩ n = recCallN r ⟨0, 0, false, op, 0, false⟩) := by unfold Hid; rw [HN.out, if_neg (by omega), if_pos (by omega), HE.out, if_pos hm]; rfl
    clear hm
    go_enter Try.func32, Try.ntmps32
    go_wp2_with fail
    refine (HR.out _).mono ?_
    rintro s w1 ⟨rfl, hr, hb⟩
    go_wp2
    go_ret
    unfold RecPost
    rw [HX.out]
    exact ⟨rfl, hr, below_box hB hb⟩
  · have hkm : ((k : Int) % 8) = 1 := by omega
    have HX : Hid (actN r ⟨k, op, val⟩ n = recCallN r ⟨0, 0, true, op, val, false⟩) := by unfold Hid; rw [HN.out, if_neg (by omega), if_pos (by omega), HE.out, if_neg (by omega), if_pos hm]; rfl
    clear hm
    go_enter Try.func32, Try.ntmps32
    go_wp2_with fail
    refine (HW.out false _).mono ?_
    rintro s w1 ⟨rfl, hr, hb⟩
    go_wp2
    go_ret
    unfold RecPost
    rw [HX.out]
    exact ⟨rfl, hr, below_box hB hb⟩
  · have hkm : ((k : Int) % 8) = 2 := by omega
    have HX : Hid (actN r ⟨k, op, val⟩ n = recCallN r ⟨0, 0, true, op, val, true⟩) := by unfold Hid; rw [HN.out, if_neg (by omega), if_pos (by omega), HE.out, if_neg (by omega), if_neg (by omega), if_pos hm]; rfl
    clear hm
    go_enter Try.func32, Try.ntmps32
    go_wp2_with fail
    refine (HW.out true _).mono ?_
    rintro s w1 ⟨rfl, hr, hb⟩
    go_wp2
    go_ret
    unfold RecPost
    rw [HX.out]
    exact ⟨rfl, hr, below_box hB hb⟩
  · have hkm : ((k : Int) % 8) = 3 := by omega
    have HX : Hid (actN r ⟨k, op, val⟩ n = recCallN r ⟨0, 0, false, 0, 0, true⟩) := by unfold Hid; rw [HN.out, if_neg (by omega), if_pos (by omega), HE.out, if_neg (by omega), if_neg (by omega), if_neg (by omega)]; rfl
    clear hm
    go_enter Try.func32, Try.ntmps32
    go_wp2_with fail
    refine (HF.out _).mono ?_
    rintro s w1 ⟨rfl, hr, hb⟩
    go_wp2
    go_ret
    unfold RecPost
    rw [HX.out]
    exact ⟨rfl, hr, below_box hB hb⟩
  iterate 3
    · have hkm : ((k : Int) % 8) = ((k % 8 : Nat) : Int) := by omega
      rw [hm] at hkm
      have HX : Hid (actN r ⟨k, op, val⟩ n = recDone r (actOp ⟨k, op, val⟩ n) val) := by unfold Hid; rw [HN.out, if_neg (by omega), if_neg (by omega)]
      by_cases hn0 : 0 < n
      · have hn0' : (0 : Int) < (n : Int) := by omega
        have HY : Hid (actOp ⟨k, op, val⟩ n = if k % 8 < 6 then (op + 128) % (n : Int) else op) := by
          unfold Hid
          rw [HO.out]
          by_cases h6 : k % 8 < 6
          · rw [if_pos ⟨h6, hn0⟩, if_pos h6]
          · rw [if_neg (fun h => h6 h.1), if_neg h6]
        rw [hm] at HY
        clear hm hn0
        go_enter Try.func32, Try.ntmps32
        go_wp2_with fail
        refine (HD.out _ _).mono ?_
        rintro s w1 ⟨rfl, hr, hb⟩
        go_wp2
        go_ret
        unfold RecPost
        rw [HX.out, HY.out]
        exact ⟨rfl, hr, below_box hB hb⟩
      · have hn0' : n = 0 := by omega
        subst hn0'
        have HY : Hid (actOp ⟨k, op, val⟩ 0 = op) := by unfold Hid; rw [HO.out, if_neg (fun h => hn0 h.2)]
        clear hm hn0
        go_enter Try.func32, Try.ntmps32
        go_wp2_with fail
        refine (HD.out _ _).mono ?_
        rintro s w1 ⟨rfl, hr, hb⟩
        go_wp2
        go_ret
        unfold RecPost
        rw [HX.out, HY.out]
        exact ⟨rfl, hr, below_box hB hb⟩
  · have hkm : ((k : Int) % 8) = 7 := by omega
    have HX : Hid (actN r ⟨k, op, val⟩ n = (0, recCut r)) := by unfold Hid; rw [HN.out, if_pos hm]
    clear hm
    go_enter Try.func32, Try.ntmps32
    go_wp2_with fail
    refine (HC.out _).mono ?_
    rintro s w1 ⟨rfl, hr, hb⟩
    go_wp2
    go_ret
    unfold RecPost
    rw [HX.out]
    exact ⟨rfl, hr, below_box hB hb⟩
end Go.Proofs.Ytldjodgpbnkleaa
