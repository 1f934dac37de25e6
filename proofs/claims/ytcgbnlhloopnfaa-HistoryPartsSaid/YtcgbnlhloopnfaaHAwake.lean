/- Walk of tegulalaw45's awake: the document's example holds. -/
import Derived.Test.YtcgbnlhloopnfaaRecD
import Derived.Test.YtcgbnlhloopnfaaPendC
import Derived.Test.YtcgbnlhloopnfaaLay
namespace Go.Proofs.Ytcgbnlhloopnfaa
open Go.RowKit

def exH : List Ev := [⟨1, 0, true, 3, 7, false⟩, ⟨1, 1, false, 3, 0, false⟩, ⟨2, 0, true, 3, 7, false⟩, ⟨2, 1, false, 3, 7, false⟩, ⟨1, 2, false, 0, 0, true⟩, Ev.cut]
def exC : List Ev := [⟨1, 0, true, 3, 7, false⟩, ⟨1, 1, false, 3, 0, false⟩, ⟨1, 2, false, 0, 0, true⟩]
def exO : List Opr := [⟨0, 3, 7, true, false, 0, 0, 2⟩, ⟨1, 3, 7, false, false, 0, 1, 3⟩, ⟨2, 0, 0, false, true, 0, 4, -1⟩]
def exR0 : Rcd := ⟨[], [], []⟩
def exR1 : Rcd := ⟨exH.take 1, exC.take 1, [true]⟩
def exR2 : Rcd := ⟨exH.take 2, exC.take 2, [true, true]⟩
def exR3 : Rcd := ⟨exH.take 3, exC.take 2, [false, true]⟩
def exR4 : Rcd := ⟨exH.take 4, exC.take 2, [false, false]⟩
def exR5 : Rcd := ⟨exH.take 5, exC, [false, false, true]⟩
def exR6 : Rcd := ⟨exH, exC, [false, false, false]⟩
theorem exH_parse : parseL exH = some exO := by decide
theorem exH_wf : WfOp exH := by unfold WfOp; decide
theorem exH_pend : pendI exO (cutsN exH exH.length) = [] := by decide
theorem le_w {B : Nat} {w w' : World} (h : Below B w w') (hB : B ≤ w.heap.size) : B ≤ w'.heap.size := Nat.le_trans hB h.size

set_option maxHeartbeats 4000000 in
set_option maxRecDepth 100000 in
theorem hawake_any (w : World) : Calls Try.prog 7 #[] w fun e w' => e = .returned (.bool true) ∧ Below w.heap.size w w' := by
  have HN := Lib.hid (hnew_any w)
  have H1 : Hid (∀ base rb W, RecOk W base rb exR0 → base ≤ W.heap.size → Calls Try.prog 27 #[.pointer (some ⟨rb, 0, none⟩), .int .i64 3, .int .i64 7, .bool false] W (RecPost base rb W (0, exR1))) :=
    fun base rb W h hB => hwrite_any 3 7 false base rb exR0 W h hB ⟨by decide, by decide, rfl⟩
  have H2 : Hid (∀ base rb W, RecOk W base rb exR1 → base ≤ W.heap.size → Calls Try.prog 28 #[.pointer (some ⟨rb, 0, none⟩), .int .i64 3] W (RecPost base rb W (1, exR2))) :=
    fun base rb W h hB => hread_any 3 base rb exR1 W h hB ⟨by decide, by decide, rfl⟩
  have H3 : Hid (∀ base rb W, RecOk W base rb exR2 → base ≤ W.heap.size → Calls Try.prog 29 #[.pointer (some ⟨rb, 0, none⟩), .int .i64 0, .int .i64 0] W (RecPost base rb W (0, exR3))) :=
    fun base rb W h hB => hdone_any 0 0 base rb exR2 W h hB ⟨by decide, by decide, rfl⟩
  have H4 : Hid (∀ base rb W, RecOk W base rb exR3 → base ≤ W.heap.size → Calls Try.prog 29 #[.pointer (some ⟨rb, 0, none⟩), .int .i64 1, .int .i64 7] W (RecPost base rb W (0, exR4))) :=
    fun base rb W h hB => hdone_any 1 7 base rb exR3 W h hB ⟨by decide, by decide, rfl⟩
  have H5 : Hid (∀ base rb W, RecOk W base rb exR4 → base ≤ W.heap.size → Calls Try.prog 30 #[.pointer (some ⟨rb, 0, none⟩)] W (RecPost base rb W (2, exR5))) :=
    fun base rb W h hB => hflush_any base rb exR4 W h hB ⟨by decide, by decide, rfl⟩
  have H6 : Hid (∀ base rb W, RecOk W base rb exR5 → base ≤ W.heap.size → Calls Try.prog 31 #[.pointer (some ⟨rb, 0, none⟩)] W fun s w' => s = .returned (.tuple #[]) ∧ RecOk w' base rb exR6 ∧ BelR base rb W w') :=
    fun base rb W h hB => hcut_any base rb exR5 W h hB ⟨by decide, by decide, rfl⟩
  have H7 : Hid (∀ base rb W, RecOk W base rb exR6 → Calls Try.prog 32 #[.pointer (some ⟨rb, 0, none⟩)] W (LayE W exH)) :=
    fun base rb W h => hevents_any base rb exR6 W h (by decide)
  have H8 : Hid (∀ A c W, EvS W W.heap.size A exH → Calls Try.prog 19 #[.slice A exH.length c] W (OpsSome W 39 exO)) :=
    fun A c W h => ops_some exH A c W.heap.size W h (Nat.le_refl _) (by decide) exH_wf exO exH_parse
  have H9 : Hid (∀ A c B W, EvS W B A exH → B ≤ W.heap.size → Calls Try.prog 11 #[.slice A exH.length c] W fun r w' => r = .returned (.bool true) ∧ Below W.heap.size W w') :=
    fun A c B W h hB => by have := hvalid_any exH A c B W h hB (by decide) exH_wf; rw [exH_parse] at this; exact this
  have H10 : Hid (∀ A c B W, EvS W B A exH → B ≤ W.heap.size → Calls Try.prog 16 #[.slice A exH.length c] W (PendSome W [])) :=
    fun A c B W h hB => by have := pending_any exH A c B W h hB (by decide) exH_wf exO exH_parse; rw [exH_pend] at this; exact this
  have H11 : Hid (∀ base rb W, RecOk W base rb exR6 → base ≤ W.heap.size → Calls Try.prog 29 #[.pointer (some ⟨rb, 0, none⟩), .int .i64 2, .int .i64 0] W (RecPost base rb W (8, exR6))) :=
    fun base rb W h hB => hdone_any 2 0 base rb exR6 W h hB ⟨by decide, by decide, rfl⟩
  go_enter Try.func7, Try.ntmps7
  go_wp2_with fail
  refine HN.out.mono ?_
  rintro r w1 ⟨rfl, r1, hb1⟩
  have r1 := r1 w.heap.size
  have z1 := le_w hb1 (Nat.le_refl _)
  go_wp2_with fail
  refine (H1.out _ _ _ r1 z1).mono ?_
  rintro r w2 ⟨rfl, r2, hb2⟩
  have hb2 := hb1.trans (hb2.below (Nat.le_refl _))
  have z2 := le_w hb2 (Nat.le_refl _)
  clear r1 z1 hb1
  go_wp2_with fail
  refine (H2.out _ _ _ r2 z2).mono ?_
  rintro r w3 ⟨rfl, r3, hb3⟩
  have hb3 := hb2.trans (hb3.below (Nat.le_refl _))
  have z3 := le_w hb3 (Nat.le_refl _)
  clear r2 z2 hb2
  go_wp2_with fail
  refine (H3.out _ _ _ r3 z3).mono ?_
  rintro r w4 ⟨rfl, r4, hb4⟩
  have hb4 := hb3.trans (hb4.below (Nat.le_refl _))
  have z4 := le_w hb4 (Nat.le_refl _)
  clear r3 z3 hb3
  go_wp2_with fail
  refine (H4.out _ _ _ r4 z4).mono ?_
  rintro r w5 ⟨rfl, r5, hb5⟩
  have hb5 := hb4.trans (hb5.below (Nat.le_refl _))
  have z5 := le_w hb5 (Nat.le_refl _)
  clear r4 z4 hb4
  go_wp2_with fail
  refine (H5.out _ _ _ r5 z5).mono ?_
  rintro r w6 ⟨rfl, r6, hb6⟩
  have hb6 := hb5.trans (hb6.below (Nat.le_refl _))
  have z6 := le_w hb6 (Nat.le_refl _)
  clear r5 z5 hb5
  go_wp2_with fail
  refine (H6.out _ _ _ r6 z6).mono ?_
  rintro r w7 ⟨rfl, r7, hb7⟩
  have hb7 := hb6.trans (hb7.below (Nat.le_refl _))
  have z7 := le_w hb7 (Nat.le_refl _)
  clear r6 z6 hb6
  go_wp2_with fail
  refine (H7.out _ _ _ r7).mono ?_
  rintro r w8 ⟨v8, rfl, hl, hb8⟩
  have r8 := r7.below hb8
  have hb8 := hb7.trans (hb8.mono z7)
  have z8 := le_w hb8 (Nat.le_refl _)
  clear r7 hb7
  obtain ⟨A8, c8, rfl, -, -⟩ := hl.form
  have hl8 : EvS w8 w8.heap.size A8 exH := hl.reads
  rw [List.length_map]
  clear hl
  go_wp2_with fail
  refine (H8.out _ _ _ hl8).mono ?_
  rintro r w9 ⟨v9, rfl, ho, hb9⟩
  have r9 := r8.below hb9
  have hl9 := hl8.below' hb9 (Nat.le_refl _)
  have y9 := hb9.size
  have hb9 := hb8.trans (hb9.mono z8)
  have z9 := le_w hb9 (Nat.le_refl _)
  clear r8 hb8
  obtain ⟨go, co, rfl, -, hgo⟩ := ho.pos (by decide)
  have e9 : (exH.length : Int) = 6 := rfl
  have e9' : exH.length = 6 := rfl
  go_wp2_with fail
  refine (H9.out _ _ _ _ hl9 y9).mono ?_
  rintro r w10 ⟨rfl, hb10⟩
  have r10 := r9.below hb10
  have ho := ho.below hb10
  have hl10 := hl9.below' hb10 y9
  have y10 := Nat.le_trans y9 hb10.size
  have hgo := Nat.lt_of_lt_of_le hgo hb10.size
  have hb10 := hb9.trans (hb10.mono z9)
  have z10 := le_w hb10 (Nat.le_refl _)
  have o1 := ho.cell (k := 1) (j := 2) rfl rfl
  have o2 := ho.cell (k := 2) (j := 7) rfl rfl
  simp only [Nat.one_mul, Nat.reduceMul, Nat.reduceAdd] at o1 o2
  clear ho r9 hb9
  go_wp2_with fail
  refine (H10.out _ _ _ _ hl10 y10).mono ?_
  rintro r w11 ⟨v11, ks, rfl, hks, -, hpk, hb11⟩
  have hk0 : ks = [] := List.perm_nil.1 hks
  subst hk0
  obtain ⟨A11, c11, rfl, -, -⟩ := hpk.form
  have r11 := r10.below hb11
  have hb11 := hb10.trans (hb11.mono z10)
  have z11 := le_w hb11 (Nat.le_refl _)
  clear r10 hb10 hpk hks o1 o2
  go_wp2_with fail
  refine (H11.out _ _ _ r11 z11).mono ?_
  rintro r w12 ⟨rfl, -, hb12⟩
  have hb12 := hb11.trans (hb12.below (Nat.le_refl _))
  go_wp2
  go_ret
  exact ⟨rfl, hb12⟩
end Go.Proofs.Ytcgbnlhloopnfaa
