/- Walk of the finder's next. -/
import Derived.Test.YtcgbnlhloopnfaaGFnA
import Derived.Laws.ResultCell
namespace Go.Proofs.Ytcgbnlhloopnfaa
open Go.RowKit

def nextR (X : List Opr) (st : Int) (s : St) (i : Nat) : St × Bool := match nextS X st s i with
  | some t => (t, true)
  | none => (s, false)

theorem or_bit' (S i : Nat) (hS : S < 65536) (hi : i < 16) : bits .or .i64 (S : Int) (wrap64 ((2 : Int) ^ i)) = ((S ||| 2 ^ i : Nat) : Int) := by
  have h2 : ((2 : Int) ^ i) = ((2 ^ i : Nat) : Int) := by push_cast; rfl
  have h3 : 2 ^ i < 2 ^ 16 := Nat.pow_lt_pow_right (by omega) hi
  rw [h2]
  generalize 2 ^ i = n at h3 ⊢
  rw [IntWalk.wrap64_in (n : Int) (by omega), i64_or_nat _ _ (by omega) (by omega)]
theorem heap_new_at (w : World) (o : Obj) {k : Nat} (hk : k = w.heap.size) : (w.alloc o).heap[k]? = some o := by subst hk; exact heap_alloc_new w o

set_option maxHeartbeats 4000000 in
set_option maxRecDepth 100000 in
theorem next_any (fb me i : Nat) (s : St) {X : List Opr} {sf : List Bool} {last : Bool} {st : Int} {Ao As : Option Addr} {co cs : Nat} (w : World) (h : FinV w fb me X sf last st Ao As co cs) (hs : s.1 < 65536) (hs2 : s.2 < X.length) (hi : i < X.length) (hlen : X.length ≤ 16) :
    Calls Try.prog 101 #[.pointer (some ⟨fb, 0, none⟩), s.agg, .int .i64 (i : Int)] w
      fun r w' => r = .returned (.tuple #[(nextR X st s i).1.agg, .bool (nextR X st s i).2]) ∧ Below w.heap.size w w' := by
  obtain ⟨S, l⟩ := s
  simp only at hs hs2
  have HV : Hid (nextS X st (S, l) i = if S.testBit i || !readyS X S i || (!(opAt X i).write && (decide ((opAt X i).done < 0) || !((opAt X i).val == valS X st l))) then none
    else some (S ||| 2 ^ i, if (opAt X i).write then (i : Int) else l)) := rfl
  have HF := Lib.hid h
  have hfb : fb < w.heap.size := (Array.getElem?_eq_some_iff.1 h.blk).1
  obtain ⟨bo, off, rfl⟩ := ops_at h.ops (by omega)
  obtain ⟨f0, f1, f2, f3, f4⟩ := h.cells
  obtain ⟨hbl, c0, c1, c2, c3, c4, c5, c6, c7⟩ := ops_cells h.ops hi
  clear h
  obtain ⟨o0, o1, o2, o3, o4, o5, o6, o7, hoi⟩ : ∃ a b c d e f g h, opAt X i = ⟨a, b, c, d, e, f, g, h⟩ := ⟨_, _, _, _, _, _, _, _, rfl⟩
  rw [hoi] at HV c0 c1 c2 c3 c4 c5 c6 c7
  simp only at HV c0 c1 c2 c3 c4 c5 c6 c7
  clear hoi
  have hil : (i : Int) < (X.length : Int) := by omega
  have HV2 : Hid (nextR X st (S, l) i = match nextS X st (S, l) i with | some t => (t, true) | none => ((S, l), false)) := rfl
  rw [HV.out] at HV2
  clear HV
  obtain ⟨rs, rl, rb, hres⟩ : ∃ rs rl rb, nextR X st (S, l) i = ((rs, rl), rb) := ⟨_, _, _, rfl⟩
  rw [hres] at HV2
  rw [hres]
  clear hres
  unfold St.agg
  simp only
  have hne1 : fb ≠ w.heap.size := by omega
  have hne2 : fb ≠ w.heap.size + 1 := by omega
  have hne3 : bo ≠ w.heap.size := by omega
  have hne4 : bo ≠ w.heap.size + 1 := by omega
  go_enter Try.func101, Try.ntmps101
  go_wp2_with fail
  generalize hWd : ((w.alloc _).alloc _).alloc _ = W
  have hbW : Below w.heap.size w W := by rw [← hWd]; exact (below_laid.alloc (by simp) _).alloc (by simp; omega) _
  have hst : StB W w.heap.size (S, l) := by
    unfold StB
    rw [← hWd]
    rw [Below.heap_alloc _ _ _ (by simp; omega), Below.heap_alloc _ _ _ (by simp), heap_alloc_new w]
  have hrt : W.heap[w.heap.size + 1]? = some (.cells #[.int .i64 0, .int .i64 0] 132) := by
    rw [← hWd, Below.heap_alloc _ _ _ (by simp)]
    exact heap_new_at _ _ (by simp)
  have hob : W.heap[w.heap.size + 1 + 1]? = some (.cells (Opr.cells ⟨o0, o1, o2, o3, o4, o5, o6, o7⟩).toArray 39) := by
    rw [← hWd]
    exact heap_new_at _ _ (by simp)
  clear hWd c0 c1 c2 c3 c4 c5 c6 c7 f0 f1 f2 f3 f4 hne1 hne2 hne3 hne4
  have G := fun d xs => (HF.out.below hbW).below (below_regrown W d xs)
  have R := fun d xs => (G d xs).cells
  have Xb := fun d xs => (opBox (o := ⟨o0, o1, o2, o3, o4, o5, o6, o7⟩) (keptB hob (below_regrown W d xs)))
  have Sb := fun d xs => stBox (keptB hst (below_regrown W d xs))
  have HH := Lib.hid (fun d xs => (has_any w.heap.size i (S, l) (Sort.grow (redrawn W d) xs) (hst.below (below_regrown W d xs)) hs (by omega)).mono (fun r w' ⟨h1, h2⟩ => ⟨h1, h2 ▸ Below.refl _ _⟩ : ∀ r w', _ → r = .returned (.bool (S.testBit i)) ∧ Below (Sort.grow (redrawn W d) xs).heap.size (Sort.grow (redrawn W d) xs) w'))
  have HRd := Lib.hid (fun d xs => ready_any w.heap.size i (S, l) (some ⟨bo, off, none⟩) As co cs (ms := X.length) last (Sort.grow (redrawn W d) xs) (G d xs).ops (hst.below (below_regrown W d xs)) hs hi hlen)
  have HVl := Lib.hid (fun d xs => val_any fb me (S, l) (Sort.grow (redrawn W d) xs) (G d xs) hs2)
  simp only at Xb HH HRd
  unfold St.agg at HVl
  simp only at HVl
  clear G
  generalize readyS X S i = rd at *
  generalize valS X st l = vl at *
  obtain ⟨tb, HTB⟩ : ∃ tb, Hid (S.testBit i = tb) := ⟨_, rfl⟩
  rw [HTB.out] at HV2 HH
  have fin : ∀ W2, Below W.heap.size W W2 → Below w.heap.size w W2 := fun W2 h => hbW.trans (h.mono hbW.size)
  cases tb
  case true =>
    obtain ⟨⟨rfl, rfl⟩, rfl⟩ : (rs = S ∧ rl = l) ∧ rb = false := by have := HV2.out; simpa using this
    refine quiet_below (by kernel_rfl) (by kernel_rfl) ?_
    repeat (go_big_quiet_step (first | (go_at_call 111; exact Calls.regrown_of (HH.out _ _)) | (go_at_call 112; exact Calls.regrown_of (HRd.out _ _)) | (go_at_call 78; exact Calls.regrown_of (HVl.out _ _))))
    refine wpQuiet_nil ?_
    intro W2 hb2
    have hbw := fin W2 hb2
    obtain ⟨s0, s1⟩ := stBox (keptB hst hb2)
    have hrt2 := keptB hrt hb2
    have fr0 : W2.frozen? ⟨w.heap.size + 1, 0, none⟩ = false := frozen_of_row _ _ _ _ _ hrt2
    have fr1 : W2.frozen? ⟨w.heap.size + 1, 1, none⟩ = false := frozen_of_row _ _ _ _ _ hrt2
    obtain ⟨r0, r1⟩ := stBox (S := 0) hrt2
    clear R Xb Sb HH HRd HVl hst hrt hrt2 hob fin
    go_wp2
    (try simp only [Exit.inBlock, Exit.then])
    refine bodyPost_ret (v := .tuple #[.agg #[.int .i64 (rs : Int), .int .i64 rl], .bool false]) ?_ rfl ⟨rfl, (hbw.setCell (by simp) _).setCell (by simp) _⟩
    rw [results_cell_tmp rfl]
    go_simp
  cases rd
  case false.false =>
    obtain ⟨⟨rfl, rfl⟩, rfl⟩ : (rs = S ∧ rl = l) ∧ rb = false := by have := HV2.out; simpa using this
    refine quiet_below (by kernel_rfl) (by kernel_rfl) ?_
    repeat (go_big_quiet_step (first | (go_at_call 111; exact Calls.regrown_of (HH.out _ _)) | (go_at_call 112; exact Calls.regrown_of (HRd.out _ _)) | (go_at_call 78; exact Calls.regrown_of (HVl.out _ _))))
    refine wpQuiet_nil ?_
    intro W2 hb2
    have hbw := fin W2 hb2
    obtain ⟨s0, s1⟩ := stBox (keptB hst hb2)
    have hrt2 := keptB hrt hb2
    have fr0 : W2.frozen? ⟨w.heap.size + 1, 0, none⟩ = false := frozen_of_row _ _ _ _ _ hrt2
    have fr1 : W2.frozen? ⟨w.heap.size + 1, 1, none⟩ = false := frozen_of_row _ _ _ _ _ hrt2
    obtain ⟨r0, r1⟩ := stBox (S := 0) hrt2
    clear R Xb Sb HH HRd HVl hst hrt hrt2 hob fin
    go_wp2
    (try simp only [Exit.inBlock, Exit.then])
    refine bodyPost_ret (v := .tuple #[.agg #[.int .i64 (rs : Int), .int .i64 rl], .bool false]) ?_ rfl ⟨rfl, (hbw.setCell (by simp) _).setCell (by simp) _⟩
    rw [results_cell_tmp rfl]
    go_simp
  cases o3
  case false.true.true =>
    obtain ⟨⟨rfl, rfl⟩, rfl⟩ : (rs = S ||| 2 ^ i ∧ rl = (i : Int)) ∧ rb = true := by have := HV2.out; simpa using this
    refine quiet_below (by kernel_rfl) (by kernel_rfl) ?_
    repeat (go_big_quiet_step (first | (go_at_call 111; exact Calls.regrown_of (HH.out _ _)) | (go_at_call 112; exact Calls.regrown_of (HRd.out _ _)) | (go_at_call 78; exact Calls.regrown_of (HVl.out _ _))))
    refine wpQuiet_nil ?_
    intro W2 hb2
    have hbw := fin W2 hb2
    have hst2 := keptB hst hb2
    have hrt2 := keptB hrt hb2
    obtain ⟨q0, q1, q2, q3, q4, q5, q6, q7⟩ := opBox (o := ⟨o0, o1, o2, true, o4, o5, o6, o7⟩) (keptB hob hb2)
    simp only at q3
    clear R Xb Sb HH HRd HVl hst hrt hob fin q0 q1 q2 q4 q5 q6 q7
    obtain ⟨s0, s1⟩ := stBox hst2
    have fs1 : W2.frozen? ⟨w.heap.size, 1, none⟩ = false := frozen_of_row _ _ _ _ _ hst2
    go_wp2_with fail
    have hst3 : (W2.setCell ⟨w.heap.size, 1, none⟩ (.int .i64 (i : Int))).heap[w.heap.size]? = some (.cells #[.int .i64 (S : Int), .int .i64 (i : Int)] 132) := by rw [heap_setCell_same _ _ _ _ _ _ hst2]; rfl
    have hrt3 := (heap_setCell_other W2 ⟨w.heap.size, 1, none⟩ (w.heap.size + 1) (.int .i64 (i : Int)) (by simp)).trans hrt2
    have hbw3 := hbw.setCell (p := ⟨w.heap.size, 1, none⟩) (Nat.le_refl _) (.int .i64 (i : Int))
    generalize W2.setCell _ _ = W3 at *
    clear hst2 hrt2 hbw s0 s1 q3 hb2 fs1
    have hw : Below w.heap.size w W3.drew := hbw3.drew
    have hst4 : W3.drew.heap[w.heap.size]? = some (.cells #[.int .i64 (S : Int), .int .i64 (i : Int)] 132) := hst3
    have hrt4 : W3.drew.heap[w.heap.size + 1]? = some (.cells #[.int .i64 0, .int .i64 0] 132) := hrt3
    refine still_tail_drew 6 (by kernel_rfl) (by kernel_rfl) ?_
    simp only [List.take_succ_cons, List.take_zero, List.drop_succ_cons, List.drop_zero]
    generalize W3.drew = W4 at *
    obtain ⟨s0, s1⟩ := stBox hst4
    repeat still_step
    refine wpStill_nil ?_
    have fs0 : W4.frozen? ⟨w.heap.size, 0, none⟩ = false := frozen_of_row _ _ _ _ _ hst4
    have fs1 : W4.frozen? ⟨w.heap.size, 1, none⟩ = false := frozen_of_row _ _ _ _ _ hst4
    have fr0 : W4.frozen? ⟨w.heap.size + 1, 0, none⟩ = false := frozen_of_row _ _ _ _ _ hrt4
    have fr1 : W4.frozen? ⟨w.heap.size + 1, 1, none⟩ = false := frozen_of_row _ _ _ _ _ hrt4
    obtain ⟨r0, r1⟩ := stBox (S := 0) hrt4
    go_wp2
    (try simp only [Exit.inBlock, Exit.then])
    refine bodyPost_ret (v := .tuple #[.agg #[.int .i64 ((S ||| 2 ^ i : Nat) : Int), .int .i64 (i : Int)], .bool true]) ?_ rfl ⟨rfl, ((hw.setCell (p := ⟨w.heap.size, 0, none⟩) (Nat.le_refl _) _).setCell (by simp) _).setCell (by simp) _⟩
    rw [results_cell_tmp rfl]
    go_simp
    exact or_bit' S i hs (by omega)
  case false.true.false =>
    by_cases h7 : o7 < 0
    · have h7' : decide (o7 < 0) = true := by simpa using h7
      obtain ⟨⟨rfl, rfl⟩, rfl⟩ : (rs = S ∧ rl = l) ∧ rb = false := by have := HV2.out; simpa [h7] using this
      refine quiet_below (by kernel_rfl) (by kernel_rfl) ?_
      repeat (go_big_quiet_step (first | (go_at_call 111; exact Calls.regrown_of (HH.out _ _)) | (go_at_call 112; exact Calls.regrown_of (HRd.out _ _)) | (go_at_call 78; exact Calls.regrown_of (HVl.out _ _))))
      refine wpQuiet_nil ?_
      intro W2 hb2
      have hbw := fin W2 hb2
      obtain ⟨s0, s1⟩ := stBox (keptB hst hb2)
      have hrt2 := keptB hrt hb2
      have fr0 : W2.frozen? ⟨w.heap.size + 1, 0, none⟩ = false := frozen_of_row _ _ _ _ _ hrt2
      have fr1 : W2.frozen? ⟨w.heap.size + 1, 1, none⟩ = false := frozen_of_row _ _ _ _ _ hrt2
      obtain ⟨r0, r1⟩ := stBox (S := 0) hrt2
      clear R Xb Sb HH HRd HVl hst hrt hrt2 hob fin
      go_wp2
      (try simp only [Exit.inBlock, Exit.then])
      refine bodyPost_ret (v := .tuple #[.agg #[.int .i64 (rs : Int), .int .i64 rl], .bool false]) ?_ rfl ⟨rfl, (hbw.setCell (by simp) _).setCell (by simp) _⟩
      rw [results_cell_tmp rfl]
      go_simp
    · have h7' : decide (o7 < 0) = false := by simpa using h7
      have h77 : ¬ o7 < 0 := h7
      by_cases h2 : o2 = vl
      · subst h2
        have h2' : (o2 != o2) = false := by simp
        obtain ⟨⟨rfl, rfl⟩, rfl⟩ : (rs = S ||| 2 ^ i ∧ rl = l) ∧ rb = true := by have := HV2.out; simpa [h7] using this
        refine quiet_below (by kernel_rfl) (by kernel_rfl) ?_
        repeat (go_big_quiet_step (first | (go_at_call 111; exact Calls.regrown_of (HH.out _ _)) | (go_at_call 112; exact Calls.regrown_of (HRd.out _ _)) | (go_at_call 78; exact Calls.regrown_of (HVl.out _ _))))
        refine wpQuiet_nil ?_
        intro W2 hb2
        have hbw := fin W2 hb2
        have hst2 := keptB hst hb2
        have hrt2 := keptB hrt hb2
        obtain ⟨q0, q1, q2, q3, q4, q5, q6, q7⟩ := opBox (o := ⟨o0, o1, o2, false, o4, o5, o6, o7⟩) (keptB hob hb2)
        simp only at q3
        clear R Xb Sb HH HRd HVl hst hrt hob fin q0 q1 q2 q4 q5 q6 q7
        obtain ⟨s0, s1⟩ := stBox hst2
        go_wp2_with fail
        have hst3 := hst2
        have hrt3 := hrt2
        have hbw3 := hbw
        generalize W2 = W3 at *
        clear hst2 hrt2 hbw s0 s1 q3 hb2
        have hw : Below w.heap.size w W3.drew := hbw3.drew
        have hst4 : W3.drew.heap[w.heap.size]? = some (.cells #[.int .i64 (S : Int), .int .i64 rl] 132) := hst3
        have hrt4 : W3.drew.heap[w.heap.size + 1]? = some (.cells #[.int .i64 0, .int .i64 0] 132) := hrt3
        refine still_tail_drew 6 (by kernel_rfl) (by kernel_rfl) ?_
        simp only [List.take_succ_cons, List.take_zero, List.drop_succ_cons, List.drop_zero]
        generalize W3.drew = W4 at *
        obtain ⟨s0, s1⟩ := stBox hst4
        repeat still_step
        refine wpStill_nil ?_
        have fs0 : W4.frozen? ⟨w.heap.size, 0, none⟩ = false := frozen_of_row _ _ _ _ _ hst4
        have fs1 : W4.frozen? ⟨w.heap.size, 1, none⟩ = false := frozen_of_row _ _ _ _ _ hst4
        have fr0 : W4.frozen? ⟨w.heap.size + 1, 0, none⟩ = false := frozen_of_row _ _ _ _ _ hrt4
        have fr1 : W4.frozen? ⟨w.heap.size + 1, 1, none⟩ = false := frozen_of_row _ _ _ _ _ hrt4
        obtain ⟨r0, r1⟩ := stBox (S := 0) hrt4
        go_wp2
        (try simp only [Exit.inBlock, Exit.then])
        refine bodyPost_ret (v := .tuple #[.agg #[.int .i64 ((S ||| 2 ^ i : Nat) : Int), .int .i64 rl], .bool true]) ?_ rfl ⟨rfl, ((hw.setCell (p := ⟨w.heap.size, 0, none⟩) (Nat.le_refl _) _).setCell (by simp) _).setCell (by simp) _⟩
        rw [results_cell_tmp rfl]
        go_simp
        exact or_bit' S i hs (by omega)
      · have h2' : (o2 != vl) = true := by simpa using h2
        obtain ⟨⟨rfl, rfl⟩, rfl⟩ : (rs = S ∧ rl = l) ∧ rb = false := by have := HV2.out; simpa [h7, h2] using this
        refine quiet_below (by kernel_rfl) (by kernel_rfl) ?_
        repeat (go_big_quiet_step (first | (go_at_call 111; exact Calls.regrown_of (HH.out _ _)) | (go_at_call 112; exact Calls.regrown_of (HRd.out _ _)) | (go_at_call 78; exact Calls.regrown_of (HVl.out _ _))))
        refine wpQuiet_nil ?_
        intro W2 hb2
        have hbw := fin W2 hb2
        obtain ⟨s0, s1⟩ := stBox (keptB hst hb2)
        have hrt2 := keptB hrt hb2
        have fr0 : W2.frozen? ⟨w.heap.size + 1, 0, none⟩ = false := frozen_of_row _ _ _ _ _ hrt2
        have fr1 : W2.frozen? ⟨w.heap.size + 1, 1, none⟩ = false := frozen_of_row _ _ _ _ _ hrt2
        obtain ⟨r0, r1⟩ := stBox (S := 0) hrt2
        clear R Xb Sb HH HRd HVl hst hrt hrt2 hob fin
        go_wp2
        (try simp only [Exit.inBlock, Exit.then])
        refine bodyPost_ret (v := .tuple #[.agg #[.int .i64 (rs : Int), .int .i64 rl], .bool false]) ?_ rfl ⟨rfl, (hbw.setCell (by simp) _).setCell (by simp) _⟩
        rw [results_cell_tmp rfl]
        go_simp
end Go.Proofs.Ytcgbnlhloopnfaa
