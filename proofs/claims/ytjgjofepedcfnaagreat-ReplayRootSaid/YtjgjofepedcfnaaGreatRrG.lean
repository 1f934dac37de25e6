/- Walks of sumtree.root, sumtree.Root, tegularef26.Top. -/
import Derived.Test.YtjgjofepedcfnaaGreatRrF
namespace Go.Proofs.YtjgjofepedcfnaaGreat
open Go.RowKit
set_option maxHeartbeats 1000000 in
set_option maxRecDepth 100000 in
theorem root_any (n s : Nat) (w : World) (hn : n < 9223372036854775808) : Calls Tryz.prog 109 #[.int .i64 (n : Int), .int .u64 (s : Int)] w fun r w' => r = .returned (.int .u64 (crcN (leB n 8 ++ leB s 8) : Int)) ∧ Below w.heap.size w w' := by
 have hcv := fun W => conv_iu64 (n : Int) (by omega) (by omega) W
 have HLT : Hid (∀ x ∈ leB n 8 ++ leB s 8, x < 256) := fun x hx => by
  rcases List.mem_append.1 hx with hx | hx <;> exact leB_lt x hx
 have HN1 : Hid (∀ W : World, Calls Tryz.prog 138 #[.slice none 0 0, .int .u64 (n : Int)] W fun r w' => (∃ v', r = .returned v' ∧ OwS w' W.heap.size 5 1 v' ((leB n 8).map u8C)) ∧ Below W.heap.size W w') := fun W => by
  have := number_any (l := []) n W (OwS.nil _ _ _ _) (Nat.le_refl _) (by simp)
  simpa using this
 have HLL : Hid ((leB n 8).length = 8) := leB_len n 8
 have HL2 : Hid ((leB n 8 ++ leB s 8).length = 16) := by rw [Hid, List.length_append, leB_len, leB_len]
 generalize leB n 8 = l1 at *
 obtain ⟨l2, hl2⟩ : ∃ l2, l1 ++ leB s 8 = l2 := ⟨_, rfl⟩
 have HE := Lib.hid hl2
 rw [hl2] at HLT HL2 ⊢
 clear hl2
 go_enter Tryz.func109, Tryz.ntmps109
 go_wp2_with fail
 refine (HN1.out w).mono ?_
 rintro r w1 ⟨⟨v1, rfl, ho1⟩, hb1⟩
 have HN2 := Lib.hid (number_any s w1 ho1 hb1.size (by rw [HLL.out]; omega))
 rw [HE.out] at HN2
 have HB1 := Lib.hid hb1
 clear ho1 hb1 HN1
 go_wp2_with fail
 refine HN2.out.mono ?_
 rintro r w2 ⟨⟨v2, rfl, ho2⟩, hb2⟩
 obtain ⟨A2, c2, rfl, hby⟩ := ho2.bytes
 have HSM := Lib.hid (sum64 (c := c2) w2 hby HLT.out (by rw [HL2.out]; omega))
 have HB2 := Lib.hid (HB1.out.trans hb2)
 clear ho2 hby hb2 HN2
 go_wp2_with fail
 refine HSM.out.mono ?_
 rintro r w3 ⟨rfl, rfl⟩
 go_wp2
 go_ret
 exact ⟨rfl, HB2.out⟩
set_option maxHeartbeats 1000000 in
set_option maxRecDepth 100000 in
theorem top26 (n s : Nat) (w : World) (hn : n < 9223372036854775808) : Calls Tryz.prog 114 #[.int .i64 (n : Int), .int .u64 (s : Int)] w fun r w' => r = .returned (.int .u64 (crcN (leB n 8 ++ leB s 8) : Int)) ∧ Below w.heap.size w w' := by
 have hcv := fun W => conv_iu64 (n : Int) (by omega) (by omega) W
 have HLT : Hid (∀ x ∈ leB n 8 ++ leB s 8, x < 256) := fun x hx => by
  rcases List.mem_append.1 hx with hx | hx <;> exact leB_lt x hx
 have HN1 : Hid (∀ W : World, Calls Tryz.prog 111 #[.slice none 0 0, .int .u64 (n : Int), .int .i64 8] W fun r w' => (∃ A' c', r = .returned (.slice A' (leB n 8).length c') ∧ BytS w' w'.heap.size A' (leB n 8)) ∧ Below W.heap.size W w') := fun W => by
  have := put15v (A := none) (c := 0) (l := []) n 8 W (RdS.nil _ _ _ _) (by simp) (by omega)
  rw [List.nil_append] at this
  exact this
 have HLL : Hid ((leB n 8).length = 8) := leB_len n 8
 have HL2 : Hid ((leB n 8 ++ leB s 8).length = 16) := by rw [Hid, List.length_append, leB_len, leB_len]
 generalize leB n 8 = l1 at *
 obtain ⟨l2, hl2⟩ : ∃ l2, l1 ++ leB s 8 = l2 := ⟨_, rfl⟩
 have HE := Lib.hid hl2
 rw [hl2] at HLT HL2 ⊢
 clear hl2
 go_enter Tryz.func114, Tryz.ntmps114
 go_wp2_with fail
 refine (HN1.out w).mono ?_
 rintro r w1 ⟨⟨A1, c1, rfl, ho1⟩, hb1⟩
 have HN2 := Lib.hid (put15v (c := c1) s 8 w1 ho1 (by rw [HLL.out]; omega) (by omega))
 rw [HE.out] at HN2
 have HB1 := Lib.hid hb1
 clear ho1 hb1 HN1
 go_wp2_with fail
 refine HN2.out.mono ?_
 rintro r w2 ⟨⟨A2, c2, rfl, hby⟩, hb2⟩
 have HSM := Lib.hid (sum08 (c := c2) w2 hby HLT.out (by rw [HL2.out]; omega))
 have HB2 := Lib.hid (HB1.out.trans (hb2.mono HB1.out.size))
 clear hby hb2 HN2
 go_wp2_with fail
 refine HSM.out.mono ?_
 rintro r w3 ⟨rfl, rfl⟩
 go_wp2
 go_ret
 exact ⟨rfl, HB2.out⟩
set_option maxHeartbeats 1000000 in
set_option maxRecDepth 100000 in
theorem treeRoot {l : List Nat} {lv : Int} {p : Option Addr} (w : World) (hn : l.length ≤ 100000) (h0 : l = [] → p = none) (h1 : l ≠ [] → ∃ q, p = some ⟨q, 0, none⟩ ∧ q < w.heap.size ∧ w.cell? ⟨q, 0, none⟩ = some (.int .u64 ((topL l).headD 0 : Int))) :
  Calls Tryz.prog 60 #[.agg #[.int .i64 (l.length : Int), .int .i64 lv, .pointer p]] w fun r w' => r = .returned (.int .u64 (rtN l : Int)) ∧ Below w.heap.size w w' := by
 by_cases hl : l = []
 ·obtain rfl := h0 hl
  subst hl
  have HR : Hid (∀ W : World, Calls Tryz.prog 109 #[.int .i64 0, .int .u64 0] W fun r w' => r = .returned (.int .u64 (rtN [] : Int)) ∧ Below W.heap.size W w') := fun W => root_any 0 0 W (by omega)
  clear h0 h1
  go_enter Tryz.func60, Tryz.ntmps60
  go_upto_region 1 with (fail)
  have hb0 : Below w.heap.size w (w.alloc (.cells #[.int .i64 (([] : List Nat).length : Int), .int .i64 lv, .pointer none] 112)) := below_laid
  have hc := heap_alloc_new w (.cells #[.int .i64 (([] : List Nat).length : Int), .int .i64 lv, .pointer none] 112)
  generalize w.alloc _ = w0 at *
  have z0 : w0.cell? ⟨w.heap.size, 0, none⟩ = some (.int .i64 0) := by rw [cell_of_row _ _ _ _ _ _ hc]; rfl
  have z2 : w0.cell? ⟨w.heap.size, 2, none⟩ = some (.pointer none) := by rw [cell_of_row _ _ _ _ _ _ hc]; rfl
  have HB0 := Lib.hid hb0
  clear hb0 hc
  go_wp2_with fail
  refine (HR.out w0).mono ?_
  rintro r w1 ⟨rfl, hb1⟩
  have HB1 := Lib.hid (HB0.out.trans (hb1.mono HB0.out.size))
  clear hb1
  go_wp2
  go_ret
  exact ⟨rfl, HB1.out⟩
 ·obtain ⟨q, rfl, hq, hqc⟩ := h1 hl
  have HR : Hid (∀ W : World, Calls Tryz.prog 109 #[.int .i64 (l.length : Int), .int .u64 ((topL l).headD 0 : Int)] W fun r w' => r = .returned (.int .u64 (rtN l : Int)) ∧ Below W.heap.size W w') := fun W => root_any l.length _ W (by omega)
  generalize (topL l).headD 0 = s at *
  clear h0 h1 hl
  go_enter Tryz.func60, Tryz.ntmps60
  go_upto_region 1 with (fail)
  have hb0 : Below w.heap.size w (w.alloc (.cells #[.int .i64 (l.length : Int), .int .i64 lv, .pointer (some ⟨q, 0, none⟩)] 112)) := below_laid
  have hc := heap_alloc_new w (.cells #[.int .i64 (l.length : Int), .int .i64 lv, .pointer (some ⟨q, 0, none⟩)] 112)
  have hq0 := (hb0.cell (p := ⟨q, 0, none⟩) hq).trans hqc
  generalize w.alloc _ = w0 at *
  have HC : Hid (∀ W, Below w0.heap.size w0 W → W.cell? ⟨w.heap.size, 0, none⟩ = some (.int .i64 (l.length : Int)) ∧ W.cell? ⟨w.heap.size, 2, none⟩ = some (.pointer (some ⟨q, 0, none⟩)) ∧ W.cell? ⟨q, 0, none⟩ = some (.int .u64 (s : Int))) := fun W hW => by
   have h2 := (hW.block _ (Array.getElem?_eq_some_iff.1 hc).1).trans hc
   exact ⟨by rw [cell_of_row _ _ _ _ _ _ h2]; rfl, by rw [cell_of_row _ _ _ _ _ _ h2]; rfl, (hW.cell (p := ⟨q, 0, none⟩) (by show q < _; have := hb0.size; omega)).trans hq0⟩
  have X0 := HC.out w0 (Below.refl _ _)
  have HB0 := Lib.hid hb0
  clear hb0 hc hq hqc hq0
  obtain ⟨z0, z2, zq⟩ := X0
  go_upto_region 3 with (fail)
  have X3 := fun d xs => HC.out (Sort.grow (redrawn w0 d) xs) (below_regrown w0 d xs)
  have KR := Lib.hid (fun d xs => HR.out (Sort.grow (redrawn w0 d) xs))
  clear z0 z2 zq
  refine quiet_below (by kernel_rfl) (by kernel_rfl) ?_
  repeat (go_big_quiet_step (first | (go_at_call 109; exact Calls.regrown_of (KR.out _ _))))
  refine wpQuiet_nil ?_
  intro w1 hb1
  have HB1 := Lib.hid (HB0.out.trans (hb1.mono HB0.out.size))
  clear X3 KR hb1
  go_wp2
  go_ret
  exact ⟨rfl, HB1.out⟩
end Go.Proofs.YtjgjofepedcfnaaGreat
