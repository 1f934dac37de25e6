/- Walk of piecesum.LeafSum. -/
import Derived.Test.YtjgjofepedcfnaaGreatRrA
namespace Go.Proofs.YtjgjofepedcfnaaGreat
open Go.RowKit
theorem make_bytesR (w : World) (n : Nat) (h : n ≤ 1000000) : (Instr.makeSlice 26 (.int .i64 (n : Int)) (.int .i64 (n : Int))).run Tryz.prog w = .ok (.slice (some ⟨w.heap.size, 0, none⟩) n n) (w.alloc (.cells (madeCells #[.int .u8 0] n) 5)) := by
 obtain ⟨i, hi, h1, h2, h3⟩ := info_parts (P := Tryz.prog) (e := 5) (z := .int .u8 0) (size := 1) (bytes := 1) (by kernel_rfl)
 have hr := run_make (P := Tryz.prog) w 26 5 i _ Tryz.underlying26 hi h1 .i64 .i64 n n (by omega) (Int.le_refl _) (by rw [h3]; omega) (by omega)
 simp only [Int.toNat_natCast, h2, Nat.mul_one] at hr
 exact hr
set_option maxHeartbeats 2000000 in
set_option maxRecDepth 100000 in
theorem leafP (g : Nat) {B : Nat} {v : Value} {x : Leaf} (w : World) (h : LfV w B v x) (hB : B ≤ w.heap.size) (hn : x.vs.length = x.ss.length) (hg : g < 1000000) (hl : x.vs.length ≤ 1000) :
  Calls Tryz.prog 59 #[.int .i64 (g : Int), v] w fun r w' => r = .returned (.int .u64 (lfN g x : Int)) ∧ Below w.heap.size w w' := by
 obtain ⟨vs, ss⟩ := x
 obtain ⟨Av, cv, As, cs, rfl, h1, h2, -, -⟩ := h
 simp only at h1 h2 hn hl ⊢
 rw [← hn]
 have hc1 := fun W => conv_iu64 (g : Int) (by omega) (by omega) W
 have hc2 := fun W => conv_iu64 (vs.length : Int) (by omega) (by omega) W
 obtain ⟨n, hnn⟩ : ∃ n, vs.length = n := ⟨_, rfl⟩
 obtain ⟨l1, hl1⟩ : ∃ l1, leB g 4 = l1 := ⟨_, rfl⟩
 obtain ⟨l2, hl2⟩ : ∃ l2, l1 ++ leB n 4 = l2 := ⟨_, rfl⟩
 have n1 : l1.length = 4 := by rw [← hl1]; simp
 have n2 : l2.length = 8 := by rw [← hl2]; simp [n1]
 have HE : Hid (l2 ++ prL vs ss = lfL g vs ss) := by rw [Hid, ← hl2, ← hl1, ← hnn]; rfl
 have HLT : Hid (∀ x ∈ l2 ++ prL vs ss, x < 256) := by rw [Hid, HE.out]; exact lfL_lt g vs ss
 have HN : Hid (lfN g ⟨vs, ss⟩ = crcN (l2 ++ prL vs ss)) := by rw [Hid, HE.out]; rfl
 have HLL : Hid (∀ k, k ≤ n → (l2 ++ prL (vs.take k) (ss.take k)).length = 8 + 16 * k) := fun k hk => by
  rw [List.length_append, prL_len _ _ (by simp [hn]), List.length_take, n2]
  omega
 have HH1 := Lib.hid (RdS.more (RdS.below' h1 (Below.refl _ _) hB) hB)
 have HH2 := Lib.hid (RdS.more (RdS.below' h2 (Below.refl _ _) hB) hB)
 have HNS : Hid (ss.length = n) := by rw [Hid, ← hn, hnn]
 have HNV : Hid (vs.length = n) := hnn
 rw [hnn] at hc2 hl ⊢
 obtain ⟨m, hm⟩ : ∃ m, 8 + 16 * n = m := ⟨_, rfl⟩
 obtain ⟨Z, hZ⟩ : ∃ Z : List Value, List.replicate m (Value.int .u8 0) = Z := ⟨_, rfl⟩
 have HZN : Hid (Z.length = m) := by rw [Hid, ← hZ]; simp
 have HP1 : Hid (∀ (k c : Nat) (W : World), W.heap[k]? = some (.cells Z.toArray 5 (0, 0)) → Calls Tryz.prog 107 #[.slice (some ⟨k, 0, none⟩) 4 c, .int .u64 (g : Int)] W fun r w' => r = .returned (.tuple #[]) ∧ w'.heap[k]? = some (.cells (u8V l1 ++ Z.drop 4).toArray 5 (0, 0)) ∧ W.grownBy w' (some k)) := fun k c W h => by
  have := put_at (g := k) (a := 0) (k := 4) (cap := c) (l := []) (Z := Z) (T := 5) g W (by simpa [u8V] using h) rfl (by rw [HZN.out]; omega) (by omega)
  rw [List.nil_append, hl1] at this
  exact this
 have HP2 : Hid (∀ (k c : Nat) (W : World), W.heap[k]? = some (.cells (u8V l1 ++ Z.drop 4).toArray 5 (0, 0)) → Calls Tryz.prog 107 #[.slice (some ⟨k, 4, none⟩) 4 c, .int .u64 (n : Int)] W fun r w' => r = .returned (.tuple #[]) ∧ w'.heap[k]? = some (.cells (u8V l2 ++ Z.drop 8).toArray 5 (0, 0)) ∧ W.grownBy w' (some k)) := fun k c W h => by
  have := put_at (g := k) (a := 4) (k := 4) (cap := c) (l := l1) (Z := Z.drop 4) (T := 5) n W h n1 (by rw [List.length_drop, HZN.out]; omega) (by omega)
  rw [hl2, List.drop_drop] at this
  exact this
 generalize lfN g ⟨vs, ss⟩ = S at *
 have N2 : Hid (l2.length = 8) := n2
 have HM : Hid (m = 8 + 16 * n) := hm.symm
 have hmI : (8 : Int) + 16 * (n : Int) = (m : Int) := by omega
 have hm1 : IntKind.i64.wrap (16 * (n : Int)) = 16 * (n : Int) := IntWalk.i64_in _ (by omega)
 have hm2 : IntKind.i64.wrap (m : Int) = (m : Int) := IntWalk.i64_in _ (by omega)
 have hmk : ∀ W : World, (Instr.makeSlice 26 (.int .i64 (m : Int)) (.int .i64 (m : Int))).run Tryz.prog W = .ok (.slice (some ⟨W.heap.size, 0, none⟩) m m) (W.alloc (.cells (madeCells #[.int .u8 0] m) 5)) := fun W => make_bytesR W m (by omega)
 have hmz : (madeCells #[.int .u8 0] m).toList = Z := by rw [made_list, hZ]
 clear h1 h2 hn hnn HE hl1 hl2 n1 n2 hZ
 go_enter Tryz.func59, Tryz.ntmps59
 go_upto_region 1 with (fail)
 generalize hW0 : w.alloc _ = w0
 have HBX0 : Hid (w0.heap[w.heap.size]? = some (.cells #[.slice Av n cv, .slice As n cs] 80 (0, 0))) := by rw [← hW0]; exact heap_alloc_new w _
 have HB0 : Hid (Below w.heap.size w w0) := by rw [← hW0]; exact below_laid
 have HL0 : Hid (w.heap.size < w0.heap.size) := (Array.getElem?_eq_some_iff.1 HBX0.out).1
 have b0 : w0.cell? ⟨w.heap.size, 0, none⟩ = some (.slice Av n cv) := by rw [cell_of_row _ _ _ _ _ _ HBX0.out]; rfl
 have b1 : w0.cell? ⟨w.heap.size, 1, none⟩ = some (.slice As n cs) := by rw [cell_of_row _ _ _ _ _ _ HBX0.out]; rfl
 clear hW0
 go_wp2_with fail
 refine (pieces_any w0).mono ?_
 rintro r w1 ⟨rfl, hb1⟩
 have HBX1 := Lib.hid ((hb1.block _ HL0.out).trans HBX0.out)
 have HB1 := Lib.hid (HB0.out.trans (hb1.mono HB0.out.size))
 have HL1 := Lib.hid (Nat.lt_of_lt_of_le HL0.out hb1.size)
 clear hb1 b0 b1 HBX0 HB0 HL0
 go_upto_region 3 with (fail)
 generalize hW2 : w1.alloc _ = w2
 have HG2 : Hid (w2.heap[w1.heap.size]? = some (.cells Z.toArray 5 (0, 0))) := by
  rw [← hW2, ← hmz]
  exact heap_alloc_new w1 _
 have hbl : Below w1.heap.size w1 w2 := by rw [← hW2]; exact below_laid
 have HBX2 := Lib.hid ((hbl.block _ HL1.out).trans HBX1.out)
 have HB2 := Lib.hid (HB1.out.trans (hbl.mono HB1.out.size))
 generalize w1.heap.size = X at *
 have HXL : Hid (w.heap.size < X) := HL1.out
 clear hW2 hbl HBX1 HB1 HL1 hmk hmz
 have m4 : ¬ m = 4 := by omega
 have m8 : (8 : Int) ≤ (m : Int) := by omega
 have m4' : (4 : Int) ≤ (m : Int) := by omega
 go_wp2_with fail
 refine (HP1.out X m w2 HG2.out).mono ?_
 rintro r w3 ⟨rfl, hg3, hgr⟩
 have HG3 := Lib.hid hg3
 have HBX3 := Lib.hid ((hgr.block w.heap.size (by have := HXL.out; have := (Array.getElem?_eq_some_iff.1 HBX2.out).1; omega) (fun h => by injection h with h; have := HXL.out; omega)).trans HBX2.out)
 have HB3 := Lib.hid (HB2.out.grown hgr HB2.out.size (fun k h => by injection h with h; have := HXL.out; omega))
 clear hg3 hgr HG2 HBX2 HB2 HP1
 go_wp2_with fail
 refine (HP2.out X _ w3 HG3.out).mono ?_
 rintro r w4 ⟨rfl, hg4, hgr⟩
 have HG4 := Lib.hid hg4
 have HBX4 := Lib.hid ((hgr.block w.heap.size (by have := HXL.out; have := (Array.getElem?_eq_some_iff.1 HBX3.out).1; omega) (fun h => by injection h with h; have := HXL.out; omega)).trans HBX3.out)
 have HB4 := Lib.hid (HB3.out.grown hgr HB3.out.size (fun k h => by injection h with h; have := HXL.out; omega))
 clear hg4 hgr HG3 HBX3 HB3 HP2
 go_wp2
 go_loopw [25] (fun s25 wr => ∃ k : Nat, k ≤ n ∧ s25 = .int .i64 k ∧ wr.heap[X]? = some (.cells (u8V (l2 ++ prL (vs.take k) (ss.take k)) ++ Z.drop (8 + 16 * k)).toArray 5 (0, 0)) ∧ wr.heap[w.heap.size]? = some (.cells #[.slice Av n cv, .slice As n cs] 80 (0, 0)) ∧ Below w.heap.size w wr) (fun s25 _ => n - (intOf s25).toNat)
 case atStart => exact ⟨0, by omega, rfl, by simpa [prL] using HG4.out, HBX4.out, HB4.out⟩
 case round =>
  obtain ⟨k, hk, rfl, hg, hbx, hb⟩ := hrel
  have HLK := Lib.hid (HLL.out k hk)
  have HG := Lib.hid hg
  have HBX := Lib.hid hbx
  have HB := Lib.hid hb
  clear hg hbx hb HG4 HBX4 HB4
  by_cases hkn : k < n
  case neg =>
   have hkI : ¬ (k : Int) < (n : Int) := by omega
   obtain rfl : k = n := by omega
   have HEE : Hid (l2 ++ prL (vs.take k) (ss.take k) = l2 ++ prL vs ss) := by rw [Hid, List.take_of_length_le (Nat.le_of_eq HNV.out), List.take_of_length_le (Nat.le_of_eq HNS.out)]
   rw [HEE.out] at HG HLK
   have HSM : Hid (Calls Tryz.prog 108 #[.slice (some ⟨X, 0, none⟩) m m] wr fun r w' => r = .returned (.int .u64 (S : Int)) ∧ wr = w') := by
    have h0 : Z.drop (8 + 16 * k) = [] := List.drop_of_length_le (by rw [HZN.out, HM.out]; exact Nat.le_refl _)
    have hgg := HG.out
    rw [h0, List.append_nil] at hgg
    have hby := bytS_block (B := X + 1) (l := l2 ++ prL vs ss) hgg (by rw [u8V_flat]) (by omega)
    have := sum64 (c := m) wr hby HLT.out (by have := HLK.out; omega)
    rw [HLK.out, ← HM.out, ← HN.out] at this
    exact this
   clear HG HLK
   go_wp2_with fail
   refine HSM.out.mono ?_
   rintro r w3 ⟨rfl, rfl⟩
   go_wp2
   go_ret
   exact ⟨rfl, HB.out⟩
  case pos =>
   have hkI : (k : Int) < (n : Int) := by omega
   have hk0 : ¬ (k : Int) < 0 := by omega
   obtain ⟨xv, hxv⟩ : ∃ x, vs[k]? = some x := ⟨_, List.getElem?_eq_getElem (by have := HNV.out; omega)⟩
   obtain ⟨xs, hxs⟩ : ∃ x, ss[k]? = some x := ⟨_, List.getElem?_eq_getElem (by have := HNS.out; omega)⟩
   obtain ⟨bv, ov, rfl, hbv, hcv⟩ := U64S.at_ HH1.out hxv
   obtain ⟨bs, os, rfl, hbs, hcs⟩ := U64S.at_ HH2.out hxs
   have HSN := Lib.hid (prL_snoc hxv hxs)
   have HKS : Hid (∀ W : World, Below w.heap.size w W → W.heap[w.heap.size]? = some (.cells #[.slice (some ⟨bv, ov, none⟩) n cv, .slice (some ⟨bs, os, none⟩) n cs] 80 (0, 0)) → (W.cell? ⟨w.heap.size, 0, none⟩ = some (.slice (some ⟨bv, ov, none⟩) n cv) ∧ W.cell? ⟨w.heap.size, 1, none⟩ = some (.slice (some ⟨bs, os, none⟩) n cs) ∧ W.cell? ⟨bv, ov + k, none⟩ = some (.int .u64 (xv : Int)) ∧ W.cell? ⟨bs, os + k, none⟩ = some (.int .u64 (xs : Int)))) := fun W hWw hq =>
    ⟨by rw [cell_of_row _ _ _ _ _ _ hq]; rfl, by rw [cell_of_row _ _ _ _ _ _ hq]; rfl, (hWw.cell (p := ⟨bv, ov + k, none⟩) hbv).trans hcv, (hWw.cell (p := ⟨bs, os + k, none⟩) hbs).trans hcs⟩
   have HSE : Hid (l2 ++ prL (vs.take (k + 1)) (ss.take (k + 1)) = l2 ++ prL (vs.take k) (ss.take k) ++ leB xv 8 ++ leB xs 8) := by
    rw [Hid, HSN.out]
    simp only [List.append_assoc]
   obtain ⟨a, ha⟩ : ∃ a, 8 + 16 * k = a := ⟨_, rfl⟩
   obtain ⟨b, hb⟩ : ∃ b, a + 8 = b := ⟨_, rfl⟩
   obtain ⟨c, hc⟩ : ∃ c, b + 8 = c := ⟨_, rfl⟩
   generalize l2 ++ prL (vs.take k) (ss.take k) = lk at *
   rw [ha] at HG HLK
   have HQ1 : Hid (∀ (cp : Nat) (W : World), W.heap[X]? = some (.cells (u8V lk ++ Z.drop a).toArray 5 (0, 0)) → Calls Tryz.prog 107 #[.slice (some ⟨X, a, none⟩) (b - a) cp, .int .u64 (xv : Int)] W fun r w' => r = .returned (.tuple #[]) ∧ w'.heap[X]? = some (.cells (u8V (lk ++ leB xv 8) ++ Z.drop b).toArray 5 (0, 0)) ∧ W.grownBy w' (some X)) := fun cp W h => by
    have := put_at (g := X) (a := a) (k := 8) (cap := cp) (l := lk) (Z := Z.drop a) (T := 5) xv W h HLK.out (by rw [List.length_drop, HZN.out]; omega) (by omega)
    rw [List.drop_drop, hb] at this
    rw [show b - a = 8 by omega]
    exact this
   have HQ2 : Hid (∀ (cp : Nat) (W : World), W.heap[X]? = some (.cells (u8V (lk ++ leB xv 8) ++ Z.drop b).toArray 5 (0, 0)) → Calls Tryz.prog 107 #[.slice (some ⟨X, b, none⟩) (c - b) cp, .int .u64 (xs : Int)] W fun r w' => r = .returned (.tuple #[]) ∧ w'.heap[X]? = some (.cells (u8V (lk ++ leB xv 8 ++ leB xs 8) ++ Z.drop c).toArray 5 (0, 0)) ∧ W.grownBy w' (some X)) := fun cp W h => by
    have := put_at (g := X) (a := b) (k := 8) (cap := cp) (l := lk ++ leB xv 8) (Z := Z.drop b) (T := 5) xs W h (by rw [List.length_append, HLK.out, leB_len]; exact hb) (by rw [List.length_drop, HZN.out]; omega) (by omega)
    rw [List.drop_drop, hc] at this
    rw [show c - b = 8 by omega]
    exact this
   have q1 : IntKind.i64.wrap (16 * (k : Int)) = 16 * (k : Int) := IntWalk.i64_in _ (by omega)
   have q2 : (8 : Int) + 16 * (k : Int) = (a : Int) := by omega
   have q3 : (16 : Int) + 16 * (k : Int) = (b : Int) := by omega
   have q4 : (24 : Int) + 16 * (k : Int) = (c : Int) := by omega
   have q5 : IntKind.i64.wrap (a : Int) = (a : Int) := IntWalk.i64_in _ (by omega)
   have q6 : IntKind.i64.wrap (b : Int) = (b : Int) := IntWalk.i64_in _ (by omega)
   have q7 : IntKind.i64.wrap (c : Int) = (c : Int) := IntWalk.i64_in _ (by omega)
   have q8 : (a : Int) ≤ (b : Int) := by omega
   have q9 : (b : Int) ≤ (c : Int) := by omega
   have q10 : (b : Int) ≤ (m : Int) := by omega
   have q11 : (c : Int) ≤ (m : Int) := by omega
   have q12 : ¬ m = a := by omega
   have q13 : ¬ m = b := by omega
   have HCE : Hid (8 + 16 * (k + 1) = c) := by rw [Hid]; omega
   have hS1 := HKS.out wr HB.out HBX.out
   have HBW := Lib.hid (HKS.out)
   clear hcv hcs hxv hxs HSN ha hb hc hkn
   go_upto_region 8 with (fail)
   have HKD : Hid (∀ W, wr.drew.grownBy W (some X) → Below w.heap.size w W ∧ W.heap[w.heap.size]? = some (.cells #[.slice (some ⟨bv, ov, none⟩) n cv, .slice (some ⟨bs, os, none⟩) n cs] 80 (0, 0))) := fun W hg => ⟨HB.out.drew.grown hg (by show w.heap.size ≤ wr.heap.size; exact HB.out.size) (fun k h => by injection h with h; have := HXL.out; omega), (hg.block w.heap.size (Array.getElem?_eq_some_iff.1 HBX.out).1 (fun h => by injection h with h; have := HXL.out; omega)).trans HBX.out⟩
   have HKW : Hid (∀ W, wr.grownBy W (some X) → Below w.heap.size w W ∧ W.heap[w.heap.size]? = some (.cells #[.slice (some ⟨bv, ov, none⟩) n cv, .slice (some ⟨bs, os, none⟩) n cs] 80 (0, 0))) := fun W hg => ⟨HB.out.grown hg HB.out.size (fun k h => by injection h with h; have := HXL.out; omega), (hg.block w.heap.size (Array.getElem?_eq_some_iff.1 HBX.out).1 (fun h => by injection h with h; have := HXL.out; omega)).trans HBX.out⟩
   have HSD : Hid ((wr.drew.cell? ⟨w.heap.size, 0, none⟩ = some (.slice (some ⟨bv, ov, none⟩) n cv) ∧ wr.drew.cell? ⟨w.heap.size, 1, none⟩ = some (.slice (some ⟨bs, os, none⟩) n cs) ∧ wr.drew.cell? ⟨bv, ov + k, none⟩ = some (.int .u64 (xv : Int)) ∧ wr.drew.cell? ⟨bs, os + k, none⟩ = some (.int .u64 (xs : Int)))) := HKS.out wr.drew HB.out.drew HBX.out
   have HQD := Lib.hid (fun cp => HQ1.out cp wr.drew HG.out)
   go_region_held3 (fun W => W.cell? ⟨w.heap.size, 0, none⟩ = some (.slice (some ⟨bv, ov, none⟩) n cv) ∧ W.cell? ⟨w.heap.size, 1, none⟩ = some (.slice (some ⟨bs, os, none⟩) n cs) ∧ W.cell? ⟨bv, ov + k, none⟩ = some (.int .u64 (xv : Int)) ∧ W.cell? ⟨bs, os + k, none⟩ = some (.int .u64 (xs : Int)))
    (first | with_reducible exact hS1 | with_reducible exact HSD.out | with_reducible exact HKS.out _ hb8 hbx8 | (trace_state; fail))
    (first
     | (go_at_call 107; first
      | ((with_reducible refine (HQD.out _).mono ?_); rintro r w8 ⟨rfl, hg8, hgr8⟩; obtain ⟨hb8, hbx8⟩ := HKD.out w8 hgr8)
      | ((with_reducible refine (HQ1.out _ wr HG.out).mono ?_); rintro r w8 ⟨rfl, hg8, hgr8⟩; obtain ⟨hb8, hbx8⟩ := HKW.out w8 hgr8)
      | (trace_state; fail))
     | fail)
   all_goals
    have HG8 := Lib.hid hg8
    have HB8 := Lib.hid hb8
    have HBX8 := Lib.hid hbx8
    have hS8 := HKS.out w8 hb8 hbx8
    have HSE8 := Lib.hid (HKS.out w8.drew hb8.drew hbx8)
    have HR8 := Lib.hid (fun cp => HQ2.out cp w8.drew hg8)
    have HKD8 : Hid (∀ W, w8.drew.grownBy W (some X) → Below w.heap.size w W ∧ W.heap[w.heap.size]? = some (.cells #[.slice (some ⟨bv, ov, none⟩) n cv, .slice (some ⟨bs, os, none⟩) n cs] 80 (0, 0))) := fun W hg => ⟨HB8.out.drew.grown hg (by show w.heap.size ≤ w8.heap.size; exact HB8.out.size) (fun k h => by injection h with h; have := HXL.out; omega), (hg.block w.heap.size (Array.getElem?_eq_some_iff.1 HBX8.out).1 (fun h => by injection h with h; have := HXL.out; omega)).trans HBX8.out⟩
    clear hg8 hb8 hbx8 hgr8 HKW HKD HSD HQD hS1 HG
    go_upto_region 9 with (fail)
    go_region_held3 (fun W => W.cell? ⟨w.heap.size, 0, none⟩ = some (.slice (some ⟨bv, ov, none⟩) n cv) ∧ W.cell? ⟨w.heap.size, 1, none⟩ = some (.slice (some ⟨bs, os, none⟩) n cs) ∧ W.cell? ⟨bv, ov + k, none⟩ = some (.int .u64 (xv : Int)) ∧ W.cell? ⟨bs, os + k, none⟩ = some (.int .u64 (xs : Int)))
     (first | with_reducible exact hS8 | with_reducible exact HSE8.out | with_reducible exact HKS.out _ hb9 hbx9 | (trace_state; fail))
     (first
      | (go_at_call 107; first
       | ((with_reducible refine (HR8.out _).mono ?_); rintro r w9 ⟨rfl, hg9, hgr9⟩; obtain ⟨hb9, hbx9⟩ := HKD8.out w9 hgr9)
       | (trace_state; fail))
      | fail)
    all_goals
     have HG9 : Hid (w9.heap[X]? = some (.cells (u8V (l2 ++ prL (vs.take (k + 1)) (ss.take (k + 1))) ++ Z.drop (8 + 16 * (k + 1))).toArray 5 (0, 0))) := by rw [Hid, HSE.out, HCE.out]; exact hg9
     have HB9 := Lib.hid hb9
     have HBX9 := Lib.hid hbx9
     clear hg9 hb9 hbx9 hgr9 hS8 HSE8 HR8 HKD8
     go_wp2
     go_roundw
     case rel => exact ⟨k + 1, by omega, by go_num, HG9.out, HBX9.out, HB9.out⟩
     case measure => simp [intOf] <;> omega
end Go.Proofs.YtjgjofepedcfnaaGreat
