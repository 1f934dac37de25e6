/- Walk of tegularef25.LeafSum.
Walk of piecesum.LeafSum.
The sum of a run of sums, on lists; walks of sumtree.number and run, and of tegularef26.run. -/
import Derived.Test.YtopoefcklipaeaaGreatDoorGWp
import Derived.Test.YtopoefcklipaeaaGreatDoorGRo
namespace Go.Proofs.YtopoefcklipaeaaGreatDoor
open Go.RowKit
def prL (vs ss : List Nat) : List Nat := (vs.zip ss).flatMap fun p => leB p.1 8 ++ leB p.2 8
def lfL (g : Nat) (vs ss : List Nat) : List Nat := leB g 4 ++ leB vs.length 4 ++ prL vs ss
def lfN (g : Nat) (x : Leaf) : Nat := crcN (lfL g x.vs x.ss)
theorem prL_lt (vs ss : List Nat) : ∀ x ∈ prL vs ss, x < 256 := by
 intro x hx
 unfold prL at hx
 obtain ⟨p, -, hx⟩ := List.mem_flatMap.1 hx
 rcases List.mem_append.1 hx with hx | hx <;> exact leB_lt x hx
theorem lfL_lt (g : Nat) (vs ss : List Nat) : ∀ x ∈ lfL g vs ss, x < 256 := by
 intro x hx
 unfold lfL at hx
 rcases List.mem_append.1 hx with hx | hx
 ·rcases List.mem_append.1 hx with hx | hx <;> exact leB_lt x hx
 ·exact prL_lt vs ss x hx
theorem prL_len (vs ss : List Nat) (h : vs.length = ss.length) : (prL vs ss).length = 16 * vs.length := by
 unfold prL
 induction vs generalizing ss with
 | nil => simp
 | cons a vs ih =>
  cases ss with
  | nil => simp at h
  | cons b ss =>
   simp only [List.zip_cons_cons, List.flatMap_cons, List.length_append, List.length_cons]
   rw [ih ss (by simpa using h)]
   simp
   omega
theorem prL_snoc {vs ss : List Nat} {k v s : Nat} (hv : vs[k]? = some v) (hs : ss[k]? = some s) : prL (vs.take (k + 1)) (ss.take (k + 1)) = prL (vs.take k) (ss.take k) ++ leB v 8 ++ leB s 8 := by
 have hk := (List.getElem?_eq_some_iff.1 hv).1
 have hk2 := (List.getElem?_eq_some_iff.1 hs).1
 unfold prL
 rw [List.take_add_one, List.take_add_one, hv, hs, show (some v).toList = [v] from rfl, show (some s).toList = [s] from rfl, List.zip_append (by simp; omega), List.flatMap_append]
 simp
theorem put15v {A : Option Addr} {c : Nat} {l : List Nat} (n k : Nat) (w : World) (h : BytS w w.heap.size A l) (hlen : l.length ≤ 1000000) (hk : k ≤ 8) :
  Calls Tryz.prog 165 #[.slice A l.length c, .int .u64 (n : Int), .int .i64 (k : Int)] w fun r w' => (∃ A' c', r = .returned (.slice A' (l ++ leB n k).length c') ∧ BytS w' w'.heap.size A' (l ++ leB n k)) ∧ Below w.heap.size w w' :=
 (put15 n k w h (Nat.le_refl _) hlen hk).mono fun r w' hh => by
  obtain ⟨⟨v, rfl, ho⟩, hb⟩ := hh
  obtain ⟨A', c', rfl, hr⟩ := ho.bytes
  exact ⟨⟨A', c', rfl, hr⟩, hb⟩
end Go.Proofs.YtopoefcklipaeaaGreatDoor
namespace Go.Proofs.YtopoefcklipaeaaGreatDoor
open Go.RowKit
theorem make_bytesR (w : World) (n : Nat) (h : n ≤ 1000000) : (Instr.makeSlice 40 (.int .i64 (n : Int)) (.int .i64 (n : Int))).run Tryz.prog w = .ok (.slice (some ⟨w.heap.size, 0, none⟩) n n) (w.alloc (.cells (madeCells #[.int .u8 0] n) 5)) := by
 obtain ⟨i, hi, h1, h2, h3⟩ := info_parts (P := Tryz.prog) (e := 5) (z := .int .u8 0) (size := 1) (bytes := 1) (by kernel_rfl)
 have hr := run_make (P := Tryz.prog) w 40 5 i _ Tryz.underlying40 hi h1 .i64 .i64 n n (by omega) (Int.le_refl _) (by rw [h3]; omega) (by omega)
 simp only [Int.toNat_natCast, h2, Nat.mul_one] at hr
 exact hr
set_option maxHeartbeats 2000000 in
set_option maxRecDepth 100000 in
theorem leafP (g : Nat) {B : Nat} {v : Value} {x : Leaf} (w : World) (h : LfV w B v x) (hB : B ≤ w.heap.size) (hn : x.vs.length = x.ss.length) (hg : g < 1000000) (hl : x.vs.length ≤ 1000) :
  Calls Tryz.prog 32 #[.int .i64 (g : Int), v] w fun r w' => r = .returned (.int .u64 (lfN g x : Int)) ∧ Below w.heap.size w w' := by
 obtain ⟨vs, ss⟩ := x
 obtain ⟨Av, cv, As, cs, rfl, h1, h2, -, -⟩ := h
 simp only at h1 h2 hn hl ⊢
 rw [← hn]
 have hc1 := fun W => conv_iu64 (g : Int) (by omega) (by omega) W
 have hc2 := fun W => conv_iu64 (vs.length : Int) (by omega) (by omega) W
 obtain ⟨n, hnn⟩ : ∃ n, vs.length = n := ⟨_, rfl⟩
 obtain ⟨l1, hl1⟩ : ∃ l1, leB g 4 = l1 := ⟨_, rfl⟩
 obtain ⟨l2, hl2⟩ : ∃ l2, l1 ++ leB n 4 = l2 := ⟨_, rfl⟩
 have n1 : l1.length = 4 := by rw [← hl1]; simp
 have n2 : l2.length = 8 := by rw [← hl2]; simp [n1]
 have HE : Hid (l2 ++ prL vs ss = lfL g vs ss) := by rw [Hid, ← hl2, ← hl1, ← hnn]; rfl
 have HLT : Hid (∀ x ∈ l2 ++ prL vs ss, x < 256) := by rw [Hid, HE.out]; exact lfL_lt g vs ss
 have HN : Hid (lfN g ⟨vs, ss⟩ = crcN (l2 ++ prL vs ss)) := by rw [Hid, HE.out]; rfl
 have HLL : Hid (∀ k, k ≤ n → (l2 ++ prL (vs.take k) (ss.take k)).length = 8 + 16 * k) := fun k hk => by
  rw [List.length_append, prL_len _ _ (by simp [hn]), List.length_take, n2]
  omega
 have HH1 := Lib.hid (RdS.more (RdS.below' h1 (Below.refl _ _) hB) hB)
 have HH2 := Lib.hid (RdS.more (RdS.below' h2 (Below.refl _ _) hB) hB)
 have HNS : Hid (ss.length = n) := by rw [Hid, ← hn, hnn]
 have HNV : Hid (vs.length = n) := hnn
 rw [hnn] at hc2 hl ⊢
 obtain ⟨m, hm⟩ : ∃ m, 8 + 16 * n = m := ⟨_, rfl⟩
 obtain ⟨Z, hZ⟩ : ∃ Z : List Value, List.replicate m (Value.int .u8 0) = Z := ⟨_, rfl⟩
 have HZN : Hid (Z.length = m) := by rw [Hid, ← hZ]; simp
 have HP1 : Hid (∀ (k c : Nat) (W : World), W.heap[k]? = some (.cells Z.toArray 5 (0, 0)) → Calls Tryz.prog 79 #[.slice (some ⟨k, 0, none⟩) 4 c, .int .u64 (g : Int)] W fun r w' => r = .returned (.tuple #[]) ∧ w'.heap[k]? = some (.cells (u8V l1 ++ Z.drop 4).toArray 5 (0, 0)) ∧ W.grownBy w' (some k)) := fun k c W h => by
  have := put_at (g := k) (a := 0) (k := 4) (cap := c) (l := []) (Z := Z) (T := 5) g W (by simpa [u8V] using h) rfl (by rw [HZN.out]; omega) (by omega)
  rw [List.nil_append, hl1] at this
  exact this
 have HP2 : Hid (∀ (k c : Nat) (W : World), W.heap[k]? = some (.cells (u8V l1 ++ Z.drop 4).toArray 5 (0, 0)) → Calls Tryz.prog 79 #[.slice (some ⟨k, 4, none⟩) 4 c, .int .u64 (n : Int)] W fun r w' => r = .returned (.tuple #[]) ∧ w'.heap[k]? = some (.cells (u8V l2 ++ Z.drop 8).toArray 5 (0, 0)) ∧ W.grownBy w' (some k)) := fun k c W h => by
  have := put_at (g := k) (a := 4) (k := 4) (cap := c) (l := l1) (Z := Z.drop 4) (T := 5) n W h n1 (by rw [List.length_drop, HZN.out]; omega) (by omega)
  rw [hl2, List.drop_drop] at this
  exact this
 generalize lfN g ⟨vs, ss⟩ = S at *
 have N2 : Hid (l2.length = 8) := n2
 have HM : Hid (m = 8 + 16 * n) := hm.symm
 have hmI : (8 : Int) + 16 * (n : Int) = (m : Int) := by omega
 have hm1 : IntKind.i64.wrap (16 * (n : Int)) = 16 * (n : Int) := IntWalk.i64_in _ (by omega)
 have hm2 : IntKind.i64.wrap (m : Int) = (m : Int) := IntWalk.i64_in _ (by omega)
 have hmk : ∀ W : World, (Instr.makeSlice 40 (.int .i64 (m : Int)) (.int .i64 (m : Int))).run Tryz.prog W = .ok (.slice (some ⟨W.heap.size, 0, none⟩) m m) (W.alloc (.cells (madeCells #[.int .u8 0] m) 5)) := fun W => make_bytesR W m (by omega)
 have hmz : (madeCells #[.int .u8 0] m).toList = Z := by rw [made_list, hZ]
 clear h1 h2 hn hnn HE hl1 hl2 n1 n2 hZ
 go_enter Tryz.func32, Tryz.ntmps32
 go_upto_region 1 with (fail)
 generalize hW0 : w.alloc _ = w0
 have HBX0 : Hid (w0.heap[w.heap.size]? = some (.cells #[.slice Av n cv, .slice As n cs] 58 (0, 0))) := by rw [← hW0]; exact heap_alloc_new w _
 have HB0 : Hid (Below w.heap.size w w0) := by rw [← hW0]; exact below_laid
 have HL0 : Hid (w.heap.size < w0.heap.size) := (Array.getElem?_eq_some_iff.1 HBX0.out).1
 have b0 : w0.cell? ⟨w.heap.size, 0, none⟩ = some (.slice Av n cv) := by rw [cell_of_row _ _ _ _ _ _ HBX0.out]; rfl
 have b1 : w0.cell? ⟨w.heap.size, 1, none⟩ = some (.slice As n cs) := by rw [cell_of_row _ _ _ _ _ _ HBX0.out]; rfl
 clear hW0
 go_wp2_with fail
 refine (pieces_any w0).mono ?_
 rintro r w1 ⟨rfl, hb1⟩
 have HBX1 := Lib.hid ((hb1.block _ HL0.out).trans HBX0.out)
 have HB1 := Lib.hid (HB0.out.trans (hb1.mono HB0.out.size))
 have HL1 := Lib.hid (Nat.lt_of_lt_of_le HL0.out hb1.size)
 clear hb1 b0 b1 HBX0 HB0 HL0
 go_upto_region 3 with (fail)
 generalize hW2 : w1.alloc _ = w2
 have HG2 : Hid (w2.heap[w1.heap.size]? = some (.cells Z.toArray 5 (0, 0))) := by
  rw [← hW2, ← hmz]
  exact heap_alloc_new w1 _
 have hbl : Below w1.heap.size w1 w2 := by rw [← hW2]; exact below_laid
 have HBX2 := Lib.hid ((hbl.block _ HL1.out).trans HBX1.out)
 have HB2 := Lib.hid (HB1.out.trans (hbl.mono HB1.out.size))
 generalize w1.heap.size = X at *
 have HXL : Hid (w.heap.size < X) := HL1.out
 clear hW2 hbl HBX1 HB1 HL1 hmk hmz
 have m4 : ¬ m = 4 := by omega
 have m8 : (8 : Int) ≤ (m : Int) := by omega
 have m4' : (4 : Int) ≤ (m : Int) := by omega
 go_wp2_with fail
 refine (HP1.out X m w2 HG2.out).mono ?_
 rintro r w3 ⟨rfl, hg3, hgr⟩
 have HG3 := Lib.hid hg3
 have HBX3 := Lib.hid ((hgr.block w.heap.size (by have := HXL.out; have := (Array.getElem?_eq_some_iff.1 HBX2.out).1; omega) (fun h => by injection h with h; have := HXL.out; omega)).trans HBX2.out)
 have HB3 := Lib.hid (HB2.out.grown hgr HB2.out.size (fun k h => by injection h with h; have := HXL.out; omega))
 clear hg3 hgr HG2 HBX2 HB2 HP1
 go_wp2_with fail
 refine (HP2.out X _ w3 HG3.out).mono ?_
 rintro r w4 ⟨rfl, hg4, hgr⟩
 have HG4 := Lib.hid hg4
 have HBX4 := Lib.hid ((hgr.block w.heap.size (by have := HXL.out; have := (Array.getElem?_eq_some_iff.1 HBX3.out).1; omega) (fun h => by injection h with h; have := HXL.out; omega)).trans HBX3.out)
 have HB4 := Lib.hid (HB3.out.grown hgr HB3.out.size (fun k h => by injection h with h; have := HXL.out; omega))
 clear hg4 hgr HG3 HBX3 HB3 HP2
 go_wp2
 go_loopw [25] (fun s25 wr => ∃ k : Nat, k ≤ n ∧ s25 = .int .i64 k ∧ wr.heap[X]? = some (.cells (u8V (l2 ++ prL (vs.take k) (ss.take k)) ++ Z.drop (8 + 16 * k)).toArray 5 (0, 0)) ∧ wr.heap[w.heap.size]? = some (.cells #[.slice Av n cv, .slice As n cs] 58 (0, 0)) ∧ Below w.heap.size w wr) (fun s25 _ => n - (intOf s25).toNat)
 case atStart => exact ⟨0, by omega, rfl, by simpa [prL] using HG4.out, HBX4.out, HB4.out⟩
 case round =>
  obtain ⟨k, hk, rfl, hg, hbx, hb⟩ := hrel
  have HLK := Lib.hid (HLL.out k hk)
  have HG := Lib.hid hg
  have HBX := Lib.hid hbx
  have HB := Lib.hid hb
  clear hg hbx hb HG4 HBX4 HB4
  by_cases hkn : k < n
  case neg =>
   have hkI : ¬ (k : Int) < (n : Int) := by omega
   obtain rfl : k = n := by omega
   have HEE : Hid (l2 ++ prL (vs.take k) (ss.take k) = l2 ++ prL vs ss) := by rw [Hid, List.take_of_length_le (Nat.le_of_eq HNV.out), List.take_of_length_le (Nat.le_of_eq HNS.out)]
   rw [HEE.out] at HG HLK
   have HSM : Hid (Calls Tryz.prog 80 #[.slice (some ⟨X, 0, none⟩) m m] wr fun r w' => r = .returned (.int .u64 (S : Int)) ∧ wr = w') := by
    have h0 : Z.drop (8 + 16 * k) = [] := List.drop_of_length_le (by rw [HZN.out, HM.out]; exact Nat.le_refl _)
    have hgg := HG.out
    rw [h0, List.append_nil] at hgg
    have hby := bytS_block (B := X + 1) (l := l2 ++ prL vs ss) hgg (by rw [u8V_flat]) (by omega)
    have := sum64 (c := m) wr hby HLT.out (by have := HLK.out; omega)
    rw [HLK.out, ← HM.out, ← HN.out] at this
    exact this
   clear HG HLK
   go_wp2_with fail
   refine HSM.out.mono ?_
   rintro r w3 ⟨rfl, rfl⟩
   go_wp2
   go_ret
   exact ⟨rfl, HB.out⟩
  case pos =>
   have hkI : (k : Int) < (n : Int) := by omega
   have hk0 : ¬ (k : Int) < 0 := by omega
   obtain ⟨xv, hxv⟩ : ∃ x, vs[k]? = some x := ⟨_, List.getElem?_eq_getElem (by have := HNV.out; omega)⟩
   obtain ⟨xs, hxs⟩ : ∃ x, ss[k]? = some x := ⟨_, List.getElem?_eq_getElem (by have := HNS.out; omega)⟩
   obtain ⟨bv, ov, rfl, hbv, hcv⟩ := U64S.at_ HH1.out hxv
   obtain ⟨bs, os, rfl, hbs, hcs⟩ := U64S.at_ HH2.out hxs
   have HSN := Lib.hid (prL_snoc hxv hxs)
   have HKS : Hid (∀ W : World, Below w.heap.size w W → W.heap[w.heap.size]? = some (.cells #[.slice (some ⟨bv, ov, none⟩) n cv, .slice (some ⟨bs, os, none⟩) n cs] 58 (0, 0)) → (W.cell? ⟨w.heap.size, 0, none⟩ = some (.slice (some ⟨bv, ov, none⟩) n cv) ∧ W.cell? ⟨w.heap.size, 1, none⟩ = some (.slice (some ⟨bs, os, none⟩) n cs) ∧ W.cell? ⟨bv, ov + k, none⟩ = some (.int .u64 (xv : Int)) ∧ W.cell? ⟨bs, os + k, none⟩ = some (.int .u64 (xs : Int)))) := fun W hWw hq =>
    ⟨by rw [cell_of_row _ _ _ _ _ _ hq]; rfl, by rw [cell_of_row _ _ _ _ _ _ hq]; rfl, (hWw.cell (p := ⟨bv, ov + k, none⟩) hbv).trans hcv, (hWw.cell (p := ⟨bs, os + k, none⟩) hbs).trans hcs⟩
   have HSE : Hid (l2 ++ prL (vs.take (k + 1)) (ss.take (k + 1)) = l2 ++ prL (vs.take k) (ss.take k) ++ leB xv 8 ++ leB xs 8) := by
    rw [Hid, HSN.out]
    simp only [List.append_assoc]
   obtain ⟨a, ha⟩ : ∃ a, 8 + 16 * k = a := ⟨_, rfl⟩
   obtain ⟨b, hb⟩ : ∃ b, a + 8 = b := ⟨_, rfl⟩
   obtain ⟨c, hc⟩ : ∃ c, b + 8 = c := ⟨_, rfl⟩
   generalize l2 ++ prL (vs.take k) (ss.take k) = lk at *
   rw [ha] at HG HLK
   have HQ1 : Hid (∀ (cp : Nat) (W : World), W.heap[X]? = some (.cells (u8V lk ++ Z.drop a).toArray 5 (0, 0)) → Calls Tryz.prog 79 #[.slice (some ⟨X, a, none⟩) (b - a) cp, .int .u64 (xv : Int)] W fun r w' => r = .returned (.tuple #[]) ∧ w'.heap[X]? = some (.cells (u8V (lk ++ leB xv 8) ++ Z.drop b).toArray 5 (0, 0)) ∧ W.grownBy w' (some X)) := fun cp W h => by
    have := put_at (g := X) (a := a) (k := 8) (cap := cp) (l := lk) (Z := Z.drop a) (T := 5) xv W h HLK.out (by rw [List.length_drop, HZN.out]; omega) (by omega)
    rw [List.drop_drop, hb] at this
    rw [show b - a = 8 by omega]
    exact this
   have HQ2 : Hid (∀ (cp : Nat) (W : World), W.heap[X]? = some (.cells (u8V (lk ++ leB xv 8) ++ Z.drop b).toArray 5 (0, 0)) → Calls Tryz.prog 79 #[.slice (some ⟨X, b, none⟩) (c - b) cp, .int .u64 (xs : Int)] W fun r w' => r = .returned (.tuple #[]) ∧ w'.heap[X]? = some (.cells (u8V (lk ++ leB xv 8 ++ leB xs 8) ++ Z.drop c).toArray 5 (0, 0)) ∧ W.grownBy w' (some X)) := fun cp W h => by
    have := put_at (g := X) (a := b) (k := 8) (cap := cp) (l := lk ++ leB xv 8) (Z := Z.drop b) (T := 5) xs W h (by rw [List.length_append, HLK.out, leB_len]; exact hb) (by rw [List.length_drop, HZN.out]; omega) (by omega)
    rw [List.drop_drop, hc] at this
    rw [show c - b = 8 by omega]
    exact this
   have q1 : IntKind.i64.wrap (16 * (k : Int)) = 16 * (k : Int) := IntWalk.i64_in _ (by omega)
   have q2 : (8 : Int) + 16 * (k : Int) = (a : Int) := by omega
   have q3 : (16 : Int) + 16 * (k : Int) = (b : Int) := by omega
   have q4 : (24 : Int) + 16 * (k : Int) = (c : Int) := by omega
   have q5 : IntKind.i64.wrap (a : Int) = (a : Int) := IntWalk.i64_in _ (by omega)
   have q6 : IntKind.i64.wrap (b : Int) = (b : Int) := IntWalk.i64_in _ (by omega)
   have q7 : IntKind.i64.wrap (c : Int) = (c : Int) := IntWalk.i64_in _ (by omega)
   have q8 : (a : Int) ≤ (b : Int) := by omega
   have q9 : (b : Int) ≤ (c : Int) := by omega
   have q10 : (b : Int) ≤ (m : Int) := by omega
   have q11 : (c : Int) ≤ (m : Int) := by omega
   have q12 : ¬ m = a := by omega
   have q13 : ¬ m = b := by omega
   have HCE : Hid (8 + 16 * (k + 1) = c) := by rw [Hid]; omega
   have hS1 := HKS.out wr HB.out HBX.out
   have HBW := Lib.hid (HKS.out)
   clear hcv hcs hxv hxs HSN ha hb hc hkn
   go_upto_region 8 with (fail)
   have HKD : Hid (∀ W, wr.drew.grownBy W (some X) → Below w.heap.size w W ∧ W.heap[w.heap.size]? = some (.cells #[.slice (some ⟨bv, ov, none⟩) n cv, .slice (some ⟨bs, os, none⟩) n cs] 58 (0, 0))) := fun W hg => ⟨HB.out.drew.grown hg (by show w.heap.size ≤ wr.heap.size; exact HB.out.size) (fun k h => by injection h with h; have := HXL.out; omega), (hg.block w.heap.size (Array.getElem?_eq_some_iff.1 HBX.out).1 (fun h => by injection h with h; have := HXL.out; omega)).trans HBX.out⟩
   have HKW : Hid (∀ W, wr.grownBy W (some X) → Below w.heap.size w W ∧ W.heap[w.heap.size]? = some (.cells #[.slice (some ⟨bv, ov, none⟩) n cv, .slice (some ⟨bs, os, none⟩) n cs] 58 (0, 0))) := fun W hg => ⟨HB.out.grown hg HB.out.size (fun k h => by injection h with h; have := HXL.out; omega), (hg.block w.heap.size (Array.getElem?_eq_some_iff.1 HBX.out).1 (fun h => by injection h with h; have := HXL.out; omega)).trans HBX.out⟩
   have HSD : Hid ((wr.drew.cell? ⟨w.heap.size, 0, none⟩ = some (.slice (some ⟨bv, ov, none⟩) n cv) ∧ wr.drew.cell? ⟨w.heap.size, 1, none⟩ = some (.slice (some ⟨bs, os, none⟩) n cs) ∧ wr.drew.cell? ⟨bv, ov + k, none⟩ = some (.int .u64 (xv : Int)) ∧ wr.drew.cell? ⟨bs, os + k, none⟩ = some (.int .u64 (xs : Int)))) := HKS.out wr.drew HB.out.drew HBX.out
   have HQD := Lib.hid (fun cp => HQ1.out cp wr.drew HG.out)
   go_region_held3 (fun W => W.cell? ⟨w.heap.size, 0, none⟩ = some (.slice (some ⟨bv, ov, none⟩) n cv) ∧ W.cell? ⟨w.heap.size, 1, none⟩ = some (.slice (some ⟨bs, os, none⟩) n cs) ∧ W.cell? ⟨bv, ov + k, none⟩ = some (.int .u64 (xv : Int)) ∧ W.cell? ⟨bs, os + k, none⟩ = some (.int .u64 (xs : Int)))
    (first | with_reducible exact hS1 | with_reducible exact HSD.out | with_reducible exact HKS.out _ hb8 hbx8 | (trace_state; fail))
    (first
     | (go_at_call 79; first
      | ((with_reducible refine (HQD.out _).mono ?_); rintro r w8 ⟨rfl, hg8, hgr8⟩; obtain ⟨hb8, hbx8⟩ := HKD.out w8 hgr8)
      | ((with_reducible refine (HQ1.out _ wr HG.out).mono ?_); rintro r w8 ⟨rfl, hg8, hgr8⟩; obtain ⟨hb8, hbx8⟩ := HKW.out w8 hgr8)
      | (trace_state; fail))
     | fail)
   all_goals
    have HG8 := Lib.hid hg8
    have HB8 := Lib.hid hb8
    have HBX8 := Lib.hid hbx8
    have hS8 := HKS.out w8 hb8 hbx8
    have HSE8 := Lib.hid (HKS.out w8.drew hb8.drew hbx8)
    have HR8 := Lib.hid (fun cp => HQ2.out cp w8.drew hg8)
    have HKD8 : Hid (∀ W, w8.drew.grownBy W (some X) → Below w.heap.size w W ∧ W.heap[w.heap.size]? = some (.cells #[.slice (some ⟨bv, ov, none⟩) n cv, .slice (some ⟨bs, os, none⟩) n cs] 58 (0, 0))) := fun W hg => ⟨HB8.out.drew.grown hg (by show w.heap.size ≤ w8.heap.size; exact HB8.out.size) (fun k h => by injection h with h; have := HXL.out; omega), (hg.block w.heap.size (Array.getElem?_eq_some_iff.1 HBX8.out).1 (fun h => by injection h with h; have := HXL.out; omega)).trans HBX8.out⟩
    clear hg8 hb8 hbx8 hgr8 HKW HKD HSD HQD hS1 HG
    go_upto_region 9 with (fail)
    go_region_held3 (fun W => W.cell? ⟨w.heap.size, 0, none⟩ = some (.slice (some ⟨bv, ov, none⟩) n cv) ∧ W.cell? ⟨w.heap.size, 1, none⟩ = some (.slice (some ⟨bs, os, none⟩) n cs) ∧ W.cell? ⟨bv, ov + k, none⟩ = some (.int .u64 (xv : Int)) ∧ W.cell? ⟨bs, os + k, none⟩ = some (.int .u64 (xs : Int)))
     (first | with_reducible exact hS8 | with_reducible exact HSE8.out | with_reducible exact HKS.out _ hb9 hbx9 | (trace_state; fail))
     (first
      | (go_at_call 79; first
       | ((with_reducible refine (HR8.out _).mono ?_); rintro r w9 ⟨rfl, hg9, hgr9⟩; obtain ⟨hb9, hbx9⟩ := HKD8.out w9 hgr9)
       | (trace_state; fail))
      | fail)
    all_goals
     have HG9 : Hid (w9.heap[X]? = some (.cells (u8V (l2 ++ prL (vs.take (k + 1)) (ss.take (k + 1))) ++ Z.drop (8 + 16 * (k + 1))).toArray 5 (0, 0))) := by rw [Hid, HSE.out, HCE.out]; exact hg9
     have HB9 := Lib.hid hb9
     have HBX9 := Lib.hid hbx9
     clear hg9 hb9 hbx9 hgr9 hS8 HSE8 HR8 HKD8
     go_wp2
     go_roundw
     case rel => exact ⟨k + 1, by omega, by go_num, HG9.out, HBX9.out, HB9.out⟩
     case measure => simp [intOf] <;> omega
end Go.Proofs.YtopoefcklipaeaaGreatDoor
namespace Go.Proofs.YtopoefcklipaeaaGreatDoor
open Go.RowKit
def ruL (l : List Nat) : List Nat := l.length :: l.flatMap fun s => leB s 8
def ruN (l : List Nat) : Nat := crcN (ruL l)
theorem flat_lt (l : List Nat) : ∀ x ∈ l.flatMap (fun s => leB s 8), x < 256 := by
 intro x hx
 obtain ⟨s, -, hx⟩ := List.mem_flatMap.1 hx
 exact leB_lt x hx
theorem ruL_lt {l : List Nat} (h : l.length < 256) : ∀ x ∈ ruL l, x < 256 := by
 intro x hx
 unfold ruL at hx
 rcases List.mem_cons.1 hx with rfl | hx
 ·exact h
 ·exact flat_lt l x hx
theorem flat_len (l : List Nat) : (l.flatMap fun s => leB s 8).length = 8 * l.length := by
 induction l with
 | nil => rfl
 | cons a l ih =>
  rw [List.flatMap_cons, List.length_append, ih, leB_len, List.length_cons]
  omega
theorem flat_snoc {l : List Nat} {k s : Nat} (h : l[k]? = some s) : (l.take (k + 1)).flatMap (fun s => leB s 8) = (l.take k).flatMap (fun s => leB s 8) ++ leB s 8 := by
 rw [List.take_add_one, h, show (some s).toList = [s] from rfl, List.flatMap_append]
 simp
theorem conv_iu8 (x : Nat) (h : x < 256) (W : World) : (convert 3 5 (.int .i64 (x : Int))).run Tryz.prog W = .ok (.int .u8 (x : Int)) W := by
 rw [run_convert_int W 3 5 .i64 (x : Int) (by rw [Tryz.underlying3]; rfl) (by kernel_rfl)]
 have hk : Tryz.prog.intKind 5 = .u8 := by kernel_rfl
 rw [hk]
 have : IntKind.u8.wrap (x : Int) = (x : Int) := by simp [IntKind.wrap, IntKind.bits, IntKind.signed]; omega
 rw [this]
set_option maxHeartbeats 1000000 in
set_option maxRecDepth 100000 in
theorem number_any {base : Nat} {v : Value} {l : List Nat} (n : Nat) (w : World) (h : OwS w base 5 1 v (l.map u8C)) (hB : base ≤ w.heap.size) (hlen : l.length ≤ 1000000) :
  Calls Tryz.prog 167 #[v, .int .u64 (n : Int)] w fun r w' => (∃ v', r = .returned v' ∧ OwS w' base 5 1 v' ((l ++ leB n 8).map u8C)) ∧ Below base w w' := by
 have HL : Hid (∀ i, leB n (i + 1) = leB n i ++ [n / 2 ^ (8 * i) % 256]) := leB_succ n
 have H0 : Hid (leB n 0 = []) := rfl
 obtain ⟨f, hf⟩ : ∃ f : Nat → List Nat, leB n = f := ⟨_, rfl⟩
 rw [hf] at HL H0 ⊢
 have HFL : Hid (∀ i, (f i).length = i) := fun i => by rw [← hf]; exact leB_len n i
 have HO := Lib.hid h
 have HB := Lib.hid hB
 clear hf h hB
 go_enter Tryz.func167, Tryz.ntmps167
 go_wp2
 go_loopw [0, 6] (fun s0 s6 wr => ∃ i : Nat, i ≤ 8 ∧ s6 = .int .i64 i ∧ OwS wr base 5 1 s0 ((l ++ f i).map u8C) ∧ Below base w wr) (fun _ s6 _ => 8 - (intOf s6).toNat)
 case atStart => exact ⟨0, by omega, rfl, by rw [H0.out]; simpa using HO.out, Below.refl _ _⟩
 case round =>
  obtain ⟨i, hi, rfl, hO, hb⟩ := hrel
  by_cases hik : i < 8
  case neg =>
   have hkI : ¬ (i : Int) < 8 := by omega
   obtain rfl : i = 8 := by omega
   have HOO := Lib.hid hO
   have HBB := Lib.hid hb
   clear hO hb hik
   go_wp2
   go_ret
   exact ⟨⟨_, rfl, by have h2 := HOO.out; rw [List.map_append] at h2; exact h2⟩, HBB.out⟩
  case pos =>
   have hkI : (i : Int) < 8 := by omega
   have hcw := conv_u64u8 (n / 2 ^ (8 * i)) wr
   have HOO := Lib.hid hO
   have HBB := Lib.hid hb
   clear hO hb hik
   have hz : base ≤ wr.heap.size := Nat.le_trans HB.out HBB.out.size
   have hfl := HFL.out i
   have hll : (l ++ f i).length ≤ 1000008 := by simp; omega
   obtain ⟨m, hm⟩ : ∃ m, l ++ f i = m := ⟨_, rfl⟩
   rw [hm] at HOO hll
   have HM := Lib.hid hm
   clear hm hfl
   go_wp2_with (at_builtin; refine wpList_ap1 rfl (.tmp 9) (.tmp 15) _ rfl elemByte rfl HOO.out [.int .u8 ((n : Int) / 2 ^ (8 * i) % 256)] _ (by rfl) wr.heap.size (by rfl) (by rfl) (by intro u hu; rw [List.mem_singleton] at hu; subst hu; rfl) (by simp [maxLen]; omega) (by simp; omega) hz ?_)
   intro v5 w5 hown5 hg5 _
   have hb5 : Below base w w5 := (HBB.out.alloc hz _).grown hg5 (by simp; omega) (fun k h => (HOO.out.lt h).1)
   have ho5 : OwS w5 base 5 1 v5 ((l ++ f (i + 1)).map u8C) := by
    rw [HL.out, ← List.append_assoc, HM.out, List.map_append]
    have e : [Value.int .u8 ((n : Int) / 2 ^ (8 * i) % 256)] = u8C (n / 2 ^ (8 * i) % 256) := by simp [u8C]
    rw [e] at hown5
    exact hown5
   clear hg5 hown5
   go_wp2
   go_round
   case rel => exact ⟨i + 1, by omega, by go_num, ho5, hb5⟩
   case measure => simp [intOf] <;> omega
theorem one_byte (w : World) (x : Nat) : OwS (w.alloc (.cells #[.int .u8 (x : Int)] 5)) w.heap.size 5 1 (.slice (some ⟨w.heap.size, 0, none⟩) 1 1) ([x].map u8C) := by
 exact OwS.lit (base := w.heap.size) (size := 1) (rows := [u8C x]) (n := 1) (by simp [u8C]) (heap_alloc_new w (.cells #[.int .u8 (x : Int)] 5)) rfl rfl (by decide) (Nat.le_refl _)
set_option maxHeartbeats 1000000 in
set_option maxRecDepth 100000 in
theorem run_any {A : Option Addr} {B c : Nat} {l : List Nat} (w : World) (h : U64S w B A l) (hB : B ≤ w.heap.size) (hn : l.length < 256) :
  Calls Tryz.prog 82 #[.slice A l.length c] w fun r w' => r = .returned (.int .u64 (ruN l : Int)) ∧ Below w.heap.size w w' := by
 have HU := Lib.hid h
 have hcv := conv_iu8 l.length hn
 have HLT := Lib.hid (ruL_lt hn)
 have HR : Hid (ruL l = [l.length] ++ l.flatMap fun s => leB s 8) := rfl
 have HN : Hid (ruN l = crcN (ruL l)) := rfl
 have HLN : Hid (∀ k, ([l.length] ++ (l.take k).flatMap fun s => leB s 8).length ≤ 10000) := fun k => by
  rw [List.length_append, flat_len, List.length_take]
  simp
  omega
 have HTA : Hid (l.take l.length = l) := List.take_length
 generalize ruN l = S at *
 clear h
 go_enter Tryz.func82, Tryz.ntmps82
 go_upto_region 2 with (fail)
 have hob := one_byte w l.length
 have HOB := Lib.hid hob
 have hb0 : Below w.heap.size w (w.alloc (.cells #[.int .u8 (l.length : Int)] 5)) := below_laid
 have HB0 := Lib.hid hb0
 generalize w.alloc _ = w0 at *
 clear hob hb0
 go_wp2
 go_loopw [3, 12] (fun s3 s12 wr => ∃ k : Nat, k ≤ l.length ∧ s12 = .int .i64 k ∧ OwS wr w.heap.size 5 1 s3 (([l.length] ++ (l.take k).flatMap fun s => leB s 8).map u8C) ∧ Below w.heap.size w wr) (fun _ s12 _ => l.length - (intOf s12).toNat)
 case atStart => exact ⟨0, by omega, rfl, by simpa using HOB.out, HB0.out⟩
 case round =>
  obtain ⟨k, hk, rfl, hO, hb⟩ := hrel
  have HO := Lib.hid hO
  have HB := Lib.hid hb
  have HLK := Lib.hid (HLN.out k)
  clear hO hb HOB HB0
  by_cases hkn : k < l.length
  case neg =>
   have hkI : ¬ (k : Int) < (l.length : Int) := by omega
   obtain rfl : k = l.length := by omega
   rw [HTA.out, ← HR.out] at HO HLK
   obtain ⟨A2, c2, rfl, hby⟩ := HO.out.bytes
   have HSM := Lib.hid (sum64 (c := c2) wr hby HLT.out (by have := HLK.out; omega))
   rw [← HN.out] at HSM
   generalize ruL l = rl at *
   clear hby HO
   go_wp2_with fail
   refine HSM.out.mono ?_
   rintro r w3 ⟨rfl, rfl⟩
   go_wp2
   go_ret
   exact ⟨rfl, HB.out⟩
  case pos =>
   have hkI : (k : Int) < (l.length : Int) := by omega
   have hk0 : ¬ (k : Int) < 0 := by omega
   obtain ⟨x, hx⟩ : ∃ x, l[k]? = some x := ⟨_, List.getElem?_eq_getElem hkn⟩
   obtain ⟨b, o, rfl, hbB, hc⟩ := U64S.at_ (RdS.below' HU.out HB.out hB) hx
   have HSE : Hid (([l.length] ++ (l.take k).flatMap fun s => leB s 8) ++ leB x 8 = [l.length] ++ (l.take (k + 1)).flatMap fun s => leB s 8) := by rw [Hid, flat_snoc hx, List.append_assoc]
   have HNM := Lib.hid (number_any x wr HO.out HB.out.size (by have := HLK.out; omega))
   generalize ([l.length] ++ (l.take k).flatMap fun s => leB s 8) = m at *
   clear hx HLK
   go_wp2_with fail
   refine HNM.out.mono ?_
   rintro r w4 ⟨⟨v4, rfl, ho4⟩, hb4⟩
   have HO4 : Hid (OwS w4 w.heap.size 5 1 v4 (([l.length] ++ (l.take (k + 1)).flatMap fun s => leB s 8).map u8C)) := by rw [Hid, ← HSE.out]; exact ho4
   have HB4 := Lib.hid (HB.out.trans hb4)
   clear ho4 hb4 HNM HO HB hc
   go_wp2
   go_roundw
   case rel => exact ⟨k + 1, by omega, by go_num, HO4.out, HB4.out⟩
   case measure => simp [intOf] <;> omega
set_option maxHeartbeats 1000000 in
set_option maxRecDepth 100000 in
theorem run26 {A : Option Addr} {B c : Nat} {l : List Nat} (w : World) (h : U64S w B A l) (hB : B ≤ w.heap.size) (hn : l.length < 256) :
  Calls Tryz.prog 81 #[.slice A l.length c] w fun r w' => r = .returned (.int .u64 (ruN l : Int)) ∧ Below w.heap.size w w' := by
 have HU := Lib.hid h
 have hcv := conv_iu8 l.length hn
 have HLT := Lib.hid (ruL_lt hn)
 have HR : Hid (ruL l = [l.length] ++ l.flatMap fun s => leB s 8) := rfl
 have HN : Hid (ruN l = crcN (ruL l)) := rfl
 have HLN : Hid (∀ k, ([l.length] ++ (l.take k).flatMap fun s => leB s 8).length ≤ 10000) := fun k => by
  rw [List.length_append, flat_len, List.length_take]
  simp
  omega
 have HTA : Hid (l.take l.length = l) := List.take_length
 generalize ruN l = S at *
 clear h
 go_enter Tryz.func81, Tryz.ntmps81
 go_upto_region 2 with (fail)
 have hob := (one_byte w l.length).reads
 have hb0 : Below w.heap.size w (w.alloc (.cells #[.int .u8 (l.length : Int)] 5)) := below_laid
 have HB0 := Lib.hid hb0
 have HOB : Hid (BytS (w.alloc (.cells #[.int .u8 (l.length : Int)] 5)) (w.alloc (.cells #[.int .u8 (l.length : Int)] 5)).heap.size (some ⟨w.heap.size, 0, none⟩) [l.length]) := hob
 generalize w.alloc _ = w0 at *
 clear hob hb0
 go_wp2
 go_loopw [3, 4] (fun s3 s4 wr => ∃ k : Nat, k ≤ l.length ∧ s4 = .int .i64 k ∧ ∃ A c, s3 = .slice A ([l.length] ++ (l.take k).flatMap fun s => leB s 8).length c ∧ BytS wr wr.heap.size A ([l.length] ++ (l.take k).flatMap fun s => leB s 8) ∧ Below w.heap.size w wr) (fun _ s4 _ => l.length - (intOf s4).toNat)
 case atStart => exact ⟨0, by omega, rfl, some ⟨w.heap.size, 0, none⟩, 1, by simp, by simpa using HOB.out, HB0.out⟩
 case round =>
  obtain ⟨k, hk, rfl, A2, c2, rfl, hO, hb⟩ := hrel
  have HO := Lib.hid hO
  have HB := Lib.hid hb
  have HLK := Lib.hid (HLN.out k)
  clear hO hb HOB HB0
  by_cases hkn : k < l.length
  case neg =>
   have hkI : ¬ (k : Int) < (l.length : Int) := by omega
   obtain rfl : k = l.length := by omega
   rw [HTA.out, ← HR.out] at HO HLK ⊢
   have HSM := Lib.hid (sum08 (c := c2) wr HO.out HLT.out (by have := HLK.out; omega))
   rw [← HN.out] at HSM
   generalize ruL l = rl at *
   clear HO
   go_wp2_with fail
   refine HSM.out.mono ?_
   rintro r w3 ⟨rfl, rfl⟩
   go_wp2
   go_ret
   exact ⟨rfl, HB.out⟩
  case pos =>
   have hkI : (k : Int) < (l.length : Int) := by omega
   have hk0 : ¬ (k : Int) < 0 := by omega
   obtain ⟨x, hx⟩ : ∃ x, l[k]? = some x := ⟨_, List.getElem?_eq_getElem hkn⟩
   obtain ⟨b, o, rfl, hbB, hc⟩ := U64S.at_ (RdS.below' HU.out HB.out hB) hx
   have HSE : Hid (([l.length] ++ (l.take k).flatMap fun s => leB s 8) ++ leB x 8 = [l.length] ++ (l.take (k + 1)).flatMap fun s => leB s 8) := by rw [Hid, flat_snoc hx, List.append_assoc]
   generalize ([l.length] ++ (l.take k).flatMap fun s => leB s 8) = m at *
   have HNM := Lib.hid (put15v (c := c2) x 8 wr HO.out (by have := HLK.out; omega) (by omega))
   rw [HSE.out] at HNM
   obtain ⟨mn, hmn⟩ : ∃ mn, ([l.length] ++ (l.take (k + 1)).flatMap fun s => leB s 8) = mn := ⟨_, rfl⟩
   rw [hmn] at HNM
   have HMN := Lib.hid hmn
   clear hx HLK HSE hmn
   go_wp2_with fail
   refine HNM.out.mono ?_
   rintro r w4 ⟨⟨A4, c4, rfl, ho4⟩, hb4⟩
   have HO4 := Lib.hid ho4
   have HB4 := Lib.hid (HB.out.trans (hb4.mono HB.out.size))
   clear ho4 hb4 HNM HO HB hc
   go_wp2
   go_roundw
   case rel => exact ⟨k + 1, by omega, by go_num, A4, c4, by rw [HMN.out], by rw [HMN.out]; exact HO4.out, HB4.out⟩
   case measure => simp [intOf] <;> omega
end Go.Proofs.YtopoefcklipaeaaGreatDoor
