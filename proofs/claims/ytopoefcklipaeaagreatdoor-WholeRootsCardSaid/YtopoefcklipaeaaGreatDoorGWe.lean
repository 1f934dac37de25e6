/- Walk of sumtree.diff and sumtree.Diff over trees in memory.
Walk of sumtree.Diff. -/
import Derived.Test.YtopoefcklipaeaaGreatDoorGWd
import Derived.LaidEqlPtr
namespace Go.Proofs.YtopoefcklipaeaaGreatDoor
open Go.RowKit
theorem elemIntD : Elem Tryz.prog 47 3 1 8 := Elem.mk (z := .int .i64 0) Tryz.underlying47 (by kernel_rfl) (by decide) rfl
theorem icD (x : Int) : ∀ u ∈ icell x, u.oneCell' = true := by intro u hu; rw [icell, List.mem_singleton] at hu; subst hu; rfl
theorem eql_node {x y : List Nat} {d j a b : Nat} {E : Nat → Prop} {w : World} (ha : NeE w E x d j a) (hb : NeE w E y d j b) (n : Nat) : (binOp .eql 51 (.pointer (some ⟨a, 0, none⟩)) (.pointer (some ⟨b, 0, none⟩))).run Tryz.prog (w.drewN n) = .ok (.bool (a == b)) (w.drewN n) := by
 obtain ⟨i, hi, _, h2, _⟩ := info_parts (P := Tryz.prog) (e := 101) (z := .agg #[.int .u64 0, .slice none 0 0]) (size := 2) (bytes := 32) (by kernel_rfl)
 obtain ⟨s, kv, _, h3⟩ := ha.row
 obtain ⟨t, kw, _, h4⟩ := hb.row
 by_cases h : a = b
 ·subst h
  rw [run_eql_ptr_same (w.drewN n) ⟨a, 0, none⟩ Tryz.underlying51 hi]
  simp
 ·rw [run_eql_ptr_other (w.drewN n) (a := ⟨a, 0, none⟩) (b := ⟨b, 0, none⟩) Tryz.underlying51 hi (by rw [h2]; decide) (fun e => h (by injection e)) h3 h4]
  simp [h]
def DifP (x y : List Nat) (d j B : Nat) (l : List Int) (w : World) (r : Ending) (w' : World) : Prop := (∃ v', r = .returned v' ∧ OwS w' B 3 1 v' ((l ++ difL x y d j).map icell)) ∧ Below B w w'
set_option maxHeartbeats 4000000 in
set_option maxRecDepth 100000 in
theorem diff_eq {x y : List Nat} {d j a b s n : Nat} {fr : Int} {rows : List (List Value)} {v : Value} {B : Nat} {E : Nat → Prop} (w : World) (ha : NeE w E x d j a) (hb : NeE w E y d j b) (hs : (lev x d)[j]? = some s) (ht : (lev y d)[j]? = some s) (ho : OwS w B 3 1 v rows) :
  Calls Tryz.prog 34 #[.pointer (some ⟨a, 0, none⟩), .pointer (some ⟨b, 0, none⟩), .int .i64 fr, .int .i64 n, v] w fun r w' => (∃ v', r = .returned v' ∧ OwS w' B 3 1 v' rows) ∧ Below B w w' := by
 have hq := eql_node ha hb
 obtain ⟨s1, hs1, cs⟩ := ha.sum
 obtain ⟨t1, ht1, ct⟩ := hb.sum
 obtain rfl : s = s1 := by rw [hs] at hs1; injection hs1
 obtain rfl : s = t1 := by rw [ht] at ht1; injection ht1
 obtain ⟨A, c, rfl, -⟩ := ho.form
 have HO := Lib.hid ho
 generalize rows.length = m at *
 clear ha hb hs ht hs1 ht1 ho
 by_cases hab : a = b
 ·subst hab
  simp only [beq_self_eq_true] at hq
  go_enter Tryz.func34, Tryz.ntmps34
  go_wp2_with fail
  go_quiet (fail)
  go_wp2
  go_ret
  exact ⟨⟨_, rfl, HO.out.drewN _⟩, below_drewN (Below.refl _ _) _⟩
 ·have hab2 : (a == b) = false := by simp [hab]
  rw [hab2] at hq
  clear hab
  go_enter Tryz.func34, Tryz.ntmps34
  go_wp2_with fail
  go_quiet (fail)
  go_wp2
  go_ret
  exact ⟨⟨_, rfl, HO.out.drewN _⟩, below_drewN (Below.refl _ _) _⟩
set_option maxHeartbeats 4000000 in
set_option maxRecDepth 100000 in
theorem diff_zero {j a b s t : Nat} {l : List Int} {v : Value} {B : Nat} (w : World) (hq : ∀ n, (binOp .eql 51 (.pointer (some ⟨a, 0, none⟩)) (.pointer (some ⟨b, 0, none⟩))).run Tryz.prog (w.drewN n) = .ok (.bool false) (w.drewN n)) (cs : w.cell? ⟨a, 0, none⟩ = some (.int .u64 (s : Int))) (ct : w.cell? ⟨b, 0, none⟩ = some (.int .u64 (t : Int))) (hst2 : ((s : Int) == (t : Int)) = false) (ho : OwS w B 3 1 v (l.map icell)) (hB : B ≤ w.heap.size) (hlen : l.length ≤ 3000000) :
  Calls Tryz.prog 34 #[.pointer (some ⟨a, 0, none⟩), .pointer (some ⟨b, 0, none⟩), .int .i64 (j : Int), .int .i64 0, v] w fun r w' => (∃ v', r = .returned v' ∧ OwS w' B 3 1 v' ((l ++ [(j : Int)]).map icell)) ∧ Below B w w' := by
 obtain ⟨A, c, rfl, -⟩ := ho.form
 rw [List.length_map] at ho ⊢
 have HO := Lib.hid ho
 clear ho
 go_enter Tryz.func34, Tryz.ntmps34
 go_wp2_with fail
 go_quiet (fail)
 rename_i nq
 have HO1 : Hid (OwS (w.drewN nq) B 3 1 (.slice A l.length c) (l.map icell)) := HO.out.drewN _
 have HB1 : Hid (Below B w (w.drewN nq)) := below_drewN (Below.refl _ _) _
 have hz : B ≤ (w.drewN nq).heap.size := hB
 go_wp2_with (at_builtin; refine wpList_ap1 rfl (.tmp 32) (.tmp 34) _ rfl elemIntD rfl HO1.out (icell (j : Int)) _ (by rfl) (w.drewN nq).heap.size (by rfl) (by rfl) (icD _) (by simp [maxLen]; omega) (by simp; omega) hz ?_)
 intro v5 w5 hown5 hg5 _
 have hb5 : Below B w w5 := (HB1.out.alloc hz _).grown hg5 (by simp; omega) (fun k h => (HO1.out.lt h).1)
 go_wp2
 go_ret
 exact ⟨⟨_, rfl, by rw [List.map_append]; exact hown5⟩, hb5⟩
theorem w64_in (z : Int) (h1 : 0 ≤ z) (h2 : z ≤ 1048576) : wrap64 z = z := by unfold wrap64; omega
theorem dif_from {j k d : Nat} (hj : (4 * j + k + 1) * 4 ^ d ≤ 1048576) : wrap64 (((j * 4 ^ (d + 1) : Nat) : Int) + wrap64 ((k : Int) * 2 ^ (2 * d))) = (((4 * j + k) * 4 ^ d : Nat) : Int) := by
 have h1 : (k : Int) * 2 ^ (2 * d) = ((k * 4 ^ d : Nat) : Int) := by
  rw [Int.pow_mul]
  simp
 have h2 : k * 4 ^ d ≤ (4 * j + k + 1) * 4 ^ d := Nat.mul_le_mul_right _ (by omega)
 have h3 : (4 * j + k) * 4 ^ d ≤ (4 * j + k + 1) * 4 ^ d := Nat.mul_le_mul_right _ (by omega)
 have h4 : ((j * 4 ^ (d + 1) : Nat) : Int) + ((k * 4 ^ d : Nat) : Int) = (((4 * j + k) * 4 ^ d : Nat) : Int) := by
  rw [Nat.pow_succ, Nat.add_mul, Nat.mul_comm (4 ^ d) 4, ← Nat.mul_assoc, Nat.mul_comm j 4]
  omega
 rw [h1, w64_in ((k * 4 ^ d : Nat) : Int) (by omega) (by omega), h4, w64_in _ (by omega) (by omega)]
set_option maxHeartbeats 4000000 in
set_option maxRecDepth 100000 in
theorem diff_succ {x y : List Nat} {d j a b s t : Nat} {l : List Int} {v : Value} {B : Nat} (w : World) (hxy : x.length = y.length) (ha : NeE w (fun k => k < B) x (d + 1) j a) (hb : NeE w (fun k => k < B) y (d + 1) j b) (hq : ∀ n, (binOp .eql 51 (.pointer (some ⟨a, 0, none⟩)) (.pointer (some ⟨b, 0, none⟩))).run Tryz.prog (w.drewN n) = .ok (.bool false) (w.drewN n)) (cs : w.cell? ⟨a, 0, none⟩ = some (.int .u64 (s : Int))) (ct : w.cell? ⟨b, 0, none⟩ = some (.int .u64 (t : Int))) (hst2 : ((s : Int) == (t : Int)) = false) (ho : OwS w B 3 1 v (l.map icell)) (hB : B ≤ w.heap.size) (hd : d + 1 ≤ 10) (hj : (j + 1) * 4 ^ (d + 1) ≤ 1048576) (hl : l.length + 4 ^ (d + 1) ≤ 3000000)
  (ih : ∀ (j a b : Nat) (l : List Int) (v : Value) (B : Nat) (w : World), NeE w (fun k => k < B) x d j a → NeE w (fun k => k < B) y d j b → OwS w B 3 1 v (l.map icell) → B ≤ w.heap.size → d ≤ 10 → (j + 1) * 4 ^ d ≤ 1048576 → l.length + 4 ^ d ≤ 3000000 →
   Calls Tryz.prog 34 #[.pointer (some ⟨a, 0, none⟩), .pointer (some ⟨b, 0, none⟩), .int .i64 ((j * 4 ^ d : Nat) : Int), .int .i64 (d : Int), v] w fun r w' => DifP x y d j B l w r w') :
  Calls Tryz.prog 34 #[.pointer (some ⟨a, 0, none⟩), .pointer (some ⟨b, 0, none⟩), .int .i64 ((j * 4 ^ (d + 1) : Nat) : Int), .int .i64 ((d : Int) + 1), v] w fun r w' => (∃ v', r = .returned v' ∧ OwS w' B 3 1 v' ((l ++ (List.range (min 4 ((lev x d).length - 4 * j))).flatMap fun k => difL x y d (4 * j + k)).map icell)) ∧ Below B w w' := by
 obtain ⟨hEa, s1, A1, off1, c1, hs, hE1, hr1, hk1⟩ := ha
 obtain ⟨hEb, t1, A2, off2, c2, ht, hE2, hr2, hk2⟩ := hb
 rw [← lev_len hxy d] at hr2 hk2
 clear hs ht hxy
 obtain ⟨n, hn⟩ : ∃ n, min 4 ((lev x d).length - 4 * j) = n := ⟨_, rfl⟩
 rw [hn] at hr1 hr2 hk1 hk2 ⊢
 have hn4 : n ≤ 4 := by omega
 have e1 : w.cell? ⟨a, 1, none⟩ = some (.slice (some ⟨A1, off1, none⟩) n c1) := by rw [cell_of_row _ _ _ _ _ _ hr1]; rfl
 have e2 : w.cell? ⟨b, 1, none⟩ = some (.slice (some ⟨A2, off2, none⟩) n c2) := by rw [cell_of_row _ _ _ _ _ _ hr2]; rfl
 have HIH := Lib.hid ih
 have HK1 := Lib.hid hk1
 have HK2 := Lib.hid hk2
 have HE := Lib.hid (And.intro hEa (And.intro hEb (And.intro hE1 hE2)))
 have HIH := Lib.hid ih
 have HJ := Lib.hid hj
 have HL := Lib.hid hl
 obtain ⟨fr, hfr⟩ : ∃ q : Int, ((j * 4 ^ (d + 1) : Nat) : Int) = q := ⟨_, rfl⟩
 rw [hfr]
 have HFR := Lib.hid hfr
 obtain ⟨A, c, rfl, -⟩ := ho.form
 rw [List.length_map] at ho ⊢
 have HO := Lib.hid ho
 have hd0 : (((d : Int) + 1) == 0) = false := by rw [beq_eq_false_iff_ne]; omega
 have HDF := Lib.hid (fun k => difL_len x y d (4 * j + k))
 generalize hdf : (fun k => difL x y d (4 * j + k)) = df at *
 have HDE : Hid (∀ k, difL x y d (4 * j + k) = df k) := fun k => by rw [← hdf]
 have HDF2 : Hid (∀ k, (df k).length ≤ 4 ^ d) := fun k => by rw [← HDE.out k]; exact HDF.out k
 clear hdf HDF
 clear ho hj hk1 hk2 hr1 hr2 ih hl hfr hn hEa hEb hE1 hE2
 go_enter Tryz.func34, Tryz.ntmps34
 go_wp2_with fail
 go_quiet (fail)
 rename_i nq
 have HO1 : Hid (OwS (w.drewN nq) B 3 1 (.slice A l.length c) (l.map icell)) := HO.out.drewN _
 have HB1 : Hid (Below B w (w.drewN nq)) := below_drewN (Below.refl _ _) _
 have e1' : (w.drewN nq).cell? ⟨a, 1, none⟩ = some (.slice (some ⟨A1, off1, none⟩) n c1) := e1
 have hz : B ≤ (w.drewN nq).heap.size := hB
 generalize w.drewN nq = w1 at *
 clear hq cs ct e1
 go_wp2
 go_loopw [4, 41] (fun s4 s41 wr => ∃ (k : Nat) (m : List Int), k ≤ n ∧ s41 = .int .i64 k ∧ m = l ++ (List.range k).flatMap df ∧ OwS wr B 3 1 s4 (m.map icell) ∧ Below B w wr) (fun _ s41 _ => n - (intOf s41).toNat)
 case atStart => exact ⟨0, l, by omega, rfl, by simp, HO1.out, HB1.out⟩
 case round =>
  obtain ⟨k, m, hk, rfl, hm, hO, hb⟩ := hrel
  have HM := Lib.hid hm
  clear hm
  by_cases hkn : k < n
  case neg =>
   have hkI : ¬ (k : Int) < (n : Int) := by omega
   obtain rfl : k = n := by omega
   obtain ⟨A5, c5, rfl, -⟩ := hO.form
   rw [List.length_map] at hO ⊢
   have HO2 := Lib.hid hO
   have HB2 := Lib.hid hb
   clear hO hb
   go_wp2
   go_ret
   refine ⟨⟨_, rfl, ?_⟩, HB2.out⟩
   rw [← List.map_append, ← HM.out]
   exact HO2.out
  case pos =>
   have hkI : (k : Int) < (n : Int) := by omega
   have hk0 : ¬ (k : Int) < 0 := by omega
   obtain ⟨p, hp, hpn⟩ := HK1.out k hkn
   obtain ⟨p2, hp2, hpn2⟩ := HK2.out k hkn
   obtain ⟨g1, g2, g3, g4⟩ := HE.out
   have q1 : wr.cell? ⟨A1, off1 + k, none⟩ = some (.pointer (some ⟨p, 0, none⟩)) := (hb.cell (p := ⟨A1, off1 + k, none⟩) g3).trans hp
   have q2 : wr.cell? ⟨b, 1, none⟩ = some (.slice (some ⟨A2, off2, none⟩) n c2) := (hb.cell (p := ⟨b, 1, none⟩) g2).trans e2
   have q3 : wr.cell? ⟨A2, off2 + k, none⟩ = some (.pointer (some ⟨p2, 0, none⟩)) := (hb.cell (p := ⟨A2, off2 + k, none⟩) g4).trans hp2
   obtain ⟨A5, c5, rfl, -⟩ := hO.form
   rw [List.length_map] at hO ⊢
   have HO2 := Lib.hid hO
   have HB2 := Lib.hid hb
   clear hO hb hp hp2 g1 g2 g3 g4 e2
   have HLM : Hid (m.length + 4 ^ d ≤ 3000000) := by
    have h1 := flat_le (f := df) HDF2.out k
    have h2 := HL.out
    rw [Nat.pow_succ] at h2
    have h3 : k * 4 ^ d ≤ 3 * 4 ^ d := Nat.mul_le_mul_right _ (by omega)
    rw [Hid, HM.out, List.length_append]
    omega
   have HJK : Hid ((4 * j + k + 1) * 4 ^ d ≤ 1048576) := by
    have h1 := HJ.out
    rw [Nat.pow_succ, Nat.mul_comm (4 ^ d) 4, ← Nat.mul_assoc] at h1
    exact Nat.le_trans (Nat.mul_le_mul_right _ (by omega)) h1
   have f1 : IntKind.i64.wrap ((d : Int) + 1 - 1) = (d : Int) := by rw [show (d : Int) + 1 - 1 = (d : Int) by omega]; exact IntWalk.i64_in _ (by omega)
   have f1' : IntKind.i64.wrap (d : Int) = (d : Int) := IntWalk.i64_in _ (by omega)
   have f2 : IntKind.i64.wrap (2 * (d : Int)) = 2 * (d : Int) := IntWalk.i64_in _ (by omega)
   have f3 : ¬ (2 * (d : Int)) < 0 := by omega
   have f4 : min (2 * (d : Int)).toNat 64 = 2 * d := by omega
   have HC : Hid (Calls Tryz.prog 34 #[.pointer (some ⟨p, 0, none⟩), .pointer (some ⟨p2, 0, none⟩), .int .i64 (wrap64 (fr + wrap64 ((k : Int) * 2 ^ (2 * d)))), .int .i64 (d : Int), .slice A5 m.length c5] wr.drew fun r w' => (∃ v', r = .returned v' ∧ OwS w' B 3 1 v' ((m ++ df k).map icell)) ∧ Below B wr.drew w') := by
    have h0 := HIH.out (4 * j + k) p p2 m (.slice A5 m.length c5) B wr.drew (hpn.to (w' := wr.drew) (fun _ h => h) (fun q hq => HB2.out.block q hq)) (hpn2.to (w' := wr.drew) (fun _ h => h) (fun q hq => HB2.out.block q hq)) (HO2.out.drewN 1) (Nat.le_trans hB HB2.out.size) (by omega) HJK.out HLM.out
    unfold DifP at h0
    rw [HDE.out k] at h0
    rw [← HFR.out, dif_from HJK.out]
    exact h0
   have HSE : Hid (m ++ df k = l ++ (List.range (k + 1)).flatMap df) := by
    rw [Hid, HM.out, List.range_succ, List.flatMap_append, List.append_assoc]
    simp
   generalize df k = dk at HC HSE
   clear hpn hpn2 HIH HK1 HK2 HDE HDF2 HJK HLM HJ HL HM
   go_wp2_with fail
   refine still_tail_drew 18 (by kernel_rfl) (by kernel_rfl) ?_
   simp only [List.take_succ_cons, List.take_zero, List.drop_succ_cons, List.drop_zero]
   repeat still_step
   refine wpStill_nil ?_
   go_wp2_with fail
   refine HC.out.mono ?_
   rintro r w5 ⟨⟨v5, rfl, ho5⟩, hb5⟩
   have HO5 := Lib.hid ho5
   have HB5 : Hid (Below B w w5) := (show Below B w wr.drew from HB2.out.drew).trans hb5
   clear ho5 hb5
   go_wp2
   go_roundw
   case rel => exact ⟨k + 1, _, by omega, by go_num, HSE.out, HO5.out, HB5.out⟩
   case measure => simp [intOf] <;> omega
theorem diff_tree {x y : List Nat} (hxy : x.length = y.length) : ∀ (d j a b : Nat) (l : List Int) (v : Value) (B : Nat) (w : World), NeE w (fun k => k < B) x d j a → NeE w (fun k => k < B) y d j b → OwS w B 3 1 v (l.map icell) → B ≤ w.heap.size → d ≤ 10 →
  (j + 1) * 4 ^ d ≤ 1048576 → l.length + 4 ^ d ≤ 3000000 →
  Calls Tryz.prog 34 #[.pointer (some ⟨a, 0, none⟩), .pointer (some ⟨b, 0, none⟩), .int .i64 ((j * 4 ^ d : Nat) : Int), .int .i64 (d : Int), v] w fun r w' => DifP x y d j B l w r w' := by
 intro d
 induction d with
 | zero =>
  intro j a b l v B w ha hb ho hB _ hj hl
  unfold DifP
  obtain ⟨s, hs, cs⟩ := ha.sum
  obtain ⟨t, ht, ct⟩ := hb.sum
  have hD : difL x y 0 j = if s = t then [] else [(j : Int)] := by
   have h1 : x[j]? = some s := hs
   have h2 : y[j]? = some t := ht
   unfold difL
   rw [h1, h2]
   simp
  have hjj : ((j * 4 ^ 0 : Nat) : Int) = (j : Int) := by simp
  rw [hD, hjj]
  by_cases hst : s = t
  ·subst hst
   rw [if_pos rfl, List.append_nil]
   exact diff_eq (n := 0) w ha hb hs ht ho
  ·rw [if_neg hst]
   have hab : ¬ a = b := fun e => by
    subst e
    rw [cs] at ct
    injection ct with ct
    injection ct with _ ct
    omega
   have hq := eql_node ha hb
   rw [show (a == b) = false by simp [hab]] at hq
   exact diff_zero w hq cs ct (by rw [beq_eq_false_iff_ne]; omega) ho hB (by omega)
 | succ d ih =>
  intro j a b l v B w ha hb ho hB hd hj hl
  unfold DifP
  obtain ⟨s, hs, cs⟩ := ha.sum
  obtain ⟨t, ht, ct⟩ := hb.sum
  have hD : difL x y (d + 1) j = if s = t then [] else (List.range (min 4 ((lev x d).length - 4 * j))).flatMap fun k => difL x y d (4 * j + k) := by
   rw [difL_succ, hs, ht]
   simp
  have hdI : ((d + 1 : Nat) : Int) = (d : Int) + 1 := by omega
  rw [hD]
  by_cases hst : s = t
  ·subst hst
   rw [if_pos rfl, List.append_nil]
   exact diff_eq (n := d + 1) w ha hb hs ht ho
  ·rw [if_neg hst, hdI]
   have hab : ¬ a = b := fun e => by
    subst e
    rw [cs] at ct
    injection ct with ct
    injection ct with _ ct
    omega
   have hq := eql_node ha hb
   rw [show (a == b) = false by simp [hab]] at hq
   exact diff_succ w hxy ha hb hq cs ct (by rw [beq_eq_false_iff_ne]; omega) ho hB hd hj hl ih
end Go.Proofs.YtopoefcklipaeaaGreatDoor
namespace Go.Proofs.YtopoefcklipaeaaGreatDoor
open Go.RowKit
set_option maxHeartbeats 1000000 in
set_option maxRecDepth 100000 in
theorem diff_top {x y : List Nat} {d a b : Nat} (w : World) (hxy : x.length = y.length) (h0 : 0 < x.length) (hn : x.length ≤ 100000) (ha : NeE w (fun k => k < w.heap.size) x d 0 a) (hb : NeE w (fun k => k < w.heap.size) y d 0 b) (hd : d ≤ 10) :
  Calls Tryz.prog 11 #[.agg #[.int .i64 (x.length : Int), .int .i64 (d : Int), .pointer (some ⟨a, 0, none⟩)], .agg #[.int .i64 (y.length : Int), .int .i64 (d : Int), .pointer (some ⟨b, 0, none⟩)]] w fun r w' => (∃ A c, r = .returned (.tuple #[.slice A (difL x y d 0).length c, .int .i64 0]) ∧ RdS w' w'.heap.size 1 A ((difL x y d 0).map icell)) ∧ Below w.heap.size w w' := by
 have hp : (0 + 1) * 4 ^ d ≤ 1048576 := by
  have := Nat.pow_le_pow_right (show 0 < 4 by decide) hd
  rw [Nat.zero_add, Nat.one_mul]
  exact Nat.le_trans this (by decide)
 have HC := Lib.hid (fun (W : World) (hW : Below w.heap.size w W) => diff_tree hxy d 0 a b [] (.slice none 0 0) W.heap.size W (ha.to (fun k hk => Nat.lt_of_lt_of_le hk hW.size) (fun k hk => hW.block k hk)) (hb.to (fun k hk => Nat.lt_of_lt_of_le hk hW.size) (fun k hk => hW.block k hk)) (OwS.nil _ _ _ _) (Nat.le_refl _) hd hp (by simp; omega))
 unfold DifP at HC
 rw [List.nil_append] at HC
 have e0 : ((0 * 4 ^ d : Nat) : Int) = 0 := by rw [Nat.zero_mul]; rfl
 rw [e0] at HC
 have f0 : ((x.length : Int) == 0) = false := by rw [beq_eq_false_iff_ne]; omega
 rw [← hxy]
 generalize x.length = n at *
 generalize difL x y d 0 = dl at *
 clear ha hb hp e0 hxy
 go_enter Tryz.func11, Tryz.ntmps11
 go_upto_region 1 with (fail)
 have hb2 : Below w.heap.size w ((w.alloc (.cells #[.int .i64 (n : Int), .int .i64 (d : Int), .pointer (some ⟨a, 0, none⟩)] 53)).alloc (.cells #[.int .i64 (n : Int), .int .i64 (d : Int), .pointer (some ⟨b, 0, none⟩)] 53)) := below_laid.trans (below_laid.mono (by simp))
 have h1 : ((w.alloc (.cells #[.int .i64 (n : Int), .int .i64 (d : Int), .pointer (some ⟨a, 0, none⟩)] 53)).alloc (.cells #[.int .i64 (n : Int), .int .i64 (d : Int), .pointer (some ⟨b, 0, none⟩)] 53)).heap[w.heap.size]? = some (.cells #[.int .i64 (n : Int), .int .i64 (d : Int), .pointer (some ⟨a, 0, none⟩)] 53 (0, 0)) := by
  rw [Below.heap_alloc _ _ _ (by simp)]
  exact heap_alloc_new w _
 have h2 : ((w.alloc (.cells #[.int .i64 (n : Int), .int .i64 (d : Int), .pointer (some ⟨a, 0, none⟩)] 53)).alloc (.cells #[.int .i64 (n : Int), .int .i64 (d : Int), .pointer (some ⟨b, 0, none⟩)] 53)).heap[w.heap.size + 1]? = some (.cells #[.int .i64 (n : Int), .int .i64 (d : Int), .pointer (some ⟨b, 0, none⟩)] 53 (0, 0)) := by
  have := heap_alloc_new (w.alloc (.cells #[.int .i64 (n : Int), .int .i64 (d : Int), .pointer (some ⟨a, 0, none⟩)] 53)) (.cells #[.int .i64 (n : Int), .int .i64 (d : Int), .pointer (some ⟨b, 0, none⟩)] 53)
  simpa using this
 generalize (w.alloc _).alloc _ = w2 at *
 have HB2 := Lib.hid hb2
 have HC2 := Lib.hid (HC.out w2 hb2)
 have c10 : w2.cell? ⟨w.heap.size, 0, none⟩ = some (.int .i64 (n : Int)) := by rw [cell_of_row _ _ _ _ _ _ h1]; rfl
 have c11 : w2.cell? ⟨w.heap.size, 1, none⟩ = some (.int .i64 (d : Int)) := by rw [cell_of_row _ _ _ _ _ _ h1]; rfl
 have c12 : w2.cell? ⟨w.heap.size, 2, none⟩ = some (.pointer (some ⟨a, 0, none⟩)) := by rw [cell_of_row _ _ _ _ _ _ h1]; rfl
 have c20 : w2.cell? ⟨w.heap.size + 1, 0, none⟩ = some (.int .i64 (n : Int)) := by rw [cell_of_row _ _ _ _ _ _ h2]; rfl
 have c22 : w2.cell? ⟨w.heap.size + 1, 2, none⟩ = some (.pointer (some ⟨b, 0, none⟩)) := by rw [cell_of_row _ _ _ _ _ _ h2]; rfl
 clear hb2 h1 h2 HC
 go_wp2_with fail
 refine HC2.out.mono ?_
 rintro r w3 ⟨⟨v', rfl, ho⟩, hb3⟩
 obtain ⟨A, c, rfl, -⟩ := ho.form
 rw [List.length_map] at ho ⊢
 have HO := Lib.hid ho
 have HB3 := Lib.hid (HB2.out.trans (hb3.mono HB2.out.size))
 clear ho hb3 HC2 c10 c11 c12 c20 c22
 go_wp2
 go_ret2
 exact ⟨⟨A, c, rfl, HO.out.reads⟩, HB3.out⟩
end Go.Proofs.YtopoefcklipaeaaGreatDoor
