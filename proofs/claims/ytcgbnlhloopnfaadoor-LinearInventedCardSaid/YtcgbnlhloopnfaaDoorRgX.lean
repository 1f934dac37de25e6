/- Rounds of tegularef46's Register: executions. -/
import Derived.Test.YtcgbnlhloopnfaaDoorGRgL
namespace Go.Proofs.YtcgbnlhloopnfaaDoor
open Go.RowKit

set_option maxHeartbeats 4000000 in
set_option maxRecDepth 1000000 in
theorem reg_exff4 (sc : List RgA) (len : Nat) (hlen : len = sc.length) (w wr : World) (u : Nat → Value) (u3 : Value) (A : Option Addr) (c k : Nat) (hk : k < len) (hl : len ≤ 1000) (b off : Nat) (hA : A = some ⟨b, off, none⟩)
    (l : List Ev) (ops : List RgO) (vs : List Int) (safe n kind which m z : Nat) (Ao : Option Addr) (co : Nat) (Av : Option Addr) (cv : Nat)
    (hn1 : l.length ≤ k) (hn2 : ops.length ≤ k) (hn3 : z ≤ k) (hn4 : n ≤ k) (hsf : safe ≤ z) (hcc1 : z + 1 ≤ cv) (hb1 : kind < 256) (hb3 : which < 256)
    (a0 : wr.cell? ⟨b, off + k * 2, none⟩ = some (.int .u8 kind)) (a1 : wr.cell? ⟨b, off + k * 2 + 1, none⟩ = some (.int .u8 which))
    (hol : OwS wr w.heap.size 45 6 u3 (l.map Ev.cells)) (hoo : OwS wr w.heap.size 87 10 (.slice Ao m co) (ops.map RgO.cells)) (hov : OwS wr w.heap.size 3 1 (.slice Av (z + 1) cv) (vs.map icell)) (hb : Below w.heap.size w wr) (hz : w.heap.size ≤ wr.heap.size)
    (HM : Hid (m = ops.length)) (HZ : Hid (vs.length = z + 1)) (HS : Hid (rgTo sc (k + 1) = rgStep ⟨l, ops, vs, safe, n⟩ ⟨kind, which⟩)) (Q0 : Exit → Act → World → Prop) (hkk : 4 = kind % 8) (hm0 : 0 < m) (ckind cop creg cval sres : Int) (sat : Nat) (sdn : Bool) (hsq : ops[which % m]? = some ⟨⟨ckind, cop, false, creg, cval, false⟩, false, sdn, sres, sat⟩) :
    Code.wp Tryd.prog regBody (Exit.then (fun a' w' => RegI sc w A len c a' w' ∧ RegMs len a' w' < RegMs len ⟨#[(.slice A len c), undef, .slice none 0 0, u3, (.slice Ao m co), (.slice Av (z + 1) cv), .int .i64 safe, .int .i64 n, .int .i64 k, u 9, u 10, u 11, u 12, u 13, u 14, u 15, u 16, u 17, u 18, u 19, u 20, u 21, u 22, u 23, u 24, u 25, u 26, u 27, u 28, u 29, u 30, u 31, u 32, u 33, u 34, u 35, u 36, u 37, u 38, u 39, u 40, u 41, u 42, u 43, u 44, u 45, u 46, u 47, u 48, u 49, u 50, u 51, u 52, u 53, u 54, u 55, u 56, u 57, u 58, u 59, u 60, u 61, u 62, u 63, u 64, u 65, u 66, u 67, u 68, u 69, u 70, u 71, u 72, u 73, u 74, u 75, u 76, u 77, u 78, u 79, u 80, u 81, u 82, u 83, u 84, u 85, u 86, u 87, u 88, u 89, u 90, u 91, u 92, u 93, u 94, u 95, u 96, u 97, u 98, u 99, u 100, u 101, u 102, u 103, u 104, u 105, u 106, u 107, u 108, u 109, u 110, u 111, u 112, u 113, u 114, u 115, u 116, u 117, u 118, u 119, u 120, u 121, u 122, u 123, u 124, u 125, u 126, u 127, u 128, u 129, u 130, u 131, u 132, u 133, u 134, u 135, u 136, u 137, u 138, u 139, u 140, u 141, u 142, u 143, u 144, u 145, u 146, u 147, u 148, u 149, u 150, u 151, u 152, u 153, u 154, u 155, u 156, u 157, u 158, u 159, u 160, u 161, u 162, u 163, u 164, u 165, u 166, u 167, u 168, u 169, u 170, u 171, u 172, u 173, u 174, u 175, u 176, u 177, u 178, u 179, u 180, u 181, u 182, u 183, u 184, u 185, u 186, u 187, u 188, u 189, u 190, u 191, u 192, u 193, u 194, u 195, u 196, u 197, u 198, u 199, u 200, u 201, u 202, u 203, u 204, u 205, u 206, u 207, u 208, u 209, u 210, u 211, u 212, u 213, u 214, u 215, u 216, u 217, u 218, u 219, u 220, u 221, u 222, u 223, u 224, u 225, u 226, u 227, u 228, u 229, u 230, u 231, undef], []⟩ wr) Q0) ⟨#[(.slice A len c), undef, .slice none 0 0, u3, (.slice Ao m co), (.slice Av (z + 1) cv), .int .i64 safe, .int .i64 n, .int .i64 k, u 9, u 10, u 11, u 12, u 13, u 14, u 15, u 16, u 17, u 18, u 19, u 20, u 21, u 22, u 23, u 24, u 25, u 26, u 27, u 28, u 29, u 30, u 31, u 32, u 33, u 34, u 35, u 36, u 37, u 38, u 39, u 40, u 41, u 42, u 43, u 44, u 45, u 46, u 47, u 48, u 49, u 50, u 51, u 52, u 53, u 54, u 55, u 56, u 57, u 58, u 59, u 60, u 61, u 62, u 63, u 64, u 65, u 66, u 67, u 68, u 69, u 70, u 71, u 72, u 73, u 74, u 75, u 76, u 77, u 78, u 79, u 80, u 81, u 82, u 83, u 84, u 85, u 86, u 87, u 88, u 89, u 90, u 91, u 92, u 93, u 94, u 95, u 96, u 97, u 98, u 99, u 100, u 101, u 102, u 103, u 104, u 105, u 106, u 107, u 108, u 109, u 110, u 111, u 112, u 113, u 114, u 115, u 116, u 117, u 118, u 119, u 120, u 121, u 122, u 123, u 124, u 125, u 126, u 127, u 128, u 129, u 130, u 131, u 132, u 133, u 134, u 135, u 136, u 137, u 138, u 139, u 140, u 141, u 142, u 143, u 144, u 145, u 146, u 147, u 148, u 149, u 150, u 151, u 152, u 153, u 154, u 155, u 156, u 157, u 158, u 159, u 160, u 161, u 162, u 163, u 164, u 165, u 166, u 167, u 168, u 169, u 170, u 171, u 172, u 173, u 174, u 175, u 176, u 177, u 178, u 179, u 180, u 181, u 182, u 183, u 184, u 185, u 186, u 187, u 188, u 189, u 190, u 191, u 192, u 193, u 194, u 195, u 196, u 197, u 198, u 199, u 200, u 201, u 202, u 203, u 204, u 205, u 206, u 207, u 208, u 209, u 210, u 211, u 212, u 213, u 214, u 215, u 216, u 217, u 218, u 219, u 220, u 221, u 222, u 223, u 224, u 225, u 226, u 227, u 228, u 229, u 230, u 231, undef], []⟩ wr := by
  have hu := And.intro hoo (And.intro hn1 (And.intro hn2 (And.intro hn3 (And.intro hn4 (And.intro hsf (And.intro hcc1 (And.intro HM.out HZ.out)))))))
  clear hu
  subst hA
  have HLEN := Lib.hid hlen
  clear hlen
  have hkl : (k : Int) < (len : Int) := by omega
  have kw := fun W => conv_u8 (which : Int) (by omega) (by omega) W
  obtain ⟨q, hq⟩ : ∃ q, q = which % m := ⟨_, rfl⟩
  have hqe : ((which : Int) % (m : Int)) = (q : Int) := by rw [hq]; simp
  have HQ := Lib.hid hq
  have HK := Lib.hid hkk
  clear hq hkk
  have hk8 : (kind : Int) % 8 = ((4 : Nat) : Int) := by have := HK.out; omega
  rw [← HQ.out] at hsq
  have hqm : q < m := by rw [HQ.out]; exact Nat.mod_lt _ hm0
  have hrw : (ops.map RgO.cells)[q]? = some (RgO.cells ⟨⟨ckind, cop, false, creg, cval, false⟩, false, sdn, sres, sat⟩) := by rw [List.getElem?_map, hsq]; rfl
  obtain ⟨go, co', hvo, hgb, hgo⟩ := hoo.pos (by rw [List.length_map, ← HM.out]; exact hm0)
  injection hvo with hv1 hv2 hv3
  subst hv1
  clear hv2 hv3
  have HSQ := Lib.hid hsq
  have HRW := Lib.hid hrw
  have hqI : (q : Int) < (m : Int) := by omega
  have hmI : (0 : Int) < (m : Int) := by omega
  have hmz : ¬ (m : Int) = 0 := by omega
  have hgo1 : go ≠ wr.heap.size := by omega
  have hgo2 : go ≠ wr.heap.size + 1 := by omega
  have HQ' : Hid (q = which % ops.length) := HQ.out.trans (by rw [HM.out])
  have HM' : Hid (0 < ops.length) := by unfold Hid; rw [← HM.out]; exact hm0
  clear hsq hrw
  have o0 := hoo.cell HRW.out (j := 0) rfl
  have o1 := hoo.cell HRW.out (j := 1) rfl
  have o2 := hoo.cell HRW.out (j := 2) rfl
  have o3 := hoo.cell HRW.out (j := 3) rfl
  have o4 := hoo.cell HRW.out (j := 4) rfl
  have o5 := hoo.cell HRW.out (j := 5) rfl
  have o6 := hoo.cell HRW.out (j := 6) rfl
  have o7 := hoo.cell HRW.out (j := 7) rfl
  have o8 := hoo.cell HRW.out (j := 8) rfl
  have o9 := hoo.cell HRW.out (j := 9) rfl
  have f6 := hoo.frozen (q * 10 + 6)
  have f7 := hoo.frozen (q * 10 + 7)
  have f8 := hoo.frozen (q * 10 + 8)
  have f9 := hoo.frozen (q * 10 + 9)
  simp only [Nat.add_zero] at o0
  have n_l := hol.apart hoo (by decide)
  have n_v := hov.apart hoo (by decide)
  obtain ⟨gv, cv', hvv, hgvb, hgv⟩ := hov.pos (by rw [List.length_map, HZ.out]; omega)
  injection hvv with hvv1 hvv2 hvv3
  subst hvv1
  clear hvv2 hvv3
  obtain ⟨y, hy⟩ : ∃ y, vs[z]? = some y := ⟨vs[z]'(by have := HZ.out; omega), List.getElem?_eq_getElem _⟩
  have hyr : (vs.map icell)[z]? = some (icell y) := by rw [List.getElem?_map, hy]; rfl
  have yv : wr.cell? ⟨gv, z, none⟩ = some (.int .i64 y) := by simpa using hov.cell hyr (j := 0) rfl
  have HYL : Hid (rgLast ⟨l, ops, vs, safe, n⟩ = y) := rg_last HZ.out hy
  have hgv1 : gv ≠ wr.heap.size := by omega
  have hgv2 : gv ≠ wr.heap.size + 1 := by omega
  have hz1 : (z : Int) + 1 - 1 = (z : Int) := by omega
  have hz2 : (z : Int) + 2 - 1 = (z : Int) + 1 := by omega
  have hwz : IntKind.i64.wrap (z : Int) = (z : Int) := IntWalk.i64_in _ (by omega)
  have hwz1 : IntKind.i64.wrap ((z : Int) + 1) = (z : Int) + 1 := IntWalk.i64_in _ (by omega)
  have hzi : (z : Int) < (z : Int) + 1 := by omega
  have hz0 : (0 : Int) ≤ (z : Int) := by omega
  clear hy hyr
  have HN : Hid (rgTo sc (k + 1) = ⟨l, ops.set q ⟨⟨ckind, cop, false, creg, cval, false⟩, true, sdn, y, z + 1⟩, vs ++ [y], safe, n⟩) := HS.out.trans (by
    rw [rg_ex (by have := HK.out; omega) (by have := HK.out; omega) HM'.out HQ'.out HSQ.out rfl]
    simp [exO, rgVals, rgRes, effE, HYL.out, HZ.out])
  have HE : Hid ((ops.set q ⟨⟨ckind, cop, false, creg, cval, false⟩, true, sdn, y, z + 1⟩).map RgO.cells = (ops.map RgO.cells).set q ((((RgO.cells ⟨⟨ckind, cop, false, creg, cval, false⟩, false, sdn, sres, sat⟩).set 6 (.bool true)).set 8 (.int .i64 y)).set 9 (.int .i64 ((z : Int) + 1)))) := by
    unfold Hid
    simp [List.map_set, RgO.cells, Ev.cells]
  have HEF : Hid (∀ W, Calls Tryd.prog 27 #[.agg #[.int .i64 0, .int .i64 0, .int .i64 0, .bool false, .bool false, .int .i64 0, .int .i64 0, .int .i64 0]] W fun r w' => r = .returned (.bool true) ∧ Below W.heap.size W w') := fun W => rgeff_any false false W
  clear HS HK HQ HM HQ' HM' HYL
  have x2 : ∀ d xs, (Sort.grow (redrawn (wr.alloc (.cells #[.int .u8 kind, .int .u8 which] 85)) d) xs).cell? ⟨go, q * 10 + 2, none⟩ = some (.bool false) := fun d xs => ((hoo.alloc _).below (below_regrown _ d xs)).cell HRW.out (j := 2) rfl
  have x5 : ∀ d xs, (Sort.grow (redrawn (wr.alloc (.cells #[.int .u8 kind, .int .u8 which] 85)) d) xs).cell? ⟨go, q * 10 + 5, none⟩ = some (.bool false) := fun d xs => ((hoo.alloc _).below (below_regrown _ d xs)).cell HRW.out (j := 5) rfl
  conv => arg 2; whnf
  go_wp2_with fail
  refine quiet_below (by kernel_rfl) (by kernel_rfl) ?_
  repeat (go_big_quiet_step ((go_at_call 27; exact Calls.regrown_of (HEF.out _))))
  refine wpQuiet_nil ?_
  intro W2 hb2
  have hol2 := (hol.alloc _).below hb2
  have hoo2 := (hoo.alloc _).below hb2
  have hov2 := (hov.alloc _).below hb2
  have hz2' : w.heap.size ≤ W2.heap.size := Nat.le_trans (by simp; omega) hb2.size
  have hbb2 : Below w.heap.size w W2 := (hb.alloc hz _).trans (hb2.mono (by simp; omega))
  clear x2 x5 hb2 hol hoo hov hb a0 a1 o0 o1 o2 o3 o4 o5 o6 o7 o8 o9 f6 f7 f8 f9 n_l n_v yv
  go_wp2_with (at_builtin; refine wpList_ap1 rfl (.tmp 155) (.tmp 157) _ rfl elemInt rfl hov2 (icell y) _ rfl _ rfl (by simp) (icellOne _) (by simp [maxLen]; have := HZ.out; omega) (by simp; have := HZ.out; omega) hz2' ?_)
  intro v3 w3 hov3 hg3 _
  have hb3 : Below w.heap.size w w3 := (hbb2.alloc hz2' _).grown hg3 (by simp; omega) (fun g hg => (hov2.lt hg).1)
  have hoo3 := (hoo2.alloc _).kept hg3 (hoo2.ne hov2 (by decide))
  have hol3 := (hol2.alloc _).kept hg3 (hol2.ne hov2 (by decide))
  have hz3 := hb3.size
  have m_l := hol3.apart hoo3 (by decide)
  have m_v := hov3.apart hoo3 (by decide)
  clear hg3 hol2 hoo2 hov2 hbb2
  have o6 := hoo3.cell HRW.out (j := 6) rfl
  have o8 := hoo3.cell HRW.out (j := 8) rfl
  have o9 := hoo3.cell HRW.out (j := 9) rfl
  have f6 := hoo3.frozen (q * 10 + 6)
  have f8 := hoo3.frozen (q * 10 + 8)
  have f9 := hoo3.frozen (q * 10 + 9)
  obtain ⟨A3, c3, hv3, -, -⟩ := hov3.form
  have hln : (vs.map icell ++ [icell y]).length = z + 2 := by simp [HZ.out]
  rw [hln] at hv3
  subst hv3
  clear hln
  go_wp2
  refine ⟨reg_mk (k + 1) (by omega) ⟨by rw [HN.out]; exact ((hol3.far (p := ⟨go, q * 10 + 6, none⟩) m_l _).far (p := ⟨go, q * 10 + 8, none⟩) m_l _).far (p := ⟨go, q * 10 + 9, none⟩) m_l _, by rw [HN.out]; rw [HE.out]; exact hoo3.stored3 HRW.out _ _ _, by rw [HN.out]; simp only [List.map_append, List.map_cons, List.map_nil]; exact ((hov3.far (p := ⟨go, q * 10 + 6, none⟩) m_v _).far (p := ⟨go, q * 10 + 8, none⟩) m_v _).far (p := ⟨go, q * 10 + 9, none⟩) m_v _, ((hb3.setCell (p := ⟨go, q * 10 + 6, none⟩) hgb _).setCell (p := ⟨go, q * 10 + 8, none⟩) hgb _).setCell (p := ⟨go, q * 10 + 9, none⟩) hgb _⟩ (by rw [HN.out]; rfl) (by rw [HN.out]; rfl) (by go_num) rfl, by simp [RegMs, intOf]; omega⟩
set_option maxHeartbeats 4000000 in
set_option maxRecDepth 1000000 in
theorem reg_exft4 (sc : List RgA) (len : Nat) (hlen : len = sc.length) (w wr : World) (u : Nat → Value) (u3 : Value) (A : Option Addr) (c k : Nat) (hk : k < len) (hl : len ≤ 1000) (b off : Nat) (hA : A = some ⟨b, off, none⟩)
    (l : List Ev) (ops : List RgO) (vs : List Int) (safe n kind which m z : Nat) (Ao : Option Addr) (co : Nat) (Av : Option Addr) (cv : Nat)
    (hn1 : l.length ≤ k) (hn2 : ops.length ≤ k) (hn3 : z ≤ k) (hn4 : n ≤ k) (hsf : safe ≤ z) (hcc1 : z + 1 ≤ cv) (hb1 : kind < 256) (hb3 : which < 256)
    (a0 : wr.cell? ⟨b, off + k * 2, none⟩ = some (.int .u8 kind)) (a1 : wr.cell? ⟨b, off + k * 2 + 1, none⟩ = some (.int .u8 which))
    (hol : OwS wr w.heap.size 45 6 u3 (l.map Ev.cells)) (hoo : OwS wr w.heap.size 87 10 (.slice Ao m co) (ops.map RgO.cells)) (hov : OwS wr w.heap.size 3 1 (.slice Av (z + 1) cv) (vs.map icell)) (hb : Below w.heap.size w wr) (hz : w.heap.size ≤ wr.heap.size)
    (HM : Hid (m = ops.length)) (HZ : Hid (vs.length = z + 1)) (HS : Hid (rgTo sc (k + 1) = rgStep ⟨l, ops, vs, safe, n⟩ ⟨kind, which⟩)) (Q0 : Exit → Act → World → Prop) (hkk : 4 = kind % 8) (hm0 : 0 < m) (ckind cop creg cval sres : Int) (sat : Nat) (sdn : Bool) (hsq : ops[which % m]? = some ⟨⟨ckind, cop, false, creg, cval, true⟩, false, sdn, sres, sat⟩) :
    Code.wp Tryd.prog regBody (Exit.then (fun a' w' => RegI sc w A len c a' w' ∧ RegMs len a' w' < RegMs len ⟨#[(.slice A len c), undef, .slice none 0 0, u3, (.slice Ao m co), (.slice Av (z + 1) cv), .int .i64 safe, .int .i64 n, .int .i64 k, u 9, u 10, u 11, u 12, u 13, u 14, u 15, u 16, u 17, u 18, u 19, u 20, u 21, u 22, u 23, u 24, u 25, u 26, u 27, u 28, u 29, u 30, u 31, u 32, u 33, u 34, u 35, u 36, u 37, u 38, u 39, u 40, u 41, u 42, u 43, u 44, u 45, u 46, u 47, u 48, u 49, u 50, u 51, u 52, u 53, u 54, u 55, u 56, u 57, u 58, u 59, u 60, u 61, u 62, u 63, u 64, u 65, u 66, u 67, u 68, u 69, u 70, u 71, u 72, u 73, u 74, u 75, u 76, u 77, u 78, u 79, u 80, u 81, u 82, u 83, u 84, u 85, u 86, u 87, u 88, u 89, u 90, u 91, u 92, u 93, u 94, u 95, u 96, u 97, u 98, u 99, u 100, u 101, u 102, u 103, u 104, u 105, u 106, u 107, u 108, u 109, u 110, u 111, u 112, u 113, u 114, u 115, u 116, u 117, u 118, u 119, u 120, u 121, u 122, u 123, u 124, u 125, u 126, u 127, u 128, u 129, u 130, u 131, u 132, u 133, u 134, u 135, u 136, u 137, u 138, u 139, u 140, u 141, u 142, u 143, u 144, u 145, u 146, u 147, u 148, u 149, u 150, u 151, u 152, u 153, u 154, u 155, u 156, u 157, u 158, u 159, u 160, u 161, u 162, u 163, u 164, u 165, u 166, u 167, u 168, u 169, u 170, u 171, u 172, u 173, u 174, u 175, u 176, u 177, u 178, u 179, u 180, u 181, u 182, u 183, u 184, u 185, u 186, u 187, u 188, u 189, u 190, u 191, u 192, u 193, u 194, u 195, u 196, u 197, u 198, u 199, u 200, u 201, u 202, u 203, u 204, u 205, u 206, u 207, u 208, u 209, u 210, u 211, u 212, u 213, u 214, u 215, u 216, u 217, u 218, u 219, u 220, u 221, u 222, u 223, u 224, u 225, u 226, u 227, u 228, u 229, u 230, u 231, undef], []⟩ wr) Q0) ⟨#[(.slice A len c), undef, .slice none 0 0, u3, (.slice Ao m co), (.slice Av (z + 1) cv), .int .i64 safe, .int .i64 n, .int .i64 k, u 9, u 10, u 11, u 12, u 13, u 14, u 15, u 16, u 17, u 18, u 19, u 20, u 21, u 22, u 23, u 24, u 25, u 26, u 27, u 28, u 29, u 30, u 31, u 32, u 33, u 34, u 35, u 36, u 37, u 38, u 39, u 40, u 41, u 42, u 43, u 44, u 45, u 46, u 47, u 48, u 49, u 50, u 51, u 52, u 53, u 54, u 55, u 56, u 57, u 58, u 59, u 60, u 61, u 62, u 63, u 64, u 65, u 66, u 67, u 68, u 69, u 70, u 71, u 72, u 73, u 74, u 75, u 76, u 77, u 78, u 79, u 80, u 81, u 82, u 83, u 84, u 85, u 86, u 87, u 88, u 89, u 90, u 91, u 92, u 93, u 94, u 95, u 96, u 97, u 98, u 99, u 100, u 101, u 102, u 103, u 104, u 105, u 106, u 107, u 108, u 109, u 110, u 111, u 112, u 113, u 114, u 115, u 116, u 117, u 118, u 119, u 120, u 121, u 122, u 123, u 124, u 125, u 126, u 127, u 128, u 129, u 130, u 131, u 132, u 133, u 134, u 135, u 136, u 137, u 138, u 139, u 140, u 141, u 142, u 143, u 144, u 145, u 146, u 147, u 148, u 149, u 150, u 151, u 152, u 153, u 154, u 155, u 156, u 157, u 158, u 159, u 160, u 161, u 162, u 163, u 164, u 165, u 166, u 167, u 168, u 169, u 170, u 171, u 172, u 173, u 174, u 175, u 176, u 177, u 178, u 179, u 180, u 181, u 182, u 183, u 184, u 185, u 186, u 187, u 188, u 189, u 190, u 191, u 192, u 193, u 194, u 195, u 196, u 197, u 198, u 199, u 200, u 201, u 202, u 203, u 204, u 205, u 206, u 207, u 208, u 209, u 210, u 211, u 212, u 213, u 214, u 215, u 216, u 217, u 218, u 219, u 220, u 221, u 222, u 223, u 224, u 225, u 226, u 227, u 228, u 229, u 230, u 231, undef], []⟩ wr := by
  have hu := And.intro hoo (And.intro hn1 (And.intro hn2 (And.intro hn3 (And.intro hn4 (And.intro hsf (And.intro hcc1 (And.intro HM.out HZ.out)))))))
  clear hu
  subst hA
  have HLEN := Lib.hid hlen
  clear hlen
  have hkl : (k : Int) < (len : Int) := by omega
  have kw := fun W => conv_u8 (which : Int) (by omega) (by omega) W
  obtain ⟨q, hq⟩ : ∃ q, q = which % m := ⟨_, rfl⟩
  have hqe : ((which : Int) % (m : Int)) = (q : Int) := by rw [hq]; simp
  have HQ := Lib.hid hq
  have HK := Lib.hid hkk
  clear hq hkk
  have hk8 : (kind : Int) % 8 = ((4 : Nat) : Int) := by have := HK.out; omega
  rw [← HQ.out] at hsq
  have hqm : q < m := by rw [HQ.out]; exact Nat.mod_lt _ hm0
  have hrw : (ops.map RgO.cells)[q]? = some (RgO.cells ⟨⟨ckind, cop, false, creg, cval, true⟩, false, sdn, sres, sat⟩) := by rw [List.getElem?_map, hsq]; rfl
  obtain ⟨go, co', hvo, hgb, hgo⟩ := hoo.pos (by rw [List.length_map, ← HM.out]; exact hm0)
  injection hvo with hv1 hv2 hv3
  subst hv1
  clear hv2 hv3
  have HSQ := Lib.hid hsq
  have HRW := Lib.hid hrw
  have hqI : (q : Int) < (m : Int) := by omega
  have hmI : (0 : Int) < (m : Int) := by omega
  have hmz : ¬ (m : Int) = 0 := by omega
  have hgo1 : go ≠ wr.heap.size := by omega
  have hgo2 : go ≠ wr.heap.size + 1 := by omega
  have HQ' : Hid (q = which % ops.length) := HQ.out.trans (by rw [HM.out])
  have HM' : Hid (0 < ops.length) := by unfold Hid; rw [← HM.out]; exact hm0
  clear hsq hrw
  have o0 := hoo.cell HRW.out (j := 0) rfl
  have o1 := hoo.cell HRW.out (j := 1) rfl
  have o2 := hoo.cell HRW.out (j := 2) rfl
  have o3 := hoo.cell HRW.out (j := 3) rfl
  have o4 := hoo.cell HRW.out (j := 4) rfl
  have o5 := hoo.cell HRW.out (j := 5) rfl
  have o6 := hoo.cell HRW.out (j := 6) rfl
  have o7 := hoo.cell HRW.out (j := 7) rfl
  have o8 := hoo.cell HRW.out (j := 8) rfl
  have o9 := hoo.cell HRW.out (j := 9) rfl
  have f6 := hoo.frozen (q * 10 + 6)
  have f7 := hoo.frozen (q * 10 + 7)
  have f8 := hoo.frozen (q * 10 + 8)
  have f9 := hoo.frozen (q * 10 + 9)
  simp only [Nat.add_zero] at o0
  have n_l := hol.apart hoo (by decide)
  have n_v := hov.apart hoo (by decide)
  obtain ⟨gv, cv', hvv, hgvb, hgv⟩ := hov.pos (by rw [List.length_map, HZ.out]; omega)
  injection hvv with hvv1 hvv2 hvv3
  subst hvv1
  clear hvv2 hvv3
  obtain ⟨y, hy⟩ : ∃ y, vs[z]? = some y := ⟨vs[z]'(by have := HZ.out; omega), List.getElem?_eq_getElem _⟩
  have hyr : (vs.map icell)[z]? = some (icell y) := by rw [List.getElem?_map, hy]; rfl
  have yv : wr.cell? ⟨gv, z, none⟩ = some (.int .i64 y) := by simpa using hov.cell hyr (j := 0) rfl
  have HYL : Hid (rgLast ⟨l, ops, vs, safe, n⟩ = y) := rg_last HZ.out hy
  have hgv1 : gv ≠ wr.heap.size := by omega
  have hgv2 : gv ≠ wr.heap.size + 1 := by omega
  have hz1 : (z : Int) + 1 - 1 = (z : Int) := by omega
  have hz2 : (z : Int) + 2 - 1 = (z : Int) + 1 := by omega
  have hwz : IntKind.i64.wrap (z : Int) = (z : Int) := IntWalk.i64_in _ (by omega)
  have hwz1 : IntKind.i64.wrap ((z : Int) + 1) = (z : Int) + 1 := IntWalk.i64_in _ (by omega)
  have hzi : (z : Int) < (z : Int) + 1 := by omega
  have hz0 : (0 : Int) ≤ (z : Int) := by omega
  clear hy hyr
  have HN : Hid (rgTo sc (k + 1) = ⟨l, ops.set q ⟨⟨ckind, cop, false, creg, cval, true⟩, true, sdn, y, z⟩, vs, safe, n⟩) := HS.out.trans (by
    rw [rg_ex (by have := HK.out; omega) (by have := HK.out; omega) HM'.out HQ'.out HSQ.out rfl]
    simp [exO, rgVals, rgRes, effE, HYL.out, HZ.out])
  have HE : Hid ((ops.set q ⟨⟨ckind, cop, false, creg, cval, true⟩, true, sdn, y, z⟩).map RgO.cells = (ops.map RgO.cells).set q ((((RgO.cells ⟨⟨ckind, cop, false, creg, cval, true⟩, false, sdn, sres, sat⟩).set 6 (.bool true)).set 8 (.int .i64 y)).set 9 (.int .i64 (z : Int)))) := by
    unfold Hid
    simp [List.map_set, RgO.cells, Ev.cells]
  have HEF : Hid (∀ W, Calls Tryd.prog 27 #[.agg #[.int .i64 0, .int .i64 0, .int .i64 0, .bool false, .bool true, .int .i64 0, .int .i64 0, .int .i64 0]] W fun r w' => r = .returned (.bool false) ∧ Below W.heap.size W w') := fun W => rgeff_any false true W
  clear HS HK HQ HM HQ' HM' HYL
  have x2 : ∀ d xs, (Sort.grow (redrawn (wr.alloc (.cells #[.int .u8 kind, .int .u8 which] 85)) d) xs).cell? ⟨go, q * 10 + 2, none⟩ = some (.bool false) := fun d xs => ((hoo.alloc _).below (below_regrown _ d xs)).cell HRW.out (j := 2) rfl
  have x5 : ∀ d xs, (Sort.grow (redrawn (wr.alloc (.cells #[.int .u8 kind, .int .u8 which] 85)) d) xs).cell? ⟨go, q * 10 + 5, none⟩ = some (.bool true) := fun d xs => ((hoo.alloc _).below (below_regrown _ d xs)).cell HRW.out (j := 5) rfl
  conv => arg 2; whnf
  go_wp2_with fail
  refine quiet_below (by kernel_rfl) (by kernel_rfl) ?_
  repeat (go_big_quiet_step ((go_at_call 27; exact Calls.regrown_of (HEF.out _))))
  refine wpQuiet_nil ?_
  intro W2 hb2
  have hol2 := (hol.alloc _).below hb2
  have hoo2 := (hoo.alloc _).below hb2
  have hov2 := (hov.alloc _).below hb2
  have hz2' : w.heap.size ≤ W2.heap.size := Nat.le_trans (by simp; omega) hb2.size
  have hbb2 : Below w.heap.size w W2 := (hb.alloc hz _).trans (hb2.mono (by simp; omega))
  clear x2 x5 hb2 hol hoo hov hb a0 a1 o0 o1 o2 o3 o4 o5 o6 o7 o8 o9 f6 f7 f8 f9 n_l n_v yv
  have m_l := hol2.apart hoo2 (by decide)
  have m_v := hov2.apart hoo2 (by decide)
  have o6 := hoo2.cell HRW.out (j := 6) rfl
  have o8 := hoo2.cell HRW.out (j := 8) rfl
  have o9 := hoo2.cell HRW.out (j := 9) rfl
  have f6 := hoo2.frozen (q * 10 + 6)
  have f8 := hoo2.frozen (q * 10 + 8)
  have f9 := hoo2.frozen (q * 10 + 9)
  go_wp2
  refine ⟨reg_mk (k + 1) (by omega) ⟨by rw [HN.out]; exact ((hol2.far (p := ⟨go, q * 10 + 6, none⟩) m_l _).far (p := ⟨go, q * 10 + 8, none⟩) m_l _).far (p := ⟨go, q * 10 + 9, none⟩) m_l _, by rw [HN.out]; rw [HE.out]; exact hoo2.stored3 HRW.out _ _ _, by rw [HN.out]; exact ((hov2.far (p := ⟨go, q * 10 + 6, none⟩) m_v _).far (p := ⟨go, q * 10 + 8, none⟩) m_v _).far (p := ⟨go, q * 10 + 9, none⟩) m_v _, ((hbb2.setCell (p := ⟨go, q * 10 + 6, none⟩) hgb _).setCell (p := ⟨go, q * 10 + 8, none⟩) hgb _).setCell (p := ⟨go, q * 10 + 9, none⟩) hgb _⟩ (by rw [HN.out]; rfl) (by rw [HN.out]; rfl) (by go_num) rfl, by simp [RegMs, intOf]; omega⟩
set_option maxHeartbeats 4000000 in
set_option maxRecDepth 1000000 in
theorem reg_extc4 (sc : List RgA) (len : Nat) (hlen : len = sc.length) (w wr : World) (u : Nat → Value) (u3 : Value) (A : Option Addr) (c k : Nat) (hk : k < len) (hl : len ≤ 1000) (b off : Nat) (hA : A = some ⟨b, off, none⟩)
    (l : List Ev) (ops : List RgO) (vs : List Int) (safe n kind which m z : Nat) (Ao : Option Addr) (co : Nat) (Av : Option Addr) (cv : Nat)
    (hn1 : l.length ≤ k) (hn2 : ops.length ≤ k) (hn3 : z ≤ k) (hn4 : n ≤ k) (hsf : safe ≤ z) (hcc1 : z + 1 ≤ cv) (hb1 : kind < 256) (hb3 : which < 256)
    (a0 : wr.cell? ⟨b, off + k * 2, none⟩ = some (.int .u8 kind)) (a1 : wr.cell? ⟨b, off + k * 2 + 1, none⟩ = some (.int .u8 which))
    (hol : OwS wr w.heap.size 45 6 u3 (l.map Ev.cells)) (hoo : OwS wr w.heap.size 87 10 (.slice Ao m co) (ops.map RgO.cells)) (hov : OwS wr w.heap.size 3 1 (.slice Av (z + 1) cv) (vs.map icell)) (hb : Below w.heap.size w wr) (hz : w.heap.size ≤ wr.heap.size)
    (HM : Hid (m = ops.length)) (HZ : Hid (vs.length = z + 1)) (HS : Hid (rgTo sc (k + 1) = rgStep ⟨l, ops, vs, safe, n⟩ ⟨kind, which⟩)) (Q0 : Exit → Act → World → Prop) (hkk : 4 = kind % 8) (hm0 : 0 < m) (ckind cop creg cval sres : Int) (sat : Nat) (cba sdn : Bool) (hsq : ops[which % m]? = some ⟨⟨ckind, cop, true, creg, cval, cba⟩, false, sdn, sres, sat⟩) :
    Code.wp Tryd.prog regBody (Exit.then (fun a' w' => RegI sc w A len c a' w' ∧ RegMs len a' w' < RegMs len ⟨#[(.slice A len c), undef, .slice none 0 0, u3, (.slice Ao m co), (.slice Av (z + 1) cv), .int .i64 safe, .int .i64 n, .int .i64 k, u 9, u 10, u 11, u 12, u 13, u 14, u 15, u 16, u 17, u 18, u 19, u 20, u 21, u 22, u 23, u 24, u 25, u 26, u 27, u 28, u 29, u 30, u 31, u 32, u 33, u 34, u 35, u 36, u 37, u 38, u 39, u 40, u 41, u 42, u 43, u 44, u 45, u 46, u 47, u 48, u 49, u 50, u 51, u 52, u 53, u 54, u 55, u 56, u 57, u 58, u 59, u 60, u 61, u 62, u 63, u 64, u 65, u 66, u 67, u 68, u 69, u 70, u 71, u 72, u 73, u 74, u 75, u 76, u 77, u 78, u 79, u 80, u 81, u 82, u 83, u 84, u 85, u 86, u 87, u 88, u 89, u 90, u 91, u 92, u 93, u 94, u 95, u 96, u 97, u 98, u 99, u 100, u 101, u 102, u 103, u 104, u 105, u 106, u 107, u 108, u 109, u 110, u 111, u 112, u 113, u 114, u 115, u 116, u 117, u 118, u 119, u 120, u 121, u 122, u 123, u 124, u 125, u 126, u 127, u 128, u 129, u 130, u 131, u 132, u 133, u 134, u 135, u 136, u 137, u 138, u 139, u 140, u 141, u 142, u 143, u 144, u 145, u 146, u 147, u 148, u 149, u 150, u 151, u 152, u 153, u 154, u 155, u 156, u 157, u 158, u 159, u 160, u 161, u 162, u 163, u 164, u 165, u 166, u 167, u 168, u 169, u 170, u 171, u 172, u 173, u 174, u 175, u 176, u 177, u 178, u 179, u 180, u 181, u 182, u 183, u 184, u 185, u 186, u 187, u 188, u 189, u 190, u 191, u 192, u 193, u 194, u 195, u 196, u 197, u 198, u 199, u 200, u 201, u 202, u 203, u 204, u 205, u 206, u 207, u 208, u 209, u 210, u 211, u 212, u 213, u 214, u 215, u 216, u 217, u 218, u 219, u 220, u 221, u 222, u 223, u 224, u 225, u 226, u 227, u 228, u 229, u 230, u 231, undef], []⟩ wr) Q0) ⟨#[(.slice A len c), undef, .slice none 0 0, u3, (.slice Ao m co), (.slice Av (z + 1) cv), .int .i64 safe, .int .i64 n, .int .i64 k, u 9, u 10, u 11, u 12, u 13, u 14, u 15, u 16, u 17, u 18, u 19, u 20, u 21, u 22, u 23, u 24, u 25, u 26, u 27, u 28, u 29, u 30, u 31, u 32, u 33, u 34, u 35, u 36, u 37, u 38, u 39, u 40, u 41, u 42, u 43, u 44, u 45, u 46, u 47, u 48, u 49, u 50, u 51, u 52, u 53, u 54, u 55, u 56, u 57, u 58, u 59, u 60, u 61, u 62, u 63, u 64, u 65, u 66, u 67, u 68, u 69, u 70, u 71, u 72, u 73, u 74, u 75, u 76, u 77, u 78, u 79, u 80, u 81, u 82, u 83, u 84, u 85, u 86, u 87, u 88, u 89, u 90, u 91, u 92, u 93, u 94, u 95, u 96, u 97, u 98, u 99, u 100, u 101, u 102, u 103, u 104, u 105, u 106, u 107, u 108, u 109, u 110, u 111, u 112, u 113, u 114, u 115, u 116, u 117, u 118, u 119, u 120, u 121, u 122, u 123, u 124, u 125, u 126, u 127, u 128, u 129, u 130, u 131, u 132, u 133, u 134, u 135, u 136, u 137, u 138, u 139, u 140, u 141, u 142, u 143, u 144, u 145, u 146, u 147, u 148, u 149, u 150, u 151, u 152, u 153, u 154, u 155, u 156, u 157, u 158, u 159, u 160, u 161, u 162, u 163, u 164, u 165, u 166, u 167, u 168, u 169, u 170, u 171, u 172, u 173, u 174, u 175, u 176, u 177, u 178, u 179, u 180, u 181, u 182, u 183, u 184, u 185, u 186, u 187, u 188, u 189, u 190, u 191, u 192, u 193, u 194, u 195, u 196, u 197, u 198, u 199, u 200, u 201, u 202, u 203, u 204, u 205, u 206, u 207, u 208, u 209, u 210, u 211, u 212, u 213, u 214, u 215, u 216, u 217, u 218, u 219, u 220, u 221, u 222, u 223, u 224, u 225, u 226, u 227, u 228, u 229, u 230, u 231, undef], []⟩ wr := by
  have hu := And.intro hoo (And.intro hn1 (And.intro hn2 (And.intro hn3 (And.intro hn4 (And.intro hsf (And.intro hcc1 (And.intro HM.out HZ.out)))))))
  clear hu
  subst hA
  have HLEN := Lib.hid hlen
  clear hlen
  have hkl : (k : Int) < (len : Int) := by omega
  have kw := fun W => conv_u8 (which : Int) (by omega) (by omega) W
  obtain ⟨q, hq⟩ : ∃ q, q = which % m := ⟨_, rfl⟩
  have hqe : ((which : Int) % (m : Int)) = (q : Int) := by rw [hq]; simp
  have HQ := Lib.hid hq
  have HK := Lib.hid hkk
  clear hq hkk
  have hk8 : (kind : Int) % 8 = ((4 : Nat) : Int) := by have := HK.out; omega
  rw [← HQ.out] at hsq
  have hqm : q < m := by rw [HQ.out]; exact Nat.mod_lt _ hm0
  have hrw : (ops.map RgO.cells)[q]? = some (RgO.cells ⟨⟨ckind, cop, true, creg, cval, cba⟩, false, sdn, sres, sat⟩) := by rw [List.getElem?_map, hsq]; rfl
  obtain ⟨go, co', hvo, hgb, hgo⟩ := hoo.pos (by rw [List.length_map, ← HM.out]; exact hm0)
  injection hvo with hv1 hv2 hv3
  subst hv1
  clear hv2 hv3
  have HSQ := Lib.hid hsq
  have HRW := Lib.hid hrw
  have hqI : (q : Int) < (m : Int) := by omega
  have hmI : (0 : Int) < (m : Int) := by omega
  have hmz : ¬ (m : Int) = 0 := by omega
  have hgo1 : go ≠ wr.heap.size := by omega
  have hgo2 : go ≠ wr.heap.size + 1 := by omega
  have HQ' : Hid (q = which % ops.length) := HQ.out.trans (by rw [HM.out])
  have HM' : Hid (0 < ops.length) := by unfold Hid; rw [← HM.out]; exact hm0
  clear hsq hrw
  have o0 := hoo.cell HRW.out (j := 0) rfl
  have o1 := hoo.cell HRW.out (j := 1) rfl
  have o2 := hoo.cell HRW.out (j := 2) rfl
  have o3 := hoo.cell HRW.out (j := 3) rfl
  have o4 := hoo.cell HRW.out (j := 4) rfl
  have o5 := hoo.cell HRW.out (j := 5) rfl
  have o6 := hoo.cell HRW.out (j := 6) rfl
  have o7 := hoo.cell HRW.out (j := 7) rfl
  have o8 := hoo.cell HRW.out (j := 8) rfl
  have o9 := hoo.cell HRW.out (j := 9) rfl
  have f6 := hoo.frozen (q * 10 + 6)
  have f7 := hoo.frozen (q * 10 + 7)
  have f8 := hoo.frozen (q * 10 + 8)
  have f9 := hoo.frozen (q * 10 + 9)
  simp only [Nat.add_zero] at o0
  have n_l := hol.apart hoo (by decide)
  have n_v := hov.apart hoo (by decide)
  obtain ⟨gv, cv', hvv, hgvb, hgv⟩ := hov.pos (by rw [List.length_map, HZ.out]; omega)
  injection hvv with hvv1 hvv2 hvv3
  subst hvv1
  clear hvv2 hvv3
  obtain ⟨y, hy⟩ : ∃ y, vs[z]? = some y := ⟨vs[z]'(by have := HZ.out; omega), List.getElem?_eq_getElem _⟩
  have hyr : (vs.map icell)[z]? = some (icell y) := by rw [List.getElem?_map, hy]; rfl
  have yv : wr.cell? ⟨gv, z, none⟩ = some (.int .i64 y) := by simpa using hov.cell hyr (j := 0) rfl
  have HYL : Hid (rgLast ⟨l, ops, vs, safe, n⟩ = y) := rg_last HZ.out hy
  have hgv1 : gv ≠ wr.heap.size := by omega
  have hgv2 : gv ≠ wr.heap.size + 1 := by omega
  have hz1 : (z : Int) + 1 - 1 = (z : Int) := by omega
  have hz2 : (z : Int) + 2 - 1 = (z : Int) + 1 := by omega
  have hwz : IntKind.i64.wrap (z : Int) = (z : Int) := IntWalk.i64_in _ (by omega)
  have hwz1 : IntKind.i64.wrap ((z : Int) + 1) = (z : Int) + 1 := IntWalk.i64_in _ (by omega)
  have hzi : (z : Int) < (z : Int) + 1 := by omega
  have hz0 : (0 : Int) ≤ (z : Int) := by omega
  clear hy hyr
  have HN : Hid (rgTo sc (k + 1) = ⟨l, ops.set q ⟨⟨ckind, cop, true, creg, cval, cba⟩, true, sdn, cval, z + 1⟩, vs ++ [cval], safe, n⟩) := HS.out.trans (by
    rw [rg_ex (by have := HK.out; omega) (by have := HK.out; omega) HM'.out HQ'.out HSQ.out rfl]
    simp [exO, rgVals, rgRes, effE, HZ.out])
  have HE : Hid ((ops.set q ⟨⟨ckind, cop, true, creg, cval, cba⟩, true, sdn, cval, z + 1⟩).map RgO.cells = (ops.map RgO.cells).set q ((((RgO.cells ⟨⟨ckind, cop, true, creg, cval, cba⟩, false, sdn, sres, sat⟩).set 6 (.bool true)).set 8 (.int .i64 cval)).set 9 (.int .i64 ((z : Int) + 1)))) := by
    unfold Hid
    simp [List.map_set, RgO.cells, Ev.cells]
  have HEF : Hid (∀ W, Calls Tryd.prog 27 #[.agg #[.int .i64 0, .int .i64 0, .int .i64 0, .bool true, .bool cba, .int .i64 0, .int .i64 0, .int .i64 0]] W fun r w' => r = .returned (.bool true) ∧ Below W.heap.size W w') := fun W => rgeff_any true cba W
  clear HS HK HQ HM HQ' HM' HYL
  have x2 : ∀ d xs, (Sort.grow (redrawn (wr.alloc (.cells #[.int .u8 kind, .int .u8 which] 85)) d) xs).cell? ⟨go, q * 10 + 2, none⟩ = some (.bool true) := fun d xs => ((hoo.alloc _).below (below_regrown _ d xs)).cell HRW.out (j := 2) rfl
  have x5 : ∀ d xs, (Sort.grow (redrawn (wr.alloc (.cells #[.int .u8 kind, .int .u8 which] 85)) d) xs).cell? ⟨go, q * 10 + 5, none⟩ = some (.bool cba) := fun d xs => ((hoo.alloc _).below (below_regrown _ d xs)).cell HRW.out (j := 5) rfl
  conv => arg 2; whnf
  go_wp2_with fail
  refine quiet_below (by kernel_rfl) (by kernel_rfl) ?_
  repeat (go_big_quiet_step ((go_at_call 27; exact Calls.regrown_of (HEF.out _))))
  refine wpQuiet_nil ?_
  intro W2 hb2
  have hol2 := (hol.alloc _).below hb2
  have hoo2 := (hoo.alloc _).below hb2
  have hov2 := (hov.alloc _).below hb2
  have hz2' : w.heap.size ≤ W2.heap.size := Nat.le_trans (by simp; omega) hb2.size
  have hbb2 : Below w.heap.size w W2 := (hb.alloc hz _).trans (hb2.mono (by simp; omega))
  clear x2 x5 hb2 hol hoo hov hb a0 a1 o0 o1 o2 o3 o4 o5 o6 o7 o8 o9 f6 f7 f8 f9 n_l n_v yv
  go_wp2_with (at_builtin; refine wpList_ap1 rfl (.tmp 155) (.tmp 157) _ rfl elemInt rfl hov2 (icell cval) _ rfl _ rfl (by simp) (icellOne _) (by simp [maxLen]; have := HZ.out; omega) (by simp; have := HZ.out; omega) hz2' ?_)
  intro v3 w3 hov3 hg3 _
  have hb3 : Below w.heap.size w w3 := (hbb2.alloc hz2' _).grown hg3 (by simp; omega) (fun g hg => (hov2.lt hg).1)
  have hoo3 := (hoo2.alloc _).kept hg3 (hoo2.ne hov2 (by decide))
  have hol3 := (hol2.alloc _).kept hg3 (hol2.ne hov2 (by decide))
  have hz3 := hb3.size
  have m_l := hol3.apart hoo3 (by decide)
  have m_v := hov3.apart hoo3 (by decide)
  clear hg3 hol2 hoo2 hov2 hbb2
  have o6 := hoo3.cell HRW.out (j := 6) rfl
  have o8 := hoo3.cell HRW.out (j := 8) rfl
  have o9 := hoo3.cell HRW.out (j := 9) rfl
  have f6 := hoo3.frozen (q * 10 + 6)
  have f8 := hoo3.frozen (q * 10 + 8)
  have f9 := hoo3.frozen (q * 10 + 9)
  obtain ⟨A3, c3, hv3, -, -⟩ := hov3.form
  have hln : (vs.map icell ++ [icell cval]).length = z + 2 := by simp [HZ.out]
  rw [hln] at hv3
  subst hv3
  clear hln
  go_wp2
  refine ⟨reg_mk (k + 1) (by omega) ⟨by rw [HN.out]; exact ((hol3.far (p := ⟨go, q * 10 + 6, none⟩) m_l _).far (p := ⟨go, q * 10 + 8, none⟩) m_l _).far (p := ⟨go, q * 10 + 9, none⟩) m_l _, by rw [HN.out]; rw [HE.out]; exact hoo3.stored3 HRW.out _ _ _, by rw [HN.out]; simp only [List.map_append, List.map_cons, List.map_nil]; exact ((hov3.far (p := ⟨go, q * 10 + 6, none⟩) m_v _).far (p := ⟨go, q * 10 + 8, none⟩) m_v _).far (p := ⟨go, q * 10 + 9, none⟩) m_v _, ((hb3.setCell (p := ⟨go, q * 10 + 6, none⟩) hgb _).setCell (p := ⟨go, q * 10 + 8, none⟩) hgb _).setCell (p := ⟨go, q * 10 + 9, none⟩) hgb _⟩ (by rw [HN.out]; rfl) (by rw [HN.out]; rfl) (by go_num) rfl, by simp [RegMs, intOf]; omega⟩
set_option maxHeartbeats 4000000 in
set_option maxRecDepth 1000000 in
theorem reg_exff5 (sc : List RgA) (len : Nat) (hlen : len = sc.length) (w wr : World) (u : Nat → Value) (u3 : Value) (A : Option Addr) (c k : Nat) (hk : k < len) (hl : len ≤ 1000) (b off : Nat) (hA : A = some ⟨b, off, none⟩)
    (l : List Ev) (ops : List RgO) (vs : List Int) (safe n kind which m z : Nat) (Ao : Option Addr) (co : Nat) (Av : Option Addr) (cv : Nat)
    (hn1 : l.length ≤ k) (hn2 : ops.length ≤ k) (hn3 : z ≤ k) (hn4 : n ≤ k) (hsf : safe ≤ z) (hcc1 : z + 1 ≤ cv) (hb1 : kind < 256) (hb3 : which < 256)
    (a0 : wr.cell? ⟨b, off + k * 2, none⟩ = some (.int .u8 kind)) (a1 : wr.cell? ⟨b, off + k * 2 + 1, none⟩ = some (.int .u8 which))
    (hol : OwS wr w.heap.size 45 6 u3 (l.map Ev.cells)) (hoo : OwS wr w.heap.size 87 10 (.slice Ao m co) (ops.map RgO.cells)) (hov : OwS wr w.heap.size 3 1 (.slice Av (z + 1) cv) (vs.map icell)) (hb : Below w.heap.size w wr) (hz : w.heap.size ≤ wr.heap.size)
    (HM : Hid (m = ops.length)) (HZ : Hid (vs.length = z + 1)) (HS : Hid (rgTo sc (k + 1) = rgStep ⟨l, ops, vs, safe, n⟩ ⟨kind, which⟩)) (Q0 : Exit → Act → World → Prop) (hkk : 5 = kind % 8) (hm0 : 0 < m) (ckind cop creg cval sres : Int) (sat : Nat) (sdn : Bool) (hsq : ops[which % m]? = some ⟨⟨ckind, cop, false, creg, cval, false⟩, false, sdn, sres, sat⟩) :
    Code.wp Tryd.prog regBody (Exit.then (fun a' w' => RegI sc w A len c a' w' ∧ RegMs len a' w' < RegMs len ⟨#[(.slice A len c), undef, .slice none 0 0, u3, (.slice Ao m co), (.slice Av (z + 1) cv), .int .i64 safe, .int .i64 n, .int .i64 k, u 9, u 10, u 11, u 12, u 13, u 14, u 15, u 16, u 17, u 18, u 19, u 20, u 21, u 22, u 23, u 24, u 25, u 26, u 27, u 28, u 29, u 30, u 31, u 32, u 33, u 34, u 35, u 36, u 37, u 38, u 39, u 40, u 41, u 42, u 43, u 44, u 45, u 46, u 47, u 48, u 49, u 50, u 51, u 52, u 53, u 54, u 55, u 56, u 57, u 58, u 59, u 60, u 61, u 62, u 63, u 64, u 65, u 66, u 67, u 68, u 69, u 70, u 71, u 72, u 73, u 74, u 75, u 76, u 77, u 78, u 79, u 80, u 81, u 82, u 83, u 84, u 85, u 86, u 87, u 88, u 89, u 90, u 91, u 92, u 93, u 94, u 95, u 96, u 97, u 98, u 99, u 100, u 101, u 102, u 103, u 104, u 105, u 106, u 107, u 108, u 109, u 110, u 111, u 112, u 113, u 114, u 115, u 116, u 117, u 118, u 119, u 120, u 121, u 122, u 123, u 124, u 125, u 126, u 127, u 128, u 129, u 130, u 131, u 132, u 133, u 134, u 135, u 136, u 137, u 138, u 139, u 140, u 141, u 142, u 143, u 144, u 145, u 146, u 147, u 148, u 149, u 150, u 151, u 152, u 153, u 154, u 155, u 156, u 157, u 158, u 159, u 160, u 161, u 162, u 163, u 164, u 165, u 166, u 167, u 168, u 169, u 170, u 171, u 172, u 173, u 174, u 175, u 176, u 177, u 178, u 179, u 180, u 181, u 182, u 183, u 184, u 185, u 186, u 187, u 188, u 189, u 190, u 191, u 192, u 193, u 194, u 195, u 196, u 197, u 198, u 199, u 200, u 201, u 202, u 203, u 204, u 205, u 206, u 207, u 208, u 209, u 210, u 211, u 212, u 213, u 214, u 215, u 216, u 217, u 218, u 219, u 220, u 221, u 222, u 223, u 224, u 225, u 226, u 227, u 228, u 229, u 230, u 231, undef], []⟩ wr) Q0) ⟨#[(.slice A len c), undef, .slice none 0 0, u3, (.slice Ao m co), (.slice Av (z + 1) cv), .int .i64 safe, .int .i64 n, .int .i64 k, u 9, u 10, u 11, u 12, u 13, u 14, u 15, u 16, u 17, u 18, u 19, u 20, u 21, u 22, u 23, u 24, u 25, u 26, u 27, u 28, u 29, u 30, u 31, u 32, u 33, u 34, u 35, u 36, u 37, u 38, u 39, u 40, u 41, u 42, u 43, u 44, u 45, u 46, u 47, u 48, u 49, u 50, u 51, u 52, u 53, u 54, u 55, u 56, u 57, u 58, u 59, u 60, u 61, u 62, u 63, u 64, u 65, u 66, u 67, u 68, u 69, u 70, u 71, u 72, u 73, u 74, u 75, u 76, u 77, u 78, u 79, u 80, u 81, u 82, u 83, u 84, u 85, u 86, u 87, u 88, u 89, u 90, u 91, u 92, u 93, u 94, u 95, u 96, u 97, u 98, u 99, u 100, u 101, u 102, u 103, u 104, u 105, u 106, u 107, u 108, u 109, u 110, u 111, u 112, u 113, u 114, u 115, u 116, u 117, u 118, u 119, u 120, u 121, u 122, u 123, u 124, u 125, u 126, u 127, u 128, u 129, u 130, u 131, u 132, u 133, u 134, u 135, u 136, u 137, u 138, u 139, u 140, u 141, u 142, u 143, u 144, u 145, u 146, u 147, u 148, u 149, u 150, u 151, u 152, u 153, u 154, u 155, u 156, u 157, u 158, u 159, u 160, u 161, u 162, u 163, u 164, u 165, u 166, u 167, u 168, u 169, u 170, u 171, u 172, u 173, u 174, u 175, u 176, u 177, u 178, u 179, u 180, u 181, u 182, u 183, u 184, u 185, u 186, u 187, u 188, u 189, u 190, u 191, u 192, u 193, u 194, u 195, u 196, u 197, u 198, u 199, u 200, u 201, u 202, u 203, u 204, u 205, u 206, u 207, u 208, u 209, u 210, u 211, u 212, u 213, u 214, u 215, u 216, u 217, u 218, u 219, u 220, u 221, u 222, u 223, u 224, u 225, u 226, u 227, u 228, u 229, u 230, u 231, undef], []⟩ wr := by
  have hu := And.intro hoo (And.intro hn1 (And.intro hn2 (And.intro hn3 (And.intro hn4 (And.intro hsf (And.intro hcc1 (And.intro HM.out HZ.out)))))))
  clear hu
  subst hA
  have HLEN := Lib.hid hlen
  clear hlen
  have hkl : (k : Int) < (len : Int) := by omega
  have kw := fun W => conv_u8 (which : Int) (by omega) (by omega) W
  obtain ⟨q, hq⟩ : ∃ q, q = which % m := ⟨_, rfl⟩
  have hqe : ((which : Int) % (m : Int)) = (q : Int) := by rw [hq]; simp
  have HQ := Lib.hid hq
  have HK := Lib.hid hkk
  clear hq hkk
  have hk8 : (kind : Int) % 8 = ((5 : Nat) : Int) := by have := HK.out; omega
  rw [← HQ.out] at hsq
  have hqm : q < m := by rw [HQ.out]; exact Nat.mod_lt _ hm0
  have hrw : (ops.map RgO.cells)[q]? = some (RgO.cells ⟨⟨ckind, cop, false, creg, cval, false⟩, false, sdn, sres, sat⟩) := by rw [List.getElem?_map, hsq]; rfl
  obtain ⟨go, co', hvo, hgb, hgo⟩ := hoo.pos (by rw [List.length_map, ← HM.out]; exact hm0)
  injection hvo with hv1 hv2 hv3
  subst hv1
  clear hv2 hv3
  have HSQ := Lib.hid hsq
  have HRW := Lib.hid hrw
  have hqI : (q : Int) < (m : Int) := by omega
  have hmI : (0 : Int) < (m : Int) := by omega
  have hmz : ¬ (m : Int) = 0 := by omega
  have hgo1 : go ≠ wr.heap.size := by omega
  have hgo2 : go ≠ wr.heap.size + 1 := by omega
  have HQ' : Hid (q = which % ops.length) := HQ.out.trans (by rw [HM.out])
  have HM' : Hid (0 < ops.length) := by unfold Hid; rw [← HM.out]; exact hm0
  clear hsq hrw
  have o0 := hoo.cell HRW.out (j := 0) rfl
  have o1 := hoo.cell HRW.out (j := 1) rfl
  have o2 := hoo.cell HRW.out (j := 2) rfl
  have o3 := hoo.cell HRW.out (j := 3) rfl
  have o4 := hoo.cell HRW.out (j := 4) rfl
  have o5 := hoo.cell HRW.out (j := 5) rfl
  have o6 := hoo.cell HRW.out (j := 6) rfl
  have o7 := hoo.cell HRW.out (j := 7) rfl
  have o8 := hoo.cell HRW.out (j := 8) rfl
  have o9 := hoo.cell HRW.out (j := 9) rfl
  have f6 := hoo.frozen (q * 10 + 6)
  have f7 := hoo.frozen (q * 10 + 7)
  have f8 := hoo.frozen (q * 10 + 8)
  have f9 := hoo.frozen (q * 10 + 9)
  simp only [Nat.add_zero] at o0
  have n_l := hol.apart hoo (by decide)
  have n_v := hov.apart hoo (by decide)
  obtain ⟨gv, cv', hvv, hgvb, hgv⟩ := hov.pos (by rw [List.length_map, HZ.out]; omega)
  injection hvv with hvv1 hvv2 hvv3
  subst hvv1
  clear hvv2 hvv3
  obtain ⟨y, hy⟩ : ∃ y, vs[z]? = some y := ⟨vs[z]'(by have := HZ.out; omega), List.getElem?_eq_getElem _⟩
  have hyr : (vs.map icell)[z]? = some (icell y) := by rw [List.getElem?_map, hy]; rfl
  have yv : wr.cell? ⟨gv, z, none⟩ = some (.int .i64 y) := by simpa using hov.cell hyr (j := 0) rfl
  have HYL : Hid (rgLast ⟨l, ops, vs, safe, n⟩ = y) := rg_last HZ.out hy
  have hgv1 : gv ≠ wr.heap.size := by omega
  have hgv2 : gv ≠ wr.heap.size + 1 := by omega
  have hz1 : (z : Int) + 1 - 1 = (z : Int) := by omega
  have hz2 : (z : Int) + 2 - 1 = (z : Int) + 1 := by omega
  have hwz : IntKind.i64.wrap (z : Int) = (z : Int) := IntWalk.i64_in _ (by omega)
  have hwz1 : IntKind.i64.wrap ((z : Int) + 1) = (z : Int) + 1 := IntWalk.i64_in _ (by omega)
  have hzi : (z : Int) < (z : Int) + 1 := by omega
  have hz0 : (0 : Int) ≤ (z : Int) := by omega
  clear hy hyr
  have HN : Hid (rgTo sc (k + 1) = ⟨l, ops.set q ⟨⟨ckind, cop, false, creg, cval, false⟩, true, sdn, y, z + 1⟩, vs ++ [y], safe, n⟩) := HS.out.trans (by
    rw [rg_ex (by have := HK.out; omega) (by have := HK.out; omega) HM'.out HQ'.out HSQ.out rfl]
    simp [exO, rgVals, rgRes, effE, HYL.out, HZ.out])
  have HE : Hid ((ops.set q ⟨⟨ckind, cop, false, creg, cval, false⟩, true, sdn, y, z + 1⟩).map RgO.cells = (ops.map RgO.cells).set q ((((RgO.cells ⟨⟨ckind, cop, false, creg, cval, false⟩, false, sdn, sres, sat⟩).set 6 (.bool true)).set 8 (.int .i64 y)).set 9 (.int .i64 ((z : Int) + 1)))) := by
    unfold Hid
    simp [List.map_set, RgO.cells, Ev.cells]
  have HEF : Hid (∀ W, Calls Tryd.prog 27 #[.agg #[.int .i64 0, .int .i64 0, .int .i64 0, .bool false, .bool false, .int .i64 0, .int .i64 0, .int .i64 0]] W fun r w' => r = .returned (.bool true) ∧ Below W.heap.size W w') := fun W => rgeff_any false false W
  clear HS HK HQ HM HQ' HM' HYL
  have x2 : ∀ d xs, (Sort.grow (redrawn (wr.alloc (.cells #[.int .u8 kind, .int .u8 which] 85)) d) xs).cell? ⟨go, q * 10 + 2, none⟩ = some (.bool false) := fun d xs => ((hoo.alloc _).below (below_regrown _ d xs)).cell HRW.out (j := 2) rfl
  have x5 : ∀ d xs, (Sort.grow (redrawn (wr.alloc (.cells #[.int .u8 kind, .int .u8 which] 85)) d) xs).cell? ⟨go, q * 10 + 5, none⟩ = some (.bool false) := fun d xs => ((hoo.alloc _).below (below_regrown _ d xs)).cell HRW.out (j := 5) rfl
  conv => arg 2; whnf
  go_wp2_with fail
  refine quiet_below (by kernel_rfl) (by kernel_rfl) ?_
  repeat (go_big_quiet_step ((go_at_call 27; exact Calls.regrown_of (HEF.out _))))
  refine wpQuiet_nil ?_
  intro W2 hb2
  have hol2 := (hol.alloc _).below hb2
  have hoo2 := (hoo.alloc _).below hb2
  have hov2 := (hov.alloc _).below hb2
  have hz2' : w.heap.size ≤ W2.heap.size := Nat.le_trans (by simp; omega) hb2.size
  have hbb2 : Below w.heap.size w W2 := (hb.alloc hz _).trans (hb2.mono (by simp; omega))
  clear x2 x5 hb2 hol hoo hov hb a0 a1 o0 o1 o2 o3 o4 o5 o6 o7 o8 o9 f6 f7 f8 f9 n_l n_v yv
  go_wp2_with (at_builtin; refine wpList_ap1 rfl (.tmp 155) (.tmp 157) _ rfl elemInt rfl hov2 (icell y) _ rfl _ rfl (by simp) (icellOne _) (by simp [maxLen]; have := HZ.out; omega) (by simp; have := HZ.out; omega) hz2' ?_)
  intro v3 w3 hov3 hg3 _
  have hb3 : Below w.heap.size w w3 := (hbb2.alloc hz2' _).grown hg3 (by simp; omega) (fun g hg => (hov2.lt hg).1)
  have hoo3 := (hoo2.alloc _).kept hg3 (hoo2.ne hov2 (by decide))
  have hol3 := (hol2.alloc _).kept hg3 (hol2.ne hov2 (by decide))
  have hz3 := hb3.size
  have m_l := hol3.apart hoo3 (by decide)
  have m_v := hov3.apart hoo3 (by decide)
  clear hg3 hol2 hoo2 hov2 hbb2
  have o6 := hoo3.cell HRW.out (j := 6) rfl
  have o8 := hoo3.cell HRW.out (j := 8) rfl
  have o9 := hoo3.cell HRW.out (j := 9) rfl
  have f6 := hoo3.frozen (q * 10 + 6)
  have f8 := hoo3.frozen (q * 10 + 8)
  have f9 := hoo3.frozen (q * 10 + 9)
  obtain ⟨A3, c3, hv3, -, -⟩ := hov3.form
  have hln : (vs.map icell ++ [icell y]).length = z + 2 := by simp [HZ.out]
  rw [hln] at hv3
  subst hv3
  clear hln
  go_wp2
  refine ⟨reg_mk (k + 1) (by omega) ⟨by rw [HN.out]; exact ((hol3.far (p := ⟨go, q * 10 + 6, none⟩) m_l _).far (p := ⟨go, q * 10 + 8, none⟩) m_l _).far (p := ⟨go, q * 10 + 9, none⟩) m_l _, by rw [HN.out]; rw [HE.out]; exact hoo3.stored3 HRW.out _ _ _, by rw [HN.out]; simp only [List.map_append, List.map_cons, List.map_nil]; exact ((hov3.far (p := ⟨go, q * 10 + 6, none⟩) m_v _).far (p := ⟨go, q * 10 + 8, none⟩) m_v _).far (p := ⟨go, q * 10 + 9, none⟩) m_v _, ((hb3.setCell (p := ⟨go, q * 10 + 6, none⟩) hgb _).setCell (p := ⟨go, q * 10 + 8, none⟩) hgb _).setCell (p := ⟨go, q * 10 + 9, none⟩) hgb _⟩ (by rw [HN.out]; rfl) (by rw [HN.out]; rfl) (by go_num) rfl, by simp [RegMs, intOf]; omega⟩
set_option maxHeartbeats 4000000 in
set_option maxRecDepth 1000000 in
theorem reg_exft5 (sc : List RgA) (len : Nat) (hlen : len = sc.length) (w wr : World) (u : Nat → Value) (u3 : Value) (A : Option Addr) (c k : Nat) (hk : k < len) (hl : len ≤ 1000) (b off : Nat) (hA : A = some ⟨b, off, none⟩)
    (l : List Ev) (ops : List RgO) (vs : List Int) (safe n kind which m z : Nat) (Ao : Option Addr) (co : Nat) (Av : Option Addr) (cv : Nat)
    (hn1 : l.length ≤ k) (hn2 : ops.length ≤ k) (hn3 : z ≤ k) (hn4 : n ≤ k) (hsf : safe ≤ z) (hcc1 : z + 1 ≤ cv) (hb1 : kind < 256) (hb3 : which < 256)
    (a0 : wr.cell? ⟨b, off + k * 2, none⟩ = some (.int .u8 kind)) (a1 : wr.cell? ⟨b, off + k * 2 + 1, none⟩ = some (.int .u8 which))
    (hol : OwS wr w.heap.size 45 6 u3 (l.map Ev.cells)) (hoo : OwS wr w.heap.size 87 10 (.slice Ao m co) (ops.map RgO.cells)) (hov : OwS wr w.heap.size 3 1 (.slice Av (z + 1) cv) (vs.map icell)) (hb : Below w.heap.size w wr) (hz : w.heap.size ≤ wr.heap.size)
    (HM : Hid (m = ops.length)) (HZ : Hid (vs.length = z + 1)) (HS : Hid (rgTo sc (k + 1) = rgStep ⟨l, ops, vs, safe, n⟩ ⟨kind, which⟩)) (Q0 : Exit → Act → World → Prop) (hkk : 5 = kind % 8) (hm0 : 0 < m) (ckind cop creg cval sres : Int) (sat : Nat) (sdn : Bool) (hsq : ops[which % m]? = some ⟨⟨ckind, cop, false, creg, cval, true⟩, false, sdn, sres, sat⟩) :
    Code.wp Tryd.prog regBody (Exit.then (fun a' w' => RegI sc w A len c a' w' ∧ RegMs len a' w' < RegMs len ⟨#[(.slice A len c), undef, .slice none 0 0, u3, (.slice Ao m co), (.slice Av (z + 1) cv), .int .i64 safe, .int .i64 n, .int .i64 k, u 9, u 10, u 11, u 12, u 13, u 14, u 15, u 16, u 17, u 18, u 19, u 20, u 21, u 22, u 23, u 24, u 25, u 26, u 27, u 28, u 29, u 30, u 31, u 32, u 33, u 34, u 35, u 36, u 37, u 38, u 39, u 40, u 41, u 42, u 43, u 44, u 45, u 46, u 47, u 48, u 49, u 50, u 51, u 52, u 53, u 54, u 55, u 56, u 57, u 58, u 59, u 60, u 61, u 62, u 63, u 64, u 65, u 66, u 67, u 68, u 69, u 70, u 71, u 72, u 73, u 74, u 75, u 76, u 77, u 78, u 79, u 80, u 81, u 82, u 83, u 84, u 85, u 86, u 87, u 88, u 89, u 90, u 91, u 92, u 93, u 94, u 95, u 96, u 97, u 98, u 99, u 100, u 101, u 102, u 103, u 104, u 105, u 106, u 107, u 108, u 109, u 110, u 111, u 112, u 113, u 114, u 115, u 116, u 117, u 118, u 119, u 120, u 121, u 122, u 123, u 124, u 125, u 126, u 127, u 128, u 129, u 130, u 131, u 132, u 133, u 134, u 135, u 136, u 137, u 138, u 139, u 140, u 141, u 142, u 143, u 144, u 145, u 146, u 147, u 148, u 149, u 150, u 151, u 152, u 153, u 154, u 155, u 156, u 157, u 158, u 159, u 160, u 161, u 162, u 163, u 164, u 165, u 166, u 167, u 168, u 169, u 170, u 171, u 172, u 173, u 174, u 175, u 176, u 177, u 178, u 179, u 180, u 181, u 182, u 183, u 184, u 185, u 186, u 187, u 188, u 189, u 190, u 191, u 192, u 193, u 194, u 195, u 196, u 197, u 198, u 199, u 200, u 201, u 202, u 203, u 204, u 205, u 206, u 207, u 208, u 209, u 210, u 211, u 212, u 213, u 214, u 215, u 216, u 217, u 218, u 219, u 220, u 221, u 222, u 223, u 224, u 225, u 226, u 227, u 228, u 229, u 230, u 231, undef], []⟩ wr) Q0) ⟨#[(.slice A len c), undef, .slice none 0 0, u3, (.slice Ao m co), (.slice Av (z + 1) cv), .int .i64 safe, .int .i64 n, .int .i64 k, u 9, u 10, u 11, u 12, u 13, u 14, u 15, u 16, u 17, u 18, u 19, u 20, u 21, u 22, u 23, u 24, u 25, u 26, u 27, u 28, u 29, u 30, u 31, u 32, u 33, u 34, u 35, u 36, u 37, u 38, u 39, u 40, u 41, u 42, u 43, u 44, u 45, u 46, u 47, u 48, u 49, u 50, u 51, u 52, u 53, u 54, u 55, u 56, u 57, u 58, u 59, u 60, u 61, u 62, u 63, u 64, u 65, u 66, u 67, u 68, u 69, u 70, u 71, u 72, u 73, u 74, u 75, u 76, u 77, u 78, u 79, u 80, u 81, u 82, u 83, u 84, u 85, u 86, u 87, u 88, u 89, u 90, u 91, u 92, u 93, u 94, u 95, u 96, u 97, u 98, u 99, u 100, u 101, u 102, u 103, u 104, u 105, u 106, u 107, u 108, u 109, u 110, u 111, u 112, u 113, u 114, u 115, u 116, u 117, u 118, u 119, u 120, u 121, u 122, u 123, u 124, u 125, u 126, u 127, u 128, u 129, u 130, u 131, u 132, u 133, u 134, u 135, u 136, u 137, u 138, u 139, u 140, u 141, u 142, u 143, u 144, u 145, u 146, u 147, u 148, u 149, u 150, u 151, u 152, u 153, u 154, u 155, u 156, u 157, u 158, u 159, u 160, u 161, u 162, u 163, u 164, u 165, u 166, u 167, u 168, u 169, u 170, u 171, u 172, u 173, u 174, u 175, u 176, u 177, u 178, u 179, u 180, u 181, u 182, u 183, u 184, u 185, u 186, u 187, u 188, u 189, u 190, u 191, u 192, u 193, u 194, u 195, u 196, u 197, u 198, u 199, u 200, u 201, u 202, u 203, u 204, u 205, u 206, u 207, u 208, u 209, u 210, u 211, u 212, u 213, u 214, u 215, u 216, u 217, u 218, u 219, u 220, u 221, u 222, u 223, u 224, u 225, u 226, u 227, u 228, u 229, u 230, u 231, undef], []⟩ wr := by
  have hu := And.intro hoo (And.intro hn1 (And.intro hn2 (And.intro hn3 (And.intro hn4 (And.intro hsf (And.intro hcc1 (And.intro HM.out HZ.out)))))))
  clear hu
  subst hA
  have HLEN := Lib.hid hlen
  clear hlen
  have hkl : (k : Int) < (len : Int) := by omega
  have kw := fun W => conv_u8 (which : Int) (by omega) (by omega) W
  obtain ⟨q, hq⟩ : ∃ q, q = which % m := ⟨_, rfl⟩
  have hqe : ((which : Int) % (m : Int)) = (q : Int) := by rw [hq]; simp
  have HQ := Lib.hid hq
  have HK := Lib.hid hkk
  clear hq hkk
  have hk8 : (kind : Int) % 8 = ((5 : Nat) : Int) := by have := HK.out; omega
  rw [← HQ.out] at hsq
  have hqm : q < m := by rw [HQ.out]; exact Nat.mod_lt _ hm0
  have hrw : (ops.map RgO.cells)[q]? = some (RgO.cells ⟨⟨ckind, cop, false, creg, cval, true⟩, false, sdn, sres, sat⟩) := by rw [List.getElem?_map, hsq]; rfl
  obtain ⟨go, co', hvo, hgb, hgo⟩ := hoo.pos (by rw [List.length_map, ← HM.out]; exact hm0)
  injection hvo with hv1 hv2 hv3
  subst hv1
  clear hv2 hv3
  have HSQ := Lib.hid hsq
  have HRW := Lib.hid hrw
  have hqI : (q : Int) < (m : Int) := by omega
  have hmI : (0 : Int) < (m : Int) := by omega
  have hmz : ¬ (m : Int) = 0 := by omega
  have hgo1 : go ≠ wr.heap.size := by omega
  have hgo2 : go ≠ wr.heap.size + 1 := by omega
  have HQ' : Hid (q = which % ops.length) := HQ.out.trans (by rw [HM.out])
  have HM' : Hid (0 < ops.length) := by unfold Hid; rw [← HM.out]; exact hm0
  clear hsq hrw
  have o0 := hoo.cell HRW.out (j := 0) rfl
  have o1 := hoo.cell HRW.out (j := 1) rfl
  have o2 := hoo.cell HRW.out (j := 2) rfl
  have o3 := hoo.cell HRW.out (j := 3) rfl
  have o4 := hoo.cell HRW.out (j := 4) rfl
  have o5 := hoo.cell HRW.out (j := 5) rfl
  have o6 := hoo.cell HRW.out (j := 6) rfl
  have o7 := hoo.cell HRW.out (j := 7) rfl
  have o8 := hoo.cell HRW.out (j := 8) rfl
  have o9 := hoo.cell HRW.out (j := 9) rfl
  have f6 := hoo.frozen (q * 10 + 6)
  have f7 := hoo.frozen (q * 10 + 7)
  have f8 := hoo.frozen (q * 10 + 8)
  have f9 := hoo.frozen (q * 10 + 9)
  simp only [Nat.add_zero] at o0
  have n_l := hol.apart hoo (by decide)
  have n_v := hov.apart hoo (by decide)
  obtain ⟨gv, cv', hvv, hgvb, hgv⟩ := hov.pos (by rw [List.length_map, HZ.out]; omega)
  injection hvv with hvv1 hvv2 hvv3
  subst hvv1
  clear hvv2 hvv3
  obtain ⟨y, hy⟩ : ∃ y, vs[z]? = some y := ⟨vs[z]'(by have := HZ.out; omega), List.getElem?_eq_getElem _⟩
  have hyr : (vs.map icell)[z]? = some (icell y) := by rw [List.getElem?_map, hy]; rfl
  have yv : wr.cell? ⟨gv, z, none⟩ = some (.int .i64 y) := by simpa using hov.cell hyr (j := 0) rfl
  have HYL : Hid (rgLast ⟨l, ops, vs, safe, n⟩ = y) := rg_last HZ.out hy
  have hgv1 : gv ≠ wr.heap.size := by omega
  have hgv2 : gv ≠ wr.heap.size + 1 := by omega
  have hz1 : (z : Int) + 1 - 1 = (z : Int) := by omega
  have hz2 : (z : Int) + 2 - 1 = (z : Int) + 1 := by omega
  have hwz : IntKind.i64.wrap (z : Int) = (z : Int) := IntWalk.i64_in _ (by omega)
  have hwz1 : IntKind.i64.wrap ((z : Int) + 1) = (z : Int) + 1 := IntWalk.i64_in _ (by omega)
  have hzi : (z : Int) < (z : Int) + 1 := by omega
  have hz0 : (0 : Int) ≤ (z : Int) := by omega
  clear hy hyr
  have HN : Hid (rgTo sc (k + 1) = ⟨l, ops.set q ⟨⟨ckind, cop, false, creg, cval, true⟩, true, sdn, y, z⟩, vs, safe, n⟩) := HS.out.trans (by
    rw [rg_ex (by have := HK.out; omega) (by have := HK.out; omega) HM'.out HQ'.out HSQ.out rfl]
    simp [exO, rgVals, rgRes, effE, HYL.out, HZ.out])
  have HE : Hid ((ops.set q ⟨⟨ckind, cop, false, creg, cval, true⟩, true, sdn, y, z⟩).map RgO.cells = (ops.map RgO.cells).set q ((((RgO.cells ⟨⟨ckind, cop, false, creg, cval, true⟩, false, sdn, sres, sat⟩).set 6 (.bool true)).set 8 (.int .i64 y)).set 9 (.int .i64 (z : Int)))) := by
    unfold Hid
    simp [List.map_set, RgO.cells, Ev.cells]
  have HEF : Hid (∀ W, Calls Tryd.prog 27 #[.agg #[.int .i64 0, .int .i64 0, .int .i64 0, .bool false, .bool true, .int .i64 0, .int .i64 0, .int .i64 0]] W fun r w' => r = .returned (.bool false) ∧ Below W.heap.size W w') := fun W => rgeff_any false true W
  clear HS HK HQ HM HQ' HM' HYL
  have x2 : ∀ d xs, (Sort.grow (redrawn (wr.alloc (.cells #[.int .u8 kind, .int .u8 which] 85)) d) xs).cell? ⟨go, q * 10 + 2, none⟩ = some (.bool false) := fun d xs => ((hoo.alloc _).below (below_regrown _ d xs)).cell HRW.out (j := 2) rfl
  have x5 : ∀ d xs, (Sort.grow (redrawn (wr.alloc (.cells #[.int .u8 kind, .int .u8 which] 85)) d) xs).cell? ⟨go, q * 10 + 5, none⟩ = some (.bool true) := fun d xs => ((hoo.alloc _).below (below_regrown _ d xs)).cell HRW.out (j := 5) rfl
  conv => arg 2; whnf
  go_wp2_with fail
  refine quiet_below (by kernel_rfl) (by kernel_rfl) ?_
  repeat (go_big_quiet_step ((go_at_call 27; exact Calls.regrown_of (HEF.out _))))
  refine wpQuiet_nil ?_
  intro W2 hb2
  have hol2 := (hol.alloc _).below hb2
  have hoo2 := (hoo.alloc _).below hb2
  have hov2 := (hov.alloc _).below hb2
  have hz2' : w.heap.size ≤ W2.heap.size := Nat.le_trans (by simp; omega) hb2.size
  have hbb2 : Below w.heap.size w W2 := (hb.alloc hz _).trans (hb2.mono (by simp; omega))
  clear x2 x5 hb2 hol hoo hov hb a0 a1 o0 o1 o2 o3 o4 o5 o6 o7 o8 o9 f6 f7 f8 f9 n_l n_v yv
  have m_l := hol2.apart hoo2 (by decide)
  have m_v := hov2.apart hoo2 (by decide)
  have o6 := hoo2.cell HRW.out (j := 6) rfl
  have o8 := hoo2.cell HRW.out (j := 8) rfl
  have o9 := hoo2.cell HRW.out (j := 9) rfl
  have f6 := hoo2.frozen (q * 10 + 6)
  have f8 := hoo2.frozen (q * 10 + 8)
  have f9 := hoo2.frozen (q * 10 + 9)
  go_wp2
  refine ⟨reg_mk (k + 1) (by omega) ⟨by rw [HN.out]; exact ((hol2.far (p := ⟨go, q * 10 + 6, none⟩) m_l _).far (p := ⟨go, q * 10 + 8, none⟩) m_l _).far (p := ⟨go, q * 10 + 9, none⟩) m_l _, by rw [HN.out]; rw [HE.out]; exact hoo2.stored3 HRW.out _ _ _, by rw [HN.out]; exact ((hov2.far (p := ⟨go, q * 10 + 6, none⟩) m_v _).far (p := ⟨go, q * 10 + 8, none⟩) m_v _).far (p := ⟨go, q * 10 + 9, none⟩) m_v _, ((hbb2.setCell (p := ⟨go, q * 10 + 6, none⟩) hgb _).setCell (p := ⟨go, q * 10 + 8, none⟩) hgb _).setCell (p := ⟨go, q * 10 + 9, none⟩) hgb _⟩ (by rw [HN.out]; rfl) (by rw [HN.out]; rfl) (by go_num) rfl, by simp [RegMs, intOf]; omega⟩
set_option maxHeartbeats 4000000 in
set_option maxRecDepth 1000000 in
theorem reg_extc5 (sc : List RgA) (len : Nat) (hlen : len = sc.length) (w wr : World) (u : Nat → Value) (u3 : Value) (A : Option Addr) (c k : Nat) (hk : k < len) (hl : len ≤ 1000) (b off : Nat) (hA : A = some ⟨b, off, none⟩)
    (l : List Ev) (ops : List RgO) (vs : List Int) (safe n kind which m z : Nat) (Ao : Option Addr) (co : Nat) (Av : Option Addr) (cv : Nat)
    (hn1 : l.length ≤ k) (hn2 : ops.length ≤ k) (hn3 : z ≤ k) (hn4 : n ≤ k) (hsf : safe ≤ z) (hcc1 : z + 1 ≤ cv) (hb1 : kind < 256) (hb3 : which < 256)
    (a0 : wr.cell? ⟨b, off + k * 2, none⟩ = some (.int .u8 kind)) (a1 : wr.cell? ⟨b, off + k * 2 + 1, none⟩ = some (.int .u8 which))
    (hol : OwS wr w.heap.size 45 6 u3 (l.map Ev.cells)) (hoo : OwS wr w.heap.size 87 10 (.slice Ao m co) (ops.map RgO.cells)) (hov : OwS wr w.heap.size 3 1 (.slice Av (z + 1) cv) (vs.map icell)) (hb : Below w.heap.size w wr) (hz : w.heap.size ≤ wr.heap.size)
    (HM : Hid (m = ops.length)) (HZ : Hid (vs.length = z + 1)) (HS : Hid (rgTo sc (k + 1) = rgStep ⟨l, ops, vs, safe, n⟩ ⟨kind, which⟩)) (Q0 : Exit → Act → World → Prop) (hkk : 5 = kind % 8) (hm0 : 0 < m) (ckind cop creg cval sres : Int) (sat : Nat) (cba sdn : Bool) (hsq : ops[which % m]? = some ⟨⟨ckind, cop, true, creg, cval, cba⟩, false, sdn, sres, sat⟩) :
    Code.wp Tryd.prog regBody (Exit.then (fun a' w' => RegI sc w A len c a' w' ∧ RegMs len a' w' < RegMs len ⟨#[(.slice A len c), undef, .slice none 0 0, u3, (.slice Ao m co), (.slice Av (z + 1) cv), .int .i64 safe, .int .i64 n, .int .i64 k, u 9, u 10, u 11, u 12, u 13, u 14, u 15, u 16, u 17, u 18, u 19, u 20, u 21, u 22, u 23, u 24, u 25, u 26, u 27, u 28, u 29, u 30, u 31, u 32, u 33, u 34, u 35, u 36, u 37, u 38, u 39, u 40, u 41, u 42, u 43, u 44, u 45, u 46, u 47, u 48, u 49, u 50, u 51, u 52, u 53, u 54, u 55, u 56, u 57, u 58, u 59, u 60, u 61, u 62, u 63, u 64, u 65, u 66, u 67, u 68, u 69, u 70, u 71, u 72, u 73, u 74, u 75, u 76, u 77, u 78, u 79, u 80, u 81, u 82, u 83, u 84, u 85, u 86, u 87, u 88, u 89, u 90, u 91, u 92, u 93, u 94, u 95, u 96, u 97, u 98, u 99, u 100, u 101, u 102, u 103, u 104, u 105, u 106, u 107, u 108, u 109, u 110, u 111, u 112, u 113, u 114, u 115, u 116, u 117, u 118, u 119, u 120, u 121, u 122, u 123, u 124, u 125, u 126, u 127, u 128, u 129, u 130, u 131, u 132, u 133, u 134, u 135, u 136, u 137, u 138, u 139, u 140, u 141, u 142, u 143, u 144, u 145, u 146, u 147, u 148, u 149, u 150, u 151, u 152, u 153, u 154, u 155, u 156, u 157, u 158, u 159, u 160, u 161, u 162, u 163, u 164, u 165, u 166, u 167, u 168, u 169, u 170, u 171, u 172, u 173, u 174, u 175, u 176, u 177, u 178, u 179, u 180, u 181, u 182, u 183, u 184, u 185, u 186, u 187, u 188, u 189, u 190, u 191, u 192, u 193, u 194, u 195, u 196, u 197, u 198, u 199, u 200, u 201, u 202, u 203, u 204, u 205, u 206, u 207, u 208, u 209, u 210, u 211, u 212, u 213, u 214, u 215, u 216, u 217, u 218, u 219, u 220, u 221, u 222, u 223, u 224, u 225, u 226, u 227, u 228, u 229, u 230, u 231, undef], []⟩ wr) Q0) ⟨#[(.slice A len c), undef, .slice none 0 0, u3, (.slice Ao m co), (.slice Av (z + 1) cv), .int .i64 safe, .int .i64 n, .int .i64 k, u 9, u 10, u 11, u 12, u 13, u 14, u 15, u 16, u 17, u 18, u 19, u 20, u 21, u 22, u 23, u 24, u 25, u 26, u 27, u 28, u 29, u 30, u 31, u 32, u 33, u 34, u 35, u 36, u 37, u 38, u 39, u 40, u 41, u 42, u 43, u 44, u 45, u 46, u 47, u 48, u 49, u 50, u 51, u 52, u 53, u 54, u 55, u 56, u 57, u 58, u 59, u 60, u 61, u 62, u 63, u 64, u 65, u 66, u 67, u 68, u 69, u 70, u 71, u 72, u 73, u 74, u 75, u 76, u 77, u 78, u 79, u 80, u 81, u 82, u 83, u 84, u 85, u 86, u 87, u 88, u 89, u 90, u 91, u 92, u 93, u 94, u 95, u 96, u 97, u 98, u 99, u 100, u 101, u 102, u 103, u 104, u 105, u 106, u 107, u 108, u 109, u 110, u 111, u 112, u 113, u 114, u 115, u 116, u 117, u 118, u 119, u 120, u 121, u 122, u 123, u 124, u 125, u 126, u 127, u 128, u 129, u 130, u 131, u 132, u 133, u 134, u 135, u 136, u 137, u 138, u 139, u 140, u 141, u 142, u 143, u 144, u 145, u 146, u 147, u 148, u 149, u 150, u 151, u 152, u 153, u 154, u 155, u 156, u 157, u 158, u 159, u 160, u 161, u 162, u 163, u 164, u 165, u 166, u 167, u 168, u 169, u 170, u 171, u 172, u 173, u 174, u 175, u 176, u 177, u 178, u 179, u 180, u 181, u 182, u 183, u 184, u 185, u 186, u 187, u 188, u 189, u 190, u 191, u 192, u 193, u 194, u 195, u 196, u 197, u 198, u 199, u 200, u 201, u 202, u 203, u 204, u 205, u 206, u 207, u 208, u 209, u 210, u 211, u 212, u 213, u 214, u 215, u 216, u 217, u 218, u 219, u 220, u 221, u 222, u 223, u 224, u 225, u 226, u 227, u 228, u 229, u 230, u 231, undef], []⟩ wr := by
  have hu := And.intro hoo (And.intro hn1 (And.intro hn2 (And.intro hn3 (And.intro hn4 (And.intro hsf (And.intro hcc1 (And.intro HM.out HZ.out)))))))
  clear hu
  subst hA
  have HLEN := Lib.hid hlen
  clear hlen
  have hkl : (k : Int) < (len : Int) := by omega
  have kw := fun W => conv_u8 (which : Int) (by omega) (by omega) W
  obtain ⟨q, hq⟩ : ∃ q, q = which % m := ⟨_, rfl⟩
  have hqe : ((which : Int) % (m : Int)) = (q : Int) := by rw [hq]; simp
  have HQ := Lib.hid hq
  have HK := Lib.hid hkk
  clear hq hkk
  have hk8 : (kind : Int) % 8 = ((5 : Nat) : Int) := by have := HK.out; omega
  rw [← HQ.out] at hsq
  have hqm : q < m := by rw [HQ.out]; exact Nat.mod_lt _ hm0
  have hrw : (ops.map RgO.cells)[q]? = some (RgO.cells ⟨⟨ckind, cop, true, creg, cval, cba⟩, false, sdn, sres, sat⟩) := by rw [List.getElem?_map, hsq]; rfl
  obtain ⟨go, co', hvo, hgb, hgo⟩ := hoo.pos (by rw [List.length_map, ← HM.out]; exact hm0)
  injection hvo with hv1 hv2 hv3
  subst hv1
  clear hv2 hv3
  have HSQ := Lib.hid hsq
  have HRW := Lib.hid hrw
  have hqI : (q : Int) < (m : Int) := by omega
  have hmI : (0 : Int) < (m : Int) := by omega
  have hmz : ¬ (m : Int) = 0 := by omega
  have hgo1 : go ≠ wr.heap.size := by omega
  have hgo2 : go ≠ wr.heap.size + 1 := by omega
  have HQ' : Hid (q = which % ops.length) := HQ.out.trans (by rw [HM.out])
  have HM' : Hid (0 < ops.length) := by unfold Hid; rw [← HM.out]; exact hm0
  clear hsq hrw
  have o0 := hoo.cell HRW.out (j := 0) rfl
  have o1 := hoo.cell HRW.out (j := 1) rfl
  have o2 := hoo.cell HRW.out (j := 2) rfl
  have o3 := hoo.cell HRW.out (j := 3) rfl
  have o4 := hoo.cell HRW.out (j := 4) rfl
  have o5 := hoo.cell HRW.out (j := 5) rfl
  have o6 := hoo.cell HRW.out (j := 6) rfl
  have o7 := hoo.cell HRW.out (j := 7) rfl
  have o8 := hoo.cell HRW.out (j := 8) rfl
  have o9 := hoo.cell HRW.out (j := 9) rfl
  have f6 := hoo.frozen (q * 10 + 6)
  have f7 := hoo.frozen (q * 10 + 7)
  have f8 := hoo.frozen (q * 10 + 8)
  have f9 := hoo.frozen (q * 10 + 9)
  simp only [Nat.add_zero] at o0
  have n_l := hol.apart hoo (by decide)
  have n_v := hov.apart hoo (by decide)
  obtain ⟨gv, cv', hvv, hgvb, hgv⟩ := hov.pos (by rw [List.length_map, HZ.out]; omega)
  injection hvv with hvv1 hvv2 hvv3
  subst hvv1
  clear hvv2 hvv3
  obtain ⟨y, hy⟩ : ∃ y, vs[z]? = some y := ⟨vs[z]'(by have := HZ.out; omega), List.getElem?_eq_getElem _⟩
  have hyr : (vs.map icell)[z]? = some (icell y) := by rw [List.getElem?_map, hy]; rfl
  have yv : wr.cell? ⟨gv, z, none⟩ = some (.int .i64 y) := by simpa using hov.cell hyr (j := 0) rfl
  have HYL : Hid (rgLast ⟨l, ops, vs, safe, n⟩ = y) := rg_last HZ.out hy
  have hgv1 : gv ≠ wr.heap.size := by omega
  have hgv2 : gv ≠ wr.heap.size + 1 := by omega
  have hz1 : (z : Int) + 1 - 1 = (z : Int) := by omega
  have hz2 : (z : Int) + 2 - 1 = (z : Int) + 1 := by omega
  have hwz : IntKind.i64.wrap (z : Int) = (z : Int) := IntWalk.i64_in _ (by omega)
  have hwz1 : IntKind.i64.wrap ((z : Int) + 1) = (z : Int) + 1 := IntWalk.i64_in _ (by omega)
  have hzi : (z : Int) < (z : Int) + 1 := by omega
  have hz0 : (0 : Int) ≤ (z : Int) := by omega
  clear hy hyr
  have HN : Hid (rgTo sc (k + 1) = ⟨l, ops.set q ⟨⟨ckind, cop, true, creg, cval, cba⟩, true, sdn, cval, z + 1⟩, vs ++ [cval], safe, n⟩) := HS.out.trans (by
    rw [rg_ex (by have := HK.out; omega) (by have := HK.out; omega) HM'.out HQ'.out HSQ.out rfl]
    simp [exO, rgVals, rgRes, effE, HZ.out])
  have HE : Hid ((ops.set q ⟨⟨ckind, cop, true, creg, cval, cba⟩, true, sdn, cval, z + 1⟩).map RgO.cells = (ops.map RgO.cells).set q ((((RgO.cells ⟨⟨ckind, cop, true, creg, cval, cba⟩, false, sdn, sres, sat⟩).set 6 (.bool true)).set 8 (.int .i64 cval)).set 9 (.int .i64 ((z : Int) + 1)))) := by
    unfold Hid
    simp [List.map_set, RgO.cells, Ev.cells]
  have HEF : Hid (∀ W, Calls Tryd.prog 27 #[.agg #[.int .i64 0, .int .i64 0, .int .i64 0, .bool true, .bool cba, .int .i64 0, .int .i64 0, .int .i64 0]] W fun r w' => r = .returned (.bool true) ∧ Below W.heap.size W w') := fun W => rgeff_any true cba W
  clear HS HK HQ HM HQ' HM' HYL
  have x2 : ∀ d xs, (Sort.grow (redrawn (wr.alloc (.cells #[.int .u8 kind, .int .u8 which] 85)) d) xs).cell? ⟨go, q * 10 + 2, none⟩ = some (.bool true) := fun d xs => ((hoo.alloc _).below (below_regrown _ d xs)).cell HRW.out (j := 2) rfl
  have x5 : ∀ d xs, (Sort.grow (redrawn (wr.alloc (.cells #[.int .u8 kind, .int .u8 which] 85)) d) xs).cell? ⟨go, q * 10 + 5, none⟩ = some (.bool cba) := fun d xs => ((hoo.alloc _).below (below_regrown _ d xs)).cell HRW.out (j := 5) rfl
  conv => arg 2; whnf
  go_wp2_with fail
  refine quiet_below (by kernel_rfl) (by kernel_rfl) ?_
  repeat (go_big_quiet_step ((go_at_call 27; exact Calls.regrown_of (HEF.out _))))
  refine wpQuiet_nil ?_
  intro W2 hb2
  have hol2 := (hol.alloc _).below hb2
  have hoo2 := (hoo.alloc _).below hb2
  have hov2 := (hov.alloc _).below hb2
  have hz2' : w.heap.size ≤ W2.heap.size := Nat.le_trans (by simp; omega) hb2.size
  have hbb2 : Below w.heap.size w W2 := (hb.alloc hz _).trans (hb2.mono (by simp; omega))
  clear x2 x5 hb2 hol hoo hov hb a0 a1 o0 o1 o2 o3 o4 o5 o6 o7 o8 o9 f6 f7 f8 f9 n_l n_v yv
  go_wp2_with (at_builtin; refine wpList_ap1 rfl (.tmp 155) (.tmp 157) _ rfl elemInt rfl hov2 (icell cval) _ rfl _ rfl (by simp) (icellOne _) (by simp [maxLen]; have := HZ.out; omega) (by simp; have := HZ.out; omega) hz2' ?_)
  intro v3 w3 hov3 hg3 _
  have hb3 : Below w.heap.size w w3 := (hbb2.alloc hz2' _).grown hg3 (by simp; omega) (fun g hg => (hov2.lt hg).1)
  have hoo3 := (hoo2.alloc _).kept hg3 (hoo2.ne hov2 (by decide))
  have hol3 := (hol2.alloc _).kept hg3 (hol2.ne hov2 (by decide))
  have hz3 := hb3.size
  have m_l := hol3.apart hoo3 (by decide)
  have m_v := hov3.apart hoo3 (by decide)
  clear hg3 hol2 hoo2 hov2 hbb2
  have o6 := hoo3.cell HRW.out (j := 6) rfl
  have o8 := hoo3.cell HRW.out (j := 8) rfl
  have o9 := hoo3.cell HRW.out (j := 9) rfl
  have f6 := hoo3.frozen (q * 10 + 6)
  have f8 := hoo3.frozen (q * 10 + 8)
  have f9 := hoo3.frozen (q * 10 + 9)
  obtain ⟨A3, c3, hv3, -, -⟩ := hov3.form
  have hln : (vs.map icell ++ [icell cval]).length = z + 2 := by simp [HZ.out]
  rw [hln] at hv3
  subst hv3
  clear hln
  go_wp2
  refine ⟨reg_mk (k + 1) (by omega) ⟨by rw [HN.out]; exact ((hol3.far (p := ⟨go, q * 10 + 6, none⟩) m_l _).far (p := ⟨go, q * 10 + 8, none⟩) m_l _).far (p := ⟨go, q * 10 + 9, none⟩) m_l _, by rw [HN.out]; rw [HE.out]; exact hoo3.stored3 HRW.out _ _ _, by rw [HN.out]; simp only [List.map_append, List.map_cons, List.map_nil]; exact ((hov3.far (p := ⟨go, q * 10 + 6, none⟩) m_v _).far (p := ⟨go, q * 10 + 8, none⟩) m_v _).far (p := ⟨go, q * 10 + 9, none⟩) m_v _, ((hb3.setCell (p := ⟨go, q * 10 + 6, none⟩) hgb _).setCell (p := ⟨go, q * 10 + 8, none⟩) hgb _).setCell (p := ⟨go, q * 10 + 9, none⟩) hgb _⟩ (by rw [HN.out]; rfl) (by rw [HN.out]; rfl) (by go_num) rfl, by simp [RegMs, intOf]; omega⟩
end Go.Proofs.YtcgbnlhloopnfaaDoor
