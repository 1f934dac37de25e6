/- Rounds of tegularef46's Register: answers. -/
import Derived.Test.YtcgbnlhloopnfaaDoorGRgL
namespace Go.Proofs.YtcgbnlhloopnfaaDoor
open Go.RowKit

set_option maxHeartbeats 4000000 in
set_option maxRecDepth 1000000 in
theorem reg_ansnex (sc : List RgA) (len : Nat) (hlen : len = sc.length) (w wr : World) (u : Nat → Value) (u3 : Value) (A : Option Addr) (c k : Nat) (hk : k < len) (hl : len ≤ 1000) (b off : Nat) (hA : A = some ⟨b, off, none⟩)
    (l : List Ev) (ops : List RgO) (vs : List Int) (safe n kind which m z : Nat) (Ao : Option Addr) (co : Nat) (Av : Option Addr) (cv : Nat)
    (hn1 : l.length ≤ k) (hn2 : ops.length ≤ k) (hn3 : z ≤ k) (hn4 : n ≤ k) (hsf : safe ≤ z) (hcc1 : z + 1 ≤ cv) (hb1 : kind < 256) (hb3 : which < 256)
    (a0 : wr.cell? ⟨b, off + k * 2, none⟩ = some (.int .u8 kind)) (a1 : wr.cell? ⟨b, off + k * 2 + 1, none⟩ = some (.int .u8 which))
    (hol : OwS wr w.heap.size 45 6 u3 (l.map Ev.cells)) (hoo : OwS wr w.heap.size 87 10 (.slice Ao m co) (ops.map RgO.cells)) (hov : OwS wr w.heap.size 3 1 (.slice Av (z + 1) cv) (vs.map icell)) (hb : Below w.heap.size w wr) (hz : w.heap.size ≤ wr.heap.size)
    (HM : Hid (m = ops.length)) (HZ : Hid (vs.length = z + 1)) (HS : Hid (rgTo sc (k + 1) = rgStep ⟨l, ops, vs, safe, n⟩ ⟨kind, which⟩)) (Q0 : Exit → Act → World → Prop) (hkk : 6 = kind % 8) (hm0 : 0 < m) (ckind cop creg cval sres : Int) (sat : Nat) (cwr cba sdn : Bool) (hsq : ops[which % m]? = some ⟨⟨ckind, cop, cwr, creg, cval, cba⟩, false, sdn, sres, sat⟩) :
    Code.wp Tryd.prog regBody (Exit.then (fun a' w' => RegI sc w A len c a' w' ∧ RegMs len a' w' < RegMs len ⟨#[(.slice A len c), undef, .slice none 0 0, u3, (.slice Ao m co), (.slice Av (z + 1) cv), .int .i64 safe, .int .i64 n, .int .i64 k, u 9, u 10, u 11, u 12, u 13, u 14, u 15, u 16, u 17, u 18, u 19, u 20, u 21, u 22, u 23, u 24, u 25, u 26, u 27, u 28, u 29, u 30, u 31, u 32, u 33, u 34, u 35, u 36, u 37, u 38, u 39, u 40, u 41, u 42, u 43, u 44, u 45, u 46, u 47, u 48, u 49, u 50, u 51, u 52, u 53, u 54, u 55, u 56, u 57, u 58, u 59, u 60, u 61, u 62, u 63, u 64, u 65, u 66, u 67, u 68, u 69, u 70, u 71, u 72, u 73, u 74, u 75, u 76, u 77, u 78, u 79, u 80, u 81, u 82, u 83, u 84, u 85, u 86, u 87, u 88, u 89, u 90, u 91, u 92, u 93, u 94, u 95, u 96, u 97, u 98, u 99, u 100, u 101, u 102, u 103, u 104, u 105, u 106, u 107, u 108, u 109, u 110, u 111, u 112, u 113, u 114, u 115, u 116, u 117, u 118, u 119, u 120, u 121, u 122, u 123, u 124, u 125, u 126, u 127, u 128, u 129, u 130, u 131, u 132, u 133, u 134, u 135, u 136, u 137, u 138, u 139, u 140, u 141, u 142, u 143, u 144, u 145, u 146, u 147, u 148, u 149, u 150, u 151, u 152, u 153, u 154, u 155, u 156, u 157, u 158, u 159, u 160, u 161, u 162, u 163, u 164, u 165, u 166, u 167, u 168, u 169, u 170, u 171, u 172, u 173, u 174, u 175, u 176, u 177, u 178, u 179, u 180, u 181, u 182, u 183, u 184, u 185, u 186, u 187, u 188, u 189, u 190, u 191, u 192, u 193, u 194, u 195, u 196, u 197, u 198, u 199, u 200, u 201, u 202, u 203, u 204, u 205, u 206, u 207, u 208, u 209, u 210, u 211, u 212, u 213, u 214, u 215, u 216, u 217, u 218, u 219, u 220, u 221, u 222, u 223, u 224, u 225, u 226, u 227, u 228, u 229, u 230, u 231, undef], []⟩ wr) Q0) ⟨#[(.slice A len c), undef, .slice none 0 0, u3, (.slice Ao m co), (.slice Av (z + 1) cv), .int .i64 safe, .int .i64 n, .int .i64 k, u 9, u 10, u 11, u 12, u 13, u 14, u 15, u 16, u 17, u 18, u 19, u 20, u 21, u 22, u 23, u 24, u 25, u 26, u 27, u 28, u 29, u 30, u 31, u 32, u 33, u 34, u 35, u 36, u 37, u 38, u 39, u 40, u 41, u 42, u 43, u 44, u 45, u 46, u 47, u 48, u 49, u 50, u 51, u 52, u 53, u 54, u 55, u 56, u 57, u 58, u 59, u 60, u 61, u 62, u 63, u 64, u 65, u 66, u 67, u 68, u 69, u 70, u 71, u 72, u 73, u 74, u 75, u 76, u 77, u 78, u 79, u 80, u 81, u 82, u 83, u 84, u 85, u 86, u 87, u 88, u 89, u 90, u 91, u 92, u 93, u 94, u 95, u 96, u 97, u 98, u 99, u 100, u 101, u 102, u 103, u 104, u 105, u 106, u 107, u 108, u 109, u 110, u 111, u 112, u 113, u 114, u 115, u 116, u 117, u 118, u 119, u 120, u 121, u 122, u 123, u 124, u 125, u 126, u 127, u 128, u 129, u 130, u 131, u 132, u 133, u 134, u 135, u 136, u 137, u 138, u 139, u 140, u 141, u 142, u 143, u 144, u 145, u 146, u 147, u 148, u 149, u 150, u 151, u 152, u 153, u 154, u 155, u 156, u 157, u 158, u 159, u 160, u 161, u 162, u 163, u 164, u 165, u 166, u 167, u 168, u 169, u 170, u 171, u 172, u 173, u 174, u 175, u 176, u 177, u 178, u 179, u 180, u 181, u 182, u 183, u 184, u 185, u 186, u 187, u 188, u 189, u 190, u 191, u 192, u 193, u 194, u 195, u 196, u 197, u 198, u 199, u 200, u 201, u 202, u 203, u 204, u 205, u 206, u 207, u 208, u 209, u 210, u 211, u 212, u 213, u 214, u 215, u 216, u 217, u 218, u 219, u 220, u 221, u 222, u 223, u 224, u 225, u 226, u 227, u 228, u 229, u 230, u 231, undef], []⟩ wr := by
  have hu := And.intro hoo (And.intro hn1 (And.intro hn2 (And.intro hn3 (And.intro hn4 (And.intro hsf (And.intro hcc1 (And.intro HM.out HZ.out)))))))
  clear hu
  subst hA
  have HLEN := Lib.hid hlen
  clear hlen
  have hkl : (k : Int) < (len : Int) := by omega
  have kw := fun W => conv_u8 (which : Int) (by omega) (by omega) W
  obtain ⟨q, hq⟩ : ∃ q, q = which % m := ⟨_, rfl⟩
  have hqe : ((which : Int) % (m : Int)) = (q : Int) := by rw [hq]; simp
  have HQ := Lib.hid hq
  have HK := Lib.hid hkk
  clear hq hkk
  have hk8 : (kind : Int) % 8 = ((6 : Nat) : Int) := by have := HK.out; omega
  rw [← HQ.out] at hsq
  have hqm : q < m := by rw [HQ.out]; exact Nat.mod_lt _ hm0
  have hrw : (ops.map RgO.cells)[q]? = some (RgO.cells ⟨⟨ckind, cop, cwr, creg, cval, cba⟩, false, sdn, sres, sat⟩) := by rw [List.getElem?_map, hsq]; rfl
  obtain ⟨go, co', hvo, hgb, hgo⟩ := hoo.pos (by rw [List.length_map, ← HM.out]; exact hm0)
  injection hvo with hv1 hv2 hv3
  subst hv1
  clear hv2 hv3
  have HSQ := Lib.hid hsq
  have HRW := Lib.hid hrw
  have hqI : (q : Int) < (m : Int) := by omega
  have hmI : (0 : Int) < (m : Int) := by omega
  have hmz : ¬ (m : Int) = 0 := by omega
  have hgo1 : go ≠ wr.heap.size := by omega
  have hgo2 : go ≠ wr.heap.size + 1 := by omega
  have HQ' : Hid (q = which % ops.length) := HQ.out.trans (by rw [HM.out])
  have HM' : Hid (0 < ops.length) := by unfold Hid; rw [← HM.out]; exact hm0
  clear hsq hrw
  have o6 := hoo.cell HRW.out (j := 6) rfl
  have o7 := hoo.cell HRW.out (j := 7) rfl
  have HN : Hid (rgTo sc (k + 1) = ⟨l, ops, vs, safe, n⟩) := HS.out.trans (rg_nod HK.out.symm HM'.out HQ'.out HSQ.out (.inl rfl))
  clear HS HK HQ HM HQ' HM'
  conv => arg 2; whnf
  go_wp2
  refine ⟨reg_mk (k + 1) (by omega) ⟨by rw [HN.out]; exact hol.alloc _, by rw [HN.out]; exact hoo.alloc _, by rw [HN.out]; exact hov.alloc _, hb.alloc hz _⟩ (by rw [HN.out]; rfl) (by rw [HN.out]; rfl) (by go_num) rfl, by simp [RegMs, intOf]; omega⟩
set_option maxHeartbeats 4000000 in
set_option maxRecDepth 1000000 in
theorem reg_ansdn (sc : List RgA) (len : Nat) (hlen : len = sc.length) (w wr : World) (u : Nat → Value) (u3 : Value) (A : Option Addr) (c k : Nat) (hk : k < len) (hl : len ≤ 1000) (b off : Nat) (hA : A = some ⟨b, off, none⟩)
    (l : List Ev) (ops : List RgO) (vs : List Int) (safe n kind which m z : Nat) (Ao : Option Addr) (co : Nat) (Av : Option Addr) (cv : Nat)
    (hn1 : l.length ≤ k) (hn2 : ops.length ≤ k) (hn3 : z ≤ k) (hn4 : n ≤ k) (hsf : safe ≤ z) (hcc1 : z + 1 ≤ cv) (hb1 : kind < 256) (hb3 : which < 256)
    (a0 : wr.cell? ⟨b, off + k * 2, none⟩ = some (.int .u8 kind)) (a1 : wr.cell? ⟨b, off + k * 2 + 1, none⟩ = some (.int .u8 which))
    (hol : OwS wr w.heap.size 45 6 u3 (l.map Ev.cells)) (hoo : OwS wr w.heap.size 87 10 (.slice Ao m co) (ops.map RgO.cells)) (hov : OwS wr w.heap.size 3 1 (.slice Av (z + 1) cv) (vs.map icell)) (hb : Below w.heap.size w wr) (hz : w.heap.size ≤ wr.heap.size)
    (HM : Hid (m = ops.length)) (HZ : Hid (vs.length = z + 1)) (HS : Hid (rgTo sc (k + 1) = rgStep ⟨l, ops, vs, safe, n⟩ ⟨kind, which⟩)) (Q0 : Exit → Act → World → Prop) (hkk : 6 = kind % 8) (hm0 : 0 < m) (ckind cop creg cval sres : Int) (sat : Nat) (cwr cba : Bool) (hsq : ops[which % m]? = some ⟨⟨ckind, cop, cwr, creg, cval, cba⟩, true, true, sres, sat⟩) :
    Code.wp Tryd.prog regBody (Exit.then (fun a' w' => RegI sc w A len c a' w' ∧ RegMs len a' w' < RegMs len ⟨#[(.slice A len c), undef, .slice none 0 0, u3, (.slice Ao m co), (.slice Av (z + 1) cv), .int .i64 safe, .int .i64 n, .int .i64 k, u 9, u 10, u 11, u 12, u 13, u 14, u 15, u 16, u 17, u 18, u 19, u 20, u 21, u 22, u 23, u 24, u 25, u 26, u 27, u 28, u 29, u 30, u 31, u 32, u 33, u 34, u 35, u 36, u 37, u 38, u 39, u 40, u 41, u 42, u 43, u 44, u 45, u 46, u 47, u 48, u 49, u 50, u 51, u 52, u 53, u 54, u 55, u 56, u 57, u 58, u 59, u 60, u 61, u 62, u 63, u 64, u 65, u 66, u 67, u 68, u 69, u 70, u 71, u 72, u 73, u 74, u 75, u 76, u 77, u 78, u 79, u 80, u 81, u 82, u 83, u 84, u 85, u 86, u 87, u 88, u 89, u 90, u 91, u 92, u 93, u 94, u 95, u 96, u 97, u 98, u 99, u 100, u 101, u 102, u 103, u 104, u 105, u 106, u 107, u 108, u 109, u 110, u 111, u 112, u 113, u 114, u 115, u 116, u 117, u 118, u 119, u 120, u 121, u 122, u 123, u 124, u 125, u 126, u 127, u 128, u 129, u 130, u 131, u 132, u 133, u 134, u 135, u 136, u 137, u 138, u 139, u 140, u 141, u 142, u 143, u 144, u 145, u 146, u 147, u 148, u 149, u 150, u 151, u 152, u 153, u 154, u 155, u 156, u 157, u 158, u 159, u 160, u 161, u 162, u 163, u 164, u 165, u 166, u 167, u 168, u 169, u 170, u 171, u 172, u 173, u 174, u 175, u 176, u 177, u 178, u 179, u 180, u 181, u 182, u 183, u 184, u 185, u 186, u 187, u 188, u 189, u 190, u 191, u 192, u 193, u 194, u 195, u 196, u 197, u 198, u 199, u 200, u 201, u 202, u 203, u 204, u 205, u 206, u 207, u 208, u 209, u 210, u 211, u 212, u 213, u 214, u 215, u 216, u 217, u 218, u 219, u 220, u 221, u 222, u 223, u 224, u 225, u 226, u 227, u 228, u 229, u 230, u 231, undef], []⟩ wr) Q0) ⟨#[(.slice A len c), undef, .slice none 0 0, u3, (.slice Ao m co), (.slice Av (z + 1) cv), .int .i64 safe, .int .i64 n, .int .i64 k, u 9, u 10, u 11, u 12, u 13, u 14, u 15, u 16, u 17, u 18, u 19, u 20, u 21, u 22, u 23, u 24, u 25, u 26, u 27, u 28, u 29, u 30, u 31, u 32, u 33, u 34, u 35, u 36, u 37, u 38, u 39, u 40, u 41, u 42, u 43, u 44, u 45, u 46, u 47, u 48, u 49, u 50, u 51, u 52, u 53, u 54, u 55, u 56, u 57, u 58, u 59, u 60, u 61, u 62, u 63, u 64, u 65, u 66, u 67, u 68, u 69, u 70, u 71, u 72, u 73, u 74, u 75, u 76, u 77, u 78, u 79, u 80, u 81, u 82, u 83, u 84, u 85, u 86, u 87, u 88, u 89, u 90, u 91, u 92, u 93, u 94, u 95, u 96, u 97, u 98, u 99, u 100, u 101, u 102, u 103, u 104, u 105, u 106, u 107, u 108, u 109, u 110, u 111, u 112, u 113, u 114, u 115, u 116, u 117, u 118, u 119, u 120, u 121, u 122, u 123, u 124, u 125, u 126, u 127, u 128, u 129, u 130, u 131, u 132, u 133, u 134, u 135, u 136, u 137, u 138, u 139, u 140, u 141, u 142, u 143, u 144, u 145, u 146, u 147, u 148, u 149, u 150, u 151, u 152, u 153, u 154, u 155, u 156, u 157, u 158, u 159, u 160, u 161, u 162, u 163, u 164, u 165, u 166, u 167, u 168, u 169, u 170, u 171, u 172, u 173, u 174, u 175, u 176, u 177, u 178, u 179, u 180, u 181, u 182, u 183, u 184, u 185, u 186, u 187, u 188, u 189, u 190, u 191, u 192, u 193, u 194, u 195, u 196, u 197, u 198, u 199, u 200, u 201, u 202, u 203, u 204, u 205, u 206, u 207, u 208, u 209, u 210, u 211, u 212, u 213, u 214, u 215, u 216, u 217, u 218, u 219, u 220, u 221, u 222, u 223, u 224, u 225, u 226, u 227, u 228, u 229, u 230, u 231, undef], []⟩ wr := by
  have hu := And.intro hoo (And.intro hn1 (And.intro hn2 (And.intro hn3 (And.intro hn4 (And.intro hsf (And.intro hcc1 (And.intro HM.out HZ.out)))))))
  clear hu
  subst hA
  have HLEN := Lib.hid hlen
  clear hlen
  have hkl : (k : Int) < (len : Int) := by omega
  have kw := fun W => conv_u8 (which : Int) (by omega) (by omega) W
  obtain ⟨q, hq⟩ : ∃ q, q = which % m := ⟨_, rfl⟩
  have hqe : ((which : Int) % (m : Int)) = (q : Int) := by rw [hq]; simp
  have HQ := Lib.hid hq
  have HK := Lib.hid hkk
  clear hq hkk
  have hk8 : (kind : Int) % 8 = ((6 : Nat) : Int) := by have := HK.out; omega
  rw [← HQ.out] at hsq
  have hqm : q < m := by rw [HQ.out]; exact Nat.mod_lt _ hm0
  have hrw : (ops.map RgO.cells)[q]? = some (RgO.cells ⟨⟨ckind, cop, cwr, creg, cval, cba⟩, true, true, sres, sat⟩) := by rw [List.getElem?_map, hsq]; rfl
  obtain ⟨go, co', hvo, hgb, hgo⟩ := hoo.pos (by rw [List.length_map, ← HM.out]; exact hm0)
  injection hvo with hv1 hv2 hv3
  subst hv1
  clear hv2 hv3
  have HSQ := Lib.hid hsq
  have HRW := Lib.hid hrw
  have hqI : (q : Int) < (m : Int) := by omega
  have hmI : (0 : Int) < (m : Int) := by omega
  have hmz : ¬ (m : Int) = 0 := by omega
  have hgo1 : go ≠ wr.heap.size := by omega
  have hgo2 : go ≠ wr.heap.size + 1 := by omega
  have HQ' : Hid (q = which % ops.length) := HQ.out.trans (by rw [HM.out])
  have HM' : Hid (0 < ops.length) := by unfold Hid; rw [← HM.out]; exact hm0
  clear hsq hrw
  have o6 := hoo.cell HRW.out (j := 6) rfl
  have o7 := hoo.cell HRW.out (j := 7) rfl
  have HN : Hid (rgTo sc (k + 1) = ⟨l, ops, vs, safe, n⟩) := HS.out.trans (rg_nod HK.out.symm HM'.out HQ'.out HSQ.out (.inr rfl))
  clear HS HK HQ HM HQ' HM'
  conv => arg 2; whnf
  go_wp2
  refine ⟨reg_mk (k + 1) (by omega) ⟨by rw [HN.out]; exact hol.alloc _, by rw [HN.out]; exact hoo.alloc _, by rw [HN.out]; exact hov.alloc _, hb.alloc hz _⟩ (by rw [HN.out]; rfl) (by rw [HN.out]; rfl) (by go_num) rfl, by simp [RegMs, intOf]; omega⟩
set_option maxHeartbeats 4000000 in
set_option maxRecDepth 1000000 in
theorem reg_ansff (sc : List RgA) (len : Nat) (hlen : len = sc.length) (w wr : World) (u : Nat → Value) (u3 : Value) (A : Option Addr) (c k : Nat) (hk : k < len) (hl : len ≤ 1000) (b off : Nat) (hA : A = some ⟨b, off, none⟩)
    (l : List Ev) (ops : List RgO) (vs : List Int) (safe n kind which m z : Nat) (Ao : Option Addr) (co : Nat) (Av : Option Addr) (cv : Nat)
    (hn1 : l.length ≤ k) (hn2 : ops.length ≤ k) (hn3 : z ≤ k) (hn4 : n ≤ k) (hsf : safe ≤ z) (hcc1 : z + 1 ≤ cv) (hb1 : kind < 256) (hb3 : which < 256)
    (a0 : wr.cell? ⟨b, off + k * 2, none⟩ = some (.int .u8 kind)) (a1 : wr.cell? ⟨b, off + k * 2 + 1, none⟩ = some (.int .u8 which))
    (hol : OwS wr w.heap.size 45 6 u3 (l.map Ev.cells)) (hoo : OwS wr w.heap.size 87 10 (.slice Ao m co) (ops.map RgO.cells)) (hov : OwS wr w.heap.size 3 1 (.slice Av (z + 1) cv) (vs.map icell)) (hb : Below w.heap.size w wr) (hz : w.heap.size ≤ wr.heap.size)
    (HM : Hid (m = ops.length)) (HZ : Hid (vs.length = z + 1)) (HS : Hid (rgTo sc (k + 1) = rgStep ⟨l, ops, vs, safe, n⟩ ⟨kind, which⟩)) (Q0 : Exit → Act → World → Prop) (hkk : 6 = kind % 8) (hm0 : 0 < m) (ckind cop creg cval sres : Int) (sat : Nat) (hsq : ops[which % m]? = some ⟨⟨ckind, cop, false, creg, cval, false⟩, true, false, sres, sat⟩) :
    Code.wp Tryd.prog regBody (Exit.then (fun a' w' => RegI sc w A len c a' w' ∧ RegMs len a' w' < RegMs len ⟨#[(.slice A len c), undef, .slice none 0 0, u3, (.slice Ao m co), (.slice Av (z + 1) cv), .int .i64 safe, .int .i64 n, .int .i64 k, u 9, u 10, u 11, u 12, u 13, u 14, u 15, u 16, u 17, u 18, u 19, u 20, u 21, u 22, u 23, u 24, u 25, u 26, u 27, u 28, u 29, u 30, u 31, u 32, u 33, u 34, u 35, u 36, u 37, u 38, u 39, u 40, u 41, u 42, u 43, u 44, u 45, u 46, u 47, u 48, u 49, u 50, u 51, u 52, u 53, u 54, u 55, u 56, u 57, u 58, u 59, u 60, u 61, u 62, u 63, u 64, u 65, u 66, u 67, u 68, u 69, u 70, u 71, u 72, u 73, u 74, u 75, u 76, u 77, u 78, u 79, u 80, u 81, u 82, u 83, u 84, u 85, u 86, u 87, u 88, u 89, u 90, u 91, u 92, u 93, u 94, u 95, u 96, u 97, u 98, u 99, u 100, u 101, u 102, u 103, u 104, u 105, u 106, u 107, u 108, u 109, u 110, u 111, u 112, u 113, u 114, u 115, u 116, u 117, u 118, u 119, u 120, u 121, u 122, u 123, u 124, u 125, u 126, u 127, u 128, u 129, u 130, u 131, u 132, u 133, u 134, u 135, u 136, u 137, u 138, u 139, u 140, u 141, u 142, u 143, u 144, u 145, u 146, u 147, u 148, u 149, u 150, u 151, u 152, u 153, u 154, u 155, u 156, u 157, u 158, u 159, u 160, u 161, u 162, u 163, u 164, u 165, u 166, u 167, u 168, u 169, u 170, u 171, u 172, u 173, u 174, u 175, u 176, u 177, u 178, u 179, u 180, u 181, u 182, u 183, u 184, u 185, u 186, u 187, u 188, u 189, u 190, u 191, u 192, u 193, u 194, u 195, u 196, u 197, u 198, u 199, u 200, u 201, u 202, u 203, u 204, u 205, u 206, u 207, u 208, u 209, u 210, u 211, u 212, u 213, u 214, u 215, u 216, u 217, u 218, u 219, u 220, u 221, u 222, u 223, u 224, u 225, u 226, u 227, u 228, u 229, u 230, u 231, undef], []⟩ wr) Q0) ⟨#[(.slice A len c), undef, .slice none 0 0, u3, (.slice Ao m co), (.slice Av (z + 1) cv), .int .i64 safe, .int .i64 n, .int .i64 k, u 9, u 10, u 11, u 12, u 13, u 14, u 15, u 16, u 17, u 18, u 19, u 20, u 21, u 22, u 23, u 24, u 25, u 26, u 27, u 28, u 29, u 30, u 31, u 32, u 33, u 34, u 35, u 36, u 37, u 38, u 39, u 40, u 41, u 42, u 43, u 44, u 45, u 46, u 47, u 48, u 49, u 50, u 51, u 52, u 53, u 54, u 55, u 56, u 57, u 58, u 59, u 60, u 61, u 62, u 63, u 64, u 65, u 66, u 67, u 68, u 69, u 70, u 71, u 72, u 73, u 74, u 75, u 76, u 77, u 78, u 79, u 80, u 81, u 82, u 83, u 84, u 85, u 86, u 87, u 88, u 89, u 90, u 91, u 92, u 93, u 94, u 95, u 96, u 97, u 98, u 99, u 100, u 101, u 102, u 103, u 104, u 105, u 106, u 107, u 108, u 109, u 110, u 111, u 112, u 113, u 114, u 115, u 116, u 117, u 118, u 119, u 120, u 121, u 122, u 123, u 124, u 125, u 126, u 127, u 128, u 129, u 130, u 131, u 132, u 133, u 134, u 135, u 136, u 137, u 138, u 139, u 140, u 141, u 142, u 143, u 144, u 145, u 146, u 147, u 148, u 149, u 150, u 151, u 152, u 153, u 154, u 155, u 156, u 157, u 158, u 159, u 160, u 161, u 162, u 163, u 164, u 165, u 166, u 167, u 168, u 169, u 170, u 171, u 172, u 173, u 174, u 175, u 176, u 177, u 178, u 179, u 180, u 181, u 182, u 183, u 184, u 185, u 186, u 187, u 188, u 189, u 190, u 191, u 192, u 193, u 194, u 195, u 196, u 197, u 198, u 199, u 200, u 201, u 202, u 203, u 204, u 205, u 206, u 207, u 208, u 209, u 210, u 211, u 212, u 213, u 214, u 215, u 216, u 217, u 218, u 219, u 220, u 221, u 222, u 223, u 224, u 225, u 226, u 227, u 228, u 229, u 230, u 231, undef], []⟩ wr := by
  have hu := And.intro hoo (And.intro hn1 (And.intro hn2 (And.intro hn3 (And.intro hn4 (And.intro hsf (And.intro hcc1 (And.intro HM.out HZ.out)))))))
  clear hu
  subst hA
  have HLEN := Lib.hid hlen
  clear hlen
  have hkl : (k : Int) < (len : Int) := by omega
  have kw := fun W => conv_u8 (which : Int) (by omega) (by omega) W
  obtain ⟨q, hq⟩ : ∃ q, q = which % m := ⟨_, rfl⟩
  have hqe : ((which : Int) % (m : Int)) = (q : Int) := by rw [hq]; simp
  have HQ := Lib.hid hq
  have HK := Lib.hid hkk
  clear hq hkk
  have hk8 : (kind : Int) % 8 = ((6 : Nat) : Int) := by have := HK.out; omega
  rw [← HQ.out] at hsq
  have hqm : q < m := by rw [HQ.out]; exact Nat.mod_lt _ hm0
  have hrw : (ops.map RgO.cells)[q]? = some (RgO.cells ⟨⟨ckind, cop, false, creg, cval, false⟩, true, false, sres, sat⟩) := by rw [List.getElem?_map, hsq]; rfl
  obtain ⟨go, co', hvo, hgb, hgo⟩ := hoo.pos (by rw [List.length_map, ← HM.out]; exact hm0)
  injection hvo with hv1 hv2 hv3
  subst hv1
  clear hv2 hv3
  have HSQ := Lib.hid hsq
  have HRW := Lib.hid hrw
  have hqI : (q : Int) < (m : Int) := by omega
  have hmI : (0 : Int) < (m : Int) := by omega
  have hmz : ¬ (m : Int) = 0 := by omega
  have hgo1 : go ≠ wr.heap.size := by omega
  have hgo2 : go ≠ wr.heap.size + 1 := by omega
  have HQ' : Hid (q = which % ops.length) := HQ.out.trans (by rw [HM.out])
  have HM' : Hid (0 < ops.length) := by unfold Hid; rw [← HM.out]; exact hm0
  clear hsq hrw
  have o0 := hoo.cell HRW.out (j := 0) rfl
  have o1 := hoo.cell HRW.out (j := 1) rfl
  have o2 := hoo.cell HRW.out (j := 2) rfl
  have o3 := hoo.cell HRW.out (j := 3) rfl
  have o4 := hoo.cell HRW.out (j := 4) rfl
  have o5 := hoo.cell HRW.out (j := 5) rfl
  have o6 := hoo.cell HRW.out (j := 6) rfl
  have o7 := hoo.cell HRW.out (j := 7) rfl
  have o8 := hoo.cell HRW.out (j := 8) rfl
  have o9 := hoo.cell HRW.out (j := 9) rfl
  have f6 := hoo.frozen (q * 10 + 6)
  have f7 := hoo.frozen (q * 10 + 7)
  have f8 := hoo.frozen (q * 10 + 8)
  have f9 := hoo.frozen (q * 10 + 9)
  simp only [Nat.add_zero] at o0
  have n_l := hol.apart hoo (by decide)
  have n_v := hov.apart hoo (by decide)
  have HN : Hid (rgTo sc (k + 1) = ⟨l ++ [⟨2, cop, false, creg, sres, false⟩], ops.set q ⟨⟨ckind, cop, false, creg, cval, false⟩, true, true, sres, sat⟩, vs, safe, n⟩) := HS.out.trans (by
    rw [rg_done HK.out.symm HM'.out HQ'.out HSQ.out rfl rfl]
    rfl)
  have HE : Hid ((ops.set q ⟨⟨ckind, cop, false, creg, cval, false⟩, true, true, sres, sat⟩).map RgO.cells = (ops.map RgO.cells).set q ((RgO.cells ⟨⟨ckind, cop, false, creg, cval, false⟩, true, false, sres, sat⟩).set 7 (.bool true))) := by
    unfold Hid
    simp [List.map_set, RgO.cells, Ev.cells]
  clear HS HK HQ HQ' HM'
  conv => arg 2; whnf
  go_wp2_with (at_builtin; refine wpList_ap1 rfl (.tmp 219) (.tmp 221) _ rfl elemEv rfl (((hol.far (p := ⟨go, q * 10 + 7, none⟩) n_l _).alloc _).alloc _) (Ev.cells ⟨2, cop, false, creg, sres, false⟩) _ rfl _ rfl (by simp) (Ev.one _) (by simp [maxLen]; omega) (by simp; omega) (by simp; omega) ?_)
  intro v3 w3 hol3 hg3 _
  have hb3 : Below w.heap.size w w3 := ((((hb.setCell (p := ⟨go, q * 10 + 7, none⟩) hgb _).alloc (by simp; omega) _).alloc (by simp; omega) _).alloc (by simp; omega) _).grown hg3 (by simp; omega) (fun g hg => (hol.lt hg).1)
  have hoo3 := ((((hoo.set (k := q) (j := 7) HRW.out (by omega) _).1.alloc _).alloc _).alloc _).kept hg3 (hoo.ne hol (by decide))
  have hov3 := ((((hov.far (p := ⟨go, q * 10 + 7, none⟩) n_v _).alloc _).alloc _).alloc _).kept hg3 (hov.ne hol (by decide))
  have e5 : w3.cell? ⟨wr.heap.size + 1, 5, none⟩ = some (.bool false) := (ev_after' (e := ⟨2, cop, false, creg, sres, false⟩) hg3 (by simp) (hol.fresh (by omega))).2.2.2.2.2
  have hz3 := hb3.size
  clear hg3 hol hoo hov hb a0 a1 n_l n_v o0 o1 o2 o3 o4 o5 o6 o7 o8 o9 f6 f7 f8 f9
  go_wp2
  refine ⟨reg_mk (k + 1) (by omega) ⟨by rw [HN.out]; simpa using hol3, by rw [HN.out]; rw [HE.out]; exact hoo3, by rw [HN.out]; exact hov3, hb3⟩ (by rw [HN.out]; rfl) (by rw [HN.out]; rfl) (by go_num) rfl, by simp [RegMs, intOf]; omega⟩
set_option maxHeartbeats 4000000 in
set_option maxRecDepth 1000000 in
theorem reg_ansft (sc : List RgA) (len : Nat) (hlen : len = sc.length) (w wr : World) (u : Nat → Value) (u3 : Value) (A : Option Addr) (c k : Nat) (hk : k < len) (hl : len ≤ 1000) (b off : Nat) (hA : A = some ⟨b, off, none⟩)
    (l : List Ev) (ops : List RgO) (vs : List Int) (safe n kind which m z : Nat) (Ao : Option Addr) (co : Nat) (Av : Option Addr) (cv : Nat)
    (hn1 : l.length ≤ k) (hn2 : ops.length ≤ k) (hn3 : z ≤ k) (hn4 : n ≤ k) (hsf : safe ≤ z) (hcc1 : z + 1 ≤ cv) (hb1 : kind < 256) (hb3 : which < 256)
    (a0 : wr.cell? ⟨b, off + k * 2, none⟩ = some (.int .u8 kind)) (a1 : wr.cell? ⟨b, off + k * 2 + 1, none⟩ = some (.int .u8 which))
    (hol : OwS wr w.heap.size 45 6 u3 (l.map Ev.cells)) (hoo : OwS wr w.heap.size 87 10 (.slice Ao m co) (ops.map RgO.cells)) (hov : OwS wr w.heap.size 3 1 (.slice Av (z + 1) cv) (vs.map icell)) (hb : Below w.heap.size w wr) (hz : w.heap.size ≤ wr.heap.size)
    (HM : Hid (m = ops.length)) (HZ : Hid (vs.length = z + 1)) (HS : Hid (rgTo sc (k + 1) = rgStep ⟨l, ops, vs, safe, n⟩ ⟨kind, which⟩)) (Q0 : Exit → Act → World → Prop) (hkk : 6 = kind % 8) (hm0 : 0 < m) (ckind cop creg cval sres : Int) (sat : Nat) (hsq : ops[which % m]? = some ⟨⟨ckind, cop, false, creg, cval, true⟩, true, false, sres, sat⟩) :
    Code.wp Tryd.prog regBody (Exit.then (fun a' w' => RegI sc w A len c a' w' ∧ RegMs len a' w' < RegMs len ⟨#[(.slice A len c), undef, .slice none 0 0, u3, (.slice Ao m co), (.slice Av (z + 1) cv), .int .i64 safe, .int .i64 n, .int .i64 k, u 9, u 10, u 11, u 12, u 13, u 14, u 15, u 16, u 17, u 18, u 19, u 20, u 21, u 22, u 23, u 24, u 25, u 26, u 27, u 28, u 29, u 30, u 31, u 32, u 33, u 34, u 35, u 36, u 37, u 38, u 39, u 40, u 41, u 42, u 43, u 44, u 45, u 46, u 47, u 48, u 49, u 50, u 51, u 52, u 53, u 54, u 55, u 56, u 57, u 58, u 59, u 60, u 61, u 62, u 63, u 64, u 65, u 66, u 67, u 68, u 69, u 70, u 71, u 72, u 73, u 74, u 75, u 76, u 77, u 78, u 79, u 80, u 81, u 82, u 83, u 84, u 85, u 86, u 87, u 88, u 89, u 90, u 91, u 92, u 93, u 94, u 95, u 96, u 97, u 98, u 99, u 100, u 101, u 102, u 103, u 104, u 105, u 106, u 107, u 108, u 109, u 110, u 111, u 112, u 113, u 114, u 115, u 116, u 117, u 118, u 119, u 120, u 121, u 122, u 123, u 124, u 125, u 126, u 127, u 128, u 129, u 130, u 131, u 132, u 133, u 134, u 135, u 136, u 137, u 138, u 139, u 140, u 141, u 142, u 143, u 144, u 145, u 146, u 147, u 148, u 149, u 150, u 151, u 152, u 153, u 154, u 155, u 156, u 157, u 158, u 159, u 160, u 161, u 162, u 163, u 164, u 165, u 166, u 167, u 168, u 169, u 170, u 171, u 172, u 173, u 174, u 175, u 176, u 177, u 178, u 179, u 180, u 181, u 182, u 183, u 184, u 185, u 186, u 187, u 188, u 189, u 190, u 191, u 192, u 193, u 194, u 195, u 196, u 197, u 198, u 199, u 200, u 201, u 202, u 203, u 204, u 205, u 206, u 207, u 208, u 209, u 210, u 211, u 212, u 213, u 214, u 215, u 216, u 217, u 218, u 219, u 220, u 221, u 222, u 223, u 224, u 225, u 226, u 227, u 228, u 229, u 230, u 231, undef], []⟩ wr) Q0) ⟨#[(.slice A len c), undef, .slice none 0 0, u3, (.slice Ao m co), (.slice Av (z + 1) cv), .int .i64 safe, .int .i64 n, .int .i64 k, u 9, u 10, u 11, u 12, u 13, u 14, u 15, u 16, u 17, u 18, u 19, u 20, u 21, u 22, u 23, u 24, u 25, u 26, u 27, u 28, u 29, u 30, u 31, u 32, u 33, u 34, u 35, u 36, u 37, u 38, u 39, u 40, u 41, u 42, u 43, u 44, u 45, u 46, u 47, u 48, u 49, u 50, u 51, u 52, u 53, u 54, u 55, u 56, u 57, u 58, u 59, u 60, u 61, u 62, u 63, u 64, u 65, u 66, u 67, u 68, u 69, u 70, u 71, u 72, u 73, u 74, u 75, u 76, u 77, u 78, u 79, u 80, u 81, u 82, u 83, u 84, u 85, u 86, u 87, u 88, u 89, u 90, u 91, u 92, u 93, u 94, u 95, u 96, u 97, u 98, u 99, u 100, u 101, u 102, u 103, u 104, u 105, u 106, u 107, u 108, u 109, u 110, u 111, u 112, u 113, u 114, u 115, u 116, u 117, u 118, u 119, u 120, u 121, u 122, u 123, u 124, u 125, u 126, u 127, u 128, u 129, u 130, u 131, u 132, u 133, u 134, u 135, u 136, u 137, u 138, u 139, u 140, u 141, u 142, u 143, u 144, u 145, u 146, u 147, u 148, u 149, u 150, u 151, u 152, u 153, u 154, u 155, u 156, u 157, u 158, u 159, u 160, u 161, u 162, u 163, u 164, u 165, u 166, u 167, u 168, u 169, u 170, u 171, u 172, u 173, u 174, u 175, u 176, u 177, u 178, u 179, u 180, u 181, u 182, u 183, u 184, u 185, u 186, u 187, u 188, u 189, u 190, u 191, u 192, u 193, u 194, u 195, u 196, u 197, u 198, u 199, u 200, u 201, u 202, u 203, u 204, u 205, u 206, u 207, u 208, u 209, u 210, u 211, u 212, u 213, u 214, u 215, u 216, u 217, u 218, u 219, u 220, u 221, u 222, u 223, u 224, u 225, u 226, u 227, u 228, u 229, u 230, u 231, undef], []⟩ wr := by
  have hu := And.intro hoo (And.intro hn1 (And.intro hn2 (And.intro hn3 (And.intro hn4 (And.intro hsf (And.intro hcc1 (And.intro HM.out HZ.out)))))))
  clear hu
  subst hA
  have HLEN := Lib.hid hlen
  clear hlen
  have hkl : (k : Int) < (len : Int) := by omega
  have kw := fun W => conv_u8 (which : Int) (by omega) (by omega) W
  obtain ⟨q, hq⟩ : ∃ q, q = which % m := ⟨_, rfl⟩
  have hqe : ((which : Int) % (m : Int)) = (q : Int) := by rw [hq]; simp
  have HQ := Lib.hid hq
  have HK := Lib.hid hkk
  clear hq hkk
  have hk8 : (kind : Int) % 8 = ((6 : Nat) : Int) := by have := HK.out; omega
  rw [← HQ.out] at hsq
  have hqm : q < m := by rw [HQ.out]; exact Nat.mod_lt _ hm0
  have hrw : (ops.map RgO.cells)[q]? = some (RgO.cells ⟨⟨ckind, cop, false, creg, cval, true⟩, true, false, sres, sat⟩) := by rw [List.getElem?_map, hsq]; rfl
  obtain ⟨go, co', hvo, hgb, hgo⟩ := hoo.pos (by rw [List.length_map, ← HM.out]; exact hm0)
  injection hvo with hv1 hv2 hv3
  subst hv1
  clear hv2 hv3
  have HSQ := Lib.hid hsq
  have HRW := Lib.hid hrw
  have hqI : (q : Int) < (m : Int) := by omega
  have hmI : (0 : Int) < (m : Int) := by omega
  have hmz : ¬ (m : Int) = 0 := by omega
  have hgo1 : go ≠ wr.heap.size := by omega
  have hgo2 : go ≠ wr.heap.size + 1 := by omega
  have HQ' : Hid (q = which % ops.length) := HQ.out.trans (by rw [HM.out])
  have HM' : Hid (0 < ops.length) := by unfold Hid; rw [← HM.out]; exact hm0
  clear hsq hrw
  have o0 := hoo.cell HRW.out (j := 0) rfl
  have o1 := hoo.cell HRW.out (j := 1) rfl
  have o2 := hoo.cell HRW.out (j := 2) rfl
  have o3 := hoo.cell HRW.out (j := 3) rfl
  have o4 := hoo.cell HRW.out (j := 4) rfl
  have o5 := hoo.cell HRW.out (j := 5) rfl
  have o6 := hoo.cell HRW.out (j := 6) rfl
  have o7 := hoo.cell HRW.out (j := 7) rfl
  have o8 := hoo.cell HRW.out (j := 8) rfl
  have o9 := hoo.cell HRW.out (j := 9) rfl
  have f6 := hoo.frozen (q * 10 + 6)
  have f7 := hoo.frozen (q * 10 + 7)
  have f8 := hoo.frozen (q * 10 + 8)
  have f9 := hoo.frozen (q * 10 + 9)
  simp only [Nat.add_zero] at o0
  have n_l := hol.apart hoo (by decide)
  have n_v := hov.apart hoo (by decide)
  have HN : Hid (rgTo sc (k + 1) = ⟨l ++ [⟨2, cop, false, creg, cval, true⟩], ops.set q ⟨⟨ckind, cop, false, creg, cval, true⟩, true, true, sres, sat⟩, vs, max safe sat, n⟩) := HS.out.trans (by
    rw [rg_done HK.out.symm HM'.out HQ'.out HSQ.out rfl rfl]
    rfl)
  have HE : Hid ((ops.set q ⟨⟨ckind, cop, false, creg, cval, true⟩, true, true, sres, sat⟩).map RgO.cells = (ops.map RgO.cells).set q ((RgO.cells ⟨⟨ckind, cop, false, creg, cval, true⟩, true, false, sres, sat⟩).set 7 (.bool true))) := by
    unfold Hid
    simp [List.map_set, RgO.cells, Ev.cells]
  clear HS HK HQ HQ' HM'
  conv => arg 2; whnf
  go_wp2_with (at_builtin; refine wpList_ap1 rfl (.tmp 219) (.tmp 221) _ rfl elemEv rfl (((hol.far (p := ⟨go, q * 10 + 7, none⟩) n_l _).alloc _).alloc _) (Ev.cells ⟨2, cop, false, creg, cval, true⟩) _ rfl _ rfl (by simp) (Ev.one _) (by simp [maxLen]; omega) (by simp; omega) (by simp; omega) ?_)
  intro v3 w3 hol3 hg3 _
  have hb3 : Below w.heap.size w w3 := ((((hb.setCell (p := ⟨go, q * 10 + 7, none⟩) hgb _).alloc (by simp; omega) _).alloc (by simp; omega) _).alloc (by simp; omega) _).grown hg3 (by simp; omega) (fun g hg => (hol.lt hg).1)
  have hoo3 := ((((hoo.set (k := q) (j := 7) HRW.out (by omega) _).1.alloc _).alloc _).alloc _).kept hg3 (hoo.ne hol (by decide))
  have hov3 := ((((hov.far (p := ⟨go, q * 10 + 7, none⟩) n_v _).alloc _).alloc _).alloc _).kept hg3 (hov.ne hol (by decide))
  have e5 : w3.cell? ⟨wr.heap.size + 1, 5, none⟩ = some (.bool true) := (ev_after' (e := ⟨2, cop, false, creg, cval, true⟩) hg3 (by simp) (hol.fresh (by omega))).2.2.2.2.2
  have hz3 := hb3.size
  have p9 : w3.cell? ⟨go, q * 10 + 9, none⟩ = some (.int .i64 sat) := hoo3.cell (k := q) (j := 9) (List.getElem?_set_self (by rw [List.length_map]; have := HM.out; omega)) rfl
  clear hg3 hol hoo hov hb a0 a1 n_l n_v o0 o1 o2 o3 o4 o5 o6 o7 o8 o9 f6 f7 f8 f9
  rcases Nat.lt_trichotomy safe sat with hst | rfl | hst
  · have hmx : max safe sat = sat := by omega
    have hstI : (safe : Int) < (sat : Int) := by omega
    have HMX := Lib.hid hmx
    clear hmx
    go_wp2
    refine ⟨reg_mk (k + 1) (by omega) ⟨by rw [HN.out]; simpa using hol3, by rw [HN.out]; rw [HE.out]; exact hoo3, by rw [HN.out]; exact hov3, hb3⟩ (by rw [HN.out]; simp only; rw [HMX.out]; rfl) (by rw [HN.out]; rfl) (by go_num) rfl, by simp [RegMs, intOf]; omega⟩
  · have hmx : max safe safe = safe := by omega
    have HMX := Lib.hid hmx
    clear hmx
    go_wp2
    refine ⟨reg_mk (k + 1) (by omega) ⟨by rw [HN.out]; simpa using hol3, by rw [HN.out]; rw [HE.out]; exact hoo3, by rw [HN.out]; exact hov3, hb3⟩ (by rw [HN.out]; simp only; rw [HMX.out]; rfl) (by rw [HN.out]; rfl) (by go_num) rfl, by simp [RegMs, intOf]; omega⟩
  · have hmx : max safe sat = safe := by omega
    have hstI : (sat : Int) < (safe : Int) := by omega
    have HMX := Lib.hid hmx
    clear hmx
    go_wp2
    refine ⟨reg_mk (k + 1) (by omega) ⟨by rw [HN.out]; simpa using hol3, by rw [HN.out]; rw [HE.out]; exact hoo3, by rw [HN.out]; exact hov3, hb3⟩ (by rw [HN.out]; simp only; rw [HMX.out]; rfl) (by rw [HN.out]; rfl) (by go_num) rfl, by simp [RegMs, intOf]; omega⟩
set_option maxHeartbeats 4000000 in
set_option maxRecDepth 1000000 in
theorem reg_anstf (sc : List RgA) (len : Nat) (hlen : len = sc.length) (w wr : World) (u : Nat → Value) (u3 : Value) (A : Option Addr) (c k : Nat) (hk : k < len) (hl : len ≤ 1000) (b off : Nat) (hA : A = some ⟨b, off, none⟩)
    (l : List Ev) (ops : List RgO) (vs : List Int) (safe n kind which m z : Nat) (Ao : Option Addr) (co : Nat) (Av : Option Addr) (cv : Nat)
    (hn1 : l.length ≤ k) (hn2 : ops.length ≤ k) (hn3 : z ≤ k) (hn4 : n ≤ k) (hsf : safe ≤ z) (hcc1 : z + 1 ≤ cv) (hb1 : kind < 256) (hb3 : which < 256)
    (a0 : wr.cell? ⟨b, off + k * 2, none⟩ = some (.int .u8 kind)) (a1 : wr.cell? ⟨b, off + k * 2 + 1, none⟩ = some (.int .u8 which))
    (hol : OwS wr w.heap.size 45 6 u3 (l.map Ev.cells)) (hoo : OwS wr w.heap.size 87 10 (.slice Ao m co) (ops.map RgO.cells)) (hov : OwS wr w.heap.size 3 1 (.slice Av (z + 1) cv) (vs.map icell)) (hb : Below w.heap.size w wr) (hz : w.heap.size ≤ wr.heap.size)
    (HM : Hid (m = ops.length)) (HZ : Hid (vs.length = z + 1)) (HS : Hid (rgTo sc (k + 1) = rgStep ⟨l, ops, vs, safe, n⟩ ⟨kind, which⟩)) (Q0 : Exit → Act → World → Prop) (hkk : 6 = kind % 8) (hm0 : 0 < m) (ckind cop creg cval sres : Int) (sat : Nat) (hsq : ops[which % m]? = some ⟨⟨ckind, cop, true, creg, cval, false⟩, true, false, sres, sat⟩) :
    Code.wp Tryd.prog regBody (Exit.then (fun a' w' => RegI sc w A len c a' w' ∧ RegMs len a' w' < RegMs len ⟨#[(.slice A len c), undef, .slice none 0 0, u3, (.slice Ao m co), (.slice Av (z + 1) cv), .int .i64 safe, .int .i64 n, .int .i64 k, u 9, u 10, u 11, u 12, u 13, u 14, u 15, u 16, u 17, u 18, u 19, u 20, u 21, u 22, u 23, u 24, u 25, u 26, u 27, u 28, u 29, u 30, u 31, u 32, u 33, u 34, u 35, u 36, u 37, u 38, u 39, u 40, u 41, u 42, u 43, u 44, u 45, u 46, u 47, u 48, u 49, u 50, u 51, u 52, u 53, u 54, u 55, u 56, u 57, u 58, u 59, u 60, u 61, u 62, u 63, u 64, u 65, u 66, u 67, u 68, u 69, u 70, u 71, u 72, u 73, u 74, u 75, u 76, u 77, u 78, u 79, u 80, u 81, u 82, u 83, u 84, u 85, u 86, u 87, u 88, u 89, u 90, u 91, u 92, u 93, u 94, u 95, u 96, u 97, u 98, u 99, u 100, u 101, u 102, u 103, u 104, u 105, u 106, u 107, u 108, u 109, u 110, u 111, u 112, u 113, u 114, u 115, u 116, u 117, u 118, u 119, u 120, u 121, u 122, u 123, u 124, u 125, u 126, u 127, u 128, u 129, u 130, u 131, u 132, u 133, u 134, u 135, u 136, u 137, u 138, u 139, u 140, u 141, u 142, u 143, u 144, u 145, u 146, u 147, u 148, u 149, u 150, u 151, u 152, u 153, u 154, u 155, u 156, u 157, u 158, u 159, u 160, u 161, u 162, u 163, u 164, u 165, u 166, u 167, u 168, u 169, u 170, u 171, u 172, u 173, u 174, u 175, u 176, u 177, u 178, u 179, u 180, u 181, u 182, u 183, u 184, u 185, u 186, u 187, u 188, u 189, u 190, u 191, u 192, u 193, u 194, u 195, u 196, u 197, u 198, u 199, u 200, u 201, u 202, u 203, u 204, u 205, u 206, u 207, u 208, u 209, u 210, u 211, u 212, u 213, u 214, u 215, u 216, u 217, u 218, u 219, u 220, u 221, u 222, u 223, u 224, u 225, u 226, u 227, u 228, u 229, u 230, u 231, undef], []⟩ wr) Q0) ⟨#[(.slice A len c), undef, .slice none 0 0, u3, (.slice Ao m co), (.slice Av (z + 1) cv), .int .i64 safe, .int .i64 n, .int .i64 k, u 9, u 10, u 11, u 12, u 13, u 14, u 15, u 16, u 17, u 18, u 19, u 20, u 21, u 22, u 23, u 24, u 25, u 26, u 27, u 28, u 29, u 30, u 31, u 32, u 33, u 34, u 35, u 36, u 37, u 38, u 39, u 40, u 41, u 42, u 43, u 44, u 45, u 46, u 47, u 48, u 49, u 50, u 51, u 52, u 53, u 54, u 55, u 56, u 57, u 58, u 59, u 60, u 61, u 62, u 63, u 64, u 65, u 66, u 67, u 68, u 69, u 70, u 71, u 72, u 73, u 74, u 75, u 76, u 77, u 78, u 79, u 80, u 81, u 82, u 83, u 84, u 85, u 86, u 87, u 88, u 89, u 90, u 91, u 92, u 93, u 94, u 95, u 96, u 97, u 98, u 99, u 100, u 101, u 102, u 103, u 104, u 105, u 106, u 107, u 108, u 109, u 110, u 111, u 112, u 113, u 114, u 115, u 116, u 117, u 118, u 119, u 120, u 121, u 122, u 123, u 124, u 125, u 126, u 127, u 128, u 129, u 130, u 131, u 132, u 133, u 134, u 135, u 136, u 137, u 138, u 139, u 140, u 141, u 142, u 143, u 144, u 145, u 146, u 147, u 148, u 149, u 150, u 151, u 152, u 153, u 154, u 155, u 156, u 157, u 158, u 159, u 160, u 161, u 162, u 163, u 164, u 165, u 166, u 167, u 168, u 169, u 170, u 171, u 172, u 173, u 174, u 175, u 176, u 177, u 178, u 179, u 180, u 181, u 182, u 183, u 184, u 185, u 186, u 187, u 188, u 189, u 190, u 191, u 192, u 193, u 194, u 195, u 196, u 197, u 198, u 199, u 200, u 201, u 202, u 203, u 204, u 205, u 206, u 207, u 208, u 209, u 210, u 211, u 212, u 213, u 214, u 215, u 216, u 217, u 218, u 219, u 220, u 221, u 222, u 223, u 224, u 225, u 226, u 227, u 228, u 229, u 230, u 231, undef], []⟩ wr := by
  have hu := And.intro hoo (And.intro hn1 (And.intro hn2 (And.intro hn3 (And.intro hn4 (And.intro hsf (And.intro hcc1 (And.intro HM.out HZ.out)))))))
  clear hu
  subst hA
  have HLEN := Lib.hid hlen
  clear hlen
  have hkl : (k : Int) < (len : Int) := by omega
  have kw := fun W => conv_u8 (which : Int) (by omega) (by omega) W
  obtain ⟨q, hq⟩ : ∃ q, q = which % m := ⟨_, rfl⟩
  have hqe : ((which : Int) % (m : Int)) = (q : Int) := by rw [hq]; simp
  have HQ := Lib.hid hq
  have HK := Lib.hid hkk
  clear hq hkk
  have hk8 : (kind : Int) % 8 = ((6 : Nat) : Int) := by have := HK.out; omega
  rw [← HQ.out] at hsq
  have hqm : q < m := by rw [HQ.out]; exact Nat.mod_lt _ hm0
  have hrw : (ops.map RgO.cells)[q]? = some (RgO.cells ⟨⟨ckind, cop, true, creg, cval, false⟩, true, false, sres, sat⟩) := by rw [List.getElem?_map, hsq]; rfl
  obtain ⟨go, co', hvo, hgb, hgo⟩ := hoo.pos (by rw [List.length_map, ← HM.out]; exact hm0)
  injection hvo with hv1 hv2 hv3
  subst hv1
  clear hv2 hv3
  have HSQ := Lib.hid hsq
  have HRW := Lib.hid hrw
  have hqI : (q : Int) < (m : Int) := by omega
  have hmI : (0 : Int) < (m : Int) := by omega
  have hmz : ¬ (m : Int) = 0 := by omega
  have hgo1 : go ≠ wr.heap.size := by omega
  have hgo2 : go ≠ wr.heap.size + 1 := by omega
  have HQ' : Hid (q = which % ops.length) := HQ.out.trans (by rw [HM.out])
  have HM' : Hid (0 < ops.length) := by unfold Hid; rw [← HM.out]; exact hm0
  clear hsq hrw
  have o0 := hoo.cell HRW.out (j := 0) rfl
  have o1 := hoo.cell HRW.out (j := 1) rfl
  have o2 := hoo.cell HRW.out (j := 2) rfl
  have o3 := hoo.cell HRW.out (j := 3) rfl
  have o4 := hoo.cell HRW.out (j := 4) rfl
  have o5 := hoo.cell HRW.out (j := 5) rfl
  have o6 := hoo.cell HRW.out (j := 6) rfl
  have o7 := hoo.cell HRW.out (j := 7) rfl
  have o8 := hoo.cell HRW.out (j := 8) rfl
  have o9 := hoo.cell HRW.out (j := 9) rfl
  have f6 := hoo.frozen (q * 10 + 6)
  have f7 := hoo.frozen (q * 10 + 7)
  have f8 := hoo.frozen (q * 10 + 8)
  have f9 := hoo.frozen (q * 10 + 9)
  simp only [Nat.add_zero] at o0
  have n_l := hol.apart hoo (by decide)
  have n_v := hov.apart hoo (by decide)
  have HN : Hid (rgTo sc (k + 1) = ⟨l ++ [⟨2, cop, true, creg, cval, false⟩], ops.set q ⟨⟨ckind, cop, true, creg, cval, false⟩, true, true, sres, sat⟩, vs, safe, n⟩) := HS.out.trans (by
    rw [rg_done HK.out.symm HM'.out HQ'.out HSQ.out rfl rfl]
    rfl)
  have HE : Hid ((ops.set q ⟨⟨ckind, cop, true, creg, cval, false⟩, true, true, sres, sat⟩).map RgO.cells = (ops.map RgO.cells).set q ((RgO.cells ⟨⟨ckind, cop, true, creg, cval, false⟩, true, false, sres, sat⟩).set 7 (.bool true))) := by
    unfold Hid
    simp [List.map_set, RgO.cells, Ev.cells]
  clear HS HK HQ HQ' HM'
  conv => arg 2; whnf
  go_wp2_with (at_builtin; refine wpList_ap1 rfl (.tmp 219) (.tmp 221) _ rfl elemEv rfl (((hol.far (p := ⟨go, q * 10 + 7, none⟩) n_l _).alloc _).alloc _) (Ev.cells ⟨2, cop, true, creg, cval, false⟩) _ rfl _ rfl (by simp) (Ev.one _) (by simp [maxLen]; omega) (by simp; omega) (by simp; omega) ?_)
  intro v3 w3 hol3 hg3 _
  have hb3 : Below w.heap.size w w3 := ((((hb.setCell (p := ⟨go, q * 10 + 7, none⟩) hgb _).alloc (by simp; omega) _).alloc (by simp; omega) _).alloc (by simp; omega) _).grown hg3 (by simp; omega) (fun g hg => (hol.lt hg).1)
  have hoo3 := ((((hoo.set (k := q) (j := 7) HRW.out (by omega) _).1.alloc _).alloc _).alloc _).kept hg3 (hoo.ne hol (by decide))
  have hov3 := ((((hov.far (p := ⟨go, q * 10 + 7, none⟩) n_v _).alloc _).alloc _).alloc _).kept hg3 (hov.ne hol (by decide))
  have e5 : w3.cell? ⟨wr.heap.size + 1, 5, none⟩ = some (.bool false) := (ev_after' (e := ⟨2, cop, true, creg, cval, false⟩) hg3 (by simp) (hol.fresh (by omega))).2.2.2.2.2
  have hz3 := hb3.size
  clear hg3 hol hoo hov hb a0 a1 n_l n_v o0 o1 o2 o3 o4 o5 o6 o7 o8 o9 f6 f7 f8 f9
  go_wp2
  refine ⟨reg_mk (k + 1) (by omega) ⟨by rw [HN.out]; simpa using hol3, by rw [HN.out]; rw [HE.out]; exact hoo3, by rw [HN.out]; exact hov3, hb3⟩ (by rw [HN.out]; rfl) (by rw [HN.out]; rfl) (by go_num) rfl, by simp [RegMs, intOf]; omega⟩
set_option maxHeartbeats 4000000 in
set_option maxRecDepth 1000000 in
theorem reg_anstt (sc : List RgA) (len : Nat) (hlen : len = sc.length) (w wr : World) (u : Nat → Value) (u3 : Value) (A : Option Addr) (c k : Nat) (hk : k < len) (hl : len ≤ 1000) (b off : Nat) (hA : A = some ⟨b, off, none⟩)
    (l : List Ev) (ops : List RgO) (vs : List Int) (safe n kind which m z : Nat) (Ao : Option Addr) (co : Nat) (Av : Option Addr) (cv : Nat)
    (hn1 : l.length ≤ k) (hn2 : ops.length ≤ k) (hn3 : z ≤ k) (hn4 : n ≤ k) (hsf : safe ≤ z) (hcc1 : z + 1 ≤ cv) (hb1 : kind < 256) (hb3 : which < 256)
    (a0 : wr.cell? ⟨b, off + k * 2, none⟩ = some (.int .u8 kind)) (a1 : wr.cell? ⟨b, off + k * 2 + 1, none⟩ = some (.int .u8 which))
    (hol : OwS wr w.heap.size 45 6 u3 (l.map Ev.cells)) (hoo : OwS wr w.heap.size 87 10 (.slice Ao m co) (ops.map RgO.cells)) (hov : OwS wr w.heap.size 3 1 (.slice Av (z + 1) cv) (vs.map icell)) (hb : Below w.heap.size w wr) (hz : w.heap.size ≤ wr.heap.size)
    (HM : Hid (m = ops.length)) (HZ : Hid (vs.length = z + 1)) (HS : Hid (rgTo sc (k + 1) = rgStep ⟨l, ops, vs, safe, n⟩ ⟨kind, which⟩)) (Q0 : Exit → Act → World → Prop) (hkk : 6 = kind % 8) (hm0 : 0 < m) (ckind cop creg cval sres : Int) (sat : Nat) (hsq : ops[which % m]? = some ⟨⟨ckind, cop, true, creg, cval, true⟩, true, false, sres, sat⟩) :
    Code.wp Tryd.prog regBody (Exit.then (fun a' w' => RegI sc w A len c a' w' ∧ RegMs len a' w' < RegMs len ⟨#[(.slice A len c), undef, .slice none 0 0, u3, (.slice Ao m co), (.slice Av (z + 1) cv), .int .i64 safe, .int .i64 n, .int .i64 k, u 9, u 10, u 11, u 12, u 13, u 14, u 15, u 16, u 17, u 18, u 19, u 20, u 21, u 22, u 23, u 24, u 25, u 26, u 27, u 28, u 29, u 30, u 31, u 32, u 33, u 34, u 35, u 36, u 37, u 38, u 39, u 40, u 41, u 42, u 43, u 44, u 45, u 46, u 47, u 48, u 49, u 50, u 51, u 52, u 53, u 54, u 55, u 56, u 57, u 58, u 59, u 60, u 61, u 62, u 63, u 64, u 65, u 66, u 67, u 68, u 69, u 70, u 71, u 72, u 73, u 74, u 75, u 76, u 77, u 78, u 79, u 80, u 81, u 82, u 83, u 84, u 85, u 86, u 87, u 88, u 89, u 90, u 91, u 92, u 93, u 94, u 95, u 96, u 97, u 98, u 99, u 100, u 101, u 102, u 103, u 104, u 105, u 106, u 107, u 108, u 109, u 110, u 111, u 112, u 113, u 114, u 115, u 116, u 117, u 118, u 119, u 120, u 121, u 122, u 123, u 124, u 125, u 126, u 127, u 128, u 129, u 130, u 131, u 132, u 133, u 134, u 135, u 136, u 137, u 138, u 139, u 140, u 141, u 142, u 143, u 144, u 145, u 146, u 147, u 148, u 149, u 150, u 151, u 152, u 153, u 154, u 155, u 156, u 157, u 158, u 159, u 160, u 161, u 162, u 163, u 164, u 165, u 166, u 167, u 168, u 169, u 170, u 171, u 172, u 173, u 174, u 175, u 176, u 177, u 178, u 179, u 180, u 181, u 182, u 183, u 184, u 185, u 186, u 187, u 188, u 189, u 190, u 191, u 192, u 193, u 194, u 195, u 196, u 197, u 198, u 199, u 200, u 201, u 202, u 203, u 204, u 205, u 206, u 207, u 208, u 209, u 210, u 211, u 212, u 213, u 214, u 215, u 216, u 217, u 218, u 219, u 220, u 221, u 222, u 223, u 224, u 225, u 226, u 227, u 228, u 229, u 230, u 231, undef], []⟩ wr) Q0) ⟨#[(.slice A len c), undef, .slice none 0 0, u3, (.slice Ao m co), (.slice Av (z + 1) cv), .int .i64 safe, .int .i64 n, .int .i64 k, u 9, u 10, u 11, u 12, u 13, u 14, u 15, u 16, u 17, u 18, u 19, u 20, u 21, u 22, u 23, u 24, u 25, u 26, u 27, u 28, u 29, u 30, u 31, u 32, u 33, u 34, u 35, u 36, u 37, u 38, u 39, u 40, u 41, u 42, u 43, u 44, u 45, u 46, u 47, u 48, u 49, u 50, u 51, u 52, u 53, u 54, u 55, u 56, u 57, u 58, u 59, u 60, u 61, u 62, u 63, u 64, u 65, u 66, u 67, u 68, u 69, u 70, u 71, u 72, u 73, u 74, u 75, u 76, u 77, u 78, u 79, u 80, u 81, u 82, u 83, u 84, u 85, u 86, u 87, u 88, u 89, u 90, u 91, u 92, u 93, u 94, u 95, u 96, u 97, u 98, u 99, u 100, u 101, u 102, u 103, u 104, u 105, u 106, u 107, u 108, u 109, u 110, u 111, u 112, u 113, u 114, u 115, u 116, u 117, u 118, u 119, u 120, u 121, u 122, u 123, u 124, u 125, u 126, u 127, u 128, u 129, u 130, u 131, u 132, u 133, u 134, u 135, u 136, u 137, u 138, u 139, u 140, u 141, u 142, u 143, u 144, u 145, u 146, u 147, u 148, u 149, u 150, u 151, u 152, u 153, u 154, u 155, u 156, u 157, u 158, u 159, u 160, u 161, u 162, u 163, u 164, u 165, u 166, u 167, u 168, u 169, u 170, u 171, u 172, u 173, u 174, u 175, u 176, u 177, u 178, u 179, u 180, u 181, u 182, u 183, u 184, u 185, u 186, u 187, u 188, u 189, u 190, u 191, u 192, u 193, u 194, u 195, u 196, u 197, u 198, u 199, u 200, u 201, u 202, u 203, u 204, u 205, u 206, u 207, u 208, u 209, u 210, u 211, u 212, u 213, u 214, u 215, u 216, u 217, u 218, u 219, u 220, u 221, u 222, u 223, u 224, u 225, u 226, u 227, u 228, u 229, u 230, u 231, undef], []⟩ wr := by
  have hu := And.intro hoo (And.intro hn1 (And.intro hn2 (And.intro hn3 (And.intro hn4 (And.intro hsf (And.intro hcc1 (And.intro HM.out HZ.out)))))))
  clear hu
  subst hA
  have HLEN := Lib.hid hlen
  clear hlen
  have hkl : (k : Int) < (len : Int) := by omega
  have kw := fun W => conv_u8 (which : Int) (by omega) (by omega) W
  obtain ⟨q, hq⟩ : ∃ q, q = which % m := ⟨_, rfl⟩
  have hqe : ((which : Int) % (m : Int)) = (q : Int) := by rw [hq]; simp
  have HQ := Lib.hid hq
  have HK := Lib.hid hkk
  clear hq hkk
  have hk8 : (kind : Int) % 8 = ((6 : Nat) : Int) := by have := HK.out; omega
  rw [← HQ.out] at hsq
  have hqm : q < m := by rw [HQ.out]; exact Nat.mod_lt _ hm0
  have hrw : (ops.map RgO.cells)[q]? = some (RgO.cells ⟨⟨ckind, cop, true, creg, cval, true⟩, true, false, sres, sat⟩) := by rw [List.getElem?_map, hsq]; rfl
  obtain ⟨go, co', hvo, hgb, hgo⟩ := hoo.pos (by rw [List.length_map, ← HM.out]; exact hm0)
  injection hvo with hv1 hv2 hv3
  subst hv1
  clear hv2 hv3
  have HSQ := Lib.hid hsq
  have HRW := Lib.hid hrw
  have hqI : (q : Int) < (m : Int) := by omega
  have hmI : (0 : Int) < (m : Int) := by omega
  have hmz : ¬ (m : Int) = 0 := by omega
  have hgo1 : go ≠ wr.heap.size := by omega
  have hgo2 : go ≠ wr.heap.size + 1 := by omega
  have HQ' : Hid (q = which % ops.length) := HQ.out.trans (by rw [HM.out])
  have HM' : Hid (0 < ops.length) := by unfold Hid; rw [← HM.out]; exact hm0
  clear hsq hrw
  have o0 := hoo.cell HRW.out (j := 0) rfl
  have o1 := hoo.cell HRW.out (j := 1) rfl
  have o2 := hoo.cell HRW.out (j := 2) rfl
  have o3 := hoo.cell HRW.out (j := 3) rfl
  have o4 := hoo.cell HRW.out (j := 4) rfl
  have o5 := hoo.cell HRW.out (j := 5) rfl
  have o6 := hoo.cell HRW.out (j := 6) rfl
  have o7 := hoo.cell HRW.out (j := 7) rfl
  have o8 := hoo.cell HRW.out (j := 8) rfl
  have o9 := hoo.cell HRW.out (j := 9) rfl
  have f6 := hoo.frozen (q * 10 + 6)
  have f7 := hoo.frozen (q * 10 + 7)
  have f8 := hoo.frozen (q * 10 + 8)
  have f9 := hoo.frozen (q * 10 + 9)
  simp only [Nat.add_zero] at o0
  have n_l := hol.apart hoo (by decide)
  have n_v := hov.apart hoo (by decide)
  have HN : Hid (rgTo sc (k + 1) = ⟨l ++ [⟨2, cop, true, creg, cval, true⟩], ops.set q ⟨⟨ckind, cop, true, creg, cval, true⟩, true, true, sres, sat⟩, vs, max safe sat, n⟩) := HS.out.trans (by
    rw [rg_done HK.out.symm HM'.out HQ'.out HSQ.out rfl rfl]
    rfl)
  have HE : Hid ((ops.set q ⟨⟨ckind, cop, true, creg, cval, true⟩, true, true, sres, sat⟩).map RgO.cells = (ops.map RgO.cells).set q ((RgO.cells ⟨⟨ckind, cop, true, creg, cval, true⟩, true, false, sres, sat⟩).set 7 (.bool true))) := by
    unfold Hid
    simp [List.map_set, RgO.cells, Ev.cells]
  clear HS HK HQ HQ' HM'
  conv => arg 2; whnf
  go_wp2_with (at_builtin; refine wpList_ap1 rfl (.tmp 219) (.tmp 221) _ rfl elemEv rfl (((hol.far (p := ⟨go, q * 10 + 7, none⟩) n_l _).alloc _).alloc _) (Ev.cells ⟨2, cop, true, creg, cval, true⟩) _ rfl _ rfl (by simp) (Ev.one _) (by simp [maxLen]; omega) (by simp; omega) (by simp; omega) ?_)
  intro v3 w3 hol3 hg3 _
  have hb3 : Below w.heap.size w w3 := ((((hb.setCell (p := ⟨go, q * 10 + 7, none⟩) hgb _).alloc (by simp; omega) _).alloc (by simp; omega) _).alloc (by simp; omega) _).grown hg3 (by simp; omega) (fun g hg => (hol.lt hg).1)
  have hoo3 := ((((hoo.set (k := q) (j := 7) HRW.out (by omega) _).1.alloc _).alloc _).alloc _).kept hg3 (hoo.ne hol (by decide))
  have hov3 := ((((hov.far (p := ⟨go, q * 10 + 7, none⟩) n_v _).alloc _).alloc _).alloc _).kept hg3 (hov.ne hol (by decide))
  have e5 : w3.cell? ⟨wr.heap.size + 1, 5, none⟩ = some (.bool true) := (ev_after' (e := ⟨2, cop, true, creg, cval, true⟩) hg3 (by simp) (hol.fresh (by omega))).2.2.2.2.2
  have hz3 := hb3.size
  have p9 : w3.cell? ⟨go, q * 10 + 9, none⟩ = some (.int .i64 sat) := hoo3.cell (k := q) (j := 9) (List.getElem?_set_self (by rw [List.length_map]; have := HM.out; omega)) rfl
  clear hg3 hol hoo hov hb a0 a1 n_l n_v o0 o1 o2 o3 o4 o5 o6 o7 o8 o9 f6 f7 f8 f9
  rcases Nat.lt_trichotomy safe sat with hst | rfl | hst
  · have hmx : max safe sat = sat := by omega
    have hstI : (safe : Int) < (sat : Int) := by omega
    have HMX := Lib.hid hmx
    clear hmx
    go_wp2
    refine ⟨reg_mk (k + 1) (by omega) ⟨by rw [HN.out]; simpa using hol3, by rw [HN.out]; rw [HE.out]; exact hoo3, by rw [HN.out]; exact hov3, hb3⟩ (by rw [HN.out]; simp only; rw [HMX.out]; rfl) (by rw [HN.out]; rfl) (by go_num) rfl, by simp [RegMs, intOf]; omega⟩
  · have hmx : max safe safe = safe := by omega
    have HMX := Lib.hid hmx
    clear hmx
    go_wp2
    refine ⟨reg_mk (k + 1) (by omega) ⟨by rw [HN.out]; simpa using hol3, by rw [HN.out]; rw [HE.out]; exact hoo3, by rw [HN.out]; exact hov3, hb3⟩ (by rw [HN.out]; simp only; rw [HMX.out]; rfl) (by rw [HN.out]; rfl) (by go_num) rfl, by simp [RegMs, intOf]; omega⟩
  · have hmx : max safe sat = safe := by omega
    have hstI : (sat : Int) < (safe : Int) := by omega
    have HMX := Lib.hid hmx
    clear hmx
    go_wp2
    refine ⟨reg_mk (k + 1) (by omega) ⟨by rw [HN.out]; simpa using hol3, by rw [HN.out]; rw [HE.out]; exact hoo3, by rw [HN.out]; exact hov3, hb3⟩ (by rw [HN.out]; simp only; rw [HMX.out]; rfl) (by rw [HN.out]; rfl) (by go_num) rfl, by simp [RegMs, intOf]; omega⟩
end Go.Proofs.YtcgbnlhloopnfaaDoor
