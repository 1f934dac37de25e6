/- Rounds of tegularef47's Storage: executions. -/
import Derived.Test.YtldjodgpbnkleaaStoW
namespace Go.Proofs.Ytldjodgpbnkleaa
open Go.RowKit

set_option maxHeartbeats 4000000 in
set_option maxRecDepth 1000000 in
theorem sto_nothz4 (acts : List ActN) (len : Nat) (hlen : len = acts.length) (w wr : World) (u : Nat → Value) (u3 : Value) (A : Option Addr) (c k : Nat) (hk : k < len) (hl : len ≤ 1000) (b off : Nat) (hA : A = some ⟨b, off, none⟩)
    (l : List Ev) (ops : List SOp) (ch : List (Int × Int)) (safe n kind reg which m : Nat) (Ao : Option Addr) (co : Nat) (Ac : Option Addr) (cc : Nat)
    (hn1 : l.length ≤ k) (hn2 : ops.length ≤ k) (hn3 : ch.length ≤ k) (hn4 : n ≤ k) (hsf : safe ≤ ch.length) (hcc1 : ch.length ≤ cc) (hb1 : kind < 256) (hb2 : reg < 256) (hb3 : which < 256)
    (a0 : wr.cell? ⟨b, off + k * 3, none⟩ = some (.int .u8 kind)) (a1 : wr.cell? ⟨b, off + k * 3 + 1, none⟩ = some (.int .u8 reg)) (a2 : wr.cell? ⟨b, off + k * 3 + 2, none⟩ = some (.int .u8 which))
    (hol : OwS wr w.heap.size 39 6 u3 (l.map Ev.cells)) (hoo : OwS wr w.heap.size 94 10 (.slice Ao m co) (ops.map SOp.cells)) (hoc : OwS wr w.heap.size 96 2 (.slice Ac ch.length cc) (ch.map chCells)) (hb : Below w.heap.size w wr) (hz : w.heap.size ≤ wr.heap.size)
    (HM : Hid (m = ops.length)) (HS : Hid (stoTo acts (k + 1) = stoStep ⟨l, ops, ch, safe, n⟩ ⟨kind, reg, which⟩)) (Q0 : Exit → Act → World → Prop) (hkk : 4 = kind % 8) (hm : m = 0) :
    Code.wp Try.prog stoBody (Exit.then (fun a' w' => StoI acts w A len c a' w' ∧ StoM len a' w' < StoM len ⟨#[(.slice A len c), undef, .slice none 0 0, u3, (.slice Ao m co), (.slice Ac ch.length cc), .int .i64 safe, .int .i64 n, .int .i64 k, u 9, u 10, u 11, u 12, u 13, u 14, u 15, u 16, u 17, u 18, u 19, u 20, u 21, u 22, u 23, u 24, u 25, u 26, u 27, u 28, u 29, u 30, u 31, u 32, u 33, u 34, u 35, u 36, u 37, u 38, u 39, u 40, u 41, u 42, u 43, u 44, u 45, u 46, u 47, u 48, u 49, u 50, u 51, u 52, u 53, u 54, u 55, u 56, u 57, u 58, u 59, u 60, u 61, u 62, u 63, u 64, u 65, u 66, u 67, u 68, u 69, u 70, u 71, u 72, u 73, u 74, u 75, u 76, u 77, u 78, u 79, u 80, u 81, u 82, u 83, u 84, u 85, u 86, u 87, u 88, u 89, u 90, u 91, u 92, u 93, u 94, u 95, u 96, u 97, u 98, u 99, u 100, u 101, u 102, u 103, u 104, u 105, u 106, u 107, u 108, u 109, u 110, u 111, u 112, u 113, u 114, u 115, u 116, u 117, u 118, u 119, u 120, u 121, u 122, u 123, u 124, u 125, u 126, u 127, u 128, u 129, u 130, u 131, u 132, u 133, u 134, u 135, u 136, u 137, u 138, u 139, u 140, u 141, u 142, u 143, u 144, u 145, u 146, u 147, u 148, u 149, u 150, u 151, u 152, u 153, u 154, u 155, u 156, u 157, u 158, u 159, u 160, u 161, u 162, u 163, u 164, u 165, u 166, u 167, u 168, u 169, u 170, u 171, u 172, u 173, u 174, u 175, u 176, u 177, u 178, u 179, u 180, u 181, u 182, u 183, u 184, u 185, u 186, u 187, u 188, u 189, u 190, u 191, u 192, u 193, u 194, u 195, u 196, u 197, u 198, u 199, u 200, u 201, u 202, u 203, u 204, u 205, u 206, u 207, u 208, u 209, u 210, u 211, undef], []⟩ wr) Q0) ⟨#[(.slice A len c), undef, .slice none 0 0, u3, (.slice Ao m co), (.slice Ac ch.length cc), .int .i64 safe, .int .i64 n, .int .i64 k, u 9, u 10, u 11, u 12, u 13, u 14, u 15, u 16, u 17, u 18, u 19, u 20, u 21, u 22, u 23, u 24, u 25, u 26, u 27, u 28, u 29, u 30, u 31, u 32, u 33, u 34, u 35, u 36, u 37, u 38, u 39, u 40, u 41, u 42, u 43, u 44, u 45, u 46, u 47, u 48, u 49, u 50, u 51, u 52, u 53, u 54, u 55, u 56, u 57, u 58, u 59, u 60, u 61, u 62, u 63, u 64, u 65, u 66, u 67, u 68, u 69, u 70, u 71, u 72, u 73, u 74, u 75, u 76, u 77, u 78, u 79, u 80, u 81, u 82, u 83, u 84, u 85, u 86, u 87, u 88, u 89, u 90, u 91, u 92, u 93, u 94, u 95, u 96, u 97, u 98, u 99, u 100, u 101, u 102, u 103, u 104, u 105, u 106, u 107, u 108, u 109, u 110, u 111, u 112, u 113, u 114, u 115, u 116, u 117, u 118, u 119, u 120, u 121, u 122, u 123, u 124, u 125, u 126, u 127, u 128, u 129, u 130, u 131, u 132, u 133, u 134, u 135, u 136, u 137, u 138, u 139, u 140, u 141, u 142, u 143, u 144, u 145, u 146, u 147, u 148, u 149, u 150, u 151, u 152, u 153, u 154, u 155, u 156, u 157, u 158, u 159, u 160, u 161, u 162, u 163, u 164, u 165, u 166, u 167, u 168, u 169, u 170, u 171, u 172, u 173, u 174, u 175, u 176, u 177, u 178, u 179, u 180, u 181, u 182, u 183, u 184, u 185, u 186, u 187, u 188, u 189, u 190, u 191, u 192, u 193, u 194, u 195, u 196, u 197, u 198, u 199, u 200, u 201, u 202, u 203, u 204, u 205, u 206, u 207, u 208, u 209, u 210, u 211, undef], []⟩ wr := by
  subst hA
  have HLEN := Lib.hid hlen
  clear hlen
  have hkl : (k : Int) < (len : Int) := by omega
  obtain ⟨r4, hr4⟩ : ∃ r4, r4 = reg % 4 := ⟨_, rfl⟩
  have hre : ((reg : Int) % 4) = (r4 : Int) := by omega
  have kr := fun W => conv_u8 (r4 : Int) (by omega) (by omega) W
  have kw := fun W => conv_u8 (which : Int) (by omega) (by omega) W
  obtain ⟨q, hq⟩ : ∃ q, q = which % m := ⟨_, rfl⟩
  have hqe : ((which : Int) % (m : Int)) = (q : Int) := by rw [hq]; simp
  have HQ := Lib.hid hq
  have HK := Lib.hid hkk
  have HR := Lib.hid hr4
  clear hq hkk hr4
  have hk8 : (kind : Int) % 8 = ((4 : Nat) : Int) := by have := HK.out; omega
  have HN : Hid (stoTo acts (k + 1) = ⟨l, ops, ch, safe, n⟩) := by
    have hnil : ops = [] := List.eq_nil_of_length_eq_zero (by rw [← HM.out]; exact hm)
    unfold Hid
    rw [HS.out, hnil]
    simp only [stoStep, ← HK.out]
    rfl
  clear HS HR HQ
  subst hm
  clear HK
  conv => arg 2; whnf
  go_wp2
  refine ⟨sto_mk (k + 1) (by omega) ⟨by rw [HN.out]; exact hol.alloc _, by rw [HN.out]; exact hoo.alloc _, by rw [HN.out]; exact hoc.alloc _, hb.alloc hz _⟩ (by rw [HN.out]; rfl) (by rw [HN.out]; rfl) (by go_num) rfl, by simp [StoM, intOf]; omega⟩
set_option maxHeartbeats 4000000 in
set_option maxRecDepth 1000000 in
theorem sto_nothz5 (acts : List ActN) (len : Nat) (hlen : len = acts.length) (w wr : World) (u : Nat → Value) (u3 : Value) (A : Option Addr) (c k : Nat) (hk : k < len) (hl : len ≤ 1000) (b off : Nat) (hA : A = some ⟨b, off, none⟩)
    (l : List Ev) (ops : List SOp) (ch : List (Int × Int)) (safe n kind reg which m : Nat) (Ao : Option Addr) (co : Nat) (Ac : Option Addr) (cc : Nat)
    (hn1 : l.length ≤ k) (hn2 : ops.length ≤ k) (hn3 : ch.length ≤ k) (hn4 : n ≤ k) (hsf : safe ≤ ch.length) (hcc1 : ch.length ≤ cc) (hb1 : kind < 256) (hb2 : reg < 256) (hb3 : which < 256)
    (a0 : wr.cell? ⟨b, off + k * 3, none⟩ = some (.int .u8 kind)) (a1 : wr.cell? ⟨b, off + k * 3 + 1, none⟩ = some (.int .u8 reg)) (a2 : wr.cell? ⟨b, off + k * 3 + 2, none⟩ = some (.int .u8 which))
    (hol : OwS wr w.heap.size 39 6 u3 (l.map Ev.cells)) (hoo : OwS wr w.heap.size 94 10 (.slice Ao m co) (ops.map SOp.cells)) (hoc : OwS wr w.heap.size 96 2 (.slice Ac ch.length cc) (ch.map chCells)) (hb : Below w.heap.size w wr) (hz : w.heap.size ≤ wr.heap.size)
    (HM : Hid (m = ops.length)) (HS : Hid (stoTo acts (k + 1) = stoStep ⟨l, ops, ch, safe, n⟩ ⟨kind, reg, which⟩)) (Q0 : Exit → Act → World → Prop) (hkk : 5 = kind % 8) (hm : m = 0) :
    Code.wp Try.prog stoBody (Exit.then (fun a' w' => StoI acts w A len c a' w' ∧ StoM len a' w' < StoM len ⟨#[(.slice A len c), undef, .slice none 0 0, u3, (.slice Ao m co), (.slice Ac ch.length cc), .int .i64 safe, .int .i64 n, .int .i64 k, u 9, u 10, u 11, u 12, u 13, u 14, u 15, u 16, u 17, u 18, u 19, u 20, u 21, u 22, u 23, u 24, u 25, u 26, u 27, u 28, u 29, u 30, u 31, u 32, u 33, u 34, u 35, u 36, u 37, u 38, u 39, u 40, u 41, u 42, u 43, u 44, u 45, u 46, u 47, u 48, u 49, u 50, u 51, u 52, u 53, u 54, u 55, u 56, u 57, u 58, u 59, u 60, u 61, u 62, u 63, u 64, u 65, u 66, u 67, u 68, u 69, u 70, u 71, u 72, u 73, u 74, u 75, u 76, u 77, u 78, u 79, u 80, u 81, u 82, u 83, u 84, u 85, u 86, u 87, u 88, u 89, u 90, u 91, u 92, u 93, u 94, u 95, u 96, u 97, u 98, u 99, u 100, u 101, u 102, u 103, u 104, u 105, u 106, u 107, u 108, u 109, u 110, u 111, u 112, u 113, u 114, u 115, u 116, u 117, u 118, u 119, u 120, u 121, u 122, u 123, u 124, u 125, u 126, u 127, u 128, u 129, u 130, u 131, u 132, u 133, u 134, u 135, u 136, u 137, u 138, u 139, u 140, u 141, u 142, u 143, u 144, u 145, u 146, u 147, u 148, u 149, u 150, u 151, u 152, u 153, u 154, u 155, u 156, u 157, u 158, u 159, u 160, u 161, u 162, u 163, u 164, u 165, u 166, u 167, u 168, u 169, u 170, u 171, u 172, u 173, u 174, u 175, u 176, u 177, u 178, u 179, u 180, u 181, u 182, u 183, u 184, u 185, u 186, u 187, u 188, u 189, u 190, u 191, u 192, u 193, u 194, u 195, u 196, u 197, u 198, u 199, u 200, u 201, u 202, u 203, u 204, u 205, u 206, u 207, u 208, u 209, u 210, u 211, undef], []⟩ wr) Q0) ⟨#[(.slice A len c), undef, .slice none 0 0, u3, (.slice Ao m co), (.slice Ac ch.length cc), .int .i64 safe, .int .i64 n, .int .i64 k, u 9, u 10, u 11, u 12, u 13, u 14, u 15, u 16, u 17, u 18, u 19, u 20, u 21, u 22, u 23, u 24, u 25, u 26, u 27, u 28, u 29, u 30, u 31, u 32, u 33, u 34, u 35, u 36, u 37, u 38, u 39, u 40, u 41, u 42, u 43, u 44, u 45, u 46, u 47, u 48, u 49, u 50, u 51, u 52, u 53, u 54, u 55, u 56, u 57, u 58, u 59, u 60, u 61, u 62, u 63, u 64, u 65, u 66, u 67, u 68, u 69, u 70, u 71, u 72, u 73, u 74, u 75, u 76, u 77, u 78, u 79, u 80, u 81, u 82, u 83, u 84, u 85, u 86, u 87, u 88, u 89, u 90, u 91, u 92, u 93, u 94, u 95, u 96, u 97, u 98, u 99, u 100, u 101, u 102, u 103, u 104, u 105, u 106, u 107, u 108, u 109, u 110, u 111, u 112, u 113, u 114, u 115, u 116, u 117, u 118, u 119, u 120, u 121, u 122, u 123, u 124, u 125, u 126, u 127, u 128, u 129, u 130, u 131, u 132, u 133, u 134, u 135, u 136, u 137, u 138, u 139, u 140, u 141, u 142, u 143, u 144, u 145, u 146, u 147, u 148, u 149, u 150, u 151, u 152, u 153, u 154, u 155, u 156, u 157, u 158, u 159, u 160, u 161, u 162, u 163, u 164, u 165, u 166, u 167, u 168, u 169, u 170, u 171, u 172, u 173, u 174, u 175, u 176, u 177, u 178, u 179, u 180, u 181, u 182, u 183, u 184, u 185, u 186, u 187, u 188, u 189, u 190, u 191, u 192, u 193, u 194, u 195, u 196, u 197, u 198, u 199, u 200, u 201, u 202, u 203, u 204, u 205, u 206, u 207, u 208, u 209, u 210, u 211, undef], []⟩ wr := by
  subst hA
  have HLEN := Lib.hid hlen
  clear hlen
  have hkl : (k : Int) < (len : Int) := by omega
  obtain ⟨r4, hr4⟩ : ∃ r4, r4 = reg % 4 := ⟨_, rfl⟩
  have hre : ((reg : Int) % 4) = (r4 : Int) := by omega
  have kr := fun W => conv_u8 (r4 : Int) (by omega) (by omega) W
  have kw := fun W => conv_u8 (which : Int) (by omega) (by omega) W
  obtain ⟨q, hq⟩ : ∃ q, q = which % m := ⟨_, rfl⟩
  have hqe : ((which : Int) % (m : Int)) = (q : Int) := by rw [hq]; simp
  have HQ := Lib.hid hq
  have HK := Lib.hid hkk
  have HR := Lib.hid hr4
  clear hq hkk hr4
  have hk8 : (kind : Int) % 8 = ((5 : Nat) : Int) := by have := HK.out; omega
  have HN : Hid (stoTo acts (k + 1) = ⟨l, ops, ch, safe, n⟩) := by
    have hnil : ops = [] := List.eq_nil_of_length_eq_zero (by rw [← HM.out]; exact hm)
    unfold Hid
    rw [HS.out, hnil]
    simp only [stoStep, ← HK.out]
    rfl
  clear HS HR HQ
  subst hm
  clear HK
  conv => arg 2; whnf
  go_wp2
  refine ⟨sto_mk (k + 1) (by omega) ⟨by rw [HN.out]; exact hol.alloc _, by rw [HN.out]; exact hoo.alloc _, by rw [HN.out]; exact hoc.alloc _, hb.alloc hz _⟩ (by rw [HN.out]; rfl) (by rw [HN.out]; rfl) (by go_num) rfl, by simp [StoM, intOf]; omega⟩
set_option maxHeartbeats 4000000 in
set_option maxRecDepth 1000000 in
theorem sto_nothz6 (acts : List ActN) (len : Nat) (hlen : len = acts.length) (w wr : World) (u : Nat → Value) (u3 : Value) (A : Option Addr) (c k : Nat) (hk : k < len) (hl : len ≤ 1000) (b off : Nat) (hA : A = some ⟨b, off, none⟩)
    (l : List Ev) (ops : List SOp) (ch : List (Int × Int)) (safe n kind reg which m : Nat) (Ao : Option Addr) (co : Nat) (Ac : Option Addr) (cc : Nat)
    (hn1 : l.length ≤ k) (hn2 : ops.length ≤ k) (hn3 : ch.length ≤ k) (hn4 : n ≤ k) (hsf : safe ≤ ch.length) (hcc1 : ch.length ≤ cc) (hb1 : kind < 256) (hb2 : reg < 256) (hb3 : which < 256)
    (a0 : wr.cell? ⟨b, off + k * 3, none⟩ = some (.int .u8 kind)) (a1 : wr.cell? ⟨b, off + k * 3 + 1, none⟩ = some (.int .u8 reg)) (a2 : wr.cell? ⟨b, off + k * 3 + 2, none⟩ = some (.int .u8 which))
    (hol : OwS wr w.heap.size 39 6 u3 (l.map Ev.cells)) (hoo : OwS wr w.heap.size 94 10 (.slice Ao m co) (ops.map SOp.cells)) (hoc : OwS wr w.heap.size 96 2 (.slice Ac ch.length cc) (ch.map chCells)) (hb : Below w.heap.size w wr) (hz : w.heap.size ≤ wr.heap.size)
    (HM : Hid (m = ops.length)) (HS : Hid (stoTo acts (k + 1) = stoStep ⟨l, ops, ch, safe, n⟩ ⟨kind, reg, which⟩)) (Q0 : Exit → Act → World → Prop) (hkk : 6 = kind % 8) (hm : m = 0) :
    Code.wp Try.prog stoBody (Exit.then (fun a' w' => StoI acts w A len c a' w' ∧ StoM len a' w' < StoM len ⟨#[(.slice A len c), undef, .slice none 0 0, u3, (.slice Ao m co), (.slice Ac ch.length cc), .int .i64 safe, .int .i64 n, .int .i64 k, u 9, u 10, u 11, u 12, u 13, u 14, u 15, u 16, u 17, u 18, u 19, u 20, u 21, u 22, u 23, u 24, u 25, u 26, u 27, u 28, u 29, u 30, u 31, u 32, u 33, u 34, u 35, u 36, u 37, u 38, u 39, u 40, u 41, u 42, u 43, u 44, u 45, u 46, u 47, u 48, u 49, u 50, u 51, u 52, u 53, u 54, u 55, u 56, u 57, u 58, u 59, u 60, u 61, u 62, u 63, u 64, u 65, u 66, u 67, u 68, u 69, u 70, u 71, u 72, u 73, u 74, u 75, u 76, u 77, u 78, u 79, u 80, u 81, u 82, u 83, u 84, u 85, u 86, u 87, u 88, u 89, u 90, u 91, u 92, u 93, u 94, u 95, u 96, u 97, u 98, u 99, u 100, u 101, u 102, u 103, u 104, u 105, u 106, u 107, u 108, u 109, u 110, u 111, u 112, u 113, u 114, u 115, u 116, u 117, u 118, u 119, u 120, u 121, u 122, u 123, u 124, u 125, u 126, u 127, u 128, u 129, u 130, u 131, u 132, u 133, u 134, u 135, u 136, u 137, u 138, u 139, u 140, u 141, u 142, u 143, u 144, u 145, u 146, u 147, u 148, u 149, u 150, u 151, u 152, u 153, u 154, u 155, u 156, u 157, u 158, u 159, u 160, u 161, u 162, u 163, u 164, u 165, u 166, u 167, u 168, u 169, u 170, u 171, u 172, u 173, u 174, u 175, u 176, u 177, u 178, u 179, u 180, u 181, u 182, u 183, u 184, u 185, u 186, u 187, u 188, u 189, u 190, u 191, u 192, u 193, u 194, u 195, u 196, u 197, u 198, u 199, u 200, u 201, u 202, u 203, u 204, u 205, u 206, u 207, u 208, u 209, u 210, u 211, undef], []⟩ wr) Q0) ⟨#[(.slice A len c), undef, .slice none 0 0, u3, (.slice Ao m co), (.slice Ac ch.length cc), .int .i64 safe, .int .i64 n, .int .i64 k, u 9, u 10, u 11, u 12, u 13, u 14, u 15, u 16, u 17, u 18, u 19, u 20, u 21, u 22, u 23, u 24, u 25, u 26, u 27, u 28, u 29, u 30, u 31, u 32, u 33, u 34, u 35, u 36, u 37, u 38, u 39, u 40, u 41, u 42, u 43, u 44, u 45, u 46, u 47, u 48, u 49, u 50, u 51, u 52, u 53, u 54, u 55, u 56, u 57, u 58, u 59, u 60, u 61, u 62, u 63, u 64, u 65, u 66, u 67, u 68, u 69, u 70, u 71, u 72, u 73, u 74, u 75, u 76, u 77, u 78, u 79, u 80, u 81, u 82, u 83, u 84, u 85, u 86, u 87, u 88, u 89, u 90, u 91, u 92, u 93, u 94, u 95, u 96, u 97, u 98, u 99, u 100, u 101, u 102, u 103, u 104, u 105, u 106, u 107, u 108, u 109, u 110, u 111, u 112, u 113, u 114, u 115, u 116, u 117, u 118, u 119, u 120, u 121, u 122, u 123, u 124, u 125, u 126, u 127, u 128, u 129, u 130, u 131, u 132, u 133, u 134, u 135, u 136, u 137, u 138, u 139, u 140, u 141, u 142, u 143, u 144, u 145, u 146, u 147, u 148, u 149, u 150, u 151, u 152, u 153, u 154, u 155, u 156, u 157, u 158, u 159, u 160, u 161, u 162, u 163, u 164, u 165, u 166, u 167, u 168, u 169, u 170, u 171, u 172, u 173, u 174, u 175, u 176, u 177, u 178, u 179, u 180, u 181, u 182, u 183, u 184, u 185, u 186, u 187, u 188, u 189, u 190, u 191, u 192, u 193, u 194, u 195, u 196, u 197, u 198, u 199, u 200, u 201, u 202, u 203, u 204, u 205, u 206, u 207, u 208, u 209, u 210, u 211, undef], []⟩ wr := by
  subst hA
  have HLEN := Lib.hid hlen
  clear hlen
  have hkl : (k : Int) < (len : Int) := by omega
  obtain ⟨r4, hr4⟩ : ∃ r4, r4 = reg % 4 := ⟨_, rfl⟩
  have hre : ((reg : Int) % 4) = (r4 : Int) := by omega
  have kr := fun W => conv_u8 (r4 : Int) (by omega) (by omega) W
  have kw := fun W => conv_u8 (which : Int) (by omega) (by omega) W
  obtain ⟨q, hq⟩ : ∃ q, q = which % m := ⟨_, rfl⟩
  have hqe : ((which : Int) % (m : Int)) = (q : Int) := by rw [hq]; simp
  have HQ := Lib.hid hq
  have HK := Lib.hid hkk
  have HR := Lib.hid hr4
  clear hq hkk hr4
  have hk8 : (kind : Int) % 8 = ((6 : Nat) : Int) := by have := HK.out; omega
  have HN : Hid (stoTo acts (k + 1) = ⟨l, ops, ch, safe, n⟩) := by
    have hnil : ops = [] := List.eq_nil_of_length_eq_zero (by rw [← HM.out]; exact hm)
    unfold Hid
    rw [HS.out, hnil]
    simp only [stoStep, ← HK.out]
    rfl
  clear HS HR HQ
  subst hm
  clear HK
  conv => arg 2; whnf
  go_wp2
  refine ⟨sto_mk (k + 1) (by omega) ⟨by rw [HN.out]; exact hol.alloc _, by rw [HN.out]; exact hoo.alloc _, by rw [HN.out]; exact hoc.alloc _, hb.alloc hz _⟩ (by rw [HN.out]; rfl) (by rw [HN.out]; rfl) (by go_num) rfl, by simp [StoM, intOf]; omega⟩
set_option maxHeartbeats 4000000 in
set_option maxRecDepth 1000000 in
theorem sto_exx4 (acts : List ActN) (len : Nat) (hlen : len = acts.length) (w wr : World) (u : Nat → Value) (u3 : Value) (A : Option Addr) (c k : Nat) (hk : k < len) (hl : len ≤ 1000) (b off : Nat) (hA : A = some ⟨b, off, none⟩)
    (l : List Ev) (ops : List SOp) (ch : List (Int × Int)) (safe n kind reg which m : Nat) (Ao : Option Addr) (co : Nat) (Ac : Option Addr) (cc : Nat)
    (hn1 : l.length ≤ k) (hn2 : ops.length ≤ k) (hn3 : ch.length ≤ k) (hn4 : n ≤ k) (hsf : safe ≤ ch.length) (hcc1 : ch.length ≤ cc) (hb1 : kind < 256) (hb2 : reg < 256) (hb3 : which < 256)
    (a0 : wr.cell? ⟨b, off + k * 3, none⟩ = some (.int .u8 kind)) (a1 : wr.cell? ⟨b, off + k * 3 + 1, none⟩ = some (.int .u8 reg)) (a2 : wr.cell? ⟨b, off + k * 3 + 2, none⟩ = some (.int .u8 which))
    (hol : OwS wr w.heap.size 39 6 u3 (l.map Ev.cells)) (hoo : OwS wr w.heap.size 94 10 (.slice Ao m co) (ops.map SOp.cells)) (hoc : OwS wr w.heap.size 96 2 (.slice Ac ch.length cc) (ch.map chCells)) (hb : Below w.heap.size w wr) (hz : w.heap.size ≤ wr.heap.size)
    (HM : Hid (m = ops.length)) (HS : Hid (stoTo acts (k + 1) = stoStep ⟨l, ops, ch, safe, n⟩ ⟨kind, reg, which⟩)) (Q0 : Exit → Act → World → Prop) (hkk : 4 = kind % 8) (hm0 : 0 < m) (ckind cop creg cval sres : Int) (sat : Nat) (cwr cba sdn : Bool) (hsq : ops[which % m]? = some ⟨⟨ckind, cop, cwr, creg, cval, cba⟩, true, sdn, sres, sat⟩) :
    Code.wp Try.prog stoBody (Exit.then (fun a' w' => StoI acts w A len c a' w' ∧ StoM len a' w' < StoM len ⟨#[(.slice A len c), undef, .slice none 0 0, u3, (.slice Ao m co), (.slice Ac ch.length cc), .int .i64 safe, .int .i64 n, .int .i64 k, u 9, u 10, u 11, u 12, u 13, u 14, u 15, u 16, u 17, u 18, u 19, u 20, u 21, u 22, u 23, u 24, u 25, u 26, u 27, u 28, u 29, u 30, u 31, u 32, u 33, u 34, u 35, u 36, u 37, u 38, u 39, u 40, u 41, u 42, u 43, u 44, u 45, u 46, u 47, u 48, u 49, u 50, u 51, u 52, u 53, u 54, u 55, u 56, u 57, u 58, u 59, u 60, u 61, u 62, u 63, u 64, u 65, u 66, u 67, u 68, u 69, u 70, u 71, u 72, u 73, u 74, u 75, u 76, u 77, u 78, u 79, u 80, u 81, u 82, u 83, u 84, u 85, u 86, u 87, u 88, u 89, u 90, u 91, u 92, u 93, u 94, u 95, u 96, u 97, u 98, u 99, u 100, u 101, u 102, u 103, u 104, u 105, u 106, u 107, u 108, u 109, u 110, u 111, u 112, u 113, u 114, u 115, u 116, u 117, u 118, u 119, u 120, u 121, u 122, u 123, u 124, u 125, u 126, u 127, u 128, u 129, u 130, u 131, u 132, u 133, u 134, u 135, u 136, u 137, u 138, u 139, u 140, u 141, u 142, u 143, u 144, u 145, u 146, u 147, u 148, u 149, u 150, u 151, u 152, u 153, u 154, u 155, u 156, u 157, u 158, u 159, u 160, u 161, u 162, u 163, u 164, u 165, u 166, u 167, u 168, u 169, u 170, u 171, u 172, u 173, u 174, u 175, u 176, u 177, u 178, u 179, u 180, u 181, u 182, u 183, u 184, u 185, u 186, u 187, u 188, u 189, u 190, u 191, u 192, u 193, u 194, u 195, u 196, u 197, u 198, u 199, u 200, u 201, u 202, u 203, u 204, u 205, u 206, u 207, u 208, u 209, u 210, u 211, undef], []⟩ wr) Q0) ⟨#[(.slice A len c), undef, .slice none 0 0, u3, (.slice Ao m co), (.slice Ac ch.length cc), .int .i64 safe, .int .i64 n, .int .i64 k, u 9, u 10, u 11, u 12, u 13, u 14, u 15, u 16, u 17, u 18, u 19, u 20, u 21, u 22, u 23, u 24, u 25, u 26, u 27, u 28, u 29, u 30, u 31, u 32, u 33, u 34, u 35, u 36, u 37, u 38, u 39, u 40, u 41, u 42, u 43, u 44, u 45, u 46, u 47, u 48, u 49, u 50, u 51, u 52, u 53, u 54, u 55, u 56, u 57, u 58, u 59, u 60, u 61, u 62, u 63, u 64, u 65, u 66, u 67, u 68, u 69, u 70, u 71, u 72, u 73, u 74, u 75, u 76, u 77, u 78, u 79, u 80, u 81, u 82, u 83, u 84, u 85, u 86, u 87, u 88, u 89, u 90, u 91, u 92, u 93, u 94, u 95, u 96, u 97, u 98, u 99, u 100, u 101, u 102, u 103, u 104, u 105, u 106, u 107, u 108, u 109, u 110, u 111, u 112, u 113, u 114, u 115, u 116, u 117, u 118, u 119, u 120, u 121, u 122, u 123, u 124, u 125, u 126, u 127, u 128, u 129, u 130, u 131, u 132, u 133, u 134, u 135, u 136, u 137, u 138, u 139, u 140, u 141, u 142, u 143, u 144, u 145, u 146, u 147, u 148, u 149, u 150, u 151, u 152, u 153, u 154, u 155, u 156, u 157, u 158, u 159, u 160, u 161, u 162, u 163, u 164, u 165, u 166, u 167, u 168, u 169, u 170, u 171, u 172, u 173, u 174, u 175, u 176, u 177, u 178, u 179, u 180, u 181, u 182, u 183, u 184, u 185, u 186, u 187, u 188, u 189, u 190, u 191, u 192, u 193, u 194, u 195, u 196, u 197, u 198, u 199, u 200, u 201, u 202, u 203, u 204, u 205, u 206, u 207, u 208, u 209, u 210, u 211, undef], []⟩ wr := by
  subst hA
  have HLEN := Lib.hid hlen
  clear hlen
  have hkl : (k : Int) < (len : Int) := by omega
  obtain ⟨r4, hr4⟩ : ∃ r4, r4 = reg % 4 := ⟨_, rfl⟩
  have hre : ((reg : Int) % 4) = (r4 : Int) := by omega
  have kr := fun W => conv_u8 (r4 : Int) (by omega) (by omega) W
  have kw := fun W => conv_u8 (which : Int) (by omega) (by omega) W
  obtain ⟨q, hq⟩ : ∃ q, q = which % m := ⟨_, rfl⟩
  have hqe : ((which : Int) % (m : Int)) = (q : Int) := by rw [hq]; simp
  have HQ := Lib.hid hq
  have HK := Lib.hid hkk
  have HR := Lib.hid hr4
  clear hq hkk hr4
  have hk8 : (kind : Int) % 8 = ((4 : Nat) : Int) := by have := HK.out; omega
  rw [← HQ.out] at hsq
  have hqm : q < m := by rw [HQ.out]; exact Nat.mod_lt _ hm0
  have hrw : (ops.map SOp.cells)[q]? = some (SOp.cells ⟨⟨ckind, cop, cwr, creg, cval, cba⟩, true, sdn, sres, sat⟩) := by rw [List.getElem?_map, hsq]; rfl
  obtain ⟨go, co', hvo, hgb, hgo⟩ := hoo.pos (by rw [List.length_map, ← HM.out]; exact hm0)
  injection hvo with hv1 hv2 hv3
  subst hv1
  clear hv2 hv3
  have HSQ := Lib.hid hsq
  have HRW := Lib.hid hrw
  have hqI : (q : Int) < (m : Int) := by omega
  have hmI : (0 : Int) < (m : Int) := by omega
  have hmz : ¬ (m : Int) = 0 := by omega
  have hgo1 : go ≠ wr.heap.size := by omega
  have hgo2 : go ≠ wr.heap.size + 1 := by omega
  clear hsq hrw
  have o6 := hoo.cell HRW.out (j := 6) rfl
  have o7 := hoo.cell HRW.out (j := 7) rfl
  have HN : Hid (stoTo acts (k + 1) = ⟨l, ops, ch, safe, n⟩) := by
    unfold Hid
    rw [HS.out]
    simp only [stoStep, ← HK.out, ← HM.out, ← HQ.out, HSQ.out]
    rfl
  clear HS HR HQ HM
  clear HK
  conv => arg 2; whnf
  go_wp2
  refine ⟨sto_mk (k + 1) (by omega) ⟨by rw [HN.out]; exact hol.alloc _, by rw [HN.out]; exact hoo.alloc _, by rw [HN.out]; exact hoc.alloc _, hb.alloc hz _⟩ (by rw [HN.out]; rfl) (by rw [HN.out]; rfl) (by go_num) rfl, by simp [StoM, intOf]; omega⟩
set_option maxHeartbeats 4000000 in
set_option maxRecDepth 1000000 in
theorem sto_exx5 (acts : List ActN) (len : Nat) (hlen : len = acts.length) (w wr : World) (u : Nat → Value) (u3 : Value) (A : Option Addr) (c k : Nat) (hk : k < len) (hl : len ≤ 1000) (b off : Nat) (hA : A = some ⟨b, off, none⟩)
    (l : List Ev) (ops : List SOp) (ch : List (Int × Int)) (safe n kind reg which m : Nat) (Ao : Option Addr) (co : Nat) (Ac : Option Addr) (cc : Nat)
    (hn1 : l.length ≤ k) (hn2 : ops.length ≤ k) (hn3 : ch.length ≤ k) (hn4 : n ≤ k) (hsf : safe ≤ ch.length) (hcc1 : ch.length ≤ cc) (hb1 : kind < 256) (hb2 : reg < 256) (hb3 : which < 256)
    (a0 : wr.cell? ⟨b, off + k * 3, none⟩ = some (.int .u8 kind)) (a1 : wr.cell? ⟨b, off + k * 3 + 1, none⟩ = some (.int .u8 reg)) (a2 : wr.cell? ⟨b, off + k * 3 + 2, none⟩ = some (.int .u8 which))
    (hol : OwS wr w.heap.size 39 6 u3 (l.map Ev.cells)) (hoo : OwS wr w.heap.size 94 10 (.slice Ao m co) (ops.map SOp.cells)) (hoc : OwS wr w.heap.size 96 2 (.slice Ac ch.length cc) (ch.map chCells)) (hb : Below w.heap.size w wr) (hz : w.heap.size ≤ wr.heap.size)
    (HM : Hid (m = ops.length)) (HS : Hid (stoTo acts (k + 1) = stoStep ⟨l, ops, ch, safe, n⟩ ⟨kind, reg, which⟩)) (Q0 : Exit → Act → World → Prop) (hkk : 5 = kind % 8) (hm0 : 0 < m) (ckind cop creg cval sres : Int) (sat : Nat) (cwr cba sdn : Bool) (hsq : ops[which % m]? = some ⟨⟨ckind, cop, cwr, creg, cval, cba⟩, true, sdn, sres, sat⟩) :
    Code.wp Try.prog stoBody (Exit.then (fun a' w' => StoI acts w A len c a' w' ∧ StoM len a' w' < StoM len ⟨#[(.slice A len c), undef, .slice none 0 0, u3, (.slice Ao m co), (.slice Ac ch.length cc), .int .i64 safe, .int .i64 n, .int .i64 k, u 9, u 10, u 11, u 12, u 13, u 14, u 15, u 16, u 17, u 18, u 19, u 20, u 21, u 22, u 23, u 24, u 25, u 26, u 27, u 28, u 29, u 30, u 31, u 32, u 33, u 34, u 35, u 36, u 37, u 38, u 39, u 40, u 41, u 42, u 43, u 44, u 45, u 46, u 47, u 48, u 49, u 50, u 51, u 52, u 53, u 54, u 55, u 56, u 57, u 58, u 59, u 60, u 61, u 62, u 63, u 64, u 65, u 66, u 67, u 68, u 69, u 70, u 71, u 72, u 73, u 74, u 75, u 76, u 77, u 78, u 79, u 80, u 81, u 82, u 83, u 84, u 85, u 86, u 87, u 88, u 89, u 90, u 91, u 92, u 93, u 94, u 95, u 96, u 97, u 98, u 99, u 100, u 101, u 102, u 103, u 104, u 105, u 106, u 107, u 108, u 109, u 110, u 111, u 112, u 113, u 114, u 115, u 116, u 117, u 118, u 119, u 120, u 121, u 122, u 123, u 124, u 125, u 126, u 127, u 128, u 129, u 130, u 131, u 132, u 133, u 134, u 135, u 136, u 137, u 138, u 139, u 140, u 141, u 142, u 143, u 144, u 145, u 146, u 147, u 148, u 149, u 150, u 151, u 152, u 153, u 154, u 155, u 156, u 157, u 158, u 159, u 160, u 161, u 162, u 163, u 164, u 165, u 166, u 167, u 168, u 169, u 170, u 171, u 172, u 173, u 174, u 175, u 176, u 177, u 178, u 179, u 180, u 181, u 182, u 183, u 184, u 185, u 186, u 187, u 188, u 189, u 190, u 191, u 192, u 193, u 194, u 195, u 196, u 197, u 198, u 199, u 200, u 201, u 202, u 203, u 204, u 205, u 206, u 207, u 208, u 209, u 210, u 211, undef], []⟩ wr) Q0) ⟨#[(.slice A len c), undef, .slice none 0 0, u3, (.slice Ao m co), (.slice Ac ch.length cc), .int .i64 safe, .int .i64 n, .int .i64 k, u 9, u 10, u 11, u 12, u 13, u 14, u 15, u 16, u 17, u 18, u 19, u 20, u 21, u 22, u 23, u 24, u 25, u 26, u 27, u 28, u 29, u 30, u 31, u 32, u 33, u 34, u 35, u 36, u 37, u 38, u 39, u 40, u 41, u 42, u 43, u 44, u 45, u 46, u 47, u 48, u 49, u 50, u 51, u 52, u 53, u 54, u 55, u 56, u 57, u 58, u 59, u 60, u 61, u 62, u 63, u 64, u 65, u 66, u 67, u 68, u 69, u 70, u 71, u 72, u 73, u 74, u 75, u 76, u 77, u 78, u 79, u 80, u 81, u 82, u 83, u 84, u 85, u 86, u 87, u 88, u 89, u 90, u 91, u 92, u 93, u 94, u 95, u 96, u 97, u 98, u 99, u 100, u 101, u 102, u 103, u 104, u 105, u 106, u 107, u 108, u 109, u 110, u 111, u 112, u 113, u 114, u 115, u 116, u 117, u 118, u 119, u 120, u 121, u 122, u 123, u 124, u 125, u 126, u 127, u 128, u 129, u 130, u 131, u 132, u 133, u 134, u 135, u 136, u 137, u 138, u 139, u 140, u 141, u 142, u 143, u 144, u 145, u 146, u 147, u 148, u 149, u 150, u 151, u 152, u 153, u 154, u 155, u 156, u 157, u 158, u 159, u 160, u 161, u 162, u 163, u 164, u 165, u 166, u 167, u 168, u 169, u 170, u 171, u 172, u 173, u 174, u 175, u 176, u 177, u 178, u 179, u 180, u 181, u 182, u 183, u 184, u 185, u 186, u 187, u 188, u 189, u 190, u 191, u 192, u 193, u 194, u 195, u 196, u 197, u 198, u 199, u 200, u 201, u 202, u 203, u 204, u 205, u 206, u 207, u 208, u 209, u 210, u 211, undef], []⟩ wr := by
  subst hA
  have HLEN := Lib.hid hlen
  clear hlen
  have hkl : (k : Int) < (len : Int) := by omega
  obtain ⟨r4, hr4⟩ : ∃ r4, r4 = reg % 4 := ⟨_, rfl⟩
  have hre : ((reg : Int) % 4) = (r4 : Int) := by omega
  have kr := fun W => conv_u8 (r4 : Int) (by omega) (by omega) W
  have kw := fun W => conv_u8 (which : Int) (by omega) (by omega) W
  obtain ⟨q, hq⟩ : ∃ q, q = which % m := ⟨_, rfl⟩
  have hqe : ((which : Int) % (m : Int)) = (q : Int) := by rw [hq]; simp
  have HQ := Lib.hid hq
  have HK := Lib.hid hkk
  have HR := Lib.hid hr4
  clear hq hkk hr4
  have hk8 : (kind : Int) % 8 = ((5 : Nat) : Int) := by have := HK.out; omega
  rw [← HQ.out] at hsq
  have hqm : q < m := by rw [HQ.out]; exact Nat.mod_lt _ hm0
  have hrw : (ops.map SOp.cells)[q]? = some (SOp.cells ⟨⟨ckind, cop, cwr, creg, cval, cba⟩, true, sdn, sres, sat⟩) := by rw [List.getElem?_map, hsq]; rfl
  obtain ⟨go, co', hvo, hgb, hgo⟩ := hoo.pos (by rw [List.length_map, ← HM.out]; exact hm0)
  injection hvo with hv1 hv2 hv3
  subst hv1
  clear hv2 hv3
  have HSQ := Lib.hid hsq
  have HRW := Lib.hid hrw
  have hqI : (q : Int) < (m : Int) := by omega
  have hmI : (0 : Int) < (m : Int) := by omega
  have hmz : ¬ (m : Int) = 0 := by omega
  have hgo1 : go ≠ wr.heap.size := by omega
  have hgo2 : go ≠ wr.heap.size + 1 := by omega
  clear hsq hrw
  have o6 := hoo.cell HRW.out (j := 6) rfl
  have o7 := hoo.cell HRW.out (j := 7) rfl
  have HN : Hid (stoTo acts (k + 1) = ⟨l, ops, ch, safe, n⟩) := by
    unfold Hid
    rw [HS.out]
    simp only [stoStep, ← HK.out, ← HM.out, ← HQ.out, HSQ.out]
    rfl
  clear HS HR HQ HM
  clear HK
  conv => arg 2; whnf
  go_wp2
  refine ⟨sto_mk (k + 1) (by omega) ⟨by rw [HN.out]; exact hol.alloc _, by rw [HN.out]; exact hoo.alloc _, by rw [HN.out]; exact hoc.alloc _, hb.alloc hz _⟩ (by rw [HN.out]; rfl) (by rw [HN.out]; rfl) (by go_num) rfl, by simp [StoM, intOf]; omega⟩
set_option maxHeartbeats 4000000 in
set_option maxRecDepth 1000000 in
theorem sto_exread4 (acts : List ActN) (len : Nat) (hlen : len = acts.length) (w wr : World) (u : Nat → Value) (u3 : Value) (A : Option Addr) (c k : Nat) (hk : k < len) (hl : len ≤ 1000) (b off : Nat) (hA : A = some ⟨b, off, none⟩)
    (l : List Ev) (ops : List SOp) (ch : List (Int × Int)) (safe n kind reg which m : Nat) (Ao : Option Addr) (co : Nat) (Ac : Option Addr) (cc : Nat)
    (hn1 : l.length ≤ k) (hn2 : ops.length ≤ k) (hn3 : ch.length ≤ k) (hn4 : n ≤ k) (hsf : safe ≤ ch.length) (hcc1 : ch.length ≤ cc) (hb1 : kind < 256) (hb2 : reg < 256) (hb3 : which < 256)
    (a0 : wr.cell? ⟨b, off + k * 3, none⟩ = some (.int .u8 kind)) (a1 : wr.cell? ⟨b, off + k * 3 + 1, none⟩ = some (.int .u8 reg)) (a2 : wr.cell? ⟨b, off + k * 3 + 2, none⟩ = some (.int .u8 which))
    (hol : OwS wr w.heap.size 39 6 u3 (l.map Ev.cells)) (hoo : OwS wr w.heap.size 94 10 (.slice Ao m co) (ops.map SOp.cells)) (hoc : OwS wr w.heap.size 96 2 (.slice Ac ch.length cc) (ch.map chCells)) (hb : Below w.heap.size w wr) (hz : w.heap.size ≤ wr.heap.size)
    (HM : Hid (m = ops.length)) (HS : Hid (stoTo acts (k + 1) = stoStep ⟨l, ops, ch, safe, n⟩ ⟨kind, reg, which⟩)) (Q0 : Exit → Act → World → Prop) (hkk : 4 = kind % 8) (hm0 : 0 < m) (ckind cop creg cval sres : Int) (sat : Nat) (sdn : Bool) (hsq : ops[which % m]? = some ⟨⟨ckind, cop, false, creg, cval, false⟩, false, sdn, sres, sat⟩) :
    Code.wp Try.prog stoBody (Exit.then (fun a' w' => StoI acts w A len c a' w' ∧ StoM len a' w' < StoM len ⟨#[(.slice A len c), undef, .slice none 0 0, u3, (.slice Ao m co), (.slice Ac ch.length cc), .int .i64 safe, .int .i64 n, .int .i64 k, u 9, u 10, u 11, u 12, u 13, u 14, u 15, u 16, u 17, u 18, u 19, u 20, u 21, u 22, u 23, u 24, u 25, u 26, u 27, u 28, u 29, u 30, u 31, u 32, u 33, u 34, u 35, u 36, u 37, u 38, u 39, u 40, u 41, u 42, u 43, u 44, u 45, u 46, u 47, u 48, u 49, u 50, u 51, u 52, u 53, u 54, u 55, u 56, u 57, u 58, u 59, u 60, u 61, u 62, u 63, u 64, u 65, u 66, u 67, u 68, u 69, u 70, u 71, u 72, u 73, u 74, u 75, u 76, u 77, u 78, u 79, u 80, u 81, u 82, u 83, u 84, u 85, u 86, u 87, u 88, u 89, u 90, u 91, u 92, u 93, u 94, u 95, u 96, u 97, u 98, u 99, u 100, u 101, u 102, u 103, u 104, u 105, u 106, u 107, u 108, u 109, u 110, u 111, u 112, u 113, u 114, u 115, u 116, u 117, u 118, u 119, u 120, u 121, u 122, u 123, u 124, u 125, u 126, u 127, u 128, u 129, u 130, u 131, u 132, u 133, u 134, u 135, u 136, u 137, u 138, u 139, u 140, u 141, u 142, u 143, u 144, u 145, u 146, u 147, u 148, u 149, u 150, u 151, u 152, u 153, u 154, u 155, u 156, u 157, u 158, u 159, u 160, u 161, u 162, u 163, u 164, u 165, u 166, u 167, u 168, u 169, u 170, u 171, u 172, u 173, u 174, u 175, u 176, u 177, u 178, u 179, u 180, u 181, u 182, u 183, u 184, u 185, u 186, u 187, u 188, u 189, u 190, u 191, u 192, u 193, u 194, u 195, u 196, u 197, u 198, u 199, u 200, u 201, u 202, u 203, u 204, u 205, u 206, u 207, u 208, u 209, u 210, u 211, undef], []⟩ wr) Q0) ⟨#[(.slice A len c), undef, .slice none 0 0, u3, (.slice Ao m co), (.slice Ac ch.length cc), .int .i64 safe, .int .i64 n, .int .i64 k, u 9, u 10, u 11, u 12, u 13, u 14, u 15, u 16, u 17, u 18, u 19, u 20, u 21, u 22, u 23, u 24, u 25, u 26, u 27, u 28, u 29, u 30, u 31, u 32, u 33, u 34, u 35, u 36, u 37, u 38, u 39, u 40, u 41, u 42, u 43, u 44, u 45, u 46, u 47, u 48, u 49, u 50, u 51, u 52, u 53, u 54, u 55, u 56, u 57, u 58, u 59, u 60, u 61, u 62, u 63, u 64, u 65, u 66, u 67, u 68, u 69, u 70, u 71, u 72, u 73, u 74, u 75, u 76, u 77, u 78, u 79, u 80, u 81, u 82, u 83, u 84, u 85, u 86, u 87, u 88, u 89, u 90, u 91, u 92, u 93, u 94, u 95, u 96, u 97, u 98, u 99, u 100, u 101, u 102, u 103, u 104, u 105, u 106, u 107, u 108, u 109, u 110, u 111, u 112, u 113, u 114, u 115, u 116, u 117, u 118, u 119, u 120, u 121, u 122, u 123, u 124, u 125, u 126, u 127, u 128, u 129, u 130, u 131, u 132, u 133, u 134, u 135, u 136, u 137, u 138, u 139, u 140, u 141, u 142, u 143, u 144, u 145, u 146, u 147, u 148, u 149, u 150, u 151, u 152, u 153, u 154, u 155, u 156, u 157, u 158, u 159, u 160, u 161, u 162, u 163, u 164, u 165, u 166, u 167, u 168, u 169, u 170, u 171, u 172, u 173, u 174, u 175, u 176, u 177, u 178, u 179, u 180, u 181, u 182, u 183, u 184, u 185, u 186, u 187, u 188, u 189, u 190, u 191, u 192, u 193, u 194, u 195, u 196, u 197, u 198, u 199, u 200, u 201, u 202, u 203, u 204, u 205, u 206, u 207, u 208, u 209, u 210, u 211, undef], []⟩ wr := by
  subst hA
  have HLEN := Lib.hid hlen
  clear hlen
  have hkl : (k : Int) < (len : Int) := by omega
  obtain ⟨r4, hr4⟩ : ∃ r4, r4 = reg % 4 := ⟨_, rfl⟩
  have hre : ((reg : Int) % 4) = (r4 : Int) := by omega
  have kr := fun W => conv_u8 (r4 : Int) (by omega) (by omega) W
  have kw := fun W => conv_u8 (which : Int) (by omega) (by omega) W
  obtain ⟨q, hq⟩ : ∃ q, q = which % m := ⟨_, rfl⟩
  have hqe : ((which : Int) % (m : Int)) = (q : Int) := by rw [hq]; simp
  have HQ := Lib.hid hq
  have HK := Lib.hid hkk
  have HR := Lib.hid hr4
  clear hq hkk hr4
  have hk8 : (kind : Int) % 8 = ((4 : Nat) : Int) := by have := HK.out; omega
  rw [← HQ.out] at hsq
  have hqm : q < m := by rw [HQ.out]; exact Nat.mod_lt _ hm0
  have hrw : (ops.map SOp.cells)[q]? = some (SOp.cells ⟨⟨ckind, cop, false, creg, cval, false⟩, false, sdn, sres, sat⟩) := by rw [List.getElem?_map, hsq]; rfl
  obtain ⟨go, co', hvo, hgb, hgo⟩ := hoo.pos (by rw [List.length_map, ← HM.out]; exact hm0)
  injection hvo with hv1 hv2 hv3
  subst hv1
  clear hv2 hv3
  have HSQ := Lib.hid hsq
  have HRW := Lib.hid hrw
  have hqI : (q : Int) < (m : Int) := by omega
  have hmI : (0 : Int) < (m : Int) := by omega
  have hmz : ¬ (m : Int) = 0 := by omega
  have hgo1 : go ≠ wr.heap.size := by omega
  have hgo2 : go ≠ wr.heap.size + 1 := by omega
  clear hsq hrw
  have o0 := hoo.cell HRW.out (j := 0) rfl
  have o1 := hoo.cell HRW.out (j := 1) rfl
  have o2 := hoo.cell HRW.out (j := 2) rfl
  have o3 := hoo.cell HRW.out (j := 3) rfl
  have o4 := hoo.cell HRW.out (j := 4) rfl
  have o5 := hoo.cell HRW.out (j := 5) rfl
  have o6 := hoo.cell HRW.out (j := 6) rfl
  have o7 := hoo.cell HRW.out (j := 7) rfl
  have o8 := hoo.cell HRW.out (j := 8) rfl
  have o9 := hoo.cell HRW.out (j := 9) rfl
  have f6 := hoo.frozen (q * 10 + 6)
  have f7 := hoo.frozen (q * 10 + 7)
  have f8 := hoo.frozen (q * 10 + 8)
  have f9 := hoo.frozen (q * 10 + 9)
  simp only [Nat.add_zero] at o0
  have n_l := hol.apart hoo (by decide)
  have n_c := hoc.apart hoo (by decide)
  have HN : Hid (stoTo acts (k + 1) = stEx ⟨l, ops, ch, safe, n⟩ q ⟨⟨ckind, cop, false, creg, cval, false⟩, false, sdn, sres, sat⟩) := by
    unfold Hid
    rw [HS.out]
    simp only [stoStep, ← HK.out, ← HM.out, ← HQ.out, HSQ.out]
    rfl
  clear HS HR HQ
  have HE : Hid ((stEx ⟨l, ops, ch, safe, n⟩ q ⟨⟨ckind, cop, false, creg, cval, false⟩, false, sdn, sres, sat⟩).ops.map SOp.cells = ((ops.map SOp.cells).set q (((SOp.cells ⟨⟨ckind, cop, false, creg, cval, false⟩, false, sdn, sres, sat⟩).set 6 (.bool true)).set 9 (.int .i64 (ch.length : Int)))).set q ((((SOp.cells ⟨⟨ckind, cop, false, creg, cval, false⟩, false, sdn, sres, sat⟩).set 6 (.bool true)).set 9 (.int .i64 (ch.length : Int))).set 8 (.int .i64 (valC ch creg)))) := by
    unfold Hid
    rw [List.set_set]
    simp [stEx, opEx, chEx, List.map_set, SOp.cells, Ev.cells]
  have HV := Lib.hid (fun W (h : OwS W w.heap.size 96 2 (.slice Ac ch.length cc) (ch.map chCells)) => stval_any ch Ac cc W.heap.size creg W h.reads' (by omega))
  clear HK
  conv => arg 2; whnf
  go_wp2_with fail
  refine (HV.out _ ((((hoc.far (p := ⟨go, q * 10 + 6, none⟩) n_c _).far (p := ⟨go, q * 10 + 9, none⟩) n_c _).alloc _).alloc _)).mono ?_
  rintro r w5 ⟨rfl, rfl⟩
  go_wp2
  refine ⟨sto_mk (k + 1) (by omega) ⟨by rw [HN.out]; exact (((((hol.far (p := ⟨go, q * 10 + 6, none⟩) n_l _).far (p := ⟨go, q * 10 + 9, none⟩) n_l _).far (p := ⟨go, q * 10 + 8, none⟩) n_l _).alloc _).alloc _), by rw [HN.out]; rw [HE.out]; exact ((((hoo.stored2 HRW.out _ _).set (k := q) (j := 8) (List.getElem?_set_self (by rw [List.length_map]; have := HM.out; omega)) (by omega) _).1).alloc _).alloc _, by rw [HN.out]; exact (((((hoc.far (p := ⟨go, q * 10 + 6, none⟩) n_c _).far (p := ⟨go, q * 10 + 9, none⟩) n_c _).far (p := ⟨go, q * 10 + 8, none⟩) n_c _).alloc _).alloc _), ((((hb.setCell (p := ⟨go, q * 10 + 6, none⟩) hgb _).setCell (p := ⟨go, q * 10 + 9, none⟩) hgb _).setCell (p := ⟨go, q * 10 + 8, none⟩) hgb _).alloc (by simp; omega) _).alloc (by simp; omega) _⟩ (by rw [HN.out]; rfl) (by rw [HN.out]; rfl) (by go_num) rfl, by simp [StoM, intOf]; omega⟩
set_option maxHeartbeats 4000000 in
set_option maxRecDepth 1000000 in
theorem sto_exread5 (acts : List ActN) (len : Nat) (hlen : len = acts.length) (w wr : World) (u : Nat → Value) (u3 : Value) (A : Option Addr) (c k : Nat) (hk : k < len) (hl : len ≤ 1000) (b off : Nat) (hA : A = some ⟨b, off, none⟩)
    (l : List Ev) (ops : List SOp) (ch : List (Int × Int)) (safe n kind reg which m : Nat) (Ao : Option Addr) (co : Nat) (Ac : Option Addr) (cc : Nat)
    (hn1 : l.length ≤ k) (hn2 : ops.length ≤ k) (hn3 : ch.length ≤ k) (hn4 : n ≤ k) (hsf : safe ≤ ch.length) (hcc1 : ch.length ≤ cc) (hb1 : kind < 256) (hb2 : reg < 256) (hb3 : which < 256)
    (a0 : wr.cell? ⟨b, off + k * 3, none⟩ = some (.int .u8 kind)) (a1 : wr.cell? ⟨b, off + k * 3 + 1, none⟩ = some (.int .u8 reg)) (a2 : wr.cell? ⟨b, off + k * 3 + 2, none⟩ = some (.int .u8 which))
    (hol : OwS wr w.heap.size 39 6 u3 (l.map Ev.cells)) (hoo : OwS wr w.heap.size 94 10 (.slice Ao m co) (ops.map SOp.cells)) (hoc : OwS wr w.heap.size 96 2 (.slice Ac ch.length cc) (ch.map chCells)) (hb : Below w.heap.size w wr) (hz : w.heap.size ≤ wr.heap.size)
    (HM : Hid (m = ops.length)) (HS : Hid (stoTo acts (k + 1) = stoStep ⟨l, ops, ch, safe, n⟩ ⟨kind, reg, which⟩)) (Q0 : Exit → Act → World → Prop) (hkk : 5 = kind % 8) (hm0 : 0 < m) (ckind cop creg cval sres : Int) (sat : Nat) (sdn : Bool) (hsq : ops[which % m]? = some ⟨⟨ckind, cop, false, creg, cval, false⟩, false, sdn, sres, sat⟩) :
    Code.wp Try.prog stoBody (Exit.then (fun a' w' => StoI acts w A len c a' w' ∧ StoM len a' w' < StoM len ⟨#[(.slice A len c), undef, .slice none 0 0, u3, (.slice Ao m co), (.slice Ac ch.length cc), .int .i64 safe, .int .i64 n, .int .i64 k, u 9, u 10, u 11, u 12, u 13, u 14, u 15, u 16, u 17, u 18, u 19, u 20, u 21, u 22, u 23, u 24, u 25, u 26, u 27, u 28, u 29, u 30, u 31, u 32, u 33, u 34, u 35, u 36, u 37, u 38, u 39, u 40, u 41, u 42, u 43, u 44, u 45, u 46, u 47, u 48, u 49, u 50, u 51, u 52, u 53, u 54, u 55, u 56, u 57, u 58, u 59, u 60, u 61, u 62, u 63, u 64, u 65, u 66, u 67, u 68, u 69, u 70, u 71, u 72, u 73, u 74, u 75, u 76, u 77, u 78, u 79, u 80, u 81, u 82, u 83, u 84, u 85, u 86, u 87, u 88, u 89, u 90, u 91, u 92, u 93, u 94, u 95, u 96, u 97, u 98, u 99, u 100, u 101, u 102, u 103, u 104, u 105, u 106, u 107, u 108, u 109, u 110, u 111, u 112, u 113, u 114, u 115, u 116, u 117, u 118, u 119, u 120, u 121, u 122, u 123, u 124, u 125, u 126, u 127, u 128, u 129, u 130, u 131, u 132, u 133, u 134, u 135, u 136, u 137, u 138, u 139, u 140, u 141, u 142, u 143, u 144, u 145, u 146, u 147, u 148, u 149, u 150, u 151, u 152, u 153, u 154, u 155, u 156, u 157, u 158, u 159, u 160, u 161, u 162, u 163, u 164, u 165, u 166, u 167, u 168, u 169, u 170, u 171, u 172, u 173, u 174, u 175, u 176, u 177, u 178, u 179, u 180, u 181, u 182, u 183, u 184, u 185, u 186, u 187, u 188, u 189, u 190, u 191, u 192, u 193, u 194, u 195, u 196, u 197, u 198, u 199, u 200, u 201, u 202, u 203, u 204, u 205, u 206, u 207, u 208, u 209, u 210, u 211, undef], []⟩ wr) Q0) ⟨#[(.slice A len c), undef, .slice none 0 0, u3, (.slice Ao m co), (.slice Ac ch.length cc), .int .i64 safe, .int .i64 n, .int .i64 k, u 9, u 10, u 11, u 12, u 13, u 14, u 15, u 16, u 17, u 18, u 19, u 20, u 21, u 22, u 23, u 24, u 25, u 26, u 27, u 28, u 29, u 30, u 31, u 32, u 33, u 34, u 35, u 36, u 37, u 38, u 39, u 40, u 41, u 42, u 43, u 44, u 45, u 46, u 47, u 48, u 49, u 50, u 51, u 52, u 53, u 54, u 55, u 56, u 57, u 58, u 59, u 60, u 61, u 62, u 63, u 64, u 65, u 66, u 67, u 68, u 69, u 70, u 71, u 72, u 73, u 74, u 75, u 76, u 77, u 78, u 79, u 80, u 81, u 82, u 83, u 84, u 85, u 86, u 87, u 88, u 89, u 90, u 91, u 92, u 93, u 94, u 95, u 96, u 97, u 98, u 99, u 100, u 101, u 102, u 103, u 104, u 105, u 106, u 107, u 108, u 109, u 110, u 111, u 112, u 113, u 114, u 115, u 116, u 117, u 118, u 119, u 120, u 121, u 122, u 123, u 124, u 125, u 126, u 127, u 128, u 129, u 130, u 131, u 132, u 133, u 134, u 135, u 136, u 137, u 138, u 139, u 140, u 141, u 142, u 143, u 144, u 145, u 146, u 147, u 148, u 149, u 150, u 151, u 152, u 153, u 154, u 155, u 156, u 157, u 158, u 159, u 160, u 161, u 162, u 163, u 164, u 165, u 166, u 167, u 168, u 169, u 170, u 171, u 172, u 173, u 174, u 175, u 176, u 177, u 178, u 179, u 180, u 181, u 182, u 183, u 184, u 185, u 186, u 187, u 188, u 189, u 190, u 191, u 192, u 193, u 194, u 195, u 196, u 197, u 198, u 199, u 200, u 201, u 202, u 203, u 204, u 205, u 206, u 207, u 208, u 209, u 210, u 211, undef], []⟩ wr := by
  subst hA
  have HLEN := Lib.hid hlen
  clear hlen
  have hkl : (k : Int) < (len : Int) := by omega
  obtain ⟨r4, hr4⟩ : ∃ r4, r4 = reg % 4 := ⟨_, rfl⟩
  have hre : ((reg : Int) % 4) = (r4 : Int) := by omega
  have kr := fun W => conv_u8 (r4 : Int) (by omega) (by omega) W
  have kw := fun W => conv_u8 (which : Int) (by omega) (by omega) W
  obtain ⟨q, hq⟩ : ∃ q, q = which % m := ⟨_, rfl⟩
  have hqe : ((which : Int) % (m : Int)) = (q : Int) := by rw [hq]; simp
  have HQ := Lib.hid hq
  have HK := Lib.hid hkk
  have HR := Lib.hid hr4
  clear hq hkk hr4
  have hk8 : (kind : Int) % 8 = ((5 : Nat) : Int) := by have := HK.out; omega
  rw [← HQ.out] at hsq
  have hqm : q < m := by rw [HQ.out]; exact Nat.mod_lt _ hm0
  have hrw : (ops.map SOp.cells)[q]? = some (SOp.cells ⟨⟨ckind, cop, false, creg, cval, false⟩, false, sdn, sres, sat⟩) := by rw [List.getElem?_map, hsq]; rfl
  obtain ⟨go, co', hvo, hgb, hgo⟩ := hoo.pos (by rw [List.length_map, ← HM.out]; exact hm0)
  injection hvo with hv1 hv2 hv3
  subst hv1
  clear hv2 hv3
  have HSQ := Lib.hid hsq
  have HRW := Lib.hid hrw
  have hqI : (q : Int) < (m : Int) := by omega
  have hmI : (0 : Int) < (m : Int) := by omega
  have hmz : ¬ (m : Int) = 0 := by omega
  have hgo1 : go ≠ wr.heap.size := by omega
  have hgo2 : go ≠ wr.heap.size + 1 := by omega
  clear hsq hrw
  have o0 := hoo.cell HRW.out (j := 0) rfl
  have o1 := hoo.cell HRW.out (j := 1) rfl
  have o2 := hoo.cell HRW.out (j := 2) rfl
  have o3 := hoo.cell HRW.out (j := 3) rfl
  have o4 := hoo.cell HRW.out (j := 4) rfl
  have o5 := hoo.cell HRW.out (j := 5) rfl
  have o6 := hoo.cell HRW.out (j := 6) rfl
  have o7 := hoo.cell HRW.out (j := 7) rfl
  have o8 := hoo.cell HRW.out (j := 8) rfl
  have o9 := hoo.cell HRW.out (j := 9) rfl
  have f6 := hoo.frozen (q * 10 + 6)
  have f7 := hoo.frozen (q * 10 + 7)
  have f8 := hoo.frozen (q * 10 + 8)
  have f9 := hoo.frozen (q * 10 + 9)
  simp only [Nat.add_zero] at o0
  have n_l := hol.apart hoo (by decide)
  have n_c := hoc.apart hoo (by decide)
  have HN : Hid (stoTo acts (k + 1) = stEx ⟨l, ops, ch, safe, n⟩ q ⟨⟨ckind, cop, false, creg, cval, false⟩, false, sdn, sres, sat⟩) := by
    unfold Hid
    rw [HS.out]
    simp only [stoStep, ← HK.out, ← HM.out, ← HQ.out, HSQ.out]
    rfl
  clear HS HR HQ
  have HE : Hid ((stEx ⟨l, ops, ch, safe, n⟩ q ⟨⟨ckind, cop, false, creg, cval, false⟩, false, sdn, sres, sat⟩).ops.map SOp.cells = ((ops.map SOp.cells).set q (((SOp.cells ⟨⟨ckind, cop, false, creg, cval, false⟩, false, sdn, sres, sat⟩).set 6 (.bool true)).set 9 (.int .i64 (ch.length : Int)))).set q ((((SOp.cells ⟨⟨ckind, cop, false, creg, cval, false⟩, false, sdn, sres, sat⟩).set 6 (.bool true)).set 9 (.int .i64 (ch.length : Int))).set 8 (.int .i64 (valC ch creg)))) := by
    unfold Hid
    rw [List.set_set]
    simp [stEx, opEx, chEx, List.map_set, SOp.cells, Ev.cells]
  have HV := Lib.hid (fun W (h : OwS W w.heap.size 96 2 (.slice Ac ch.length cc) (ch.map chCells)) => stval_any ch Ac cc W.heap.size creg W h.reads' (by omega))
  clear HK
  conv => arg 2; whnf
  go_wp2_with fail
  refine (HV.out _ ((((hoc.far (p := ⟨go, q * 10 + 6, none⟩) n_c _).far (p := ⟨go, q * 10 + 9, none⟩) n_c _).alloc _).alloc _)).mono ?_
  rintro r w5 ⟨rfl, rfl⟩
  go_wp2
  refine ⟨sto_mk (k + 1) (by omega) ⟨by rw [HN.out]; exact (((((hol.far (p := ⟨go, q * 10 + 6, none⟩) n_l _).far (p := ⟨go, q * 10 + 9, none⟩) n_l _).far (p := ⟨go, q * 10 + 8, none⟩) n_l _).alloc _).alloc _), by rw [HN.out]; rw [HE.out]; exact ((((hoo.stored2 HRW.out _ _).set (k := q) (j := 8) (List.getElem?_set_self (by rw [List.length_map]; have := HM.out; omega)) (by omega) _).1).alloc _).alloc _, by rw [HN.out]; exact (((((hoc.far (p := ⟨go, q * 10 + 6, none⟩) n_c _).far (p := ⟨go, q * 10 + 9, none⟩) n_c _).far (p := ⟨go, q * 10 + 8, none⟩) n_c _).alloc _).alloc _), ((((hb.setCell (p := ⟨go, q * 10 + 6, none⟩) hgb _).setCell (p := ⟨go, q * 10 + 9, none⟩) hgb _).setCell (p := ⟨go, q * 10 + 8, none⟩) hgb _).alloc (by simp; omega) _).alloc (by simp; omega) _⟩ (by rw [HN.out]; rfl) (by rw [HN.out]; rfl) (by go_num) rfl, by simp [StoM, intOf]; omega⟩
set_option maxHeartbeats 4000000 in
set_option maxRecDepth 1000000 in
theorem sto_exflush4 (acts : List ActN) (len : Nat) (hlen : len = acts.length) (w wr : World) (u : Nat → Value) (u3 : Value) (A : Option Addr) (c k : Nat) (hk : k < len) (hl : len ≤ 1000) (b off : Nat) (hA : A = some ⟨b, off, none⟩)
    (l : List Ev) (ops : List SOp) (ch : List (Int × Int)) (safe n kind reg which m : Nat) (Ao : Option Addr) (co : Nat) (Ac : Option Addr) (cc : Nat)
    (hn1 : l.length ≤ k) (hn2 : ops.length ≤ k) (hn3 : ch.length ≤ k) (hn4 : n ≤ k) (hsf : safe ≤ ch.length) (hcc1 : ch.length ≤ cc) (hb1 : kind < 256) (hb2 : reg < 256) (hb3 : which < 256)
    (a0 : wr.cell? ⟨b, off + k * 3, none⟩ = some (.int .u8 kind)) (a1 : wr.cell? ⟨b, off + k * 3 + 1, none⟩ = some (.int .u8 reg)) (a2 : wr.cell? ⟨b, off + k * 3 + 2, none⟩ = some (.int .u8 which))
    (hol : OwS wr w.heap.size 39 6 u3 (l.map Ev.cells)) (hoo : OwS wr w.heap.size 94 10 (.slice Ao m co) (ops.map SOp.cells)) (hoc : OwS wr w.heap.size 96 2 (.slice Ac ch.length cc) (ch.map chCells)) (hb : Below w.heap.size w wr) (hz : w.heap.size ≤ wr.heap.size)
    (HM : Hid (m = ops.length)) (HS : Hid (stoTo acts (k + 1) = stoStep ⟨l, ops, ch, safe, n⟩ ⟨kind, reg, which⟩)) (Q0 : Exit → Act → World → Prop) (hkk : 4 = kind % 8) (hm0 : 0 < m) (ckind cop creg cval sres : Int) (sat : Nat) (sdn : Bool) (hsq : ops[which % m]? = some ⟨⟨ckind, cop, false, creg, cval, true⟩, false, sdn, sres, sat⟩) :
    Code.wp Try.prog stoBody (Exit.then (fun a' w' => StoI acts w A len c a' w' ∧ StoM len a' w' < StoM len ⟨#[(.slice A len c), undef, .slice none 0 0, u3, (.slice Ao m co), (.slice Ac ch.length cc), .int .i64 safe, .int .i64 n, .int .i64 k, u 9, u 10, u 11, u 12, u 13, u 14, u 15, u 16, u 17, u 18, u 19, u 20, u 21, u 22, u 23, u 24, u 25, u 26, u 27, u 28, u 29, u 30, u 31, u 32, u 33, u 34, u 35, u 36, u 37, u 38, u 39, u 40, u 41, u 42, u 43, u 44, u 45, u 46, u 47, u 48, u 49, u 50, u 51, u 52, u 53, u 54, u 55, u 56, u 57, u 58, u 59, u 60, u 61, u 62, u 63, u 64, u 65, u 66, u 67, u 68, u 69, u 70, u 71, u 72, u 73, u 74, u 75, u 76, u 77, u 78, u 79, u 80, u 81, u 82, u 83, u 84, u 85, u 86, u 87, u 88, u 89, u 90, u 91, u 92, u 93, u 94, u 95, u 96, u 97, u 98, u 99, u 100, u 101, u 102, u 103, u 104, u 105, u 106, u 107, u 108, u 109, u 110, u 111, u 112, u 113, u 114, u 115, u 116, u 117, u 118, u 119, u 120, u 121, u 122, u 123, u 124, u 125, u 126, u 127, u 128, u 129, u 130, u 131, u 132, u 133, u 134, u 135, u 136, u 137, u 138, u 139, u 140, u 141, u 142, u 143, u 144, u 145, u 146, u 147, u 148, u 149, u 150, u 151, u 152, u 153, u 154, u 155, u 156, u 157, u 158, u 159, u 160, u 161, u 162, u 163, u 164, u 165, u 166, u 167, u 168, u 169, u 170, u 171, u 172, u 173, u 174, u 175, u 176, u 177, u 178, u 179, u 180, u 181, u 182, u 183, u 184, u 185, u 186, u 187, u 188, u 189, u 190, u 191, u 192, u 193, u 194, u 195, u 196, u 197, u 198, u 199, u 200, u 201, u 202, u 203, u 204, u 205, u 206, u 207, u 208, u 209, u 210, u 211, undef], []⟩ wr) Q0) ⟨#[(.slice A len c), undef, .slice none 0 0, u3, (.slice Ao m co), (.slice Ac ch.length cc), .int .i64 safe, .int .i64 n, .int .i64 k, u 9, u 10, u 11, u 12, u 13, u 14, u 15, u 16, u 17, u 18, u 19, u 20, u 21, u 22, u 23, u 24, u 25, u 26, u 27, u 28, u 29, u 30, u 31, u 32, u 33, u 34, u 35, u 36, u 37, u 38, u 39, u 40, u 41, u 42, u 43, u 44, u 45, u 46, u 47, u 48, u 49, u 50, u 51, u 52, u 53, u 54, u 55, u 56, u 57, u 58, u 59, u 60, u 61, u 62, u 63, u 64, u 65, u 66, u 67, u 68, u 69, u 70, u 71, u 72, u 73, u 74, u 75, u 76, u 77, u 78, u 79, u 80, u 81, u 82, u 83, u 84, u 85, u 86, u 87, u 88, u 89, u 90, u 91, u 92, u 93, u 94, u 95, u 96, u 97, u 98, u 99, u 100, u 101, u 102, u 103, u 104, u 105, u 106, u 107, u 108, u 109, u 110, u 111, u 112, u 113, u 114, u 115, u 116, u 117, u 118, u 119, u 120, u 121, u 122, u 123, u 124, u 125, u 126, u 127, u 128, u 129, u 130, u 131, u 132, u 133, u 134, u 135, u 136, u 137, u 138, u 139, u 140, u 141, u 142, u 143, u 144, u 145, u 146, u 147, u 148, u 149, u 150, u 151, u 152, u 153, u 154, u 155, u 156, u 157, u 158, u 159, u 160, u 161, u 162, u 163, u 164, u 165, u 166, u 167, u 168, u 169, u 170, u 171, u 172, u 173, u 174, u 175, u 176, u 177, u 178, u 179, u 180, u 181, u 182, u 183, u 184, u 185, u 186, u 187, u 188, u 189, u 190, u 191, u 192, u 193, u 194, u 195, u 196, u 197, u 198, u 199, u 200, u 201, u 202, u 203, u 204, u 205, u 206, u 207, u 208, u 209, u 210, u 211, undef], []⟩ wr := by
  subst hA
  have HLEN := Lib.hid hlen
  clear hlen
  have hkl : (k : Int) < (len : Int) := by omega
  obtain ⟨r4, hr4⟩ : ∃ r4, r4 = reg % 4 := ⟨_, rfl⟩
  have hre : ((reg : Int) % 4) = (r4 : Int) := by omega
  have kr := fun W => conv_u8 (r4 : Int) (by omega) (by omega) W
  have kw := fun W => conv_u8 (which : Int) (by omega) (by omega) W
  obtain ⟨q, hq⟩ : ∃ q, q = which % m := ⟨_, rfl⟩
  have hqe : ((which : Int) % (m : Int)) = (q : Int) := by rw [hq]; simp
  have HQ := Lib.hid hq
  have HK := Lib.hid hkk
  have HR := Lib.hid hr4
  clear hq hkk hr4
  have hk8 : (kind : Int) % 8 = ((4 : Nat) : Int) := by have := HK.out; omega
  rw [← HQ.out] at hsq
  have hqm : q < m := by rw [HQ.out]; exact Nat.mod_lt _ hm0
  have hrw : (ops.map SOp.cells)[q]? = some (SOp.cells ⟨⟨ckind, cop, false, creg, cval, true⟩, false, sdn, sres, sat⟩) := by rw [List.getElem?_map, hsq]; rfl
  obtain ⟨go, co', hvo, hgb, hgo⟩ := hoo.pos (by rw [List.length_map, ← HM.out]; exact hm0)
  injection hvo with hv1 hv2 hv3
  subst hv1
  clear hv2 hv3
  have HSQ := Lib.hid hsq
  have HRW := Lib.hid hrw
  have hqI : (q : Int) < (m : Int) := by omega
  have hmI : (0 : Int) < (m : Int) := by omega
  have hmz : ¬ (m : Int) = 0 := by omega
  have hgo1 : go ≠ wr.heap.size := by omega
  have hgo2 : go ≠ wr.heap.size + 1 := by omega
  clear hsq hrw
  have o0 := hoo.cell HRW.out (j := 0) rfl
  have o1 := hoo.cell HRW.out (j := 1) rfl
  have o2 := hoo.cell HRW.out (j := 2) rfl
  have o3 := hoo.cell HRW.out (j := 3) rfl
  have o4 := hoo.cell HRW.out (j := 4) rfl
  have o5 := hoo.cell HRW.out (j := 5) rfl
  have o6 := hoo.cell HRW.out (j := 6) rfl
  have o7 := hoo.cell HRW.out (j := 7) rfl
  have o8 := hoo.cell HRW.out (j := 8) rfl
  have o9 := hoo.cell HRW.out (j := 9) rfl
  have f6 := hoo.frozen (q * 10 + 6)
  have f7 := hoo.frozen (q * 10 + 7)
  have f8 := hoo.frozen (q * 10 + 8)
  have f9 := hoo.frozen (q * 10 + 9)
  simp only [Nat.add_zero] at o0
  have n_l := hol.apart hoo (by decide)
  have n_c := hoc.apart hoo (by decide)
  have HN : Hid (stoTo acts (k + 1) = stEx ⟨l, ops, ch, safe, n⟩ q ⟨⟨ckind, cop, false, creg, cval, true⟩, false, sdn, sres, sat⟩) := by
    unfold Hid
    rw [HS.out]
    simp only [stoStep, ← HK.out, ← HM.out, ← HQ.out, HSQ.out]
    rfl
  clear HS HR HQ
  have HE : Hid ((stEx ⟨l, ops, ch, safe, n⟩ q ⟨⟨ckind, cop, false, creg, cval, true⟩, false, sdn, sres, sat⟩).ops.map SOp.cells = (ops.map SOp.cells).set q (((SOp.cells ⟨⟨ckind, cop, false, creg, cval, true⟩, false, sdn, sres, sat⟩).set 6 (.bool true)).set 9 (.int .i64 (ch.length : Int)))) := by
    unfold Hid
    simp [stEx, opEx, chEx, List.map_set, SOp.cells, Ev.cells]
  clear HK
  conv => arg 2; whnf
  go_wp2
  refine ⟨sto_mk (k + 1) (by omega) ⟨by rw [HN.out]; exact ((((hol.far (p := ⟨go, q * 10 + 6, none⟩) n_l _).far (p := ⟨go, q * 10 + 9, none⟩) n_l _).alloc _).alloc _), by rw [HN.out]; rw [HE.out]; exact ((hoo.stored2 HRW.out _ _).alloc _).alloc _, by rw [HN.out]; exact ((((hoc.far (p := ⟨go, q * 10 + 6, none⟩) n_c _).far (p := ⟨go, q * 10 + 9, none⟩) n_c _).alloc _).alloc _), (((hb.setCell (p := ⟨go, q * 10 + 6, none⟩) hgb _).setCell (p := ⟨go, q * 10 + 9, none⟩) hgb _).alloc (by simp; omega) _).alloc (by simp; omega) _⟩ (by rw [HN.out]; rfl) (by rw [HN.out]; rfl) (by go_num) rfl, by simp [StoM, intOf]; omega⟩
set_option maxHeartbeats 4000000 in
set_option maxRecDepth 1000000 in
theorem sto_exflush5 (acts : List ActN) (len : Nat) (hlen : len = acts.length) (w wr : World) (u : Nat → Value) (u3 : Value) (A : Option Addr) (c k : Nat) (hk : k < len) (hl : len ≤ 1000) (b off : Nat) (hA : A = some ⟨b, off, none⟩)
    (l : List Ev) (ops : List SOp) (ch : List (Int × Int)) (safe n kind reg which m : Nat) (Ao : Option Addr) (co : Nat) (Ac : Option Addr) (cc : Nat)
    (hn1 : l.length ≤ k) (hn2 : ops.length ≤ k) (hn3 : ch.length ≤ k) (hn4 : n ≤ k) (hsf : safe ≤ ch.length) (hcc1 : ch.length ≤ cc) (hb1 : kind < 256) (hb2 : reg < 256) (hb3 : which < 256)
    (a0 : wr.cell? ⟨b, off + k * 3, none⟩ = some (.int .u8 kind)) (a1 : wr.cell? ⟨b, off + k * 3 + 1, none⟩ = some (.int .u8 reg)) (a2 : wr.cell? ⟨b, off + k * 3 + 2, none⟩ = some (.int .u8 which))
    (hol : OwS wr w.heap.size 39 6 u3 (l.map Ev.cells)) (hoo : OwS wr w.heap.size 94 10 (.slice Ao m co) (ops.map SOp.cells)) (hoc : OwS wr w.heap.size 96 2 (.slice Ac ch.length cc) (ch.map chCells)) (hb : Below w.heap.size w wr) (hz : w.heap.size ≤ wr.heap.size)
    (HM : Hid (m = ops.length)) (HS : Hid (stoTo acts (k + 1) = stoStep ⟨l, ops, ch, safe, n⟩ ⟨kind, reg, which⟩)) (Q0 : Exit → Act → World → Prop) (hkk : 5 = kind % 8) (hm0 : 0 < m) (ckind cop creg cval sres : Int) (sat : Nat) (sdn : Bool) (hsq : ops[which % m]? = some ⟨⟨ckind, cop, false, creg, cval, true⟩, false, sdn, sres, sat⟩) :
    Code.wp Try.prog stoBody (Exit.then (fun a' w' => StoI acts w A len c a' w' ∧ StoM len a' w' < StoM len ⟨#[(.slice A len c), undef, .slice none 0 0, u3, (.slice Ao m co), (.slice Ac ch.length cc), .int .i64 safe, .int .i64 n, .int .i64 k, u 9, u 10, u 11, u 12, u 13, u 14, u 15, u 16, u 17, u 18, u 19, u 20, u 21, u 22, u 23, u 24, u 25, u 26, u 27, u 28, u 29, u 30, u 31, u 32, u 33, u 34, u 35, u 36, u 37, u 38, u 39, u 40, u 41, u 42, u 43, u 44, u 45, u 46, u 47, u 48, u 49, u 50, u 51, u 52, u 53, u 54, u 55, u 56, u 57, u 58, u 59, u 60, u 61, u 62, u 63, u 64, u 65, u 66, u 67, u 68, u 69, u 70, u 71, u 72, u 73, u 74, u 75, u 76, u 77, u 78, u 79, u 80, u 81, u 82, u 83, u 84, u 85, u 86, u 87, u 88, u 89, u 90, u 91, u 92, u 93, u 94, u 95, u 96, u 97, u 98, u 99, u 100, u 101, u 102, u 103, u 104, u 105, u 106, u 107, u 108, u 109, u 110, u 111, u 112, u 113, u 114, u 115, u 116, u 117, u 118, u 119, u 120, u 121, u 122, u 123, u 124, u 125, u 126, u 127, u 128, u 129, u 130, u 131, u 132, u 133, u 134, u 135, u 136, u 137, u 138, u 139, u 140, u 141, u 142, u 143, u 144, u 145, u 146, u 147, u 148, u 149, u 150, u 151, u 152, u 153, u 154, u 155, u 156, u 157, u 158, u 159, u 160, u 161, u 162, u 163, u 164, u 165, u 166, u 167, u 168, u 169, u 170, u 171, u 172, u 173, u 174, u 175, u 176, u 177, u 178, u 179, u 180, u 181, u 182, u 183, u 184, u 185, u 186, u 187, u 188, u 189, u 190, u 191, u 192, u 193, u 194, u 195, u 196, u 197, u 198, u 199, u 200, u 201, u 202, u 203, u 204, u 205, u 206, u 207, u 208, u 209, u 210, u 211, undef], []⟩ wr) Q0) ⟨#[(.slice A len c), undef, .slice none 0 0, u3, (.slice Ao m co), (.slice Ac ch.length cc), .int .i64 safe, .int .i64 n, .int .i64 k, u 9, u 10, u 11, u 12, u 13, u 14, u 15, u 16, u 17, u 18, u 19, u 20, u 21, u 22, u 23, u 24, u 25, u 26, u 27, u 28, u 29, u 30, u 31, u 32, u 33, u 34, u 35, u 36, u 37, u 38, u 39, u 40, u 41, u 42, u 43, u 44, u 45, u 46, u 47, u 48, u 49, u 50, u 51, u 52, u 53, u 54, u 55, u 56, u 57, u 58, u 59, u 60, u 61, u 62, u 63, u 64, u 65, u 66, u 67, u 68, u 69, u 70, u 71, u 72, u 73, u 74, u 75, u 76, u 77, u 78, u 79, u 80, u 81, u 82, u 83, u 84, u 85, u 86, u 87, u 88, u 89, u 90, u 91, u 92, u 93, u 94, u 95, u 96, u 97, u 98, u 99, u 100, u 101, u 102, u 103, u 104, u 105, u 106, u 107, u 108, u 109, u 110, u 111, u 112, u 113, u 114, u 115, u 116, u 117, u 118, u 119, u 120, u 121, u 122, u 123, u 124, u 125, u 126, u 127, u 128, u 129, u 130, u 131, u 132, u 133, u 134, u 135, u 136, u 137, u 138, u 139, u 140, u 141, u 142, u 143, u 144, u 145, u 146, u 147, u 148, u 149, u 150, u 151, u 152, u 153, u 154, u 155, u 156, u 157, u 158, u 159, u 160, u 161, u 162, u 163, u 164, u 165, u 166, u 167, u 168, u 169, u 170, u 171, u 172, u 173, u 174, u 175, u 176, u 177, u 178, u 179, u 180, u 181, u 182, u 183, u 184, u 185, u 186, u 187, u 188, u 189, u 190, u 191, u 192, u 193, u 194, u 195, u 196, u 197, u 198, u 199, u 200, u 201, u 202, u 203, u 204, u 205, u 206, u 207, u 208, u 209, u 210, u 211, undef], []⟩ wr := by
  subst hA
  have HLEN := Lib.hid hlen
  clear hlen
  have hkl : (k : Int) < (len : Int) := by omega
  obtain ⟨r4, hr4⟩ : ∃ r4, r4 = reg % 4 := ⟨_, rfl⟩
  have hre : ((reg : Int) % 4) = (r4 : Int) := by omega
  have kr := fun W => conv_u8 (r4 : Int) (by omega) (by omega) W
  have kw := fun W => conv_u8 (which : Int) (by omega) (by omega) W
  obtain ⟨q, hq⟩ : ∃ q, q = which % m := ⟨_, rfl⟩
  have hqe : ((which : Int) % (m : Int)) = (q : Int) := by rw [hq]; simp
  have HQ := Lib.hid hq
  have HK := Lib.hid hkk
  have HR := Lib.hid hr4
  clear hq hkk hr4
  have hk8 : (kind : Int) % 8 = ((5 : Nat) : Int) := by have := HK.out; omega
  rw [← HQ.out] at hsq
  have hqm : q < m := by rw [HQ.out]; exact Nat.mod_lt _ hm0
  have hrw : (ops.map SOp.cells)[q]? = some (SOp.cells ⟨⟨ckind, cop, false, creg, cval, true⟩, false, sdn, sres, sat⟩) := by rw [List.getElem?_map, hsq]; rfl
  obtain ⟨go, co', hvo, hgb, hgo⟩ := hoo.pos (by rw [List.length_map, ← HM.out]; exact hm0)
  injection hvo with hv1 hv2 hv3
  subst hv1
  clear hv2 hv3
  have HSQ := Lib.hid hsq
  have HRW := Lib.hid hrw
  have hqI : (q : Int) < (m : Int) := by omega
  have hmI : (0 : Int) < (m : Int) := by omega
  have hmz : ¬ (m : Int) = 0 := by omega
  have hgo1 : go ≠ wr.heap.size := by omega
  have hgo2 : go ≠ wr.heap.size + 1 := by omega
  clear hsq hrw
  have o0 := hoo.cell HRW.out (j := 0) rfl
  have o1 := hoo.cell HRW.out (j := 1) rfl
  have o2 := hoo.cell HRW.out (j := 2) rfl
  have o3 := hoo.cell HRW.out (j := 3) rfl
  have o4 := hoo.cell HRW.out (j := 4) rfl
  have o5 := hoo.cell HRW.out (j := 5) rfl
  have o6 := hoo.cell HRW.out (j := 6) rfl
  have o7 := hoo.cell HRW.out (j := 7) rfl
  have o8 := hoo.cell HRW.out (j := 8) rfl
  have o9 := hoo.cell HRW.out (j := 9) rfl
  have f6 := hoo.frozen (q * 10 + 6)
  have f7 := hoo.frozen (q * 10 + 7)
  have f8 := hoo.frozen (q * 10 + 8)
  have f9 := hoo.frozen (q * 10 + 9)
  simp only [Nat.add_zero] at o0
  have n_l := hol.apart hoo (by decide)
  have n_c := hoc.apart hoo (by decide)
  have HN : Hid (stoTo acts (k + 1) = stEx ⟨l, ops, ch, safe, n⟩ q ⟨⟨ckind, cop, false, creg, cval, true⟩, false, sdn, sres, sat⟩) := by
    unfold Hid
    rw [HS.out]
    simp only [stoStep, ← HK.out, ← HM.out, ← HQ.out, HSQ.out]
    rfl
  clear HS HR HQ
  have HE : Hid ((stEx ⟨l, ops, ch, safe, n⟩ q ⟨⟨ckind, cop, false, creg, cval, true⟩, false, sdn, sres, sat⟩).ops.map SOp.cells = (ops.map SOp.cells).set q (((SOp.cells ⟨⟨ckind, cop, false, creg, cval, true⟩, false, sdn, sres, sat⟩).set 6 (.bool true)).set 9 (.int .i64 (ch.length : Int)))) := by
    unfold Hid
    simp [stEx, opEx, chEx, List.map_set, SOp.cells, Ev.cells]
  clear HK
  conv => arg 2; whnf
  go_wp2
  refine ⟨sto_mk (k + 1) (by omega) ⟨by rw [HN.out]; exact ((((hol.far (p := ⟨go, q * 10 + 6, none⟩) n_l _).far (p := ⟨go, q * 10 + 9, none⟩) n_l _).alloc _).alloc _), by rw [HN.out]; rw [HE.out]; exact ((hoo.stored2 HRW.out _ _).alloc _).alloc _, by rw [HN.out]; exact ((((hoc.far (p := ⟨go, q * 10 + 6, none⟩) n_c _).far (p := ⟨go, q * 10 + 9, none⟩) n_c _).alloc _).alloc _), (((hb.setCell (p := ⟨go, q * 10 + 6, none⟩) hgb _).setCell (p := ⟨go, q * 10 + 9, none⟩) hgb _).alloc (by simp; omega) _).alloc (by simp; omega) _⟩ (by rw [HN.out]; rfl) (by rw [HN.out]; rfl) (by go_num) rfl, by simp [StoM, intOf]; omega⟩
set_option maxHeartbeats 4000000 in
set_option maxRecDepth 1000000 in
theorem sto_exwrite4 (acts : List ActN) (len : Nat) (hlen : len = acts.length) (w wr : World) (u : Nat → Value) (u3 : Value) (A : Option Addr) (c k : Nat) (hk : k < len) (hl : len ≤ 1000) (b off : Nat) (hA : A = some ⟨b, off, none⟩)
    (l : List Ev) (ops : List SOp) (ch : List (Int × Int)) (safe n kind reg which m : Nat) (Ao : Option Addr) (co : Nat) (Ac : Option Addr) (cc : Nat)
    (hn1 : l.length ≤ k) (hn2 : ops.length ≤ k) (hn3 : ch.length ≤ k) (hn4 : n ≤ k) (hsf : safe ≤ ch.length) (hcc1 : ch.length ≤ cc) (hb1 : kind < 256) (hb2 : reg < 256) (hb3 : which < 256)
    (a0 : wr.cell? ⟨b, off + k * 3, none⟩ = some (.int .u8 kind)) (a1 : wr.cell? ⟨b, off + k * 3 + 1, none⟩ = some (.int .u8 reg)) (a2 : wr.cell? ⟨b, off + k * 3 + 2, none⟩ = some (.int .u8 which))
    (hol : OwS wr w.heap.size 39 6 u3 (l.map Ev.cells)) (hoo : OwS wr w.heap.size 94 10 (.slice Ao m co) (ops.map SOp.cells)) (hoc : OwS wr w.heap.size 96 2 (.slice Ac ch.length cc) (ch.map chCells)) (hb : Below w.heap.size w wr) (hz : w.heap.size ≤ wr.heap.size)
    (HM : Hid (m = ops.length)) (HS : Hid (stoTo acts (k + 1) = stoStep ⟨l, ops, ch, safe, n⟩ ⟨kind, reg, which⟩)) (Q0 : Exit → Act → World → Prop) (hkk : 4 = kind % 8) (hm0 : 0 < m) (ckind cop creg cval sres : Int) (sat : Nat) (cba sdn : Bool) (hsq : ops[which % m]? = some ⟨⟨ckind, cop, true, creg, cval, cba⟩, false, sdn, sres, sat⟩) :
    Code.wp Try.prog stoBody (Exit.then (fun a' w' => StoI acts w A len c a' w' ∧ StoM len a' w' < StoM len ⟨#[(.slice A len c), undef, .slice none 0 0, u3, (.slice Ao m co), (.slice Ac ch.length cc), .int .i64 safe, .int .i64 n, .int .i64 k, u 9, u 10, u 11, u 12, u 13, u 14, u 15, u 16, u 17, u 18, u 19, u 20, u 21, u 22, u 23, u 24, u 25, u 26, u 27, u 28, u 29, u 30, u 31, u 32, u 33, u 34, u 35, u 36, u 37, u 38, u 39, u 40, u 41, u 42, u 43, u 44, u 45, u 46, u 47, u 48, u 49, u 50, u 51, u 52, u 53, u 54, u 55, u 56, u 57, u 58, u 59, u 60, u 61, u 62, u 63, u 64, u 65, u 66, u 67, u 68, u 69, u 70, u 71, u 72, u 73, u 74, u 75, u 76, u 77, u 78, u 79, u 80, u 81, u 82, u 83, u 84, u 85, u 86, u 87, u 88, u 89, u 90, u 91, u 92, u 93, u 94, u 95, u 96, u 97, u 98, u 99, u 100, u 101, u 102, u 103, u 104, u 105, u 106, u 107, u 108, u 109, u 110, u 111, u 112, u 113, u 114, u 115, u 116, u 117, u 118, u 119, u 120, u 121, u 122, u 123, u 124, u 125, u 126, u 127, u 128, u 129, u 130, u 131, u 132, u 133, u 134, u 135, u 136, u 137, u 138, u 139, u 140, u 141, u 142, u 143, u 144, u 145, u 146, u 147, u 148, u 149, u 150, u 151, u 152, u 153, u 154, u 155, u 156, u 157, u 158, u 159, u 160, u 161, u 162, u 163, u 164, u 165, u 166, u 167, u 168, u 169, u 170, u 171, u 172, u 173, u 174, u 175, u 176, u 177, u 178, u 179, u 180, u 181, u 182, u 183, u 184, u 185, u 186, u 187, u 188, u 189, u 190, u 191, u 192, u 193, u 194, u 195, u 196, u 197, u 198, u 199, u 200, u 201, u 202, u 203, u 204, u 205, u 206, u 207, u 208, u 209, u 210, u 211, undef], []⟩ wr) Q0) ⟨#[(.slice A len c), undef, .slice none 0 0, u3, (.slice Ao m co), (.slice Ac ch.length cc), .int .i64 safe, .int .i64 n, .int .i64 k, u 9, u 10, u 11, u 12, u 13, u 14, u 15, u 16, u 17, u 18, u 19, u 20, u 21, u 22, u 23, u 24, u 25, u 26, u 27, u 28, u 29, u 30, u 31, u 32, u 33, u 34, u 35, u 36, u 37, u 38, u 39, u 40, u 41, u 42, u 43, u 44, u 45, u 46, u 47, u 48, u 49, u 50, u 51, u 52, u 53, u 54, u 55, u 56, u 57, u 58, u 59, u 60, u 61, u 62, u 63, u 64, u 65, u 66, u 67, u 68, u 69, u 70, u 71, u 72, u 73, u 74, u 75, u 76, u 77, u 78, u 79, u 80, u 81, u 82, u 83, u 84, u 85, u 86, u 87, u 88, u 89, u 90, u 91, u 92, u 93, u 94, u 95, u 96, u 97, u 98, u 99, u 100, u 101, u 102, u 103, u 104, u 105, u 106, u 107, u 108, u 109, u 110, u 111, u 112, u 113, u 114, u 115, u 116, u 117, u 118, u 119, u 120, u 121, u 122, u 123, u 124, u 125, u 126, u 127, u 128, u 129, u 130, u 131, u 132, u 133, u 134, u 135, u 136, u 137, u 138, u 139, u 140, u 141, u 142, u 143, u 144, u 145, u 146, u 147, u 148, u 149, u 150, u 151, u 152, u 153, u 154, u 155, u 156, u 157, u 158, u 159, u 160, u 161, u 162, u 163, u 164, u 165, u 166, u 167, u 168, u 169, u 170, u 171, u 172, u 173, u 174, u 175, u 176, u 177, u 178, u 179, u 180, u 181, u 182, u 183, u 184, u 185, u 186, u 187, u 188, u 189, u 190, u 191, u 192, u 193, u 194, u 195, u 196, u 197, u 198, u 199, u 200, u 201, u 202, u 203, u 204, u 205, u 206, u 207, u 208, u 209, u 210, u 211, undef], []⟩ wr := by
  subst hA
  have HLEN := Lib.hid hlen
  clear hlen
  have hkl : (k : Int) < (len : Int) := by omega
  obtain ⟨r4, hr4⟩ : ∃ r4, r4 = reg % 4 := ⟨_, rfl⟩
  have hre : ((reg : Int) % 4) = (r4 : Int) := by omega
  have kr := fun W => conv_u8 (r4 : Int) (by omega) (by omega) W
  have kw := fun W => conv_u8 (which : Int) (by omega) (by omega) W
  obtain ⟨q, hq⟩ : ∃ q, q = which % m := ⟨_, rfl⟩
  have hqe : ((which : Int) % (m : Int)) = (q : Int) := by rw [hq]; simp
  have HQ := Lib.hid hq
  have HK := Lib.hid hkk
  have HR := Lib.hid hr4
  clear hq hkk hr4
  have hk8 : (kind : Int) % 8 = ((4 : Nat) : Int) := by have := HK.out; omega
  rw [← HQ.out] at hsq
  have hqm : q < m := by rw [HQ.out]; exact Nat.mod_lt _ hm0
  have hrw : (ops.map SOp.cells)[q]? = some (SOp.cells ⟨⟨ckind, cop, true, creg, cval, cba⟩, false, sdn, sres, sat⟩) := by rw [List.getElem?_map, hsq]; rfl
  obtain ⟨go, co', hvo, hgb, hgo⟩ := hoo.pos (by rw [List.length_map, ← HM.out]; exact hm0)
  injection hvo with hv1 hv2 hv3
  subst hv1
  clear hv2 hv3
  have HSQ := Lib.hid hsq
  have HRW := Lib.hid hrw
  have hqI : (q : Int) < (m : Int) := by omega
  have hmI : (0 : Int) < (m : Int) := by omega
  have hmz : ¬ (m : Int) = 0 := by omega
  have hgo1 : go ≠ wr.heap.size := by omega
  have hgo2 : go ≠ wr.heap.size + 1 := by omega
  clear hsq hrw
  have o0 := hoo.cell HRW.out (j := 0) rfl
  have o1 := hoo.cell HRW.out (j := 1) rfl
  have o2 := hoo.cell HRW.out (j := 2) rfl
  have o3 := hoo.cell HRW.out (j := 3) rfl
  have o4 := hoo.cell HRW.out (j := 4) rfl
  have o5 := hoo.cell HRW.out (j := 5) rfl
  have o6 := hoo.cell HRW.out (j := 6) rfl
  have o7 := hoo.cell HRW.out (j := 7) rfl
  have o8 := hoo.cell HRW.out (j := 8) rfl
  have o9 := hoo.cell HRW.out (j := 9) rfl
  have f6 := hoo.frozen (q * 10 + 6)
  have f7 := hoo.frozen (q * 10 + 7)
  have f8 := hoo.frozen (q * 10 + 8)
  have f9 := hoo.frozen (q * 10 + 9)
  simp only [Nat.add_zero] at o0
  have n_l := hol.apart hoo (by decide)
  have n_c := hoc.apart hoo (by decide)
  have HN : Hid (stoTo acts (k + 1) = stEx ⟨l, ops, ch, safe, n⟩ q ⟨⟨ckind, cop, true, creg, cval, cba⟩, false, sdn, sres, sat⟩) := by
    unfold Hid
    rw [HS.out]
    simp only [stoStep, ← HK.out, ← HM.out, ← HQ.out, HSQ.out]
    rfl
  clear HS HR HQ
  have HE : Hid ((stEx ⟨l, ops, ch, safe, n⟩ q ⟨⟨ckind, cop, true, creg, cval, cba⟩, false, sdn, sres, sat⟩).ops.map SOp.cells = (ops.map SOp.cells).set q (((SOp.cells ⟨⟨ckind, cop, true, creg, cval, cba⟩, false, sdn, sres, sat⟩).set 6 (.bool true)).set 9 (.int .i64 ((ch.length : Int) + 1)))) := by
    unfold Hid
    simp [stEx, opEx, chEx, List.map_set, SOp.cells, Ev.cells]
  clear HK
  conv => arg 2; whnf
  go_wp2_with (at_builtin; refine wpList_ap1 rfl (.tmp 126) (.tmp 132) _ rfl elemCh rfl ((hoc.alloc _).alloc _) (chCells (creg, cval)) _ rfl _ rfl (by simp) (chOne _) (by simp [maxLen]; omega) (by simp; omega) (by simp; omega) ?_)
  intro v3 w3 hoc3 hg3 _
  have hb3 : Below w.heap.size w w3 := (((hb.alloc hz _).alloc (by simp; omega) _).alloc (by simp; omega) _).grown hg3 (by simp; omega) (fun g hg => (hoc.lt hg).1)
  have hoo3 := (((hoo.alloc _).alloc _).alloc _).kept hg3 (hoo.ne hoc (by decide))
  have hol3 := (((hol.alloc _).alloc _).alloc _).kept hg3 (hol.ne hoc (by decide))
  obtain ⟨-, -, e2, -, -, e5⟩ := ev_after (e := ⟨ckind, cop, true, creg, cval, cba⟩) hg3 (hoc.fresh (by omega))
  simp only at e2 e5
  have hz3 := hb3.size
  have m_l := hol3.apart hoo3 (by decide)
  have m_c := hoc3.apart hoo3 (by decide)
  clear hg3 hol hoo hoc hb a0 a1 a2 o0 o1 o2 o3 o4 o5 o6 o7 o8 o9 f6 f7 f8 f9 n_l n_c
  have o6 := hoo3.cell HRW.out (j := 6) rfl
  have o9 := hoo3.cell HRW.out (j := 9) rfl
  have f6 := hoo3.frozen (q * 10 + 6)
  have f9 := hoo3.frozen (q * 10 + 9)
  obtain ⟨A3, c3, hv3, -, -⟩ := hoc3.form
  have hln : (ch.map chCells ++ [chCells (creg, cval)]).length = ch.length + 1 := by simp
  rw [hln] at hv3
  subst hv3
  clear hln
  go_wp2
  refine ⟨sto_mk (k + 1) (by omega) ⟨by rw [HN.out]; exact (hol3.far (p := ⟨go, q * 10 + 6, none⟩) m_l _).far (p := ⟨go, q * 10 + 9, none⟩) m_l _, by rw [HN.out]; rw [HE.out]; exact hoo3.stored2 HRW.out _ _, by rw [HN.out]; simp only [stEx, chEx, if_true, List.map_append, List.map_cons, List.map_nil]; exact (hoc3.far (p := ⟨go, q * 10 + 6, none⟩) m_c _).far (p := ⟨go, q * 10 + 9, none⟩) m_c _, (hb3.setCell (p := ⟨go, q * 10 + 6, none⟩) hgb _).setCell (p := ⟨go, q * 10 + 9, none⟩) hgb _⟩ (by rw [HN.out]; rfl) (by rw [HN.out]; rfl) (by go_num) rfl, by simp [StoM, intOf]; omega⟩
set_option maxHeartbeats 4000000 in
set_option maxRecDepth 1000000 in
theorem sto_exwrite5 (acts : List ActN) (len : Nat) (hlen : len = acts.length) (w wr : World) (u : Nat → Value) (u3 : Value) (A : Option Addr) (c k : Nat) (hk : k < len) (hl : len ≤ 1000) (b off : Nat) (hA : A = some ⟨b, off, none⟩)
    (l : List Ev) (ops : List SOp) (ch : List (Int × Int)) (safe n kind reg which m : Nat) (Ao : Option Addr) (co : Nat) (Ac : Option Addr) (cc : Nat)
    (hn1 : l.length ≤ k) (hn2 : ops.length ≤ k) (hn3 : ch.length ≤ k) (hn4 : n ≤ k) (hsf : safe ≤ ch.length) (hcc1 : ch.length ≤ cc) (hb1 : kind < 256) (hb2 : reg < 256) (hb3 : which < 256)
    (a0 : wr.cell? ⟨b, off + k * 3, none⟩ = some (.int .u8 kind)) (a1 : wr.cell? ⟨b, off + k * 3 + 1, none⟩ = some (.int .u8 reg)) (a2 : wr.cell? ⟨b, off + k * 3 + 2, none⟩ = some (.int .u8 which))
    (hol : OwS wr w.heap.size 39 6 u3 (l.map Ev.cells)) (hoo : OwS wr w.heap.size 94 10 (.slice Ao m co) (ops.map SOp.cells)) (hoc : OwS wr w.heap.size 96 2 (.slice Ac ch.length cc) (ch.map chCells)) (hb : Below w.heap.size w wr) (hz : w.heap.size ≤ wr.heap.size)
    (HM : Hid (m = ops.length)) (HS : Hid (stoTo acts (k + 1) = stoStep ⟨l, ops, ch, safe, n⟩ ⟨kind, reg, which⟩)) (Q0 : Exit → Act → World → Prop) (hkk : 5 = kind % 8) (hm0 : 0 < m) (ckind cop creg cval sres : Int) (sat : Nat) (cba sdn : Bool) (hsq : ops[which % m]? = some ⟨⟨ckind, cop, true, creg, cval, cba⟩, false, sdn, sres, sat⟩) :
    Code.wp Try.prog stoBody (Exit.then (fun a' w' => StoI acts w A len c a' w' ∧ StoM len a' w' < StoM len ⟨#[(.slice A len c), undef, .slice none 0 0, u3, (.slice Ao m co), (.slice Ac ch.length cc), .int .i64 safe, .int .i64 n, .int .i64 k, u 9, u 10, u 11, u 12, u 13, u 14, u 15, u 16, u 17, u 18, u 19, u 20, u 21, u 22, u 23, u 24, u 25, u 26, u 27, u 28, u 29, u 30, u 31, u 32, u 33, u 34, u 35, u 36, u 37, u 38, u 39, u 40, u 41, u 42, u 43, u 44, u 45, u 46, u 47, u 48, u 49, u 50, u 51, u 52, u 53, u 54, u 55, u 56, u 57, u 58, u 59, u 60, u 61, u 62, u 63, u 64, u 65, u 66, u 67, u 68, u 69, u 70, u 71, u 72, u 73, u 74, u 75, u 76, u 77, u 78, u 79, u 80, u 81, u 82, u 83, u 84, u 85, u 86, u 87, u 88, u 89, u 90, u 91, u 92, u 93, u 94, u 95, u 96, u 97, u 98, u 99, u 100, u 101, u 102, u 103, u 104, u 105, u 106, u 107, u 108, u 109, u 110, u 111, u 112, u 113, u 114, u 115, u 116, u 117, u 118, u 119, u 120, u 121, u 122, u 123, u 124, u 125, u 126, u 127, u 128, u 129, u 130, u 131, u 132, u 133, u 134, u 135, u 136, u 137, u 138, u 139, u 140, u 141, u 142, u 143, u 144, u 145, u 146, u 147, u 148, u 149, u 150, u 151, u 152, u 153, u 154, u 155, u 156, u 157, u 158, u 159, u 160, u 161, u 162, u 163, u 164, u 165, u 166, u 167, u 168, u 169, u 170, u 171, u 172, u 173, u 174, u 175, u 176, u 177, u 178, u 179, u 180, u 181, u 182, u 183, u 184, u 185, u 186, u 187, u 188, u 189, u 190, u 191, u 192, u 193, u 194, u 195, u 196, u 197, u 198, u 199, u 200, u 201, u 202, u 203, u 204, u 205, u 206, u 207, u 208, u 209, u 210, u 211, undef], []⟩ wr) Q0) ⟨#[(.slice A len c), undef, .slice none 0 0, u3, (.slice Ao m co), (.slice Ac ch.length cc), .int .i64 safe, .int .i64 n, .int .i64 k, u 9, u 10, u 11, u 12, u 13, u 14, u 15, u 16, u 17, u 18, u 19, u 20, u 21, u 22, u 23, u 24, u 25, u 26, u 27, u 28, u 29, u 30, u 31, u 32, u 33, u 34, u 35, u 36, u 37, u 38, u 39, u 40, u 41, u 42, u 43, u 44, u 45, u 46, u 47, u 48, u 49, u 50, u 51, u 52, u 53, u 54, u 55, u 56, u 57, u 58, u 59, u 60, u 61, u 62, u 63, u 64, u 65, u 66, u 67, u 68, u 69, u 70, u 71, u 72, u 73, u 74, u 75, u 76, u 77, u 78, u 79, u 80, u 81, u 82, u 83, u 84, u 85, u 86, u 87, u 88, u 89, u 90, u 91, u 92, u 93, u 94, u 95, u 96, u 97, u 98, u 99, u 100, u 101, u 102, u 103, u 104, u 105, u 106, u 107, u 108, u 109, u 110, u 111, u 112, u 113, u 114, u 115, u 116, u 117, u 118, u 119, u 120, u 121, u 122, u 123, u 124, u 125, u 126, u 127, u 128, u 129, u 130, u 131, u 132, u 133, u 134, u 135, u 136, u 137, u 138, u 139, u 140, u 141, u 142, u 143, u 144, u 145, u 146, u 147, u 148, u 149, u 150, u 151, u 152, u 153, u 154, u 155, u 156, u 157, u 158, u 159, u 160, u 161, u 162, u 163, u 164, u 165, u 166, u 167, u 168, u 169, u 170, u 171, u 172, u 173, u 174, u 175, u 176, u 177, u 178, u 179, u 180, u 181, u 182, u 183, u 184, u 185, u 186, u 187, u 188, u 189, u 190, u 191, u 192, u 193, u 194, u 195, u 196, u 197, u 198, u 199, u 200, u 201, u 202, u 203, u 204, u 205, u 206, u 207, u 208, u 209, u 210, u 211, undef], []⟩ wr := by
  subst hA
  have HLEN := Lib.hid hlen
  clear hlen
  have hkl : (k : Int) < (len : Int) := by omega
  obtain ⟨r4, hr4⟩ : ∃ r4, r4 = reg % 4 := ⟨_, rfl⟩
  have hre : ((reg : Int) % 4) = (r4 : Int) := by omega
  have kr := fun W => conv_u8 (r4 : Int) (by omega) (by omega) W
  have kw := fun W => conv_u8 (which : Int) (by omega) (by omega) W
  obtain ⟨q, hq⟩ : ∃ q, q = which % m := ⟨_, rfl⟩
  have hqe : ((which : Int) % (m : Int)) = (q : Int) := by rw [hq]; simp
  have HQ := Lib.hid hq
  have HK := Lib.hid hkk
  have HR := Lib.hid hr4
  clear hq hkk hr4
  have hk8 : (kind : Int) % 8 = ((5 : Nat) : Int) := by have := HK.out; omega
  rw [← HQ.out] at hsq
  have hqm : q < m := by rw [HQ.out]; exact Nat.mod_lt _ hm0
  have hrw : (ops.map SOp.cells)[q]? = some (SOp.cells ⟨⟨ckind, cop, true, creg, cval, cba⟩, false, sdn, sres, sat⟩) := by rw [List.getElem?_map, hsq]; rfl
  obtain ⟨go, co', hvo, hgb, hgo⟩ := hoo.pos (by rw [List.length_map, ← HM.out]; exact hm0)
  injection hvo with hv1 hv2 hv3
  subst hv1
  clear hv2 hv3
  have HSQ := Lib.hid hsq
  have HRW := Lib.hid hrw
  have hqI : (q : Int) < (m : Int) := by omega
  have hmI : (0 : Int) < (m : Int) := by omega
  have hmz : ¬ (m : Int) = 0 := by omega
  have hgo1 : go ≠ wr.heap.size := by omega
  have hgo2 : go ≠ wr.heap.size + 1 := by omega
  clear hsq hrw
  have o0 := hoo.cell HRW.out (j := 0) rfl
  have o1 := hoo.cell HRW.out (j := 1) rfl
  have o2 := hoo.cell HRW.out (j := 2) rfl
  have o3 := hoo.cell HRW.out (j := 3) rfl
  have o4 := hoo.cell HRW.out (j := 4) rfl
  have o5 := hoo.cell HRW.out (j := 5) rfl
  have o6 := hoo.cell HRW.out (j := 6) rfl
  have o7 := hoo.cell HRW.out (j := 7) rfl
  have o8 := hoo.cell HRW.out (j := 8) rfl
  have o9 := hoo.cell HRW.out (j := 9) rfl
  have f6 := hoo.frozen (q * 10 + 6)
  have f7 := hoo.frozen (q * 10 + 7)
  have f8 := hoo.frozen (q * 10 + 8)
  have f9 := hoo.frozen (q * 10 + 9)
  simp only [Nat.add_zero] at o0
  have n_l := hol.apart hoo (by decide)
  have n_c := hoc.apart hoo (by decide)
  have HN : Hid (stoTo acts (k + 1) = stEx ⟨l, ops, ch, safe, n⟩ q ⟨⟨ckind, cop, true, creg, cval, cba⟩, false, sdn, sres, sat⟩) := by
    unfold Hid
    rw [HS.out]
    simp only [stoStep, ← HK.out, ← HM.out, ← HQ.out, HSQ.out]
    rfl
  clear HS HR HQ
  have HE : Hid ((stEx ⟨l, ops, ch, safe, n⟩ q ⟨⟨ckind, cop, true, creg, cval, cba⟩, false, sdn, sres, sat⟩).ops.map SOp.cells = (ops.map SOp.cells).set q (((SOp.cells ⟨⟨ckind, cop, true, creg, cval, cba⟩, false, sdn, sres, sat⟩).set 6 (.bool true)).set 9 (.int .i64 ((ch.length : Int) + 1)))) := by
    unfold Hid
    simp [stEx, opEx, chEx, List.map_set, SOp.cells, Ev.cells]
  clear HK
  conv => arg 2; whnf
  go_wp2_with (at_builtin; refine wpList_ap1 rfl (.tmp 126) (.tmp 132) _ rfl elemCh rfl ((hoc.alloc _).alloc _) (chCells (creg, cval)) _ rfl _ rfl (by simp) (chOne _) (by simp [maxLen]; omega) (by simp; omega) (by simp; omega) ?_)
  intro v3 w3 hoc3 hg3 _
  have hb3 : Below w.heap.size w w3 := (((hb.alloc hz _).alloc (by simp; omega) _).alloc (by simp; omega) _).grown hg3 (by simp; omega) (fun g hg => (hoc.lt hg).1)
  have hoo3 := (((hoo.alloc _).alloc _).alloc _).kept hg3 (hoo.ne hoc (by decide))
  have hol3 := (((hol.alloc _).alloc _).alloc _).kept hg3 (hol.ne hoc (by decide))
  obtain ⟨-, -, e2, -, -, e5⟩ := ev_after (e := ⟨ckind, cop, true, creg, cval, cba⟩) hg3 (hoc.fresh (by omega))
  simp only at e2 e5
  have hz3 := hb3.size
  have m_l := hol3.apart hoo3 (by decide)
  have m_c := hoc3.apart hoo3 (by decide)
  clear hg3 hol hoo hoc hb a0 a1 a2 o0 o1 o2 o3 o4 o5 o6 o7 o8 o9 f6 f7 f8 f9 n_l n_c
  have o6 := hoo3.cell HRW.out (j := 6) rfl
  have o9 := hoo3.cell HRW.out (j := 9) rfl
  have f6 := hoo3.frozen (q * 10 + 6)
  have f9 := hoo3.frozen (q * 10 + 9)
  obtain ⟨A3, c3, hv3, -, -⟩ := hoc3.form
  have hln : (ch.map chCells ++ [chCells (creg, cval)]).length = ch.length + 1 := by simp
  rw [hln] at hv3
  subst hv3
  clear hln
  go_wp2
  refine ⟨sto_mk (k + 1) (by omega) ⟨by rw [HN.out]; exact (hol3.far (p := ⟨go, q * 10 + 6, none⟩) m_l _).far (p := ⟨go, q * 10 + 9, none⟩) m_l _, by rw [HN.out]; rw [HE.out]; exact hoo3.stored2 HRW.out _ _, by rw [HN.out]; simp only [stEx, chEx, if_true, List.map_append, List.map_cons, List.map_nil]; exact (hoc3.far (p := ⟨go, q * 10 + 6, none⟩) m_c _).far (p := ⟨go, q * 10 + 9, none⟩) m_c _, (hb3.setCell (p := ⟨go, q * 10 + 6, none⟩) hgb _).setCell (p := ⟨go, q * 10 + 9, none⟩) hgb _⟩ (by rw [HN.out]; rfl) (by rw [HN.out]; rfl) (by go_num) rfl, by simp [StoM, intOf]; omega⟩
end Go.Proofs.Ytldjodgpbnkleaa
