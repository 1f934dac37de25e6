/- Rounds of tegularef47's Storage: forced writes, flushes. -/
import Derived.Test.YtldjodgpbnkleaaStoW
namespace Go.Proofs.Ytldjodgpbnkleaa
open Go.RowKit

set_option maxHeartbeats 4000000 in
set_option maxRecDepth 1000000 in
theorem sto_call2z (acts : List ActN) (len : Nat) (hlen : len = acts.length) (w wr : World) (u : Nat → Value) (u3 : Value) (A : Option Addr) (c k : Nat) (hk : k < len) (hl : len ≤ 1000) (b off : Nat) (hA : A = some ⟨b, off, none⟩)
    (l : List Ev) (ops : List SOp) (ch : List (Int × Int)) (safe n kind reg which m : Nat) (Ao : Option Addr) (co : Nat) (Ac : Option Addr) (cc : Nat)
    (hn1 : l.length ≤ k) (hn2 : ops.length ≤ k) (hn3 : ch.length ≤ k) (hn4 : n ≤ k) (hsf : safe ≤ ch.length) (hcc1 : ch.length ≤ cc) (hb1 : kind < 256) (hb2 : reg < 256) (hb3 : which < 256)
    (a0 : wr.cell? ⟨b, off + k * 3, none⟩ = some (.int .u8 kind)) (a1 : wr.cell? ⟨b, off + k * 3 + 1, none⟩ = some (.int .u8 reg)) (a2 : wr.cell? ⟨b, off + k * 3 + 2, none⟩ = some (.int .u8 which))
    (hol : OwS wr w.heap.size 39 6 u3 (l.map Ev.cells)) (hoo : OwS wr w.heap.size 94 10 (.slice Ao m co) (ops.map SOp.cells)) (hoc : OwS wr w.heap.size 96 2 (.slice Ac ch.length cc) (ch.map chCells)) (hb : Below w.heap.size w wr) (hz : w.heap.size ≤ wr.heap.size)
    (HM : Hid (m = ops.length)) (HS : Hid (stoTo acts (k + 1) = stoStep ⟨l, ops, ch, safe, n⟩ ⟨kind, reg, which⟩)) (Q0 : Exit → Act → World → Prop) (hkk : 2 = kind % 8) (hm : m = 0) :
    Code.wp Try.prog stoBody (Exit.then (fun a' w' => StoI acts w A len c a' w' ∧ StoM len a' w' < StoM len ⟨#[(.slice A len c), undef, .slice none 0 0, u3, (.slice Ao m co), (.slice Ac ch.length cc), .int .i64 safe, .int .i64 n, .int .i64 k, u 9, u 10, u 11, u 12, u 13, u 14, u 15, u 16, u 17, u 18, u 19, u 20, u 21, u 22, u 23, u 24, u 25, u 26, u 27, u 28, u 29, u 30, u 31, u 32, u 33, u 34, u 35, u 36, u 37, u 38, u 39, u 40, u 41, u 42, u 43, u 44, u 45, u 46, u 47, u 48, u 49, u 50, u 51, u 52, u 53, u 54, u 55, u 56, u 57, u 58, u 59, u 60, u 61, u 62, u 63, u 64, u 65, u 66, u 67, u 68, u 69, u 70, u 71, u 72, u 73, u 74, u 75, u 76, u 77, u 78, u 79, u 80, u 81, u 82, u 83, u 84, u 85, u 86, u 87, u 88, u 89, u 90, u 91, u 92, u 93, u 94, u 95, u 96, u 97, u 98, u 99, u 100, u 101, u 102, u 103, u 104, u 105, u 106, u 107, u 108, u 109, u 110, u 111, u 112, u 113, u 114, u 115, u 116, u 117, u 118, u 119, u 120, u 121, u 122, u 123, u 124, u 125, u 126, u 127, u 128, u 129, u 130, u 131, u 132, u 133, u 134, u 135, u 136, u 137, u 138, u 139, u 140, u 141, u 142, u 143, u 144, u 145, u 146, u 147, u 148, u 149, u 150, u 151, u 152, u 153, u 154, u 155, u 156, u 157, u 158, u 159, u 160, u 161, u 162, u 163, u 164, u 165, u 166, u 167, u 168, u 169, u 170, u 171, u 172, u 173, u 174, u 175, u 176, u 177, u 178, u 179, u 180, u 181, u 182, u 183, u 184, u 185, u 186, u 187, u 188, u 189, u 190, u 191, u 192, u 193, u 194, u 195, u 196, u 197, u 198, u 199, u 200, u 201, u 202, u 203, u 204, u 205, u 206, u 207, u 208, u 209, u 210, u 211, undef], []⟩ wr) Q0) ⟨#[(.slice A len c), undef, .slice none 0 0, u3, (.slice Ao m co), (.slice Ac ch.length cc), .int .i64 safe, .int .i64 n, .int .i64 k, u 9, u 10, u 11, u 12, u 13, u 14, u 15, u 16, u 17, u 18, u 19, u 20, u 21, u 22, u 23, u 24, u 25, u 26, u 27, u 28, u 29, u 30, u 31, u 32, u 33, u 34, u 35, u 36, u 37, u 38, u 39, u 40, u 41, u 42, u 43, u 44, u 45, u 46, u 47, u 48, u 49, u 50, u 51, u 52, u 53, u 54, u 55, u 56, u 57, u 58, u 59, u 60, u 61, u 62, u 63, u 64, u 65, u 66, u 67, u 68, u 69, u 70, u 71, u 72, u 73, u 74, u 75, u 76, u 77, u 78, u 79, u 80, u 81, u 82, u 83, u 84, u 85, u 86, u 87, u 88, u 89, u 90, u 91, u 92, u 93, u 94, u 95, u 96, u 97, u 98, u 99, u 100, u 101, u 102, u 103, u 104, u 105, u 106, u 107, u 108, u 109, u 110, u 111, u 112, u 113, u 114, u 115, u 116, u 117, u 118, u 119, u 120, u 121, u 122, u 123, u 124, u 125, u 126, u 127, u 128, u 129, u 130, u 131, u 132, u 133, u 134, u 135, u 136, u 137, u 138, u 139, u 140, u 141, u 142, u 143, u 144, u 145, u 146, u 147, u 148, u 149, u 150, u 151, u 152, u 153, u 154, u 155, u 156, u 157, u 158, u 159, u 160, u 161, u 162, u 163, u 164, u 165, u 166, u 167, u 168, u 169, u 170, u 171, u 172, u 173, u 174, u 175, u 176, u 177, u 178, u 179, u 180, u 181, u 182, u 183, u 184, u 185, u 186, u 187, u 188, u 189, u 190, u 191, u 192, u 193, u 194, u 195, u 196, u 197, u 198, u 199, u 200, u 201, u 202, u 203, u 204, u 205, u 206, u 207, u 208, u 209, u 210, u 211, undef], []⟩ wr := by
  subst hA
  have HLEN := Lib.hid hlen
  clear hlen
  have hkl : (k : Int) < (len : Int) := by omega
  obtain ⟨r4, hr4⟩ : ∃ r4, r4 = reg % 4 := ⟨_, rfl⟩
  have hre : ((reg : Int) % 4) = (r4 : Int) := by omega
  have kr := fun W => conv_u8 (r4 : Int) (by omega) (by omega) W
  have kw := fun W => conv_u8 (which : Int) (by omega) (by omega) W
  obtain ⟨q, hq⟩ : ∃ q, q = which % m := ⟨_, rfl⟩
  have hqe : ((which : Int) % (m : Int)) = (q : Int) := by rw [hq]; simp
  have HQ := Lib.hid hq
  have HK := Lib.hid hkk
  have HR := Lib.hid hr4
  clear hq hkk hr4
  subst hm
  have hk8 : (kind : Int) % 8 = ((2 : Nat) : Int) := by have := HK.out; omega
  conv => arg 2; whnf
  have HN : Hid (stoTo acts (k + 1) = stCall ⟨l, ops, ch, safe, n⟩ ⟨1, n, true, r4, (n : Int) + 1, true⟩) := by
    unfold Hid
    rw [HS.out]
    simp only [stoStep, ← HK.out, ← HR.out]
    rfl
  clear HS HK HR HQ
  go_wp2_with (at_builtin; refine wpList_ap1 rfl (.tmp 96) (.tmp 98) _ rfl elemEv rfl ((hol.alloc _).alloc _) (Ev.cells ⟨1, n, true, r4, (n : Int) + 1, true⟩) _ rfl _ rfl (by simp) (Ev.one _) (by simp [maxLen]; omega) (by simp; omega) (by simp; omega) ?_)
  intro v3 w3 hol3 hg3 _
  have hb3 : Below w.heap.size w w3 := (((hb.alloc hz _).alloc (by simp; omega) _).alloc (by simp; omega) _).grown hg3 (by simp; omega) (fun g hg => (hol.lt hg).1)
  have hoo3 := (((hoo.alloc _).alloc _).alloc _).kept hg3 (hoo.ne hol (by decide))
  have hoc3 := (((hoc.alloc _).alloc _).alloc _).kept hg3 (hoc.ne hol (by decide))
  obtain ⟨e0, e1, e2, e3, e4, e5⟩ := ev_after (e := ⟨1, n, true, r4, (n : Int) + 1, true⟩) hg3 (hol.fresh (by omega))
  have hz3 := hb3.size
  simp only at e0 e1 e2 e3 e4 e5
  clear hg3 hol hoo hoc hb a0 a1 a2
  go_wp2_with (at_builtin; refine wpList_ap1 rfl (.tmp 100) (.tmp 103) _ rfl elemOpn rfl hoo3 (SOp.cells ⟨⟨1, n, true, r4, (n : Int) + 1, true⟩, false, false, 0, 0⟩) _ rfl _ rfl (by simp) (SOp.one _) (by simp [maxLen]; omega) (by simp; omega) hz3 ?_)
  intro v4 w4 hoo4 hg4 _
  have hb4 : Below w.heap.size w w4 := (hb3.alloc hz3 _).grown hg4 (by simp; omega) (fun g hg => (hoo3.lt hg).1)
  have hol4 := (hol3.alloc _).kept hg4 (hol3.ne hoo3 (by decide))
  have hoc4 := (hoc3.alloc _).kept hg4 (hoc3.ne hoo3 (by decide))
  clear hg4 hol3 hoo3 hoc3 hb3 e0 e1 e2 e3 e4 e5
  go_wp2
  refine ⟨sto_mk (k + 1) (by omega) ⟨by rw [HN.out]; simpa [stCall] using hol4, by rw [HN.out]; simpa [stCall] using hoo4, by rw [HN.out]; simpa [stCall] using hoc4, hb4⟩ (by rw [HN.out]; rfl) (by rw [HN.out]; go_num) (by go_num) rfl, by simp [StoM, intOf]; omega⟩
set_option maxHeartbeats 4000000 in
set_option maxRecDepth 1000000 in
theorem sto_call2p (acts : List ActN) (len : Nat) (hlen : len = acts.length) (w wr : World) (u : Nat → Value) (u3 : Value) (A : Option Addr) (c k : Nat) (hk : k < len) (hl : len ≤ 1000) (b off : Nat) (hA : A = some ⟨b, off, none⟩)
    (l : List Ev) (ops : List SOp) (ch : List (Int × Int)) (safe n kind reg which m : Nat) (Ao : Option Addr) (co : Nat) (Ac : Option Addr) (cc : Nat)
    (hn1 : l.length ≤ k) (hn2 : ops.length ≤ k) (hn3 : ch.length ≤ k) (hn4 : n ≤ k) (hsf : safe ≤ ch.length) (hcc1 : ch.length ≤ cc) (hb1 : kind < 256) (hb2 : reg < 256) (hb3 : which < 256)
    (a0 : wr.cell? ⟨b, off + k * 3, none⟩ = some (.int .u8 kind)) (a1 : wr.cell? ⟨b, off + k * 3 + 1, none⟩ = some (.int .u8 reg)) (a2 : wr.cell? ⟨b, off + k * 3 + 2, none⟩ = some (.int .u8 which))
    (hol : OwS wr w.heap.size 39 6 u3 (l.map Ev.cells)) (hoo : OwS wr w.heap.size 94 10 (.slice Ao m co) (ops.map SOp.cells)) (hoc : OwS wr w.heap.size 96 2 (.slice Ac ch.length cc) (ch.map chCells)) (hb : Below w.heap.size w wr) (hz : w.heap.size ≤ wr.heap.size)
    (HM : Hid (m = ops.length)) (HS : Hid (stoTo acts (k + 1) = stoStep ⟨l, ops, ch, safe, n⟩ ⟨kind, reg, which⟩)) (Q0 : Exit → Act → World → Prop) (hkk : 2 = kind % 8) (hm0 : 0 < m) :
    Code.wp Try.prog stoBody (Exit.then (fun a' w' => StoI acts w A len c a' w' ∧ StoM len a' w' < StoM len ⟨#[(.slice A len c), undef, .slice none 0 0, u3, (.slice Ao m co), (.slice Ac ch.length cc), .int .i64 safe, .int .i64 n, .int .i64 k, u 9, u 10, u 11, u 12, u 13, u 14, u 15, u 16, u 17, u 18, u 19, u 20, u 21, u 22, u 23, u 24, u 25, u 26, u 27, u 28, u 29, u 30, u 31, u 32, u 33, u 34, u 35, u 36, u 37, u 38, u 39, u 40, u 41, u 42, u 43, u 44, u 45, u 46, u 47, u 48, u 49, u 50, u 51, u 52, u 53, u 54, u 55, u 56, u 57, u 58, u 59, u 60, u 61, u 62, u 63, u 64, u 65, u 66, u 67, u 68, u 69, u 70, u 71, u 72, u 73, u 74, u 75, u 76, u 77, u 78, u 79, u 80, u 81, u 82, u 83, u 84, u 85, u 86, u 87, u 88, u 89, u 90, u 91, u 92, u 93, u 94, u 95, u 96, u 97, u 98, u 99, u 100, u 101, u 102, u 103, u 104, u 105, u 106, u 107, u 108, u 109, u 110, u 111, u 112, u 113, u 114, u 115, u 116, u 117, u 118, u 119, u 120, u 121, u 122, u 123, u 124, u 125, u 126, u 127, u 128, u 129, u 130, u 131, u 132, u 133, u 134, u 135, u 136, u 137, u 138, u 139, u 140, u 141, u 142, u 143, u 144, u 145, u 146, u 147, u 148, u 149, u 150, u 151, u 152, u 153, u 154, u 155, u 156, u 157, u 158, u 159, u 160, u 161, u 162, u 163, u 164, u 165, u 166, u 167, u 168, u 169, u 170, u 171, u 172, u 173, u 174, u 175, u 176, u 177, u 178, u 179, u 180, u 181, u 182, u 183, u 184, u 185, u 186, u 187, u 188, u 189, u 190, u 191, u 192, u 193, u 194, u 195, u 196, u 197, u 198, u 199, u 200, u 201, u 202, u 203, u 204, u 205, u 206, u 207, u 208, u 209, u 210, u 211, undef], []⟩ wr) Q0) ⟨#[(.slice A len c), undef, .slice none 0 0, u3, (.slice Ao m co), (.slice Ac ch.length cc), .int .i64 safe, .int .i64 n, .int .i64 k, u 9, u 10, u 11, u 12, u 13, u 14, u 15, u 16, u 17, u 18, u 19, u 20, u 21, u 22, u 23, u 24, u 25, u 26, u 27, u 28, u 29, u 30, u 31, u 32, u 33, u 34, u 35, u 36, u 37, u 38, u 39, u 40, u 41, u 42, u 43, u 44, u 45, u 46, u 47, u 48, u 49, u 50, u 51, u 52, u 53, u 54, u 55, u 56, u 57, u 58, u 59, u 60, u 61, u 62, u 63, u 64, u 65, u 66, u 67, u 68, u 69, u 70, u 71, u 72, u 73, u 74, u 75, u 76, u 77, u 78, u 79, u 80, u 81, u 82, u 83, u 84, u 85, u 86, u 87, u 88, u 89, u 90, u 91, u 92, u 93, u 94, u 95, u 96, u 97, u 98, u 99, u 100, u 101, u 102, u 103, u 104, u 105, u 106, u 107, u 108, u 109, u 110, u 111, u 112, u 113, u 114, u 115, u 116, u 117, u 118, u 119, u 120, u 121, u 122, u 123, u 124, u 125, u 126, u 127, u 128, u 129, u 130, u 131, u 132, u 133, u 134, u 135, u 136, u 137, u 138, u 139, u 140, u 141, u 142, u 143, u 144, u 145, u 146, u 147, u 148, u 149, u 150, u 151, u 152, u 153, u 154, u 155, u 156, u 157, u 158, u 159, u 160, u 161, u 162, u 163, u 164, u 165, u 166, u 167, u 168, u 169, u 170, u 171, u 172, u 173, u 174, u 175, u 176, u 177, u 178, u 179, u 180, u 181, u 182, u 183, u 184, u 185, u 186, u 187, u 188, u 189, u 190, u 191, u 192, u 193, u 194, u 195, u 196, u 197, u 198, u 199, u 200, u 201, u 202, u 203, u 204, u 205, u 206, u 207, u 208, u 209, u 210, u 211, undef], []⟩ wr := by
  subst hA
  have HLEN := Lib.hid hlen
  clear hlen
  have hkl : (k : Int) < (len : Int) := by omega
  obtain ⟨r4, hr4⟩ : ∃ r4, r4 = reg % 4 := ⟨_, rfl⟩
  have hre : ((reg : Int) % 4) = (r4 : Int) := by omega
  have kr := fun W => conv_u8 (r4 : Int) (by omega) (by omega) W
  have kw := fun W => conv_u8 (which : Int) (by omega) (by omega) W
  obtain ⟨q, hq⟩ : ∃ q, q = which % m := ⟨_, rfl⟩
  have hqe : ((which : Int) % (m : Int)) = (q : Int) := by rw [hq]; simp
  have HQ := Lib.hid hq
  have HK := Lib.hid hkk
  have HR := Lib.hid hr4
  clear hq hkk hr4
  have hk8 : (kind : Int) % 8 = ((2 : Nat) : Int) := by have := HK.out; omega
  conv => arg 2; whnf
  have HN : Hid (stoTo acts (k + 1) = stCall ⟨l, ops, ch, safe, n⟩ ⟨1, n, true, r4, (n : Int) + 1, true⟩) := by
    unfold Hid
    rw [HS.out]
    simp only [stoStep, ← HK.out, ← HR.out]
    rfl
  clear HS HK HR HQ
  go_wp2_with (at_builtin; refine wpList_ap1 rfl (.tmp 96) (.tmp 98) _ rfl elemEv rfl ((hol.alloc _).alloc _) (Ev.cells ⟨1, n, true, r4, (n : Int) + 1, true⟩) _ rfl _ rfl (by simp) (Ev.one _) (by simp [maxLen]; omega) (by simp; omega) (by simp; omega) ?_)
  intro v3 w3 hol3 hg3 _
  have hb3 : Below w.heap.size w w3 := (((hb.alloc hz _).alloc (by simp; omega) _).alloc (by simp; omega) _).grown hg3 (by simp; omega) (fun g hg => (hol.lt hg).1)
  have hoo3 := (((hoo.alloc _).alloc _).alloc _).kept hg3 (hoo.ne hol (by decide))
  have hoc3 := (((hoc.alloc _).alloc _).alloc _).kept hg3 (hoc.ne hol (by decide))
  obtain ⟨e0, e1, e2, e3, e4, e5⟩ := ev_after (e := ⟨1, n, true, r4, (n : Int) + 1, true⟩) hg3 (hol.fresh (by omega))
  have hz3 := hb3.size
  simp only at e0 e1 e2 e3 e4 e5
  clear hg3 hol hoo hoc hb a0 a1 a2
  go_wp2_with (at_builtin; refine wpList_ap1 rfl (.tmp 100) (.tmp 103) _ rfl elemOpn rfl hoo3 (SOp.cells ⟨⟨1, n, true, r4, (n : Int) + 1, true⟩, false, false, 0, 0⟩) _ rfl _ rfl (by simp) (SOp.one _) (by simp [maxLen]; omega) (by simp; omega) hz3 ?_)
  intro v4 w4 hoo4 hg4 _
  have hb4 : Below w.heap.size w w4 := (hb3.alloc hz3 _).grown hg4 (by simp; omega) (fun g hg => (hoo3.lt hg).1)
  have hol4 := (hol3.alloc _).kept hg4 (hol3.ne hoo3 (by decide))
  have hoc4 := (hoc3.alloc _).kept hg4 (hoc3.ne hoo3 (by decide))
  clear hg4 hol3 hoo3 hoc3 hb3 e0 e1 e2 e3 e4 e5
  go_wp2
  refine ⟨sto_mk (k + 1) (by omega) ⟨by rw [HN.out]; simpa [stCall] using hol4, by rw [HN.out]; simpa [stCall] using hoo4, by rw [HN.out]; simpa [stCall] using hoc4, hb4⟩ (by rw [HN.out]; rfl) (by rw [HN.out]; go_num) (by go_num) rfl, by simp [StoM, intOf]; omega⟩
set_option maxHeartbeats 4000000 in
set_option maxRecDepth 1000000 in
theorem sto_call3z (acts : List ActN) (len : Nat) (hlen : len = acts.length) (w wr : World) (u : Nat → Value) (u3 : Value) (A : Option Addr) (c k : Nat) (hk : k < len) (hl : len ≤ 1000) (b off : Nat) (hA : A = some ⟨b, off, none⟩)
    (l : List Ev) (ops : List SOp) (ch : List (Int × Int)) (safe n kind reg which m : Nat) (Ao : Option Addr) (co : Nat) (Ac : Option Addr) (cc : Nat)
    (hn1 : l.length ≤ k) (hn2 : ops.length ≤ k) (hn3 : ch.length ≤ k) (hn4 : n ≤ k) (hsf : safe ≤ ch.length) (hcc1 : ch.length ≤ cc) (hb1 : kind < 256) (hb2 : reg < 256) (hb3 : which < 256)
    (a0 : wr.cell? ⟨b, off + k * 3, none⟩ = some (.int .u8 kind)) (a1 : wr.cell? ⟨b, off + k * 3 + 1, none⟩ = some (.int .u8 reg)) (a2 : wr.cell? ⟨b, off + k * 3 + 2, none⟩ = some (.int .u8 which))
    (hol : OwS wr w.heap.size 39 6 u3 (l.map Ev.cells)) (hoo : OwS wr w.heap.size 94 10 (.slice Ao m co) (ops.map SOp.cells)) (hoc : OwS wr w.heap.size 96 2 (.slice Ac ch.length cc) (ch.map chCells)) (hb : Below w.heap.size w wr) (hz : w.heap.size ≤ wr.heap.size)
    (HM : Hid (m = ops.length)) (HS : Hid (stoTo acts (k + 1) = stoStep ⟨l, ops, ch, safe, n⟩ ⟨kind, reg, which⟩)) (Q0 : Exit → Act → World → Prop) (hkk : 3 = kind % 8) (hm : m = 0) :
    Code.wp Try.prog stoBody (Exit.then (fun a' w' => StoI acts w A len c a' w' ∧ StoM len a' w' < StoM len ⟨#[(.slice A len c), undef, .slice none 0 0, u3, (.slice Ao m co), (.slice Ac ch.length cc), .int .i64 safe, .int .i64 n, .int .i64 k, u 9, u 10, u 11, u 12, u 13, u 14, u 15, u 16, u 17, u 18, u 19, u 20, u 21, u 22, u 23, u 24, u 25, u 26, u 27, u 28, u 29, u 30, u 31, u 32, u 33, u 34, u 35, u 36, u 37, u 38, u 39, u 40, u 41, u 42, u 43, u 44, u 45, u 46, u 47, u 48, u 49, u 50, u 51, u 52, u 53, u 54, u 55, u 56, u 57, u 58, u 59, u 60, u 61, u 62, u 63, u 64, u 65, u 66, u 67, u 68, u 69, u 70, u 71, u 72, u 73, u 74, u 75, u 76, u 77, u 78, u 79, u 80, u 81, u 82, u 83, u 84, u 85, u 86, u 87, u 88, u 89, u 90, u 91, u 92, u 93, u 94, u 95, u 96, u 97, u 98, u 99, u 100, u 101, u 102, u 103, u 104, u 105, u 106, u 107, u 108, u 109, u 110, u 111, u 112, u 113, u 114, u 115, u 116, u 117, u 118, u 119, u 120, u 121, u 122, u 123, u 124, u 125, u 126, u 127, u 128, u 129, u 130, u 131, u 132, u 133, u 134, u 135, u 136, u 137, u 138, u 139, u 140, u 141, u 142, u 143, u 144, u 145, u 146, u 147, u 148, u 149, u 150, u 151, u 152, u 153, u 154, u 155, u 156, u 157, u 158, u 159, u 160, u 161, u 162, u 163, u 164, u 165, u 166, u 167, u 168, u 169, u 170, u 171, u 172, u 173, u 174, u 175, u 176, u 177, u 178, u 179, u 180, u 181, u 182, u 183, u 184, u 185, u 186, u 187, u 188, u 189, u 190, u 191, u 192, u 193, u 194, u 195, u 196, u 197, u 198, u 199, u 200, u 201, u 202, u 203, u 204, u 205, u 206, u 207, u 208, u 209, u 210, u 211, undef], []⟩ wr) Q0) ⟨#[(.slice A len c), undef, .slice none 0 0, u3, (.slice Ao m co), (.slice Ac ch.length cc), .int .i64 safe, .int .i64 n, .int .i64 k, u 9, u 10, u 11, u 12, u 13, u 14, u 15, u 16, u 17, u 18, u 19, u 20, u 21, u 22, u 23, u 24, u 25, u 26, u 27, u 28, u 29, u 30, u 31, u 32, u 33, u 34, u 35, u 36, u 37, u 38, u 39, u 40, u 41, u 42, u 43, u 44, u 45, u 46, u 47, u 48, u 49, u 50, u 51, u 52, u 53, u 54, u 55, u 56, u 57, u 58, u 59, u 60, u 61, u 62, u 63, u 64, u 65, u 66, u 67, u 68, u 69, u 70, u 71, u 72, u 73, u 74, u 75, u 76, u 77, u 78, u 79, u 80, u 81, u 82, u 83, u 84, u 85, u 86, u 87, u 88, u 89, u 90, u 91, u 92, u 93, u 94, u 95, u 96, u 97, u 98, u 99, u 100, u 101, u 102, u 103, u 104, u 105, u 106, u 107, u 108, u 109, u 110, u 111, u 112, u 113, u 114, u 115, u 116, u 117, u 118, u 119, u 120, u 121, u 122, u 123, u 124, u 125, u 126, u 127, u 128, u 129, u 130, u 131, u 132, u 133, u 134, u 135, u 136, u 137, u 138, u 139, u 140, u 141, u 142, u 143, u 144, u 145, u 146, u 147, u 148, u 149, u 150, u 151, u 152, u 153, u 154, u 155, u 156, u 157, u 158, u 159, u 160, u 161, u 162, u 163, u 164, u 165, u 166, u 167, u 168, u 169, u 170, u 171, u 172, u 173, u 174, u 175, u 176, u 177, u 178, u 179, u 180, u 181, u 182, u 183, u 184, u 185, u 186, u 187, u 188, u 189, u 190, u 191, u 192, u 193, u 194, u 195, u 196, u 197, u 198, u 199, u 200, u 201, u 202, u 203, u 204, u 205, u 206, u 207, u 208, u 209, u 210, u 211, undef], []⟩ wr := by
  subst hA
  have HLEN := Lib.hid hlen
  clear hlen
  have hkl : (k : Int) < (len : Int) := by omega
  obtain ⟨r4, hr4⟩ : ∃ r4, r4 = reg % 4 := ⟨_, rfl⟩
  have hre : ((reg : Int) % 4) = (r4 : Int) := by omega
  have kr := fun W => conv_u8 (r4 : Int) (by omega) (by omega) W
  have kw := fun W => conv_u8 (which : Int) (by omega) (by omega) W
  obtain ⟨q, hq⟩ : ∃ q, q = which % m := ⟨_, rfl⟩
  have hqe : ((which : Int) % (m : Int)) = (q : Int) := by rw [hq]; simp
  have HQ := Lib.hid hq
  have HK := Lib.hid hkk
  have HR := Lib.hid hr4
  clear hq hkk hr4
  subst hm
  have hk8 : (kind : Int) % 8 = ((3 : Nat) : Int) := by have := HK.out; omega
  conv => arg 2; whnf
  have HN : Hid (stoTo acts (k + 1) = stCall ⟨l, ops, ch, safe, n⟩ ⟨1, n, false, 0, 0, true⟩) := by
    unfold Hid
    rw [HS.out]
    simp only [stoStep, ← HK.out, ← HR.out]
    rfl
  clear HS HK HR HQ
  go_wp2_with (at_builtin; refine wpList_ap1 rfl (.tmp 96) (.tmp 98) _ rfl elemEv rfl ((hol.alloc _).alloc _) (Ev.cells ⟨1, n, false, 0, 0, true⟩) _ rfl _ rfl (by simp) (Ev.one _) (by simp [maxLen]; omega) (by simp; omega) (by simp; omega) ?_)
  intro v3 w3 hol3 hg3 _
  have hb3 : Below w.heap.size w w3 := (((hb.alloc hz _).alloc (by simp; omega) _).alloc (by simp; omega) _).grown hg3 (by simp; omega) (fun g hg => (hol.lt hg).1)
  have hoo3 := (((hoo.alloc _).alloc _).alloc _).kept hg3 (hoo.ne hol (by decide))
  have hoc3 := (((hoc.alloc _).alloc _).alloc _).kept hg3 (hoc.ne hol (by decide))
  obtain ⟨e0, e1, e2, e3, e4, e5⟩ := ev_after (e := ⟨1, n, false, 0, 0, true⟩) hg3 (hol.fresh (by omega))
  have hz3 := hb3.size
  simp only at e0 e1 e2 e3 e4 e5
  clear hg3 hol hoo hoc hb a0 a1 a2
  go_wp2_with (at_builtin; refine wpList_ap1 rfl (.tmp 100) (.tmp 103) _ rfl elemOpn rfl hoo3 (SOp.cells ⟨⟨1, n, false, 0, 0, true⟩, false, false, 0, 0⟩) _ rfl _ rfl (by simp) (SOp.one _) (by simp [maxLen]; omega) (by simp; omega) hz3 ?_)
  intro v4 w4 hoo4 hg4 _
  have hb4 : Below w.heap.size w w4 := (hb3.alloc hz3 _).grown hg4 (by simp; omega) (fun g hg => (hoo3.lt hg).1)
  have hol4 := (hol3.alloc _).kept hg4 (hol3.ne hoo3 (by decide))
  have hoc4 := (hoc3.alloc _).kept hg4 (hoc3.ne hoo3 (by decide))
  clear hg4 hol3 hoo3 hoc3 hb3 e0 e1 e2 e3 e4 e5
  go_wp2
  refine ⟨sto_mk (k + 1) (by omega) ⟨by rw [HN.out]; simpa [stCall] using hol4, by rw [HN.out]; simpa [stCall] using hoo4, by rw [HN.out]; simpa [stCall] using hoc4, hb4⟩ (by rw [HN.out]; rfl) (by rw [HN.out]; go_num) (by go_num) rfl, by simp [StoM, intOf]; omega⟩
set_option maxHeartbeats 4000000 in
set_option maxRecDepth 1000000 in
theorem sto_call3p (acts : List ActN) (len : Nat) (hlen : len = acts.length) (w wr : World) (u : Nat → Value) (u3 : Value) (A : Option Addr) (c k : Nat) (hk : k < len) (hl : len ≤ 1000) (b off : Nat) (hA : A = some ⟨b, off, none⟩)
    (l : List Ev) (ops : List SOp) (ch : List (Int × Int)) (safe n kind reg which m : Nat) (Ao : Option Addr) (co : Nat) (Ac : Option Addr) (cc : Nat)
    (hn1 : l.length ≤ k) (hn2 : ops.length ≤ k) (hn3 : ch.length ≤ k) (hn4 : n ≤ k) (hsf : safe ≤ ch.length) (hcc1 : ch.length ≤ cc) (hb1 : kind < 256) (hb2 : reg < 256) (hb3 : which < 256)
    (a0 : wr.cell? ⟨b, off + k * 3, none⟩ = some (.int .u8 kind)) (a1 : wr.cell? ⟨b, off + k * 3 + 1, none⟩ = some (.int .u8 reg)) (a2 : wr.cell? ⟨b, off + k * 3 + 2, none⟩ = some (.int .u8 which))
    (hol : OwS wr w.heap.size 39 6 u3 (l.map Ev.cells)) (hoo : OwS wr w.heap.size 94 10 (.slice Ao m co) (ops.map SOp.cells)) (hoc : OwS wr w.heap.size 96 2 (.slice Ac ch.length cc) (ch.map chCells)) (hb : Below w.heap.size w wr) (hz : w.heap.size ≤ wr.heap.size)
    (HM : Hid (m = ops.length)) (HS : Hid (stoTo acts (k + 1) = stoStep ⟨l, ops, ch, safe, n⟩ ⟨kind, reg, which⟩)) (Q0 : Exit → Act → World → Prop) (hkk : 3 = kind % 8) (hm0 : 0 < m) :
    Code.wp Try.prog stoBody (Exit.then (fun a' w' => StoI acts w A len c a' w' ∧ StoM len a' w' < StoM len ⟨#[(.slice A len c), undef, .slice none 0 0, u3, (.slice Ao m co), (.slice Ac ch.length cc), .int .i64 safe, .int .i64 n, .int .i64 k, u 9, u 10, u 11, u 12, u 13, u 14, u 15, u 16, u 17, u 18, u 19, u 20, u 21, u 22, u 23, u 24, u 25, u 26, u 27, u 28, u 29, u 30, u 31, u 32, u 33, u 34, u 35, u 36, u 37, u 38, u 39, u 40, u 41, u 42, u 43, u 44, u 45, u 46, u 47, u 48, u 49, u 50, u 51, u 52, u 53, u 54, u 55, u 56, u 57, u 58, u 59, u 60, u 61, u 62, u 63, u 64, u 65, u 66, u 67, u 68, u 69, u 70, u 71, u 72, u 73, u 74, u 75, u 76, u 77, u 78, u 79, u 80, u 81, u 82, u 83, u 84, u 85, u 86, u 87, u 88, u 89, u 90, u 91, u 92, u 93, u 94, u 95, u 96, u 97, u 98, u 99, u 100, u 101, u 102, u 103, u 104, u 105, u 106, u 107, u 108, u 109, u 110, u 111, u 112, u 113, u 114, u 115, u 116, u 117, u 118, u 119, u 120, u 121, u 122, u 123, u 124, u 125, u 126, u 127, u 128, u 129, u 130, u 131, u 132, u 133, u 134, u 135, u 136, u 137, u 138, u 139, u 140, u 141, u 142, u 143, u 144, u 145, u 146, u 147, u 148, u 149, u 150, u 151, u 152, u 153, u 154, u 155, u 156, u 157, u 158, u 159, u 160, u 161, u 162, u 163, u 164, u 165, u 166, u 167, u 168, u 169, u 170, u 171, u 172, u 173, u 174, u 175, u 176, u 177, u 178, u 179, u 180, u 181, u 182, u 183, u 184, u 185, u 186, u 187, u 188, u 189, u 190, u 191, u 192, u 193, u 194, u 195, u 196, u 197, u 198, u 199, u 200, u 201, u 202, u 203, u 204, u 205, u 206, u 207, u 208, u 209, u 210, u 211, undef], []⟩ wr) Q0) ⟨#[(.slice A len c), undef, .slice none 0 0, u3, (.slice Ao m co), (.slice Ac ch.length cc), .int .i64 safe, .int .i64 n, .int .i64 k, u 9, u 10, u 11, u 12, u 13, u 14, u 15, u 16, u 17, u 18, u 19, u 20, u 21, u 22, u 23, u 24, u 25, u 26, u 27, u 28, u 29, u 30, u 31, u 32, u 33, u 34, u 35, u 36, u 37, u 38, u 39, u 40, u 41, u 42, u 43, u 44, u 45, u 46, u 47, u 48, u 49, u 50, u 51, u 52, u 53, u 54, u 55, u 56, u 57, u 58, u 59, u 60, u 61, u 62, u 63, u 64, u 65, u 66, u 67, u 68, u 69, u 70, u 71, u 72, u 73, u 74, u 75, u 76, u 77, u 78, u 79, u 80, u 81, u 82, u 83, u 84, u 85, u 86, u 87, u 88, u 89, u 90, u 91, u 92, u 93, u 94, u 95, u 96, u 97, u 98, u 99, u 100, u 101, u 102, u 103, u 104, u 105, u 106, u 107, u 108, u 109, u 110, u 111, u 112, u 113, u 114, u 115, u 116, u 117, u 118, u 119, u 120, u 121, u 122, u 123, u 124, u 125, u 126, u 127, u 128, u 129, u 130, u 131, u 132, u 133, u 134, u 135, u 136, u 137, u 138, u 139, u 140, u 141, u 142, u 143, u 144, u 145, u 146, u 147, u 148, u 149, u 150, u 151, u 152, u 153, u 154, u 155, u 156, u 157, u 158, u 159, u 160, u 161, u 162, u 163, u 164, u 165, u 166, u 167, u 168, u 169, u 170, u 171, u 172, u 173, u 174, u 175, u 176, u 177, u 178, u 179, u 180, u 181, u 182, u 183, u 184, u 185, u 186, u 187, u 188, u 189, u 190, u 191, u 192, u 193, u 194, u 195, u 196, u 197, u 198, u 199, u 200, u 201, u 202, u 203, u 204, u 205, u 206, u 207, u 208, u 209, u 210, u 211, undef], []⟩ wr := by
  subst hA
  have HLEN := Lib.hid hlen
  clear hlen
  have hkl : (k : Int) < (len : Int) := by omega
  obtain ⟨r4, hr4⟩ : ∃ r4, r4 = reg % 4 := ⟨_, rfl⟩
  have hre : ((reg : Int) % 4) = (r4 : Int) := by omega
  have kr := fun W => conv_u8 (r4 : Int) (by omega) (by omega) W
  have kw := fun W => conv_u8 (which : Int) (by omega) (by omega) W
  obtain ⟨q, hq⟩ : ∃ q, q = which % m := ⟨_, rfl⟩
  have hqe : ((which : Int) % (m : Int)) = (q : Int) := by rw [hq]; simp
  have HQ := Lib.hid hq
  have HK := Lib.hid hkk
  have HR := Lib.hid hr4
  clear hq hkk hr4
  have hk8 : (kind : Int) % 8 = ((3 : Nat) : Int) := by have := HK.out; omega
  conv => arg 2; whnf
  have HN : Hid (stoTo acts (k + 1) = stCall ⟨l, ops, ch, safe, n⟩ ⟨1, n, false, 0, 0, true⟩) := by
    unfold Hid
    rw [HS.out]
    simp only [stoStep, ← HK.out, ← HR.out]
    rfl
  clear HS HK HR HQ
  go_wp2_with (at_builtin; refine wpList_ap1 rfl (.tmp 96) (.tmp 98) _ rfl elemEv rfl ((hol.alloc _).alloc _) (Ev.cells ⟨1, n, false, 0, 0, true⟩) _ rfl _ rfl (by simp) (Ev.one _) (by simp [maxLen]; omega) (by simp; omega) (by simp; omega) ?_)
  intro v3 w3 hol3 hg3 _
  have hb3 : Below w.heap.size w w3 := (((hb.alloc hz _).alloc (by simp; omega) _).alloc (by simp; omega) _).grown hg3 (by simp; omega) (fun g hg => (hol.lt hg).1)
  have hoo3 := (((hoo.alloc _).alloc _).alloc _).kept hg3 (hoo.ne hol (by decide))
  have hoc3 := (((hoc.alloc _).alloc _).alloc _).kept hg3 (hoc.ne hol (by decide))
  obtain ⟨e0, e1, e2, e3, e4, e5⟩ := ev_after (e := ⟨1, n, false, 0, 0, true⟩) hg3 (hol.fresh (by omega))
  have hz3 := hb3.size
  simp only at e0 e1 e2 e3 e4 e5
  clear hg3 hol hoo hoc hb a0 a1 a2
  go_wp2_with (at_builtin; refine wpList_ap1 rfl (.tmp 100) (.tmp 103) _ rfl elemOpn rfl hoo3 (SOp.cells ⟨⟨1, n, false, 0, 0, true⟩, false, false, 0, 0⟩) _ rfl _ rfl (by simp) (SOp.one _) (by simp [maxLen]; omega) (by simp; omega) hz3 ?_)
  intro v4 w4 hoo4 hg4 _
  have hb4 : Below w.heap.size w w4 := (hb3.alloc hz3 _).grown hg4 (by simp; omega) (fun g hg => (hoo3.lt hg).1)
  have hol4 := (hol3.alloc _).kept hg4 (hol3.ne hoo3 (by decide))
  have hoc4 := (hoc3.alloc _).kept hg4 (hoc3.ne hoo3 (by decide))
  clear hg4 hol3 hoo3 hoc3 hb3 e0 e1 e2 e3 e4 e5
  go_wp2
  refine ⟨sto_mk (k + 1) (by omega) ⟨by rw [HN.out]; simpa [stCall] using hol4, by rw [HN.out]; simpa [stCall] using hoo4, by rw [HN.out]; simpa [stCall] using hoc4, hb4⟩ (by rw [HN.out]; rfl) (by rw [HN.out]; go_num) (by go_num) rfl, by simp [StoM, intOf]; omega⟩
end Go.Proofs.Ytldjodgpbnkleaa
