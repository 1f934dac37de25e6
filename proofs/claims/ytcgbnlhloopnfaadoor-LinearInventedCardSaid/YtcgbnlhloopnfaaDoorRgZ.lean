/- Rounds of tegularef46's Register: cuts. -/
import Derived.Test.YtcgbnlhloopnfaaDoorGRgL
namespace Go.Proofs.YtcgbnlhloopnfaaDoor
open Go.RowKit

set_option maxHeartbeats 4000000 in
set_option maxRecDepth 1000000 in
theorem reg_cutz (sc : List RgA) (len : Nat) (hlen : len = sc.length) (w wr : World) (u : Nat → Value) (u3 : Value) (A : Option Addr) (c k : Nat) (hk : k < len) (hl : len ≤ 1000) (b off : Nat) (hA : A = some ⟨b, off, none⟩)
    (l : List Ev) (ops : List RgO) (vs : List Int) (safe n kind which m z : Nat) (Ao : Option Addr) (co : Nat) (Av : Option Addr) (cv : Nat)
    (hn1 : l.length ≤ k) (hn2 : ops.length ≤ k) (hn3 : z ≤ k) (hn4 : n ≤ k) (hsf : safe ≤ z) (hcc1 : z + 1 ≤ cv) (hb1 : kind < 256) (hb3 : which < 256)
    (a0 : wr.cell? ⟨b, off + k * 2, none⟩ = some (.int .u8 kind)) (a1 : wr.cell? ⟨b, off + k * 2 + 1, none⟩ = some (.int .u8 which))
    (hol : OwS wr w.heap.size 45 6 u3 (l.map Ev.cells)) (hoo : OwS wr w.heap.size 87 10 (.slice Ao m co) (ops.map RgO.cells)) (hov : OwS wr w.heap.size 3 1 (.slice Av (z + 1) cv) (vs.map icell)) (hb : Below w.heap.size w wr) (hz : w.heap.size ≤ wr.heap.size)
    (HM : Hid (m = ops.length)) (HZ : Hid (vs.length = z + 1)) (HS : Hid (rgTo sc (k + 1) = rgStep ⟨l, ops, vs, safe, n⟩ ⟨kind, which⟩)) (Q0 : Exit → Act → World → Prop) (hkk : 7 = kind % 8) (hm : m = 0) :
    Code.wp Tryd.prog regBody (Exit.then (fun a' w' => RegI sc w A len c a' w' ∧ RegMs len a' w' < RegMs len ⟨#[(.slice A len c), undef, .slice none 0 0, u3, (.slice Ao m co), (.slice Av (z + 1) cv), .int .i64 safe, .int .i64 n, .int .i64 k, u 9, u 10, u 11, u 12, u 13, u 14, u 15, u 16, u 17, u 18, u 19, u 20, u 21, u 22, u 23, u 24, u 25, u 26, u 27, u 28, u 29, u 30, u 31, u 32, u 33, u 34, u 35, u 36, u 37, u 38, u 39, u 40, u 41, u 42, u 43, u 44, u 45, u 46, u 47, u 48, u 49, u 50, u 51, u 52, u 53, u 54, u 55, u 56, u 57, u 58, u 59, u 60, u 61, u 62, u 63, u 64, u 65, u 66, u 67, u 68, u 69, u 70, u 71, u 72, u 73, u 74, u 75, u 76, u 77, u 78, u 79, u 80, u 81, u 82, u 83, u 84, u 85, u 86, u 87, u 88, u 89, u 90, u 91, u 92, u 93, u 94, u 95, u 96, u 97, u 98, u 99, u 100, u 101, u 102, u 103, u 104, u 105, u 106, u 107, u 108, u 109, u 110, u 111, u 112, u 113, u 114, u 115, u 116, u 117, u 118, u 119, u 120, u 121, u 122, u 123, u 124, u 125, u 126, u 127, u 128, u 129, u 130, u 131, u 132, u 133, u 134, u 135, u 136, u 137, u 138, u 139, u 140, u 141, u 142, u 143, u 144, u 145, u 146, u 147, u 148, u 149, u 150, u 151, u 152, u 153, u 154, u 155, u 156, u 157, u 158, u 159, u 160, u 161, u 162, u 163, u 164, u 165, u 166, u 167, u 168, u 169, u 170, u 171, u 172, u 173, u 174, u 175, u 176, u 177, u 178, u 179, u 180, u 181, u 182, u 183, u 184, u 185, u 186, u 187, u 188, u 189, u 190, u 191, u 192, u 193, u 194, u 195, u 196, u 197, u 198, u 199, u 200, u 201, u 202, u 203, u 204, u 205, u 206, u 207, u 208, u 209, u 210, u 211, u 212, u 213, u 214, u 215, u 216, u 217, u 218, u 219, u 220, u 221, u 222, u 223, u 224, u 225, u 226, u 227, u 228, u 229, u 230, u 231, undef], []⟩ wr) Q0) ⟨#[(.slice A len c), undef, .slice none 0 0, u3, (.slice Ao m co), (.slice Av (z + 1) cv), .int .i64 safe, .int .i64 n, .int .i64 k, u 9, u 10, u 11, u 12, u 13, u 14, u 15, u 16, u 17, u 18, u 19, u 20, u 21, u 22, u 23, u 24, u 25, u 26, u 27, u 28, u 29, u 30, u 31, u 32, u 33, u 34, u 35, u 36, u 37, u 38, u 39, u 40, u 41, u 42, u 43, u 44, u 45, u 46, u 47, u 48, u 49, u 50, u 51, u 52, u 53, u 54, u 55, u 56, u 57, u 58, u 59, u 60, u 61, u 62, u 63, u 64, u 65, u 66, u 67, u 68, u 69, u 70, u 71, u 72, u 73, u 74, u 75, u 76, u 77, u 78, u 79, u 80, u 81, u 82, u 83, u 84, u 85, u 86, u 87, u 88, u 89, u 90, u 91, u 92, u 93, u 94, u 95, u 96, u 97, u 98, u 99, u 100, u 101, u 102, u 103, u 104, u 105, u 106, u 107, u 108, u 109, u 110, u 111, u 112, u 113, u 114, u 115, u 116, u 117, u 118, u 119, u 120, u 121, u 122, u 123, u 124, u 125, u 126, u 127, u 128, u 129, u 130, u 131, u 132, u 133, u 134, u 135, u 136, u 137, u 138, u 139, u 140, u 141, u 142, u 143, u 144, u 145, u 146, u 147, u 148, u 149, u 150, u 151, u 152, u 153, u 154, u 155, u 156, u 157, u 158, u 159, u 160, u 161, u 162, u 163, u 164, u 165, u 166, u 167, u 168, u 169, u 170, u 171, u 172, u 173, u 174, u 175, u 176, u 177, u 178, u 179, u 180, u 181, u 182, u 183, u 184, u 185, u 186, u 187, u 188, u 189, u 190, u 191, u 192, u 193, u 194, u 195, u 196, u 197, u 198, u 199, u 200, u 201, u 202, u 203, u 204, u 205, u 206, u 207, u 208, u 209, u 210, u 211, u 212, u 213, u 214, u 215, u 216, u 217, u 218, u 219, u 220, u 221, u 222, u 223, u 224, u 225, u 226, u 227, u 228, u 229, u 230, u 231, undef], []⟩ wr := by
  have hu := And.intro hoo (And.intro hn1 (And.intro hn2 (And.intro hn3 (And.intro hn4 (And.intro hsf (And.intro hcc1 (And.intro HM.out HZ.out)))))))
  clear hu
  subst hA
  have HLEN := Lib.hid hlen
  clear hlen
  have hkl : (k : Int) < (len : Int) := by omega
  have kw := fun W => conv_u8 (which : Int) (by omega) (by omega) W
  obtain ⟨q, hq⟩ : ∃ q, q = which % m := ⟨_, rfl⟩
  have hqe : ((which : Int) % (m : Int)) = (q : Int) := by rw [hq]; simp
  have HQ := Lib.hid hq
  have HK := Lib.hid hkk
  clear hq hkk
  have hk8 : (kind : Int) % 8 = ((7 : Nat) : Int) := by have := HK.out; omega
  obtain ⟨gv, cv', hvv, hgvb, hgv⟩ := hov.pos (by rw [List.length_map, HZ.out]; omega)
  injection hvv with hvv1 hvv2 hvv3
  subst hvv1
  clear hvv2 hvv3
  obtain ⟨x, hx⟩ : ∃ x, x = which % (z + 1 - safe) := ⟨_, rfl⟩
  have hxl : x < z + 1 - safe := by rw [hx]; exact Nat.mod_lt _ (by omega)
  obtain ⟨mm, hmm⟩ : ∃ mm, mm = safe + x := ⟨_, rfl⟩
  have hmz' : mm ≤ z := by omega
  obtain ⟨y, hy⟩ : ∃ y, vs[mm]? = some y := ⟨vs[mm]'(by have := HZ.out; omega), List.getElem?_eq_getElem _⟩
  have hyr : (vs.map icell)[mm]? = some (icell y) := by rw [List.getElem?_map, hy]; rfl
  have yv : wr.cell? ⟨gv, mm, none⟩ = some (.int .i64 y) := by simpa using hov.cell hyr (j := 0) rfl
  have HN : Hid (rgTo sc (k + 1) = ⟨l ++ [Ev.cut], [], [y], 0, n⟩) := HS.out.trans (rg_cut HK.out.symm HZ.out hsf hx hmm hy)
  have hgv1 : gv ≠ wr.heap.size := by omega
  have hz1 : (z : Int) + 1 - 1 = (z : Int) := by omega
  have hwz : IntKind.i64.wrap (z : Int) = (z : Int) := IntWalk.i64_in _ (by omega)
  have hden : (z : Int) + 1 - (safe : Int) = ((z + 1 - safe : Nat) : Int) := by omega
  have hxe : (which : Int) % ((z : Int) + 1 - (safe : Int)) = (x : Int) := by rw [hden, hx]; simp
  have hd0 : ¬ (z : Int) + 1 - (safe : Int) = 0 := by omega
  have hse : (safe : Int) + (x : Int) = (mm : Int) := by omega
  have hmi : (mm : Int) < (z : Int) + 1 := by omega
  subst hm
  rcases Nat.lt_or_ge safe z with hsz | hsz
  · have hszI : (safe : Int) < (z : Int) := by omega
    rcases Nat.lt_or_ge mm z with hmq | hmq
    · have hmqI : (mm : Int) < (z : Int) := by omega
      clear HS HK HQ hx hden hxl hmm hy hyr
      conv => arg 2; whnf
      go_wp2_with (at_builtin; refine wpList_ap1 rfl (.tmp 62) (.tmp 64) _ rfl elemEv rfl ((hol.alloc _).alloc _) (Ev.cells Ev.cut) _ rfl _ rfl (by simp) (Ev.one _) (by simp [maxLen]; omega) (by simp; omega) (by simp; omega) ?_)
      intro v3 w3 hol3 hg3 _
      have hb3 : Below w.heap.size w w3 := (((hb.alloc hz _).alloc (by simp; omega) _).alloc (by simp; omega) _).grown hg3 (by simp; omega) (fun g hg => (hol.lt hg).1)
      have hnv : OwS ((wr.alloc (.cells #[.int .u8 kind, .int .u8 which] 85)).alloc (.cells #[.int .i64 y] 3)) w.heap.size 3 1 (.slice (some ⟨wr.heap.size + 1, 0, none⟩) 1 1) [icell y] := OwS.lit (by simp [icell]) (by simpa using heap_alloc_new (wr.alloc (.cells #[.int .u8 kind, .int .u8 which] 85)) (.cells #[.int .i64 y] 3)) rfl rfl (by simp [maxLen]) (by omega)
      have hov3 := (hnv.alloc _).kept hg3 (hnv.ne ((hol.alloc _).alloc _) (by decide))
      clear hg3 hol hoo hov hnv hb a0 a1 yv
      go_wp2
      refine ⟨reg_mk (k + 1) (by omega) ⟨by rw [HN.out]; simpa using hol3, by rw [HN.out]; exact OwS.nil _ _ _ _, by rw [HN.out]; exact hov3, hb3⟩ (by rw [HN.out]; rfl) (by rw [HN.out]; rfl) (by go_num) rfl, by simp [RegMs, intOf]; omega⟩
    · obtain rfl : mm = z := by omega
      clear HS HK HQ hx hden hxl hmm hy hyr
      conv => arg 2; whnf
      go_wp2_with (at_builtin; refine wpList_ap1 rfl (.tmp 62) (.tmp 64) _ rfl elemEv rfl ((hol.alloc _).alloc _) (Ev.cells Ev.cut) _ rfl _ rfl (by simp) (Ev.one _) (by simp [maxLen]; omega) (by simp; omega) (by simp; omega) ?_)
      intro v3 w3 hol3 hg3 _
      have hb3 : Below w.heap.size w w3 := (((hb.alloc hz _).alloc (by simp; omega) _).alloc (by simp; omega) _).grown hg3 (by simp; omega) (fun g hg => (hol.lt hg).1)
      have hnv : OwS ((wr.alloc (.cells #[.int .u8 kind, .int .u8 which] 85)).alloc (.cells #[.int .i64 y] 3)) w.heap.size 3 1 (.slice (some ⟨wr.heap.size + 1, 0, none⟩) 1 1) [icell y] := OwS.lit (by simp [icell]) (by simpa using heap_alloc_new (wr.alloc (.cells #[.int .u8 kind, .int .u8 which] 85)) (.cells #[.int .i64 y] 3)) rfl rfl (by simp [maxLen]) (by omega)
      have hov3 := (hnv.alloc _).kept hg3 (hnv.ne ((hol.alloc _).alloc _) (by decide))
      clear hg3 hol hoo hov hnv hb a0 a1 yv
      go_wp2
      refine ⟨reg_mk (k + 1) (by omega) ⟨by rw [HN.out]; simpa using hol3, by rw [HN.out]; exact OwS.nil _ _ _ _, by rw [HN.out]; exact hov3, hb3⟩ (by rw [HN.out]; rfl) (by rw [HN.out]; rfl) (by go_num) rfl, by simp [RegMs, intOf]; omega⟩
  · obtain rfl : safe = z := by omega
    obtain rfl : mm = safe := by omega
    clear HS HK HQ hx hden hxl hmm hy hyr
    conv => arg 2; whnf
    go_wp2_with (at_builtin; refine wpList_ap1 rfl (.tmp 62) (.tmp 64) _ rfl elemEv rfl ((hol.alloc _).alloc _) (Ev.cells Ev.cut) _ rfl _ rfl (by simp) (Ev.one _) (by simp [maxLen]; omega) (by simp; omega) (by simp; omega) ?_)
    intro v3 w3 hol3 hg3 _
    have hb3 : Below w.heap.size w w3 := (((hb.alloc hz _).alloc (by simp; omega) _).alloc (by simp; omega) _).grown hg3 (by simp; omega) (fun g hg => (hol.lt hg).1)
    have hnv : OwS ((wr.alloc (.cells #[.int .u8 kind, .int .u8 which] 85)).alloc (.cells #[.int .i64 y] 3)) w.heap.size 3 1 (.slice (some ⟨wr.heap.size + 1, 0, none⟩) 1 1) [icell y] := OwS.lit (by simp [icell]) (by simpa using heap_alloc_new (wr.alloc (.cells #[.int .u8 kind, .int .u8 which] 85)) (.cells #[.int .i64 y] 3)) rfl rfl (by simp [maxLen]) (by omega)
    have hov3 := (hnv.alloc _).kept hg3 (hnv.ne ((hol.alloc _).alloc _) (by decide))
    clear hg3 hol hoo hov hnv hb a0 a1 yv
    go_wp2
    refine ⟨reg_mk (k + 1) (by omega) ⟨by rw [HN.out]; simpa using hol3, by rw [HN.out]; exact OwS.nil _ _ _ _, by rw [HN.out]; exact hov3, hb3⟩ (by rw [HN.out]; rfl) (by rw [HN.out]; rfl) (by go_num) rfl, by simp [RegMs, intOf]; omega⟩
set_option maxHeartbeats 4000000 in
set_option maxRecDepth 1000000 in
theorem reg_cutp (sc : List RgA) (len : Nat) (hlen : len = sc.length) (w wr : World) (u : Nat → Value) (u3 : Value) (A : Option Addr) (c k : Nat) (hk : k < len) (hl : len ≤ 1000) (b off : Nat) (hA : A = some ⟨b, off, none⟩)
    (l : List Ev) (ops : List RgO) (vs : List Int) (safe n kind which m z : Nat) (Ao : Option Addr) (co : Nat) (Av : Option Addr) (cv : Nat)
    (hn1 : l.length ≤ k) (hn2 : ops.length ≤ k) (hn3 : z ≤ k) (hn4 : n ≤ k) (hsf : safe ≤ z) (hcc1 : z + 1 ≤ cv) (hb1 : kind < 256) (hb3 : which < 256)
    (a0 : wr.cell? ⟨b, off + k * 2, none⟩ = some (.int .u8 kind)) (a1 : wr.cell? ⟨b, off + k * 2 + 1, none⟩ = some (.int .u8 which))
    (hol : OwS wr w.heap.size 45 6 u3 (l.map Ev.cells)) (hoo : OwS wr w.heap.size 87 10 (.slice Ao m co) (ops.map RgO.cells)) (hov : OwS wr w.heap.size 3 1 (.slice Av (z + 1) cv) (vs.map icell)) (hb : Below w.heap.size w wr) (hz : w.heap.size ≤ wr.heap.size)
    (HM : Hid (m = ops.length)) (HZ : Hid (vs.length = z + 1)) (HS : Hid (rgTo sc (k + 1) = rgStep ⟨l, ops, vs, safe, n⟩ ⟨kind, which⟩)) (Q0 : Exit → Act → World → Prop) (hkk : 7 = kind % 8) (hm0 : 0 < m) :
    Code.wp Tryd.prog regBody (Exit.then (fun a' w' => RegI sc w A len c a' w' ∧ RegMs len a' w' < RegMs len ⟨#[(.slice A len c), undef, .slice none 0 0, u3, (.slice Ao m co), (.slice Av (z + 1) cv), .int .i64 safe, .int .i64 n, .int .i64 k, u 9, u 10, u 11, u 12, u 13, u 14, u 15, u 16, u 17, u 18, u 19, u 20, u 21, u 22, u 23, u 24, u 25, u 26, u 27, u 28, u 29, u 30, u 31, u 32, u 33, u 34, u 35, u 36, u 37, u 38, u 39, u 40, u 41, u 42, u 43, u 44, u 45, u 46, u 47, u 48, u 49, u 50, u 51, u 52, u 53, u 54, u 55, u 56, u 57, u 58, u 59, u 60, u 61, u 62, u 63, u 64, u 65, u 66, u 67, u 68, u 69, u 70, u 71, u 72, u 73, u 74, u 75, u 76, u 77, u 78, u 79, u 80, u 81, u 82, u 83, u 84, u 85, u 86, u 87, u 88, u 89, u 90, u 91, u 92, u 93, u 94, u 95, u 96, u 97, u 98, u 99, u 100, u 101, u 102, u 103, u 104, u 105, u 106, u 107, u 108, u 109, u 110, u 111, u 112, u 113, u 114, u 115, u 116, u 117, u 118, u 119, u 120, u 121, u 122, u 123, u 124, u 125, u 126, u 127, u 128, u 129, u 130, u 131, u 132, u 133, u 134, u 135, u 136, u 137, u 138, u 139, u 140, u 141, u 142, u 143, u 144, u 145, u 146, u 147, u 148, u 149, u 150, u 151, u 152, u 153, u 154, u 155, u 156, u 157, u 158, u 159, u 160, u 161, u 162, u 163, u 164, u 165, u 166, u 167, u 168, u 169, u 170, u 171, u 172, u 173, u 174, u 175, u 176, u 177, u 178, u 179, u 180, u 181, u 182, u 183, u 184, u 185, u 186, u 187, u 188, u 189, u 190, u 191, u 192, u 193, u 194, u 195, u 196, u 197, u 198, u 199, u 200, u 201, u 202, u 203, u 204, u 205, u 206, u 207, u 208, u 209, u 210, u 211, u 212, u 213, u 214, u 215, u 216, u 217, u 218, u 219, u 220, u 221, u 222, u 223, u 224, u 225, u 226, u 227, u 228, u 229, u 230, u 231, undef], []⟩ wr) Q0) ⟨#[(.slice A len c), undef, .slice none 0 0, u3, (.slice Ao m co), (.slice Av (z + 1) cv), .int .i64 safe, .int .i64 n, .int .i64 k, u 9, u 10, u 11, u 12, u 13, u 14, u 15, u 16, u 17, u 18, u 19, u 20, u 21, u 22, u 23, u 24, u 25, u 26, u 27, u 28, u 29, u 30, u 31, u 32, u 33, u 34, u 35, u 36, u 37, u 38, u 39, u 40, u 41, u 42, u 43, u 44, u 45, u 46, u 47, u 48, u 49, u 50, u 51, u 52, u 53, u 54, u 55, u 56, u 57, u 58, u 59, u 60, u 61, u 62, u 63, u 64, u 65, u 66, u 67, u 68, u 69, u 70, u 71, u 72, u 73, u 74, u 75, u 76, u 77, u 78, u 79, u 80, u 81, u 82, u 83, u 84, u 85, u 86, u 87, u 88, u 89, u 90, u 91, u 92, u 93, u 94, u 95, u 96, u 97, u 98, u 99, u 100, u 101, u 102, u 103, u 104, u 105, u 106, u 107, u 108, u 109, u 110, u 111, u 112, u 113, u 114, u 115, u 116, u 117, u 118, u 119, u 120, u 121, u 122, u 123, u 124, u 125, u 126, u 127, u 128, u 129, u 130, u 131, u 132, u 133, u 134, u 135, u 136, u 137, u 138, u 139, u 140, u 141, u 142, u 143, u 144, u 145, u 146, u 147, u 148, u 149, u 150, u 151, u 152, u 153, u 154, u 155, u 156, u 157, u 158, u 159, u 160, u 161, u 162, u 163, u 164, u 165, u 166, u 167, u 168, u 169, u 170, u 171, u 172, u 173, u 174, u 175, u 176, u 177, u 178, u 179, u 180, u 181, u 182, u 183, u 184, u 185, u 186, u 187, u 188, u 189, u 190, u 191, u 192, u 193, u 194, u 195, u 196, u 197, u 198, u 199, u 200, u 201, u 202, u 203, u 204, u 205, u 206, u 207, u 208, u 209, u 210, u 211, u 212, u 213, u 214, u 215, u 216, u 217, u 218, u 219, u 220, u 221, u 222, u 223, u 224, u 225, u 226, u 227, u 228, u 229, u 230, u 231, undef], []⟩ wr := by
  have hu := And.intro hoo (And.intro hn1 (And.intro hn2 (And.intro hn3 (And.intro hn4 (And.intro hsf (And.intro hcc1 (And.intro HM.out HZ.out)))))))
  clear hu
  subst hA
  have HLEN := Lib.hid hlen
  clear hlen
  have hkl : (k : Int) < (len : Int) := by omega
  have kw := fun W => conv_u8 (which : Int) (by omega) (by omega) W
  obtain ⟨q, hq⟩ : ∃ q, q = which % m := ⟨_, rfl⟩
  have hqe : ((which : Int) % (m : Int)) = (q : Int) := by rw [hq]; simp
  have HQ := Lib.hid hq
  have HK := Lib.hid hkk
  clear hq hkk
  have hk8 : (kind : Int) % 8 = ((7 : Nat) : Int) := by have := HK.out; omega
  obtain ⟨gv, cv', hvv, hgvb, hgv⟩ := hov.pos (by rw [List.length_map, HZ.out]; omega)
  injection hvv with hvv1 hvv2 hvv3
  subst hvv1
  clear hvv2 hvv3
  obtain ⟨x, hx⟩ : ∃ x, x = which % (z + 1 - safe) := ⟨_, rfl⟩
  have hxl : x < z + 1 - safe := by rw [hx]; exact Nat.mod_lt _ (by omega)
  obtain ⟨mm, hmm⟩ : ∃ mm, mm = safe + x := ⟨_, rfl⟩
  have hmz' : mm ≤ z := by omega
  obtain ⟨y, hy⟩ : ∃ y, vs[mm]? = some y := ⟨vs[mm]'(by have := HZ.out; omega), List.getElem?_eq_getElem _⟩
  have hyr : (vs.map icell)[mm]? = some (icell y) := by rw [List.getElem?_map, hy]; rfl
  have yv : wr.cell? ⟨gv, mm, none⟩ = some (.int .i64 y) := by simpa using hov.cell hyr (j := 0) rfl
  have HN : Hid (rgTo sc (k + 1) = ⟨l ++ [Ev.cut], [], [y], 0, n⟩) := HS.out.trans (rg_cut HK.out.symm HZ.out hsf hx hmm hy)
  have hgv1 : gv ≠ wr.heap.size := by omega
  have hz1 : (z : Int) + 1 - 1 = (z : Int) := by omega
  have hwz : IntKind.i64.wrap (z : Int) = (z : Int) := IntWalk.i64_in _ (by omega)
  have hden : (z : Int) + 1 - (safe : Int) = ((z + 1 - safe : Nat) : Int) := by omega
  have hxe : (which : Int) % ((z : Int) + 1 - (safe : Int)) = (x : Int) := by rw [hden, hx]; simp
  have hd0 : ¬ (z : Int) + 1 - (safe : Int) = 0 := by omega
  have hse : (safe : Int) + (x : Int) = (mm : Int) := by omega
  have hmi : (mm : Int) < (z : Int) + 1 := by omega
  have hmI : (0 : Int) < (m : Int) := by omega
  have hmz : ¬ (m : Int) = 0 := by omega
  rcases Nat.lt_or_ge safe z with hsz | hsz
  · have hszI : (safe : Int) < (z : Int) := by omega
    rcases Nat.lt_or_ge mm z with hmq | hmq
    · have hmqI : (mm : Int) < (z : Int) := by omega
      clear HS HK HQ hx hden hxl hmm hy hyr
      conv => arg 2; whnf
      go_wp2_with (at_builtin; refine wpList_ap1 rfl (.tmp 62) (.tmp 64) _ rfl elemEv rfl ((hol.alloc _).alloc _) (Ev.cells Ev.cut) _ rfl _ rfl (by simp) (Ev.one _) (by simp [maxLen]; omega) (by simp; omega) (by simp; omega) ?_)
      intro v3 w3 hol3 hg3 _
      have hb3 : Below w.heap.size w w3 := (((hb.alloc hz _).alloc (by simp; omega) _).alloc (by simp; omega) _).grown hg3 (by simp; omega) (fun g hg => (hol.lt hg).1)
      have hnv : OwS ((wr.alloc (.cells #[.int .u8 kind, .int .u8 which] 85)).alloc (.cells #[.int .i64 y] 3)) w.heap.size 3 1 (.slice (some ⟨wr.heap.size + 1, 0, none⟩) 1 1) [icell y] := OwS.lit (by simp [icell]) (by simpa using heap_alloc_new (wr.alloc (.cells #[.int .u8 kind, .int .u8 which] 85)) (.cells #[.int .i64 y] 3)) rfl rfl (by simp [maxLen]) (by omega)
      have hov3 := (hnv.alloc _).kept hg3 (hnv.ne ((hol.alloc _).alloc _) (by decide))
      clear hg3 hol hoo hov hnv hb a0 a1 yv
      go_wp2
      refine ⟨reg_mk (k + 1) (by omega) ⟨by rw [HN.out]; simpa using hol3, by rw [HN.out]; exact OwS.nil _ _ _ _, by rw [HN.out]; exact hov3, hb3⟩ (by rw [HN.out]; rfl) (by rw [HN.out]; rfl) (by go_num) rfl, by simp [RegMs, intOf]; omega⟩
    · obtain rfl : mm = z := by omega
      clear HS HK HQ hx hden hxl hmm hy hyr
      conv => arg 2; whnf
      go_wp2_with (at_builtin; refine wpList_ap1 rfl (.tmp 62) (.tmp 64) _ rfl elemEv rfl ((hol.alloc _).alloc _) (Ev.cells Ev.cut) _ rfl _ rfl (by simp) (Ev.one _) (by simp [maxLen]; omega) (by simp; omega) (by simp; omega) ?_)
      intro v3 w3 hol3 hg3 _
      have hb3 : Below w.heap.size w w3 := (((hb.alloc hz _).alloc (by simp; omega) _).alloc (by simp; omega) _).grown hg3 (by simp; omega) (fun g hg => (hol.lt hg).1)
      have hnv : OwS ((wr.alloc (.cells #[.int .u8 kind, .int .u8 which] 85)).alloc (.cells #[.int .i64 y] 3)) w.heap.size 3 1 (.slice (some ⟨wr.heap.size + 1, 0, none⟩) 1 1) [icell y] := OwS.lit (by simp [icell]) (by simpa using heap_alloc_new (wr.alloc (.cells #[.int .u8 kind, .int .u8 which] 85)) (.cells #[.int .i64 y] 3)) rfl rfl (by simp [maxLen]) (by omega)
      have hov3 := (hnv.alloc _).kept hg3 (hnv.ne ((hol.alloc _).alloc _) (by decide))
      clear hg3 hol hoo hov hnv hb a0 a1 yv
      go_wp2
      refine ⟨reg_mk (k + 1) (by omega) ⟨by rw [HN.out]; simpa using hol3, by rw [HN.out]; exact OwS.nil _ _ _ _, by rw [HN.out]; exact hov3, hb3⟩ (by rw [HN.out]; rfl) (by rw [HN.out]; rfl) (by go_num) rfl, by simp [RegMs, intOf]; omega⟩
  · obtain rfl : safe = z := by omega
    obtain rfl : mm = safe := by omega
    clear HS HK HQ hx hden hxl hmm hy hyr
    conv => arg 2; whnf
    go_wp2_with (at_builtin; refine wpList_ap1 rfl (.tmp 62) (.tmp 64) _ rfl elemEv rfl ((hol.alloc _).alloc _) (Ev.cells Ev.cut) _ rfl _ rfl (by simp) (Ev.one _) (by simp [maxLen]; omega) (by simp; omega) (by simp; omega) ?_)
    intro v3 w3 hol3 hg3 _
    have hb3 : Below w.heap.size w w3 := (((hb.alloc hz _).alloc (by simp; omega) _).alloc (by simp; omega) _).grown hg3 (by simp; omega) (fun g hg => (hol.lt hg).1)
    have hnv : OwS ((wr.alloc (.cells #[.int .u8 kind, .int .u8 which] 85)).alloc (.cells #[.int .i64 y] 3)) w.heap.size 3 1 (.slice (some ⟨wr.heap.size + 1, 0, none⟩) 1 1) [icell y] := OwS.lit (by simp [icell]) (by simpa using heap_alloc_new (wr.alloc (.cells #[.int .u8 kind, .int .u8 which] 85)) (.cells #[.int .i64 y] 3)) rfl rfl (by simp [maxLen]) (by omega)
    have hov3 := (hnv.alloc _).kept hg3 (hnv.ne ((hol.alloc _).alloc _) (by decide))
    clear hg3 hol hoo hov hnv hb a0 a1 yv
    go_wp2
    refine ⟨reg_mk (k + 1) (by omega) ⟨by rw [HN.out]; simpa using hol3, by rw [HN.out]; exact OwS.nil _ _ _ _, by rw [HN.out]; exact hov3, hb3⟩ (by rw [HN.out]; rfl) (by rw [HN.out]; rfl) (by go_num) rfl, by simp [RegMs, intOf]; omega⟩
end Go.Proofs.YtcgbnlhloopnfaaDoor
