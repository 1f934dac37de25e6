/- The walk of tegularef46's Register, joined: it lays the history of the driven register. -/
import Derived.Test.YtcgbnlhloopnfaaDoorRgU
import Derived.Test.YtcgbnlhloopnfaaDoorRgW
import Derived.Test.YtcgbnlhloopnfaaDoorRgX
import Derived.Test.YtcgbnlhloopnfaaDoorRgY
import Derived.Test.YtcgbnlhloopnfaaDoorRgZ
namespace Go.Proofs.YtcgbnlhloopnfaaDoor
open Go.RowKit

def RegX (A : Option Addr) (len c : Nat) (s3 : Value) (a : Act) : Prop := ∃ (u : Nat → Value), a = ⟨#[(.slice A len c), undef, .slice none 0 0, s3, (u 4), (u 5), (u 6), (u 7), (u 8), u 9, u 10, u 11, u 12, u 13, u 14, u 15, u 16, u 17, u 18, u 19, u 20, u 21, u 22, u 23, u 24, u 25, u 26, u 27, u 28, u 29, u 30, u 31, u 32, u 33, u 34, u 35, u 36, u 37, u 38, u 39, u 40, u 41, u 42, u 43, u 44, u 45, u 46, u 47, u 48, u 49, u 50, u 51, u 52, u 53, u 54, u 55, u 56, u 57, u 58, u 59, u 60, u 61, u 62, u 63, u 64, u 65, u 66, u 67, u 68, u 69, u 70, u 71, u 72, u 73, u 74, u 75, u 76, u 77, u 78, u 79, u 80, u 81, u 82, u 83, u 84, u 85, u 86, u 87, u 88, u 89, u 90, u 91, u 92, u 93, u 94, u 95, u 96, u 97, u 98, u 99, u 100, u 101, u 102, u 103, u 104, u 105, u 106, u 107, u 108, u 109, u 110, u 111, u 112, u 113, u 114, u 115, u 116, u 117, u 118, u 119, u 120, u 121, u 122, u 123, u 124, u 125, u 126, u 127, u 128, u 129, u 130, u 131, u 132, u 133, u 134, u 135, u 136, u 137, u 138, u 139, u 140, u 141, u 142, u 143, u 144, u 145, u 146, u 147, u 148, u 149, u 150, u 151, u 152, u 153, u 154, u 155, u 156, u 157, u 158, u 159, u 160, u 161, u 162, u 163, u 164, u 165, u 166, u 167, u 168, u 169, u 170, u 171, u 172, u 173, u 174, u 175, u 176, u 177, u 178, u 179, u 180, u 181, u 182, u 183, u 184, u 185, u 186, u 187, u 188, u 189, u 190, u 191, u 192, u 193, u 194, u 195, u 196, u 197, u 198, u 199, u 200, u 201, u 202, u 203, u 204, u 205, u 206, u 207, u 208, u 209, u 210, u 211, u 212, u 213, u 214, u 215, u 216, u 217, u 218, u 219, u 220, u 221, u 222, u 223, u 224, u 225, u 226, u 227, u 228, u 229, u 230, u 231, undef], []⟩
set_option maxRecDepth 1000000 in
theorem regx_mk {A : Option Addr} {len c : Nat} {s3 : Value} {a : Act} (h : a = ⟨#[(.slice A len c), undef, .slice none 0 0, s3, a.tmps.getD 4 undef, a.tmps.getD 5 undef, a.tmps.getD 6 undef, a.tmps.getD 7 undef, a.tmps.getD 8 undef, a.tmps.getD 9 undef, a.tmps.getD 10 undef, a.tmps.getD 11 undef, a.tmps.getD 12 undef, a.tmps.getD 13 undef, a.tmps.getD 14 undef, a.tmps.getD 15 undef, a.tmps.getD 16 undef, a.tmps.getD 17 undef, a.tmps.getD 18 undef, a.tmps.getD 19 undef, a.tmps.getD 20 undef, a.tmps.getD 21 undef, a.tmps.getD 22 undef, a.tmps.getD 23 undef, a.tmps.getD 24 undef, a.tmps.getD 25 undef, a.tmps.getD 26 undef, a.tmps.getD 27 undef, a.tmps.getD 28 undef, a.tmps.getD 29 undef, a.tmps.getD 30 undef, a.tmps.getD 31 undef, a.tmps.getD 32 undef, a.tmps.getD 33 undef, a.tmps.getD 34 undef, a.tmps.getD 35 undef, a.tmps.getD 36 undef, a.tmps.getD 37 undef, a.tmps.getD 38 undef, a.tmps.getD 39 undef, a.tmps.getD 40 undef, a.tmps.getD 41 undef, a.tmps.getD 42 undef, a.tmps.getD 43 undef, a.tmps.getD 44 undef, a.tmps.getD 45 undef, a.tmps.getD 46 undef, a.tmps.getD 47 undef, a.tmps.getD 48 undef, a.tmps.getD 49 undef, a.tmps.getD 50 undef, a.tmps.getD 51 undef, a.tmps.getD 52 undef, a.tmps.getD 53 undef, a.tmps.getD 54 undef, a.tmps.getD 55 undef, a.tmps.getD 56 undef, a.tmps.getD 57 undef, a.tmps.getD 58 undef, a.tmps.getD 59 undef, a.tmps.getD 60 undef, a.tmps.getD 61 undef, a.tmps.getD 62 undef, a.tmps.getD 63 undef, a.tmps.getD 64 undef, a.tmps.getD 65 undef, a.tmps.getD 66 undef, a.tmps.getD 67 undef, a.tmps.getD 68 undef, a.tmps.getD 69 undef, a.tmps.getD 70 undef, a.tmps.getD 71 undef, a.tmps.getD 72 undef, a.tmps.getD 73 undef, a.tmps.getD 74 undef, a.tmps.getD 75 undef, a.tmps.getD 76 undef, a.tmps.getD 77 undef, a.tmps.getD 78 undef, a.tmps.getD 79 undef, a.tmps.getD 80 undef, a.tmps.getD 81 undef, a.tmps.getD 82 undef, a.tmps.getD 83 undef, a.tmps.getD 84 undef, a.tmps.getD 85 undef, a.tmps.getD 86 undef, a.tmps.getD 87 undef, a.tmps.getD 88 undef, a.tmps.getD 89 undef, a.tmps.getD 90 undef, a.tmps.getD 91 undef, a.tmps.getD 92 undef, a.tmps.getD 93 undef, a.tmps.getD 94 undef, a.tmps.getD 95 undef, a.tmps.getD 96 undef, a.tmps.getD 97 undef, a.tmps.getD 98 undef, a.tmps.getD 99 undef, a.tmps.getD 100 undef, a.tmps.getD 101 undef, a.tmps.getD 102 undef, a.tmps.getD 103 undef, a.tmps.getD 104 undef, a.tmps.getD 105 undef, a.tmps.getD 106 undef, a.tmps.getD 107 undef, a.tmps.getD 108 undef, a.tmps.getD 109 undef, a.tmps.getD 110 undef, a.tmps.getD 111 undef, a.tmps.getD 112 undef, a.tmps.getD 113 undef, a.tmps.getD 114 undef, a.tmps.getD 115 undef, a.tmps.getD 116 undef, a.tmps.getD 117 undef, a.tmps.getD 118 undef, a.tmps.getD 119 undef, a.tmps.getD 120 undef, a.tmps.getD 121 undef, a.tmps.getD 122 undef, a.tmps.getD 123 undef, a.tmps.getD 124 undef, a.tmps.getD 125 undef, a.tmps.getD 126 undef, a.tmps.getD 127 undef, a.tmps.getD 128 undef, a.tmps.getD 129 undef, a.tmps.getD 130 undef, a.tmps.getD 131 undef, a.tmps.getD 132 undef, a.tmps.getD 133 undef, a.tmps.getD 134 undef, a.tmps.getD 135 undef, a.tmps.getD 136 undef, a.tmps.getD 137 undef, a.tmps.getD 138 undef, a.tmps.getD 139 undef, a.tmps.getD 140 undef, a.tmps.getD 141 undef, a.tmps.getD 142 undef, a.tmps.getD 143 undef, a.tmps.getD 144 undef, a.tmps.getD 145 undef, a.tmps.getD 146 undef, a.tmps.getD 147 undef, a.tmps.getD 148 undef, a.tmps.getD 149 undef, a.tmps.getD 150 undef, a.tmps.getD 151 undef, a.tmps.getD 152 undef, a.tmps.getD 153 undef, a.tmps.getD 154 undef, a.tmps.getD 155 undef, a.tmps.getD 156 undef, a.tmps.getD 157 undef, a.tmps.getD 158 undef, a.tmps.getD 159 undef, a.tmps.getD 160 undef, a.tmps.getD 161 undef, a.tmps.getD 162 undef, a.tmps.getD 163 undef, a.tmps.getD 164 undef, a.tmps.getD 165 undef, a.tmps.getD 166 undef, a.tmps.getD 167 undef, a.tmps.getD 168 undef, a.tmps.getD 169 undef, a.tmps.getD 170 undef, a.tmps.getD 171 undef, a.tmps.getD 172 undef, a.tmps.getD 173 undef, a.tmps.getD 174 undef, a.tmps.getD 175 undef, a.tmps.getD 176 undef, a.tmps.getD 177 undef, a.tmps.getD 178 undef, a.tmps.getD 179 undef, a.tmps.getD 180 undef, a.tmps.getD 181 undef, a.tmps.getD 182 undef, a.tmps.getD 183 undef, a.tmps.getD 184 undef, a.tmps.getD 185 undef, a.tmps.getD 186 undef, a.tmps.getD 187 undef, a.tmps.getD 188 undef, a.tmps.getD 189 undef, a.tmps.getD 190 undef, a.tmps.getD 191 undef, a.tmps.getD 192 undef, a.tmps.getD 193 undef, a.tmps.getD 194 undef, a.tmps.getD 195 undef, a.tmps.getD 196 undef, a.tmps.getD 197 undef, a.tmps.getD 198 undef, a.tmps.getD 199 undef, a.tmps.getD 200 undef, a.tmps.getD 201 undef, a.tmps.getD 202 undef, a.tmps.getD 203 undef, a.tmps.getD 204 undef, a.tmps.getD 205 undef, a.tmps.getD 206 undef, a.tmps.getD 207 undef, a.tmps.getD 208 undef, a.tmps.getD 209 undef, a.tmps.getD 210 undef, a.tmps.getD 211 undef, a.tmps.getD 212 undef, a.tmps.getD 213 undef, a.tmps.getD 214 undef, a.tmps.getD 215 undef, a.tmps.getD 216 undef, a.tmps.getD 217 undef, a.tmps.getD 218 undef, a.tmps.getD 219 undef, a.tmps.getD 220 undef, a.tmps.getD 221 undef, a.tmps.getD 222 undef, a.tmps.getD 223 undef, a.tmps.getD 224 undef, a.tmps.getD 225 undef, a.tmps.getD 226 undef, a.tmps.getD 227 undef, a.tmps.getD 228 undef, a.tmps.getD 229 undef, a.tmps.getD 230 undef, a.tmps.getD 231 undef, undef], []⟩) : RegX A len c s3 a := ⟨fun i => a.tmps.getD i undef, h⟩
set_option maxHeartbeats 4000000 in
set_option maxRecDepth 1000000 in
theorem reg_exit (len c : Nat) (wr : World) (u : Nat → Value) (s3 s4 s5 : Value) (sf sn : Int) (A : Option Addr) (R : Act → World → Prop) (Q0 : Exit → Act → World → Prop) (hexit : ∀ a', RegX A len c s3 a' → Q0 (.exit 0) a' wr) :
    Code.wp Tryd.prog regBody (Exit.then R Q0) ⟨#[(.slice A len c), undef, .slice none 0 0, s3, s4, s5, .int .i64 sf, .int .i64 sn, .int .i64 (len : Nat), u 9, u 10, u 11, u 12, u 13, u 14, u 15, u 16, u 17, u 18, u 19, u 20, u 21, u 22, u 23, u 24, u 25, u 26, u 27, u 28, u 29, u 30, u 31, u 32, u 33, u 34, u 35, u 36, u 37, u 38, u 39, u 40, u 41, u 42, u 43, u 44, u 45, u 46, u 47, u 48, u 49, u 50, u 51, u 52, u 53, u 54, u 55, u 56, u 57, u 58, u 59, u 60, u 61, u 62, u 63, u 64, u 65, u 66, u 67, u 68, u 69, u 70, u 71, u 72, u 73, u 74, u 75, u 76, u 77, u 78, u 79, u 80, u 81, u 82, u 83, u 84, u 85, u 86, u 87, u 88, u 89, u 90, u 91, u 92, u 93, u 94, u 95, u 96, u 97, u 98, u 99, u 100, u 101, u 102, u 103, u 104, u 105, u 106, u 107, u 108, u 109, u 110, u 111, u 112, u 113, u 114, u 115, u 116, u 117, u 118, u 119, u 120, u 121, u 122, u 123, u 124, u 125, u 126, u 127, u 128, u 129, u 130, u 131, u 132, u 133, u 134, u 135, u 136, u 137, u 138, u 139, u 140, u 141, u 142, u 143, u 144, u 145, u 146, u 147, u 148, u 149, u 150, u 151, u 152, u 153, u 154, u 155, u 156, u 157, u 158, u 159, u 160, u 161, u 162, u 163, u 164, u 165, u 166, u 167, u 168, u 169, u 170, u 171, u 172, u 173, u 174, u 175, u 176, u 177, u 178, u 179, u 180, u 181, u 182, u 183, u 184, u 185, u 186, u 187, u 188, u 189, u 190, u 191, u 192, u 193, u 194, u 195, u 196, u 197, u 198, u 199, u 200, u 201, u 202, u 203, u 204, u 205, u 206, u 207, u 208, u 209, u 210, u 211, u 212, u 213, u 214, u 215, u 216, u 217, u 218, u 219, u 220, u 221, u 222, u 223, u 224, u 225, u 226, u 227, u 228, u 229, u 230, u 231, undef], []⟩ wr := by
  have HX := Lib.hid hexit
  clear hexit
  conv => arg 2; whnf
  go_wp2
  exact HX.out _ (regx_mk rfl)

set_option maxHeartbeats 4000000 in
set_option maxRecDepth 1000000 in
theorem reg_round (sc : List RgA) (len : Nat) (hlen : len = sc.length) (hby : ∀ a ∈ sc, a.kind < 256 ∧ a.which < 256) (w : World) (A : Option Addr) (c B : Nat) (h : RdS w B 2 A (sc.map RgA.cells)) (hB : B ≤ w.heap.size) (hl : len ≤ 1000)
    (Q0 : Exit → Act → World → Prop) (hexit : ∀ s3 w' a', OwS w' w.heap.size 45 6 s3 ((rgTo sc len).l.map Ev.cells) → Below w.heap.size w w' → RegX A len c s3 a' → Q0 (.exit 0) a' w') (a : Act) (wr : World) (hI : RegI sc w A len c a wr) :
    Code.wp Tryd.prog regBody (Exit.then (fun a' w' => RegI sc w A len c a' w' ∧ RegMs len a' w' < RegMs len a wr) Q0) a wr := by
  obtain ⟨u, hI⟩ := hI
  obtain ⟨k, hk, ⟨hol, hoo, hov, hb⟩, h6, h7, h8, rfl⟩ := hI
  rw [h6, h7, h8]
  clear h6 h7 h8
  have hz := hb.size
  rcases Nat.lt_or_ge k len with hlt | hge
  · obtain ⟨x, hx⟩ : ∃ x, sc[k]? = some x := ⟨sc[k]'(by omega), List.getElem?_eq_getElem _⟩
    obtain ⟨hb1, hb3⟩ := hby x (List.mem_of_getElem? hx)
    have HS := Lib.hid (rgTo_succ hx)
    obtain ⟨hn1, hn2, hn4, hn3, hsf⟩ := rg_bd sc k
    obtain ⟨b, off, hA, hbB, hcl⟩ := h.2 (by simp; omega)
    have hrow : (sc.map RgA.cells)[k]? = some x.cells := by rw [List.getElem?_map, hx]; rfl
    have a0 := (hb.cell (p := ⟨b, off + k * 2 + 0, none⟩) (by show b < _; omega)).trans (hcl k _ hrow 0 _ rfl)
    have a1 := (hb.cell (p := ⟨b, off + k * 2 + 1, none⟩) (by show b < _; omega)).trans (hcl k _ hrow 1 _ rfl)
    simp only [Nat.add_zero] at a0 a1
    generalize rgTo sc k = st at *
    obtain ⟨l, ops, vs, safe, n⟩ := st
    obtain ⟨kind, which⟩ := x
    simp only at hn1 hn2 hn3 hn4 hsf a0 a1 hb1 hb3 hol hoo hov ⊢
    obtain ⟨z, HZ⟩ : ∃ z, Hid (vs.length = z + 1) := ⟨vs.length - 1, by unfold Hid; omega⟩
    obtain ⟨Ao, co, hu4, -, -⟩ := hoo.form
    obtain ⟨Av, cv, hu5, hcc1, -⟩ := hov.form
    rw [List.length_map] at hu4 hu5 hcc1
    rw [HZ.out] at hu5 hcc1 hn3 hsf
    rw [hu4] at hoo ⊢
    rw [hu5] at hov ⊢
    have hn3' : z ≤ k := by omega
    have hsf' : safe ≤ z := by omega
    have HM : Hid (ops.length = ops.length) := rfl
    obtain ⟨kk, hkk⟩ : ∃ kk, kk = kind % 8 := ⟨_, rfl⟩
    have C0 : ops.length = 0 ∨ 0 < ops.length := Nat.eq_zero_or_pos _
    have C1 : kk = 0 ∨ kk = 1 ∨ kk = 2 ∨ kk = 3 ∨ kk = 4 ∨ kk = 5 ∨ kk = 6 ∨ kk = 7 := by omega
    rcases C0 with hm | hm0
    · rcases C1 with rfl | rfl | rfl | rfl | rfl | rfl | rfl | rfl
      · exact reg_call0z sc len hlen w wr u (u 3) A c k hlt hl b off hA l ops vs safe n kind which ops.length z Ao co Av cv hn1 hn2 hn3' hn4 hsf' hcc1 hb1 hb3 a0 a1 hol hoo hov hb hz HM HZ HS Q0 hkk hm
      · exact reg_call1z sc len hlen w wr u (u 3) A c k hlt hl b off hA l ops vs safe n kind which ops.length z Ao co Av cv hn1 hn2 hn3' hn4 hsf' hcc1 hb1 hb3 a0 a1 hol hoo hov hb hz HM HZ HS Q0 hkk hm
      · exact reg_call2z sc len hlen w wr u (u 3) A c k hlt hl b off hA l ops vs safe n kind which ops.length z Ao co Av cv hn1 hn2 hn3' hn4 hsf' hcc1 hb1 hb3 a0 a1 hol hoo hov hb hz HM HZ HS Q0 hkk hm
      · exact reg_call3z sc len hlen w wr u (u 3) A c k hlt hl b off hA l ops vs safe n kind which ops.length z Ao co Av cv hn1 hn2 hn3' hn4 hsf' hcc1 hb1 hb3 a0 a1 hol hoo hov hb hz HM HZ HS Q0 hkk hm
      · exact reg_nothz4 sc len hlen w wr u (u 3) A c k hlt hl b off hA l ops vs safe n kind which ops.length z Ao co Av cv hn1 hn2 hn3' hn4 hsf' hcc1 hb1 hb3 a0 a1 hol hoo hov hb hz HM HZ HS Q0 hkk hm
      · exact reg_nothz5 sc len hlen w wr u (u 3) A c k hlt hl b off hA l ops vs safe n kind which ops.length z Ao co Av cv hn1 hn2 hn3' hn4 hsf' hcc1 hb1 hb3 a0 a1 hol hoo hov hb hz HM HZ HS Q0 hkk hm
      · exact reg_nothz6 sc len hlen w wr u (u 3) A c k hlt hl b off hA l ops vs safe n kind which ops.length z Ao co Av cv hn1 hn2 hn3' hn4 hsf' hcc1 hb1 hb3 a0 a1 hol hoo hov hb hz HM HZ HS Q0 hkk hm
      · exact reg_cutz sc len hlen w wr u (u 3) A c k hlt hl b off hA l ops vs safe n kind which ops.length z Ao co Av cv hn1 hn2 hn3' hn4 hsf' hcc1 hb1 hb3 a0 a1 hol hoo hov hb hz HM HZ HS Q0 hkk hm
    · obtain ⟨s, hsq⟩ : ∃ s, ops[which % ops.length]? = some s := ⟨ops[which % ops.length]'(Nat.mod_lt _ hm0), List.getElem?_eq_getElem _⟩
      obtain ⟨⟨ckind, cop, cwr, creg, cval, cba⟩, sex, sdn, sres, sat⟩ := s
      rcases C1 with rfl | rfl | rfl | rfl | rfl | rfl | rfl | rfl
      · exact reg_call0p sc len hlen w wr u (u 3) A c k hlt hl b off hA l ops vs safe n kind which ops.length z Ao co Av cv hn1 hn2 hn3' hn4 hsf' hcc1 hb1 hb3 a0 a1 hol hoo hov hb hz HM HZ HS Q0 hkk hm0
      · exact reg_call1p sc len hlen w wr u (u 3) A c k hlt hl b off hA l ops vs safe n kind which ops.length z Ao co Av cv hn1 hn2 hn3' hn4 hsf' hcc1 hb1 hb3 a0 a1 hol hoo hov hb hz HM HZ HS Q0 hkk hm0
      · exact reg_call2p sc len hlen w wr u (u 3) A c k hlt hl b off hA l ops vs safe n kind which ops.length z Ao co Av cv hn1 hn2 hn3' hn4 hsf' hcc1 hb1 hb3 a0 a1 hol hoo hov hb hz HM HZ HS Q0 hkk hm0
      · exact reg_call3p sc len hlen w wr u (u 3) A c k hlt hl b off hA l ops vs safe n kind which ops.length z Ao co Av cv hn1 hn2 hn3' hn4 hsf' hcc1 hb1 hb3 a0 a1 hol hoo hov hb hz HM HZ HS Q0 hkk hm0
      · cases sex
        · cases cwr
          · cases cba
            · exact reg_exff4 sc len hlen w wr u (u 3) A c k hlt hl b off hA l ops vs safe n kind which ops.length z Ao co Av cv hn1 hn2 hn3' hn4 hsf' hcc1 hb1 hb3 a0 a1 hol hoo hov hb hz HM HZ HS Q0 hkk hm0 ckind cop creg cval sres sat sdn hsq
            · exact reg_exft4 sc len hlen w wr u (u 3) A c k hlt hl b off hA l ops vs safe n kind which ops.length z Ao co Av cv hn1 hn2 hn3' hn4 hsf' hcc1 hb1 hb3 a0 a1 hol hoo hov hb hz HM HZ HS Q0 hkk hm0 ckind cop creg cval sres sat sdn hsq
          · exact reg_extc4 sc len hlen w wr u (u 3) A c k hlt hl b off hA l ops vs safe n kind which ops.length z Ao co Av cv hn1 hn2 hn3' hn4 hsf' hcc1 hb1 hb3 a0 a1 hol hoo hov hb hz HM HZ HS Q0 hkk hm0 ckind cop creg cval sres sat cba sdn hsq
        · exact reg_exx4 sc len hlen w wr u (u 3) A c k hlt hl b off hA l ops vs safe n kind which ops.length z Ao co Av cv hn1 hn2 hn3' hn4 hsf' hcc1 hb1 hb3 a0 a1 hol hoo hov hb hz HM HZ HS Q0 hkk hm0 ckind cop creg cval sres sat cwr cba sdn hsq
      · cases sex
        · cases cwr
          · cases cba
            · exact reg_exff5 sc len hlen w wr u (u 3) A c k hlt hl b off hA l ops vs safe n kind which ops.length z Ao co Av cv hn1 hn2 hn3' hn4 hsf' hcc1 hb1 hb3 a0 a1 hol hoo hov hb hz HM HZ HS Q0 hkk hm0 ckind cop creg cval sres sat sdn hsq
            · exact reg_exft5 sc len hlen w wr u (u 3) A c k hlt hl b off hA l ops vs safe n kind which ops.length z Ao co Av cv hn1 hn2 hn3' hn4 hsf' hcc1 hb1 hb3 a0 a1 hol hoo hov hb hz HM HZ HS Q0 hkk hm0 ckind cop creg cval sres sat sdn hsq
          · exact reg_extc5 sc len hlen w wr u (u 3) A c k hlt hl b off hA l ops vs safe n kind which ops.length z Ao co Av cv hn1 hn2 hn3' hn4 hsf' hcc1 hb1 hb3 a0 a1 hol hoo hov hb hz HM HZ HS Q0 hkk hm0 ckind cop creg cval sres sat cba sdn hsq
        · exact reg_exx5 sc len hlen w wr u (u 3) A c k hlt hl b off hA l ops vs safe n kind which ops.length z Ao co Av cv hn1 hn2 hn3' hn4 hsf' hcc1 hb1 hb3 a0 a1 hol hoo hov hb hz HM HZ HS Q0 hkk hm0 ckind cop creg cval sres sat cwr cba sdn hsq
      · cases sex
        · exact reg_ansnex sc len hlen w wr u (u 3) A c k hlt hl b off hA l ops vs safe n kind which ops.length z Ao co Av cv hn1 hn2 hn3' hn4 hsf' hcc1 hb1 hb3 a0 a1 hol hoo hov hb hz HM HZ HS Q0 hkk hm0 ckind cop creg cval sres sat cwr cba sdn hsq
        · cases sdn
          · cases cwr
            · cases cba
              · exact reg_ansff sc len hlen w wr u (u 3) A c k hlt hl b off hA l ops vs safe n kind which ops.length z Ao co Av cv hn1 hn2 hn3' hn4 hsf' hcc1 hb1 hb3 a0 a1 hol hoo hov hb hz HM HZ HS Q0 hkk hm0 ckind cop creg cval sres sat hsq
              · exact reg_ansft sc len hlen w wr u (u 3) A c k hlt hl b off hA l ops vs safe n kind which ops.length z Ao co Av cv hn1 hn2 hn3' hn4 hsf' hcc1 hb1 hb3 a0 a1 hol hoo hov hb hz HM HZ HS Q0 hkk hm0 ckind cop creg cval sres sat hsq
            · cases cba
              · exact reg_anstf sc len hlen w wr u (u 3) A c k hlt hl b off hA l ops vs safe n kind which ops.length z Ao co Av cv hn1 hn2 hn3' hn4 hsf' hcc1 hb1 hb3 a0 a1 hol hoo hov hb hz HM HZ HS Q0 hkk hm0 ckind cop creg cval sres sat hsq
              · exact reg_anstt sc len hlen w wr u (u 3) A c k hlt hl b off hA l ops vs safe n kind which ops.length z Ao co Av cv hn1 hn2 hn3' hn4 hsf' hcc1 hb1 hb3 a0 a1 hol hoo hov hb hz HM HZ HS Q0 hkk hm0 ckind cop creg cval sres sat hsq
          · exact reg_ansdn sc len hlen w wr u (u 3) A c k hlt hl b off hA l ops vs safe n kind which ops.length z Ao co Av cv hn1 hn2 hn3' hn4 hsf' hcc1 hb1 hb3 a0 a1 hol hoo hov hb hz HM HZ HS Q0 hkk hm0 ckind cop creg cval sres sat cwr cba hsq
      · exact reg_cutp sc len hlen w wr u (u 3) A c k hlt hl b off hA l ops vs safe n kind which ops.length z Ao co Av cv hn1 hn2 hn3' hn4 hsf' hcc1 hb1 hb3 a0 a1 hol hoo hov hb hz HM HZ HS Q0 hkk hm0
  · obtain rfl : k = len := by omega
    exact reg_exit k c wr u (u 3) (u 4) (u 5) _ _ A _ Q0 (fun a' ha' => hexit _ _ _ hol hb ha')

set_option maxHeartbeats 4000000 in
set_option maxRecDepth 1000000 in
theorem reg_loop (sc : List RgA) (len : Nat) (hlen : len = sc.length) (hby : ∀ a ∈ sc, a.kind < 256 ∧ a.which < 256) (w : World) (A : Option Addr) (c B : Nat) (h : RdS w B 2 A (sc.map RgA.cells)) (hB : B ≤ w.heap.size) (hl : len ≤ 1000)
    (Q0 : Exit → Act → World → Prop) (hexit : ∀ s3 w' a', OwS w' w.heap.size 45 6 s3 ((rgTo sc len).l.map Ev.cells) → Below w.heap.size w w' → RegX A len c s3 a' → Q0 (.exit 0) a' w') :
    Code.wp Tryd.prog (Code.loop regBody) Q0 ⟨#[(.slice A len c), undef, .slice none 0 0, .slice none 0 0, .slice none 0 0, (.slice (some ⟨w.heap.size, 0, none⟩) 1 1), .int .i64 0, .int .i64 0, .int .i64 0, undef, undef, undef, undef, undef, undef, (.slice (some ⟨w.heap.size, 0, none⟩) 1 1), undef, undef, undef, undef, undef, undef, undef, undef, undef, undef, undef, undef, undef, undef, undef, undef, undef, undef, undef, undef, undef, undef, undef, undef, undef, undef, undef, undef, undef, undef, undef, undef, undef, undef, undef, undef, undef, undef, undef, undef, undef, undef, undef, undef, undef, undef, undef, undef, undef, undef, undef, undef, undef, undef, undef, undef, undef, undef, undef, undef, undef, undef, undef, undef, undef, undef, undef, undef, undef, undef, undef, undef, undef, undef, undef, undef, undef, undef, undef, undef, undef, undef, undef, undef, undef, undef, undef, undef, undef, undef, undef, undef, undef, undef, undef, undef, undef, undef, undef, undef, undef, undef, undef, undef, undef, undef, undef, undef, undef, undef, undef, undef, undef, undef, undef, undef, undef, undef, undef, undef, undef, undef, undef, undef, undef, undef, undef, undef, undef, undef, undef, undef, undef, undef, undef, undef, undef, undef, undef, undef, undef, undef, undef, undef, undef, undef, undef, undef, undef, undef, undef, undef, undef, undef, undef, undef, undef, undef, undef, undef, undef, undef, undef, undef, undef, undef, undef, undef, undef, undef, undef, undef, undef, undef, undef, undef, undef, undef, undef, undef, undef, undef, undef, undef, undef, undef, undef, undef, undef, undef, undef, undef, undef, undef, undef, undef, undef, undef, undef, undef, undef, undef, undef, undef, undef, undef, undef, undef, undef, undef, undef, undef, undef, undef, undef, undef, undef], []⟩ (w.alloc (.cells #[.int .i64 0] 3)) := by
  refine wp_loop (RegI sc w A len c) (RegMs len) ?_ (fun a wr hI => reg_round sc len hlen hby w A c B h hB hl Q0 hexit a wr hI)
  exact reg_mk 0 (Nat.zero_le _) ⟨OwS.nil _ _ _ _, OwS.nil _ _ _ _, OwS.lit (by simp [icell, rgTo, rg0]) (heap_alloc_new w _) rfl rfl (by simp [maxLen]) (Nat.le_refl _), below_laid⟩ rfl rfl rfl rfl

set_option maxHeartbeats 4000000 in
set_option maxRecDepth 1000000 in
theorem register_any (sc : List RgA) (hby : ∀ a ∈ sc, a.kind < 256 ∧ a.which < 256) (A : Option Addr) (c B : Nat) (w : World) (h : RdS w B 2 A (sc.map RgA.cells)) (hB : B ≤ w.heap.size) (hl : sc.length ≤ 1000) :
    Calls Tryd.prog 20 #[.slice A sc.length c] w (LayE w (rgTo sc sc.length).l) := by
  have HL := Lib.hid (fun Q0 hexit => reg_loop sc sc.length rfl hby w A c B h hB hl Q0 hexit)
  clear h hby
  go_enter Tryd.func20, Tryd.ntmps20
  go_wp2
  refine HL.out _ ?_
  rintro s3 w' a' hown hb ⟨u, rfl⟩
  go_wp2
  go_ret
  exact ⟨_, rfl, hown, hb⟩
end Go.Proofs.YtcgbnlhloopnfaaDoor
