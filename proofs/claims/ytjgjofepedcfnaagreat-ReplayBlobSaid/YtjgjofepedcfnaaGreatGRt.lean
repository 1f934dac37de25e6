/- Numbers and byte strings read from bytes, on lists; a reader in a box; walks of codec.Reader.
Walks of codec.Reader: Uint, Count, Bytes, Left, Done; codec.New. -/
import Derived.Test.YtjgjofepedcfnaaGreatRsA
import Derived.Test.YtjgjofepedcfnaaGreatGRo
namespace Go.Proofs.YtjgjofepedcfnaaGreat
open Go.RowKit
def uvD : Nat → Nat → List Nat → Option (Nat × List Nat)
 | _, _, [] => none
 | i, n, c :: l => if 9 < i then none else if i = 9 ∧ 1 < c then none else
   if c < 128 then (if c = 0 ∧ 0 < i then none else some (n + (c % 128) * 2 ^ (7 * i), l)) else uvD (i + 1) (n + (c % 128) * 2 ^ (7 * i)) l
abbrev Rst := Option (List Nat)
def rdG (i n : Nat) : Rst → Nat × Nat × Rst
 | none => (0, 5, none)
 | some l => match uvD i n l with
  | some (m, l') => (m, 0, some l')
  | none => (0, 5, none)
def rdU (s : Rst) : Nat × Nat × Rst := rdG 0 0 s
def rdC (most : Nat) (s : Rst) : Nat × Nat × Rst := if (rdU s).2.1 = 0 ∧ most < (rdU s).1 then (0, 5, none) else rdU s
def rdT (n : Nat) : Rst → List Nat × Nat × Rst
 | none => ([], 5, none)
 | some l => if l.length < n then ([], 5, none) else (l.take n, 0, some (l.drop n))
def rdB (s : Rst) : List Nat × Nat × Rst := if (rdU s).2.1 = 0 then rdT (rdU s).1 (rdU s).2.2 else ([], 5, none)
def rdL (s : Rst) : List Nat := s.getD []
def rdD (s : Rst) : Nat := if s = some [] then 0 else 5
theorem uvD_lt : ∀ (l : List Nat) (i n : Nat) (m : Nat) (l' : List Nat), (∀ c ∈ l, c < 256) → n < 2 ^ (7 * i) → i ≤ 9 → uvD i n l = some (m, l') → m < 18446744073709551616 ∧ ∃ k, l' = l.drop k ∧ 0 < k ∧ k ≤ l.length
 | [], i, n, m, l', _, _, _, h => by simp [uvD] at h
 | c :: l, i, n, m, l', hc, hn, hi, h => by
  unfold uvD at h
  rw [if_neg (by omega)] at h
  have hp : 2 ^ (7 * (i + 1)) = 128 * 2 ^ (7 * i) := by rw [show 7 * (i + 1) = 7 * i + 7 by omega, Nat.pow_add]; omega
  have hm : c % 128 * 2 ^ (7 * i) ≤ 127 * 2 ^ (7 * i) := Nat.mul_le_mul_right _ (by omega)
  by_cases h9 : i = 9
  ·subst h9
   split at h
   ·cases h
   ·rename_i h1
    have hc1 : c ≤ 1 := by omega
    rw [if_pos (by omega)] at h
    split at h
    ·cases h
    ·injection h with h
     injection h with h1 h2
     subst h1 h2
     refine ⟨?_, 1, rfl, by omega, by simp⟩
     have : c % 128 * 2 ^ (7 * 9) ≤ 1 * 2 ^ (7 * 9) := Nat.mul_le_mul_right _ (by omega)
     omega
  ·rw [if_neg (by omega)] at h
   have h63 : 2 ^ (7 * (i + 1)) ≤ 2 ^ 63 := Nat.pow_le_pow_right (by omega) (by omega)
   split at h
   ·split at h
    ·cases h
    ·injection h with h
     injection h with h1 h2
     subst h1 h2
     exact ⟨by omega, 1, rfl, by omega, by simp⟩
   ·obtain ⟨g1, k, g2, g3, g4⟩ := uvD_lt l (i + 1) _ m l' (fun c hc' => hc c (by simp [hc'])) (by omega) (by omega) h
    exact ⟨g1, k + 1, by rw [g2]; rfl, by omega, by simp; omega⟩
def RdX (p q : Nat) (T : TypeId) (s : Rst) (W : World) : Prop := ∃ A c, W.heap[p]? = some (.cells #[.slice A (rdL s).length c, .bool s.isNone] T (0, 0)) ∧ BytS W W.heap.size A (rdL s) ∧ (q ≤ p ∧ ∀ a, A = some a → q ≤ a.block ∧ a.block < p) ∧ (rdL s).length ≤ c
def RdP (p q : Nat) (T : TypeId) (s : Rst) (W W' : World) : Prop := RdX p q T s W' ∧ Agr (fun k => k = p) W W'
section
variable {p q : Nat} {T : TypeId} {s s' : Rst} {W W' : World}
theorem RdX.lt (h : RdX p q T s W) : p < W.heap.size := by
 obtain ⟨A, c, hb, -⟩ := h
 exact (Array.getElem?_eq_some_iff.1 hb).1
theorem RdX.qp (h : RdX p q T s W) : q ≤ p := by
 obtain ⟨A, c, -, -, h3, -⟩ := h
 exact h3.1
theorem RdX.call (h : RdX p q T s W) (hb : Below W.heap.size W W') : RdX p q T s W' := by
 have hl := h.lt
 obtain ⟨A, c, h1, h2, h3, h4⟩ := h
 exact ⟨A, c, (hb.block _ hl).trans h1, byt_keep h2 hb, h3, h4⟩
theorem RdX.cells (h : RdX p q T s W) : ∃ A c, W.cell? ⟨p, 0, none⟩ = some (.slice A (rdL s).length c) ∧ W.cell? ⟨p, 1, none⟩ = some (.bool s.isNone) ∧ W.frozen? ⟨p, 0, none⟩ = false ∧ W.frozen? ⟨p, 1, none⟩ = false ∧ BytS W W.heap.size A (rdL s) ∧ (rdL s).length ≤ c ∧ q ≤ p ∧ ∀ a, A = some a → q ≤ a.block ∧ a.block < p := by
 obtain ⟨A, c, h1, h2, h3, h4⟩ := h
 exact ⟨A, c, by rw [cell_of_row _ _ _ _ _ _ h1]; rfl, by rw [cell_of_row _ _ _ _ _ _ h1]; rfl, frozen_blk h1 0, frozen_blk h1 1, h2, h4, h3⟩
theorem RdX.bad (h : RdX p q T s W) : RdP p q T none W ((W.setCell ⟨p, 0, none⟩ (.slice none 0 0)).setCell ⟨p, 1, none⟩ (.bool true)) := by
 obtain ⟨A, c, h1, h2, h3, h4⟩ := h
 refine ⟨⟨none, 0, heap_setCell_same _ _ 1 _ _ _ (heap_setCell_same _ _ 0 _ _ _ h1), RdS.nil _ _ _ _, ⟨h3.1, by simp⟩, Nat.le_refl _⟩, ?_⟩
 exact Agr.set (F := fun k => k = p) (Agr.set (F := fun k => k = p) (Agr.refl _ _) (p := ⟨p, 0, none⟩) (.inl rfl) _) (p := ⟨p, 1, none⟩) (.inl rfl) _
end
set_option maxHeartbeats 1000000 in
set_option maxRecDepth 100000 in
theorem cFail {p q : Nat} {T : TypeId} {s : Rst} (w : World) (h : RdX p q T s w) :
  Calls Tryz.prog 116 #[.pointer (some ⟨p, 0, none⟩)] w fun e w' => e = .returned (.int .i64 5) ∧ RdP p q T none w w' := by
 obtain ⟨A, c, p0, p1, f0, f1, -⟩ := h.cells
 have HB := Lib.hid h.bad
 clear h
 go_enter Tryz.func116, Tryz.ntmps116
 go_wp2
 go_ret
 exact ⟨rfl, HB.out⟩
theorem addr_add (a : Addr) (n : Nat) : (a.add n).block = a.block := by
 unfold Addr.add
 split <;> rfl
theorem cut_drop {c n : Nat} {l : List Nat} (k : IntKind) (A : Option Addr) (h1 : n ≤ l.length) (h2 : l.length ≤ c) : ∃ A1, (∀ W : World, (Instr.slice 26 (.slice A l.length c) (some (.int k (n : Int))) none none).run Tryz.prog W = .ok (.slice A1 (l.drop n).length (c - n)) W) ∧ (∀ W B, BytS W B A l → BytS W B A1 (l.drop n)) ∧ ∀ a, A1 = some a → ∃ b, A = some b ∧ a.block = b.block := by
 refine ⟨if c = n then A else A.map (·.add n), fun W => ?_, fun W B h => ?_, fun a ha => ?_⟩
 ·go_simp
 ·by_cases hc : c = n
  ·exact ⟨fun r hr => h.1 r (by rw [List.map_drop] at hr; exact List.mem_of_mem_drop hr), fun hn => by rw [List.length_map, List.length_drop] at hn; omega⟩
  ·rw [if_neg hc]
   by_cases hl : l.length = 0
   ·rw [List.length_eq_zero_iff.1 hl]
    exact ⟨by simp, by simp⟩
   ·obtain ⟨b, o, rfl, -⟩ := h.2 (by rw [List.length_map]; omega)
    have h3 := RdS.drop1 h n
    rw [← List.map_drop] at h3
    show RdS W B 1 (some (Addr.add ⟨b, o, none⟩ n)) _
    rw [Addr.add_lit]
    exact h3
 ·by_cases hc : c = n
  ·rw [if_pos hc] at ha
   exact ⟨a, ha, rfl⟩
  ·rw [if_neg hc] at ha
   cases A with
   | none => cases ha
   | some b =>
    injection ha with ha
    exact ⟨b, rfl, by rw [← ha]; exact addr_add b _⟩
theorem cut_take {c n : Nat} {l : List Nat} (A : Option Addr) (h1 : n ≤ l.length) (h2 : l.length ≤ c) : ∃ A1, (∀ W : World, (Instr.slice 26 (.slice A l.length c) none (some (.int .u64 (n : Int))) (some (.int .u64 (n : Int)))).run Tryz.prog W = .ok (.slice A1 (l.take n).length n) W) ∧ (∀ W B, BytS W B A l → BytS W B A1 (l.take n)) ∧ ∀ a, A1 = some a → ∃ b, A = some b ∧ a.block = b.block := by
 refine ⟨if n = 0 then A else A.map (·.add 0), fun W => ?_, fun W B h => ?_, fun a ha => ?_⟩
 ·have h3 : n ≤ c := Nat.le_trans h1 h2
  have h4 : ¬ c < n := by omega
  go_simp
 ·by_cases hc : n = 0
  ·subst hc
   exact ⟨by simp, by simp⟩
  ·rw [if_neg hc]
   obtain ⟨b, o, rfl, -⟩ := h.2 (by rw [List.length_map]; omega)
   have h3 := RdS.take h n
   rw [← List.map_take] at h3
   exact h3
 ·by_cases hc : n = 0
  ·rw [if_pos hc] at ha
   exact ⟨a, ha, rfl⟩
  ·rw [if_neg hc] at ha
   cases A with
   | none => cases ha
   | some b =>
    injection ha with ha
    exact ⟨b, rfl, by rw [← ha]; exact addr_add b _⟩
theorem RdX.next {p q c1 : Nat} {T : TypeId} {l : List Nat} {l1 : List Nat} {A1 : Option Addr} {W : World} (h : RdX p q T (some l) W) (hb : BytS W W.heap.size A1 l1) (hn : q ≤ p ∧ ∀ a, A1 = some a → q ≤ a.block ∧ a.block < p) (hc : l1.length ≤ c1) : RdP p q T (some l1) W (W.setCell ⟨p, 0, none⟩ (.slice A1 l1.length c1)) := by
 obtain ⟨A, c, h1, h2, h3, h4⟩ := h
 have ha : Agr (fun k => k = p) W (W.setCell ⟨p, 0, none⟩ (.slice A1 l1.length c1)) := Agr.set (F := fun k => k = p) (Agr.refl _ _) (p := ⟨p, 0, none⟩) (.inl rfl) _
 exact ⟨⟨A1, c1, heap_setCell_same _ _ 0 _ _ _ h1, RdS.stb (F := fun k => k = p) hb (fun a e => Nat.ne_of_lt (hn.2 a e).2) _ ha, hn, hc⟩, ha⟩
set_option maxHeartbeats 1000000 in
set_option maxRecDepth 100000 in
theorem cTake {p q n : Nat} {T : TypeId} {s : Rst} (w : World) (h : RdX p q T s w) (hl : (rdL s).length ≤ 1000000) (_hn : n < 18446744073709551616) :
  Calls Tryz.prog 115 #[.pointer (some ⟨p, 0, none⟩), .int .u64 (n : Int)] w fun e w' => (∃ A c, e = .returned (.tuple #[.slice A (rdT n s).1.length c, .int .i64 ((rdT n s).2.1 : Int)]) ∧ BytS w' w'.heap.size A (rdT n s).1 ∧ (q ≤ p ∧ ∀ a, A = some a → q ≤ a.block ∧ a.block < p) ∧ (rdT n s).1.length ≤ c) ∧ RdP p q T (rdT n s).2.2 w w' := by
 obtain ⟨A, c, p0, p1, f0, f1, hby, hlc, hne⟩ := h.cells
 have HF := Lib.hid (cFail w h)
 have hcv := fun W => conv_iu64 ((rdL s).length : Int) (by omega) (by omega) W
 have HH := Lib.hid h
 clear h
 cases s with
 | none =>
  simp only [rdL, Option.getD, Option.isNone, List.length_nil, rdT] at p0 p1 ⊢
  clear hby hlc hne
  go_enter Tryz.func115, Tryz.ntmps115
  go_wp2_with fail
  refine HF.out.mono ?_
  rintro e w1 ⟨rfl, hp⟩
  have HP := Lib.hid hp
  clear hp HF
  go_wp2
  go_ret2
  exact ⟨⟨none, 0, rfl, RdS.nil _ _ _ _, ⟨HP.out.1.qp, by simp⟩, Nat.le_refl _⟩, HP.out⟩
 | some l =>
  simp only [rdL, Option.getD, Option.isNone, rdT] at p0 p1 hcv hby hlc hl ⊢
  by_cases hln : l.length < n
  ·rw [if_pos hln]
   have hI : (l.length : Int) < (n : Int) := by omega
   clear hby hlc hne hln
   go_enter Tryz.func115, Tryz.ntmps115
   go_wp2_with fail
   refine HF.out.mono ?_
   rintro e w1 ⟨rfl, hp⟩
   have HP := Lib.hid hp
   clear hp HF
   go_wp2
   go_ret2
   exact ⟨⟨none, 0, rfl, RdS.nil _ _ _ _, ⟨HP.out.1.qp, by simp⟩, Nat.le_refl _⟩, HP.out⟩
  ·rw [if_neg hln]
   have hI : ¬ (l.length : Int) < (n : Int) := by omega
   obtain ⟨A1, hs1, hb1, he1⟩ := cut_take (c := c) A (by omega : n ≤ l.length) hlc
   obtain ⟨A2, hs2, hb2, he2⟩ := cut_drop (c := c) .u64 A (by omega : n ≤ l.length) hlc
   have hn1 : q ≤ p ∧ ∀ a, A1 = some a → q ≤ a.block ∧ a.block < p := ⟨hne.1, fun a ha => by obtain ⟨b, hb, e⟩ := he1 a ha; rw [e]; exact hne.2 b hb⟩
   have hn2 : q ≤ p ∧ ∀ a, A2 = some a → q ≤ a.block ∧ a.block < p := ⟨hne.1, fun a ha => by obtain ⟨b, hb, e⟩ := he2 a ha; rw [e]; exact hne.2 b hb⟩
   have HP : Hid (RdP p q T (some (l.drop n)) w (w.setCell ⟨p, 0, none⟩ (.slice A2 (l.drop n).length (c - n)))) := HH.out.next (hb2 w _ hby) hn2 (by rw [List.length_drop]; omega)
   have HT : Hid (BytS (w.setCell ⟨p, 0, none⟩ (.slice A2 (l.drop n).length (c - n))) (w.setCell ⟨p, 0, none⟩ (.slice A2 (l.drop n).length (c - n))).heap.size A1 (l.take n)) := RdS.stb (F := fun k => k = p) (hb1 w _ hby) (fun a e => Nat.ne_of_lt (hn1.2 a e).2) _ HP.out.2
   have HN := Lib.hid hn1
   have HLN : Hid ((l.take n).length ≤ n) := by rw [Hid, List.length_take]; omega
   generalize l.drop n = l2 at *
   generalize l.take n = l1 at *
   clear hb1 hb2 he1 he2 hn1 hn2 hby hne HF HH hln
   go_enter Tryz.func115, Tryz.ntmps115
   go_wp2
   go_ret2
   exact ⟨⟨A1, n, rfl, HT.out, HN.out, HLN.out⟩, HP.out⟩
end Go.Proofs.YtjgjofepedcfnaaGreat
namespace Go.Proofs.YtjgjofepedcfnaaGreat
open Go.RowKit
theorem and127 : ∀ b : Fin 256, bits .and .u64 ((b.1 : Nat) : Int) 127 = ((b.1 % 128 : Nat) : Int) := by decide +kernel
theorem pow7 (i : Nat) : 2 ^ (7 * (i + 1)) = 128 * 2 ^ (7 * i) := by rw [show 7 * (i + 1) = 7 * i + 7 by omega, Nat.pow_add]; omega
theorem step_lt {i n c : Nat} (hi : i < 9) (hn : n < 2 ^ (7 * i)) : n + c % 128 * 2 ^ (7 * i) < 2 ^ (7 * (i + 1)) ∧ n + c % 128 * 2 ^ (7 * i) < 9223372036854775808 := by
 have h1 := pow7 i
 have h2 : c % 128 * 2 ^ (7 * i) ≤ 127 * 2 ^ (7 * i) := Nat.mul_le_mul_right _ (by omega)
 have h3 : 2 ^ (7 * (i + 1)) ≤ 2 ^ 63 := Nat.pow_le_pow_right (by omega) (by omega)
 omega
theorem or_step {i n c : Nat} (hi : i ≤ 9) (hn : n < 2 ^ (7 * i)) (h9 : i = 9 → c ≤ 1) : bits .or .u64 (n : Int) (IntKind.u64.wrap ((c : Int) % 128 * 2 ^ (7 * i))) = ((n + c % 128 * 2 ^ (7 * i) : Nat) : Int) := by
 have hb : c % 128 * 2 ^ (7 * i) < 18446744073709551616 := by
  by_cases h : i = 9
  ·subst h
   have := h9 rfl
   have : c % 128 ≤ 1 := by omega
   have : c % 128 * 2 ^ (7 * 9) ≤ 1 * 2 ^ (7 * 9) := Nat.mul_le_mul_right _ this
   omega
  ·have := (step_lt (c := c) (by omega : i < 9) hn).2
   omega
 have hp : 2 ^ (7 * i) ≤ 2 ^ 63 := Nat.pow_le_pow_right (by omega) (by omega)
 have e1 : (c : Int) % 128 * 2 ^ (7 * i) = ((c % 128 * 2 ^ (7 * i) : Nat) : Int) := by push_cast; rfl
 have e2 : IntKind.u64.wrap ((c % 128 * 2 ^ (7 * i) : Nat) : Int) = ((c % 128 * 2 ^ (7 * i) : Nat) : Int) := by
  generalize c % 128 * 2 ^ (7 * i) = x at *
  simp [IntKind.wrap, IntKind.bits, IntKind.signed]
  omega
 rw [e1, e2, u64_or_nat _ _ (by omega) hb]
 have e3 := Nat.two_pow_add_eq_or_of_lt hn (c % 128)
 rw [Nat.or_comm, Nat.mul_comm (c % 128), ← e3, Nat.add_comm]
set_option maxHeartbeats 2000000 in
set_option maxRecDepth 100000 in
theorem cUint {p q : Nat} {T : TypeId} {s : Rst} (w : World) (h : RdX p q T s w) (hl : (rdL s).length ≤ 1000000) (hc : ∀ x ∈ rdL s, x < 256) :
  Calls Tryz.prog 65 #[.pointer (some ⟨p, 0, none⟩)] w fun e w' => e = .returned (.tuple #[.int .u64 ((rdU s).1 : Int), .int .i64 ((rdU s).2.1 : Int)]) ∧ RdP p q T (rdU s).2.2 w w' := by
 obtain ⟨R, hR⟩ : ∃ R, rdU s = R := ⟨_, rfl⟩
 have HR := Lib.hid hR
 rw [hR]
 obtain ⟨m, er, s'⟩ := R
 simp only
 have H0 : Hid (RdP p q T s w w) := ⟨h, Agr.refl _ _⟩
 have HL := Lib.hid hl
 have HC := Lib.hid hc
 clear h hR hl hc
 go_enter Tryz.func65, Tryz.ntmps65
 go_wp2
 go_loopw [4, 9] (fun s4 s9 wr => ∃ (i n : Nat) (sx : Rst), i ≤ 9 ∧ s9 = .int .i64 i ∧ s4 = .int .u64 (n : Int) ∧ n < 2 ^ (7 * i) ∧ rdG i n sx = (m, er, s') ∧ (rdL sx).length ≤ 1000000 ∧ (∀ x ∈ rdL sx, x < 256) ∧ RdP p q T sx w wr) (fun _ s9 _ => 10 - (intOf s9).toNat)
 case atStart => exact ⟨0, 0, s, by omega, rfl, rfl, by decide, HR.out, HL.out, HC.out, H0.out⟩
 case round =>
  obtain ⟨i, n, sx, hi, rfl, rfl, hn, hg, hl, hc, hp⟩ := hrel
  have HP := Lib.hid hp
  have hiI : (i : Int) < 10 := by omega
  have HT := Lib.hid (cTake (n := 1) wr hp.1 hl (by omega))
  clear hp HR HL HC H0
  by_cases hbad : sx = none ∨ sx = some []
  case pos =>
   have hr : rdT 1 sx = ([], 5, none) := by rcases hbad with rfl | rfl <;> rfl
   have hr2 : (0, 5, none) = (m, er, s') := by rw [← hg]; rcases hbad with rfl | rfl <;> rfl
   rw [hr] at HT
   injection hr2 with e1 hr2
   injection hr2 with e2 e3
   subst e1 e2 e3
   clear hg hr hbad hl hc hn
   go_wp2_with fail
   refine HT.out.mono ?_
   rintro e w1 ⟨⟨A, c, rfl, -⟩, hx⟩
   have HX : Hid (RdP p q T none w w1) := ⟨hx.1, HP.out.2.trans hx.2⟩
   clear hx HT HP
   go_wp2
   go_ret2
   exact ⟨rfl, HX.out⟩
  case neg =>
   obtain ⟨c, l, rfl⟩ : ∃ c l, sx = some (c :: l) := by
    rcases sx with _ | l
    ·exact absurd (.inl rfl) hbad
    ·rcases l with _ | ⟨c, l⟩
     ·exact absurd (.inr rfl) hbad
     ·exact ⟨c, l, rfl⟩
   have hr : rdT 1 (some (c :: l)) = ([c], 0, some l) := by simp [rdT]
   rw [hr] at HT
   have hc0 : c < 256 := hc c (by simp [rdL])
   have hll : (rdL (some l)).length ≤ 1000000 := by simp [rdL] at hl ⊢; omega
   have hcl : ∀ x ∈ rdL (some l), x < 256 := fun x hx => hc x (by simp [rdL] at hx ⊢; exact .inr hx)
   have hcv := fun W => conv_u8u64 (c : Int) (by omega) (by omega) W
   have hand := and127 ⟨c, hc0⟩
   simp only at hand
   clear hbad hr hl hc
   go_wp2_with fail
   refine HT.out.mono ?_
   rintro e w1 ⟨⟨A, ca, rfl, hA, -⟩, hx⟩
   obtain ⟨b, o, rfl, hb, hcell⟩ := BytS.at_ (k := 0) (x := c) hA rfl
   rw [Nat.add_zero] at hcell
   have HX : Hid (RdP p q T (some l) w w1) := ⟨hx.1, HP.out.2.trans hx.2⟩
   clear hx HT HP hA
   have HF := Lib.hid (cFail w1 HX.out.1)
   have hor := fun h => or_step (c := c) hi hn h
   by_cases h9 : i = 9
   case pos =>
    subst h9
    by_cases hc1 : 1 < c
    case pos =>
     have hcI : (1 : Int) < (c : Int) := by omega
     have hg2 : (0, 5, none) = (m, er, s') := by rw [← hg]; simp [rdG, uvD, hc1]
     injection hg2 with e1 hg2
     injection hg2 with e2 e3
     subst e1 e2 e3
     clear hg hor hn hand
     go_wp2_with fail
     refine HF.out.mono ?_
     rintro e w2 ⟨rfl, hy⟩
     have HY : Hid (RdP p q T none w w2) := ⟨hy.1, HX.out.2.trans hy.2⟩
     clear hy HF HX
     go_wp2
     go_ret2
     exact ⟨rfl, HY.out⟩
    case neg =>
     have hcI : ¬ (1 : Int) < (c : Int) := by omega
     have hcI2 : (c : Int) < 128 := by omega
     have ho := hor (fun _ => by omega)
     by_cases hcz : c = 0
     case pos =>
      subst hcz
      have hg2 : (0, 5, none) = (m, er, s') := by rw [← hg]; simp [rdG, uvD]
      injection hg2 with e1 hg2
      injection hg2 with e2 e3
      subst e1 e2 e3
      clear hg hor hn hand
      go_wp2_with fail
      refine HF.out.mono ?_
      rintro e w2 ⟨rfl, hy⟩
      have HY : Hid (RdP p q T none w w2) := ⟨hy.1, HX.out.2.trans hy.2⟩
      clear hy HF HX
      go_wp2
      go_ret2
      exact ⟨rfl, HY.out⟩
     case neg =>
      have hc0b : ((c : Int) == 0) = false := by rw [beq_eq_false_iff_ne]; omega
      have hg2 : (n + c % 128 * 2 ^ (7 * 9), 0, some l) = (m, er, s') := by rw [← hg]; simp [rdG, uvD, hc1, hcz, show c < 128 by omega]
      have hw : IntKind.u64.wrap ((c : Int) % 128 * 9223372036854775808) = (c : Int) % 128 * 9223372036854775808 := by simp [IntKind.wrap, IntKind.bits, IntKind.signed]; omega
      rw [show (2 : Int) ^ (7 * 9) = 9223372036854775808 by decide, hw] at ho
      generalize n + c % 128 * 2 ^ (7 * 9) = N at *
      injection hg2 with e1 hg2
      injection hg2 with e2 e3
      subst e1 e2 e3
      clear hg hor hn HF
      go_wp2
      go_ret2
      exact ⟨rfl, HX.out⟩
   case neg =>
    have h9b : ((i : Int) == 9) = false := by rw [beq_eq_false_iff_ne]; omega
    have ho := hor (fun h => absurd h h9)
    have hst := (step_lt (c := c) (by omega : i < 9) hn).1
    have hud : ¬ 9 < i := by omega
    by_cases hc8 : c < 128
    case pos =>
     have hcI2 : (c : Int) < 128 := by omega
     by_cases hz : c = 0 ∧ 0 < i
     case pos =>
      obtain ⟨rfl, hi0⟩ := hz
      have hiI0 : (0 : Int) < (i : Int) := by omega
      have hg2 : (0, 5, none) = (m, er, s') := by rw [← hg]; simp [rdG, uvD, hi0, h9]
      injection hg2 with e1 hg2
      injection hg2 with e2 e3
      subst e1 e2 e3
      clear hg hor hn hand hst
      go_wp2_with fail
      refine HF.out.mono ?_
      rintro e w2 ⟨rfl, hy⟩
      have HY : Hid (RdP p q T none w w2) := ⟨hy.1, HX.out.2.trans hy.2⟩
      clear hy HF HX
      go_wp2
      go_ret2
      exact ⟨rfl, HY.out⟩
     case neg =>
      have hg2 : (n + c % 128 * 2 ^ (7 * i), 0, some l) = (m, er, s') := by rw [← hg]; simp only [rdG, uvD, if_neg hud, if_neg (fun h => h9 h.1 : ¬ (i = 9 ∧ 1 < c)), if_pos hc8, if_neg hz]
      generalize n + c % 128 * 2 ^ (7 * i) = N at *
      injection hg2 with e1 hg2
      injection hg2 with e2 e3
      subst e1 e2 e3
      clear hg hor hn HF hst
      by_cases hcz : c = 0
      case pos =>
       have hc0b : ((c : Int) == 0) = true := by rw [beq_iff_eq]; omega
       have hiI0 : ¬ (0 : Int) < (i : Int) := by omega
       clear hcz hz
       go_wp2
       go_ret2
       exact ⟨rfl, HX.out⟩
      case neg =>
       have hc0b : ((c : Int) == 0) = false := by rw [beq_eq_false_iff_ne]; omega
       go_wp2
       go_ret2
       exact ⟨rfl, HX.out⟩
    case neg =>
     have hcI2 : ¬ (c : Int) < 128 := by omega
     have HG : Hid (rdG (i + 1) (n + c % 128 * 2 ^ (7 * i)) (some l) = (m, er, s')) := by
      rw [Hid, ← hg]
      simp only [rdG, uvD, if_neg hud, if_neg (fun h => h9 h.1 : ¬ (i = 9 ∧ 1 < c)), if_neg hc8]
     have HST := Lib.hid hst
     generalize n + c % 128 * 2 ^ (7 * i) = N at *
     have HLL := Lib.hid hll
     have HCL := Lib.hid hcl
     clear hg hor hn hst hll hcl HF
     go_wp2
     go_roundw
     case rel => exact ⟨i + 1, N, some l, by omega, by go_num, rfl, HST.out, HG.out, HLL.out, HCL.out, HX.out⟩
     case measure => simp [intOf] <;> omega
theorem conv_u64i (x : Int) (h0 : 0 ≤ x) (h1 : x < 9223372036854775808) (W : World) : (convert 23 3 (.int .u64 x)).run Tryz.prog W = .ok (.int .i64 x) W := by
 rw [run_convert_int W 23 3 .u64 x (by rw [Tryz.underlying23]; rfl) (by kernel_rfl)]
 have hk : Tryz.prog.intKind 3 = .i64 := by kernel_rfl
 rw [hk, IntWalk.i64_in _ (by omega)]
theorem rdU_or (s : Rst) (hc : ∀ x ∈ rdL s, x < 256) : rdU s = (0, 5, none) ∨ ∃ m l', rdU s = (m, 0, some l') ∧ m < 18446744073709551616 ∧ l'.length < (rdL s).length ∧ ∃ k, l' = (rdL s).drop k := by
 rcases s with _ | l
 ·exact .inl rfl
 ·rcases h : uvD 0 0 l with _ | ⟨m, l'⟩
  ·exact .inl (by simp only [rdU, rdG, h])
  ·obtain ⟨h1, k, h2, h3, h4⟩ := uvD_lt l 0 0 m l' hc (by decide) (by omega) h
   exact .inr ⟨m, l', by simp only [rdU, rdG, h], h1, by rw [h2, List.length_drop]; show _ < l.length; omega, k, h2⟩
set_option maxHeartbeats 1000000 in
set_option maxRecDepth 100000 in
theorem cCount {p q : Nat} {T : TypeId} {s : Rst} (most : Nat) (w : World) (h : RdX p q T s w) (hl : (rdL s).length ≤ 1000000) (hc : ∀ x ∈ rdL s, x < 256) (hm : most < 9223372036854775808) :
  Calls Tryz.prog 66 #[.pointer (some ⟨p, 0, none⟩), .int .i64 (most : Int)] w fun e w' => e = .returned (.tuple #[.int .i64 ((rdC most s).1 : Int), .int .i64 ((rdC most s).2.1 : Int)]) ∧ RdP p q T (rdC most s).2.2 w w' := by
 have HU := Lib.hid (cUint w h hl hc)
 have hcm := conv_nn most hm
 unfold rdC
 rcases rdU_or s hc with hr | ⟨m, l', hr, hm2, -⟩
 ·rw [hr] at HU ⊢
  rw [if_neg (by simp)]
  have hcz := conv_u64i 0 (by omega) (by omega)
  clear h hr hl hc
  go_enter Tryz.func66, Tryz.ntmps66
  go_wp2_with fail
  refine HU.out.mono ?_
  rintro e w1 ⟨rfl, hp⟩
  have HP := Lib.hid hp
  clear hp HU
  go_wp2
  go_ret2
  exact ⟨rfl, HP.out⟩
 ·rw [hr] at HU ⊢
  simp only at HU ⊢
  have hm0 : ¬ (most : Int) < 0 := by omega
  by_cases hmm : most < m
  ·rw [if_pos ⟨trivial, hmm⟩]
   have hI : (most : Int) < (m : Int) := by omega
   clear h hr hl hc hmm
   go_enter Tryz.func66, Tryz.ntmps66
   go_wp2_with fail
   refine HU.out.mono ?_
   rintro e w1 ⟨rfl, hp⟩
   have HP := Lib.hid hp
   have HF := Lib.hid (cFail w1 hp.1)
   clear hp HU
   go_wp2_with fail
   refine HF.out.mono ?_
   rintro e w2 ⟨rfl, hy⟩
   have HY : Hid (RdP p q T none w w2) := ⟨hy.1, HP.out.2.trans hy.2⟩
   clear hy HF HP
   go_wp2
   go_ret2
   exact ⟨rfl, HY.out⟩
  ·rw [if_neg (fun h => hmm h.2)]
   have hI : ¬ (most : Int) < (m : Int) := by omega
   have hcz := conv_u64i (m : Int) (by omega) (by omega)
   clear h hr hl hc hmm
   go_enter Tryz.func66, Tryz.ntmps66
   go_wp2_with fail
   refine HU.out.mono ?_
   rintro e w1 ⟨rfl, hp⟩
   have HP := Lib.hid hp
   clear hp HU
   go_wp2
   go_ret2
   exact ⟨rfl, HP.out⟩
set_option maxHeartbeats 1000000 in
set_option maxRecDepth 100000 in
theorem cBytes {p q : Nat} {T : TypeId} {s : Rst} (w : World) (h : RdX p q T s w) (hl : (rdL s).length ≤ 1000000) (hc : ∀ x ∈ rdL s, x < 256) :
  Calls Tryz.prog 68 #[.pointer (some ⟨p, 0, none⟩)] w fun e w' => (∃ A c, e = .returned (.tuple #[.slice A (rdB s).1.length c, .int .i64 ((rdB s).2.1 : Int)]) ∧ BytS w' w'.heap.size A (rdB s).1 ∧ (q ≤ p ∧ ∀ a, A = some a → q ≤ a.block ∧ a.block < p) ∧ (rdB s).1.length ≤ c) ∧ RdP p q T (rdB s).2.2 w w' := by
 have HU := Lib.hid (cUint w h hl hc)
 unfold rdB
 rcases rdU_or s hc with hr | ⟨m, l', hr, hm2, hl2, -⟩
 ·rw [hr] at HU ⊢
  rw [if_neg (by simp)]
  clear h hr hl hc
  go_enter Tryz.func68, Tryz.ntmps68
  go_wp2_with fail
  refine HU.out.mono ?_
  rintro e w1 ⟨rfl, hp⟩
  have HP := Lib.hid hp
  clear hp HU
  go_wp2
  go_ret2
  exact ⟨⟨none, 0, rfl, RdS.nil _ _ _ _, ⟨HP.out.1.qp, by simp⟩, Nat.le_refl _⟩, HP.out⟩
 ·rw [hr] at HU ⊢
  rw [if_pos rfl]
  simp only at HU ⊢
  have HLL : Hid ((rdL (some l')).length ≤ 1000000) := by show l'.length ≤ _; omega
  have HM := Lib.hid hm2
  clear h hr hl hc hm2 hl2
  generalize hs2 : (some l' : Rst) = s2 at *
  clear hs2
  obtain ⟨R, hR⟩ : ∃ R, rdT m s2 = R := ⟨_, rfl⟩
  have HR := Lib.hid hR
  rw [hR]
  clear hR
  obtain ⟨bs, er, s3⟩ := R
  simp only
  go_enter Tryz.func68, Tryz.ntmps68
  go_wp2_with fail
  refine HU.out.mono ?_
  rintro e w1 ⟨rfl, hp⟩
  have HP := Lib.hid hp
  have HT := Lib.hid (cTake (n := m) w1 hp.1 HLL.out HM.out)
  rw [HR.out] at HT
  simp only at HT
  clear hp HU
  go_wp2_with fail
  refine HT.out.mono ?_
  rintro e w2 ⟨⟨A, c, rfl, hA⟩, hy⟩
  have HA := Lib.hid hA
  have HY : Hid (RdP p q T s3 w w2) := ⟨hy.1, HP.out.2.trans hy.2⟩
  clear hy hA HT HP
  go_wp2
  go_ret2
  exact ⟨⟨A, c, rfl, HA.out⟩, HY.out⟩
theorem cLeft {p q : Nat} {T : TypeId} {s : Rst} (w : World) (h : RdX p q T s w) :
  Calls Tryz.prog 67 #[.pointer (some ⟨p, 0, none⟩)] w fun e w' => e = .returned (.int .i64 ((rdL s).length : Int)) ∧ w' = w := by
 obtain ⟨A, c, p0, p1, -⟩ := h.cells
 clear h
 go_enter Tryz.func67, Tryz.ntmps67
 go_wp2
 go_ret
 exact ⟨rfl, rfl⟩
theorem cDone {p q : Nat} {T : TypeId} {s : Rst} (w : World) (h : RdX p q T s w) :
  Calls Tryz.prog 69 #[.pointer (some ⟨p, 0, none⟩)] w fun e w' => e = .returned (.int .i64 (rdD s : Int)) ∧ w' = w := by
 obtain ⟨A, c, p0, p1, -⟩ := h.cells
 clear h
 rcases s with _ | l
 ·have HD : Hid (rdD none = 5) := rfl
  rw [HD.out]
  simp only [rdL, Option.getD, Option.isNone] at p0 p1
  go_enter Tryz.func69, Tryz.ntmps69
  go_wp2
  go_ret
  exact ⟨rfl, rfl⟩
 ·simp only [rdL, Option.getD, Option.isNone] at p0 p1
  rcases l with _ | ⟨x, l⟩
  ·have HD : Hid (rdD (some []) = 0) := rfl
   rw [HD.out]
   simp only [List.length_nil] at p0
   go_enter Tryz.func69, Tryz.ntmps69
   go_wp2
   go_ret
   exact ⟨rfl, rfl⟩
  ·have HD : Hid (rdD (some (x :: l)) = 5) := rfl
   rw [HD.out]
   have hI : (0 : Int) < ((x :: l).length : Int) := by simp
   generalize x :: l = l2 at *
   clear HD
   go_enter Tryz.func69, Tryz.ntmps69
   go_wp2
   go_ret
   exact ⟨rfl, rfl⟩
set_option maxHeartbeats 1000000 in
theorem cNew {A : Option Addr} {B c : Nat} {l : List Nat} (w : World) (h : BytS w B A l) (hB : B ≤ w.heap.size) (hn : l.length ≤ 1000000) :
  Calls Tryz.prog 64 #[.slice A l.length c] w fun e w' => ∃ p, e = .returned (.pointer (some ⟨p, 0, none⟩)) ∧ w.heap.size ≤ p ∧ RdX p w.heap.size 169 (some l) w' ∧ Below w.heap.size w w' := by
 have HC := Lib.hid (clone_byte (c := c) w h hB hn)
 clear h
 go_enter Tryz.func64, Tryz.ntmps64
 go_wp2_with fail
 refine HC.out.mono ?_
 rintro e w1 ⟨⟨v, rfl, ho⟩, hb⟩
 have HO := Lib.hid ho
 obtain ⟨A1, c1, rfl, hlc, -⟩ := ho.form
 rw [List.length_map] at HO hlc ⊢
 have hz := hb.size
 have HR : Hid (RdX w1.heap.size w.heap.size 169 (some l) (w1.alloc (.cells #[.slice A1 l.length c1, .bool false] 169))) :=
  ⟨A1, c1, heap_alloc_new w1 _, byt_keep HO.out.reads below_laid, ⟨hz, fun a e => by have := HO.out.lt (k := a.block) (by rw [e]; rfl); omega⟩, hlc⟩
 have HB := Lib.hid (hb.alloc hz (.cells #[.slice A1 l.length c1, .bool false] 169))
 have HZ := Lib.hid hz
 clear ho hb HC hlc HO
 go_wp2
 go_ret
 exact ⟨w1.heap.size, rfl, HZ.out, HR.out, HB.out⟩
end Go.Proofs.YtjgjofepedcfnaaGreat
