/- Numbers and byte strings read from bytes, on lists; a reader in a box; walks of codec.Reader. -/
import Derived.Test.YtjgjofepedcfnaaGreatRsA
import Derived.Test.YtjgjofepedcfnaaGreatGRo
namespace Go.Proofs.YtjgjofepedcfnaaGreat
open Go.RowKit
def uvD : Nat → Nat → List Nat → Option (Nat × List Nat)
 | _, _, [] => none
 | i, n, c :: l => if 9 < i then none else if i = 9 ∧ 1 < c then none else
   if c < 128 then (if c = 0 ∧ 0 < i then none else some (n + (c % 128) * 2 ^ (7 * i), l)) else uvD (i + 1) (n + (c % 128) * 2 ^ (7 * i)) l
abbrev Rst := Option (List Nat)
def rdG (i n : Nat) : Rst → Nat × Nat × Rst
 | none => (0, 5, none)
 | some l => match uvD i n l with
  | some (m, l') => (m, 0, some l')
  | none => (0, 5, none)
def rdU (s : Rst) : Nat × Nat × Rst := rdG 0 0 s
def rdC (most : Nat) (s : Rst) : Nat × Nat × Rst := if (rdU s).2.1 = 0 ∧ most < (rdU s).1 then (0, 5, none) else rdU s
def rdT (n : Nat) : Rst → List Nat × Nat × Rst
 | none => ([], 5, none)
 | some l => if l.length < n then ([], 5, none) else (l.take n, 0, some (l.drop n))
def rdB (s : Rst) : List Nat × Nat × Rst := if (rdU s).2.1 = 0 then rdT (rdU s).1 (rdU s).2.2 else ([], 5, none)
def rdL (s : Rst) : List Nat := s.getD []
def rdD (s : Rst) : Nat := if s = some [] then 0 else 5
theorem uvD_lt : ∀ (l : List Nat) (i n : Nat) (m : Nat) (l' : List Nat), (∀ c ∈ l, c < 256) → n < 2 ^ (7 * i) → i ≤ 9 → uvD i n l = some (m, l') → m < 18446744073709551616 ∧ ∃ k, l' = l.drop k ∧ 0 < k ∧ k ≤ l.length
 | [], i, n, m, l', _, _, _, h => by simp [uvD] at h
 | c :: l, i, n, m, l', hc, hn, hi, h => by
  unfold uvD at h
  rw [if_neg (by omega)] at h
  have hp : 2 ^ (7 * (i + 1)) = 128 * 2 ^ (7 * i) := by rw [show 7 * (i + 1) = 7 * i + 7 by omega, Nat.pow_add]; omega
  have hm : c % 128 * 2 ^ (7 * i) ≤ 127 * 2 ^ (7 * i) := Nat.mul_le_mul_right _ (by omega)
  by_cases h9 : i = 9
  ·subst h9
   split at h
   ·cases h
   ·rename_i h1
    have hc1 : c ≤ 1 := by omega
    rw [if_pos (by omega)] at h
    split at h
    ·cases h
    ·injection h with h
     injection h with h1 h2
     subst h1 h2
     refine ⟨?_, 1, rfl, by omega, by simp⟩
     have : c % 128 * 2 ^ (7 * 9) ≤ 1 * 2 ^ (7 * 9) := Nat.mul_le_mul_right _ (by omega)
     omega
  ·rw [if_neg (by omega)] at h
   have h63 : 2 ^ (7 * (i + 1)) ≤ 2 ^ 63 := Nat.pow_le_pow_right (by omega) (by omega)
   split at h
   ·split at h
    ·cases h
    ·injection h with h
     injection h with h1 h2
     subst h1 h2
     exact ⟨by omega, 1, rfl, by omega, by simp⟩
   ·obtain ⟨g1, k, g2, g3, g4⟩ := uvD_lt l (i + 1) _ m l' (fun c hc' => hc c (by simp [hc'])) (by omega) (by omega) h
    exact ⟨g1, k + 1, by rw [g2]; rfl, by omega, by simp; omega⟩
def RdX (p q : Nat) (T : TypeId) (s : Rst) (W : World) : Prop := ∃ A c, W.heap[p]? = some (.cells #[.slice A (rdL s).length c, .bool s.isNone] T (0, 0)) ∧ BytS W W.heap.size A (rdL s) ∧ (q ≤ p ∧ ∀ a, A = some a → q ≤ a.block ∧ a.block < p) ∧ (rdL s).length ≤ c
def RdP (p q : Nat) (T : TypeId) (s : Rst) (W W' : World) : Prop := RdX p q T s W' ∧ Agr (fun k => k = p) W W'
section
variable {p q : Nat} {T : TypeId} {s s' : Rst} {W W' : World}
theorem RdX.lt (h : RdX p q T s W) : p < W.heap.size := by
 obtain ⟨A, c, hb, -⟩ := h
 exact (Array.getElem?_eq_some_iff.1 hb).1
theorem RdX.qp (h : RdX p q T s W) : q ≤ p := by
 obtain ⟨A, c, -, -, h3, -⟩ := h
 exact h3.1
theorem RdX.call (h : RdX p q T s W) (hb : Below W.heap.size W W') : RdX p q T s W' := by
 have hl := h.lt
 obtain ⟨A, c, h1, h2, h3, h4⟩ := h
 exact ⟨A, c, (hb.block _ hl).trans h1, byt_keep h2 hb, h3, h4⟩
theorem RdX.cells (h : RdX p q T s W) : ∃ A c, W.cell? ⟨p, 0, none⟩ = some (.slice A (rdL s).length c) ∧ W.cell? ⟨p, 1, none⟩ = some (.bool s.isNone) ∧ W.frozen? ⟨p, 0, none⟩ = false ∧ W.frozen? ⟨p, 1, none⟩ = false ∧ BytS W W.heap.size A (rdL s) ∧ (rdL s).length ≤ c ∧ q ≤ p ∧ ∀ a, A = some a → q ≤ a.block ∧ a.block < p := by
 obtain ⟨A, c, h1, h2, h3, h4⟩ := h
 exact ⟨A, c, by rw [cell_of_row _ _ _ _ _ _ h1]; rfl, by rw [cell_of_row _ _ _ _ _ _ h1]; rfl, frozen_blk h1 0, frozen_blk h1 1, h2, h4, h3⟩
theorem RdX.bad (h : RdX p q T s W) : RdP p q T none W ((W.setCell ⟨p, 0, none⟩ (.slice none 0 0)).setCell ⟨p, 1, none⟩ (.bool true)) := by
 obtain ⟨A, c, h1, h2, h3, h4⟩ := h
 refine ⟨⟨none, 0, heap_setCell_same _ _ 1 _ _ _ (heap_setCell_same _ _ 0 _ _ _ h1), RdS.nil _ _ _ _, ⟨h3.1, by simp⟩, Nat.le_refl _⟩, ?_⟩
 exact Agr.set (F := fun k => k = p) (Agr.set (F := fun k => k = p) (Agr.refl _ _) (p := ⟨p, 0, none⟩) (.inl rfl) _) (p := ⟨p, 1, none⟩) (.inl rfl) _
end
set_option maxHeartbeats 1000000 in
set_option maxRecDepth 100000 in
theorem cFail {p q : Nat} {T : TypeId} {s : Rst} (w : World) (h : RdX p q T s w) :
  Calls Tryz.prog 116 #[.pointer (some ⟨p, 0, none⟩)] w fun e w' => e = .returned (.int .i64 5) ∧ RdP p q T none w w' := by
 obtain ⟨A, c, p0, p1, f0, f1, -⟩ := h.cells
 have HB := Lib.hid h.bad
 clear h
 go_enter Tryz.func116, Tryz.ntmps116
 go_wp2
 go_ret
 exact ⟨rfl, HB.out⟩
theorem addr_add (a : Addr) (n : Nat) : (a.add n).block = a.block := by
 unfold Addr.add
 split <;> rfl
theorem cut_drop {c n : Nat} {l : List Nat} (k : IntKind) (A : Option Addr) (h1 : n ≤ l.length) (h2 : l.length ≤ c) : ∃ A1, (∀ W : World, (Instr.slice 26 (.slice A l.length c) (some (.int k (n : Int))) none none).run Tryz.prog W = .ok (.slice A1 (l.drop n).length (c - n)) W) ∧ (∀ W B, BytS W B A l → BytS W B A1 (l.drop n)) ∧ ∀ a, A1 = some a → ∃ b, A = some b ∧ a.block = b.block := by
 refine ⟨if c = n then A else A.map (·.add n), fun W => ?_, fun W B h => ?_, fun a ha => ?_⟩
 ·go_simp
 ·by_cases hc : c = n
  ·exact ⟨fun r hr => h.1 r (by rw [List.map_drop] at hr; exact List.mem_of_mem_drop hr), fun hn => by rw [List.length_map, List.length_drop] at hn; omega⟩
  ·rw [if_neg hc]
   by_cases hl : l.length = 0
   ·rw [List.length_eq_zero_iff.1 hl]
    exact ⟨by simp, by simp⟩
   ·obtain ⟨b, o, rfl, -⟩ := h.2 (by rw [List.length_map]; omega)
    have h3 := RdS.drop1 h n
    rw [← List.map_drop] at h3
    show RdS W B 1 (some (Addr.add ⟨b, o, none⟩ n)) _
    rw [Addr.add_lit]
    exact h3
 ·by_cases hc : c = n
  ·rw [if_pos hc] at ha
   exact ⟨a, ha, rfl⟩
  ·rw [if_neg hc] at ha
   cases A with
   | none => cases ha
   | some b =>
    injection ha with ha
    exact ⟨b, rfl, by rw [← ha]; exact addr_add b _⟩
theorem cut_take {c n : Nat} {l : List Nat} (A : Option Addr) (h1 : n ≤ l.length) (h2 : l.length ≤ c) : ∃ A1, (∀ W : World, (Instr.slice 26 (.slice A l.length c) none (some (.int .u64 (n : Int))) (some (.int .u64 (n : Int)))).run Tryz.prog W = .ok (.slice A1 (l.take n).length n) W) ∧ (∀ W B, BytS W B A l → BytS W B A1 (l.take n)) ∧ ∀ a, A1 = some a → ∃ b, A = some b ∧ a.block = b.block := by
 refine ⟨if n = 0 then A else A.map (·.add 0), fun W => ?_, fun W B h => ?_, fun a ha => ?_⟩
 ·have h3 : n ≤ c := Nat.le_trans h1 h2
  have h4 : ¬ c < n := by omega
  go_simp
 ·by_cases hc : n = 0
  ·subst hc
   exact ⟨by simp, by simp⟩
  ·rw [if_neg hc]
   obtain ⟨b, o, rfl, -⟩ := h.2 (by rw [List.length_map]; omega)
   have h3 := RdS.take h n
   rw [← List.map_take] at h3
   exact h3
 ·by_cases hc : n = 0
  ·rw [if_pos hc] at ha
   exact ⟨a, ha, rfl⟩
  ·rw [if_neg hc] at ha
   cases A with
   | none => cases ha
   | some b =>
    injection ha with ha
    exact ⟨b, rfl, by rw [← ha]; exact addr_add b _⟩
theorem cut_first {c n : Nat} {l : List Nat} (A : Option Addr) (h1 : n ≤ l.length) (h2 : l.length ≤ c) : ∃ A1, (∀ W : World, (Instr.slice 26 (.slice A l.length c) none (some (.int .u64 (n : Int))) none).run Tryz.prog W = .ok (.slice A1 (l.take n).length c) W) ∧ (∀ W B, BytS W B A l → BytS W B A1 (l.take n)) := by
 refine ⟨if c = 0 then A else A.map (·.add 0), fun W => ?_, fun W B h => ?_⟩
 ·have h3 : n ≤ c := Nat.le_trans h1 h2
  have h4 : ¬ c < n := by omega
  go_simp
 ·by_cases hn : n = 0
  ·subst hn
   exact ⟨by simp, by simp⟩
  ·rw [if_neg (by omega)]
   obtain ⟨b, o, rfl, -⟩ := h.2 (by rw [List.length_map]; omega)
   have h3 := RdS.take h n
   rw [← List.map_take] at h3
   exact h3
theorem RdX.next {p q c1 : Nat} {T : TypeId} {l : List Nat} {l1 : List Nat} {A1 : Option Addr} {W : World} (h : RdX p q T (some l) W) (hb : BytS W W.heap.size A1 l1) (hn : q ≤ p ∧ ∀ a, A1 = some a → q ≤ a.block ∧ a.block < p) (hc : l1.length ≤ c1) : RdP p q T (some l1) W (W.setCell ⟨p, 0, none⟩ (.slice A1 l1.length c1)) := by
 obtain ⟨A, c, h1, h2, h3, h4⟩ := h
 have ha : Agr (fun k => k = p) W (W.setCell ⟨p, 0, none⟩ (.slice A1 l1.length c1)) := Agr.set (F := fun k => k = p) (Agr.refl _ _) (p := ⟨p, 0, none⟩) (.inl rfl) _
 exact ⟨⟨A1, c1, heap_setCell_same _ _ 0 _ _ _ h1, RdS.stb (F := fun k => k = p) hb (fun a e => Nat.ne_of_lt (hn.2 a e).2) _ ha, hn, hc⟩, ha⟩
set_option maxHeartbeats 1000000 in
set_option maxRecDepth 100000 in
theorem cTake {p q n : Nat} {T : TypeId} {s : Rst} (w : World) (h : RdX p q T s w) (hl : (rdL s).length ≤ 1000000) (_hn : n < 18446744073709551616) :
  Calls Tryz.prog 115 #[.pointer (some ⟨p, 0, none⟩), .int .u64 (n : Int)] w fun e w' => (∃ A c, e = .returned (.tuple #[.slice A (rdT n s).1.length c, .int .i64 ((rdT n s).2.1 : Int)]) ∧ BytS w' w'.heap.size A (rdT n s).1 ∧ (q ≤ p ∧ ∀ a, A = some a → q ≤ a.block ∧ a.block < p) ∧ (rdT n s).1.length ≤ c) ∧ RdP p q T (rdT n s).2.2 w w' := by
 obtain ⟨A, c, p0, p1, f0, f1, hby, hlc, hne⟩ := h.cells
 have HF := Lib.hid (cFail w h)
 have hcv := fun W => conv_iu64 ((rdL s).length : Int) (by omega) (by omega) W
 have HH := Lib.hid h
 clear h
 cases s with
 | none =>
  simp only [rdL, Option.getD, Option.isNone, List.length_nil, rdT] at p0 p1 ⊢
  clear hby hlc hne
  go_enter Tryz.func115, Tryz.ntmps115
  go_wp2_with fail
  refine HF.out.mono ?_
  rintro e w1 ⟨rfl, hp⟩
  have HP := Lib.hid hp
  clear hp HF
  go_wp2
  go_ret2
  exact ⟨⟨none, 0, rfl, RdS.nil _ _ _ _, ⟨HP.out.1.qp, by simp⟩, Nat.le_refl _⟩, HP.out⟩
 | some l =>
  simp only [rdL, Option.getD, Option.isNone, rdT] at p0 p1 hcv hby hlc hl ⊢
  by_cases hln : l.length < n
  ·rw [if_pos hln]
   have hI : (l.length : Int) < (n : Int) := by omega
   clear hby hlc hne hln
   go_enter Tryz.func115, Tryz.ntmps115
   go_wp2_with fail
   refine HF.out.mono ?_
   rintro e w1 ⟨rfl, hp⟩
   have HP := Lib.hid hp
   clear hp HF
   go_wp2
   go_ret2
   exact ⟨⟨none, 0, rfl, RdS.nil _ _ _ _, ⟨HP.out.1.qp, by simp⟩, Nat.le_refl _⟩, HP.out⟩
  ·rw [if_neg hln]
   have hI : ¬ (l.length : Int) < (n : Int) := by omega
   obtain ⟨A1, hs1, hb1, he1⟩ := cut_take (c := c) A (by omega : n ≤ l.length) hlc
   obtain ⟨A2, hs2, hb2, he2⟩ := cut_drop (c := c) .u64 A (by omega : n ≤ l.length) hlc
   have hn1 : q ≤ p ∧ ∀ a, A1 = some a → q ≤ a.block ∧ a.block < p := ⟨hne.1, fun a ha => by obtain ⟨b, hb, e⟩ := he1 a ha; rw [e]; exact hne.2 b hb⟩
   have hn2 : q ≤ p ∧ ∀ a, A2 = some a → q ≤ a.block ∧ a.block < p := ⟨hne.1, fun a ha => by obtain ⟨b, hb, e⟩ := he2 a ha; rw [e]; exact hne.2 b hb⟩
   have HP : Hid (RdP p q T (some (l.drop n)) w (w.setCell ⟨p, 0, none⟩ (.slice A2 (l.drop n).length (c - n)))) := HH.out.next (hb2 w _ hby) hn2 (by rw [List.length_drop]; omega)
   have HT : Hid (BytS (w.setCell ⟨p, 0, none⟩ (.slice A2 (l.drop n).length (c - n))) (w.setCell ⟨p, 0, none⟩ (.slice A2 (l.drop n).length (c - n))).heap.size A1 (l.take n)) := RdS.stb (F := fun k => k = p) (hb1 w _ hby) (fun a e => Nat.ne_of_lt (hn1.2 a e).2) _ HP.out.2
   have HN := Lib.hid hn1
   have HLN : Hid ((l.take n).length ≤ n) := by rw [Hid, List.length_take]; omega
   generalize l.drop n = l2 at *
   generalize l.take n = l1 at *
   clear hb1 hb2 he1 he2 hn1 hn2 hby hne HF HH hln
   go_enter Tryz.func115, Tryz.ntmps115
   go_wp2
   go_ret2
   exact ⟨⟨A1, n, rfl, HT.out, HN.out, HLN.out⟩, HP.out⟩
end Go.Proofs.YtjgjofepedcfnaaGreat
