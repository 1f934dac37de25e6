/- PLAIN: both decoders of a state answer alike: what is read, on lists. No program is walked here. -/
import Derived.Test.YtjgjofepedcfnaaGreatGRt
import Derived.Test.YtjgjofepedcfnaaGreatGRn
namespace Go.Proofs.YtjgjofepedcfnaaGreat
open Go.RowKit
def prS (b : Rst) : Nat → List Nat × List Nat × Rst
 | 0 => ([], [], b)
 | k + 1 => ((prS b k).1 ++ [(rdU (prS b k).2.2).1], (prS b k).2.1 ++ [(rdU (rdU (prS b k).2.2).2.2).1], (rdU (rdU (prS b k).2.2).2.2).2.2)
def lsS (w : Nat) (b : Rst) : Nat → List Leaf × Rst
 | 0 => ([], b)
 | k + 1 => ((lsS w b k).1 ++ [⟨(prS (lsS w b k).2 w).1, (prS (lsS w b k).2 w).2.1⟩], (prS (lsS w b k).2 w).2.2)
def mvC (s : Rst) : Mv × Rst :=
 (⟨((rdC 4096 s).1 : Int), ((rdC 16 (rdC 4096 s).2.2).1 : Int), ⟨((rdC 60 (rdC 16 (rdC 4096 s).2.2).2.2).1 : Int), ((rdC 65536 (rdC 60 (rdC 16 (rdC 4096 s).2.2).2.2).2.2).1 : Int)⟩⟩, (rdC 65536 (rdC 60 (rdC 16 (rdC 4096 s).2.2).2.2).2.2).2.2)
def u4 (s : Rst) : Nat × Nat × Nat × Nat × Rst :=
 ((rdU s).1, (rdU (rdU s).2.2).1, (rdU (rdU (rdU s).2.2).2.2).1, (rdU (rdU (rdU (rdU s).2.2).2.2).2.2).1, (rdU (rdU (rdU (rdU s).2.2).2.2).2.2).2.2)
def mvU (s : Rst) : Mv × Rst :=
 (⟨IntKind.i64.wrap ((u4 s).1 : Int), IntKind.i64.wrap ((u4 s).2.1 : Int), ⟨IntKind.i64.wrap ((u4 s).2.2.1 : Int), IntKind.i64.wrap ((u4 s).2.2.2.1 : Int)⟩⟩, (u4 s).2.2.2.2)
def mvP (b : Rst) : Nat → List Mv × Rst
 | 0 => ([], b)
 | k + 1 => ((mvP b k).1 ++ [(mvC (mvP b k).2).1], (mvC (mvP b k).2).2)
def mvQ (b : Rst) : Nat → List Mv × Rst
 | 0 => ([], b)
 | k + 1 => ((mvQ b k).1 ++ [(mvU (mvQ b k).2).1], (mvU (mvQ b k).2).2)
def ntS (b : Rst) : Nat → List (List Nat) × Rst
 | 0 => ([], b)
 | k + 1 => ((ntS b k).1 ++ [(rdB (ntS b k).2).1], (rdB (ntS b k).2).2.2)
section
variable {s b : Rst} {l : List Nat} {most k j : Nat}
theorem uvD_less : ∀ (l : List Nat) (i n : Nat) {m : Nat} {l' : List Nat}, uvD i n l = some (m, l') → l'.length < l.length
 | [], i, n, m, l', h => by simp [uvD] at h
 | c :: l, i, n, m, l', h => by
  unfold uvD at h
  split at h
  ·cases h
  ·split at h
   ·cases h
   ·split at h
    ·split at h
     ·cases h
     ·injection h with h
      injection h with h1 h2
      subst h2
      simp
    ·have := uvD_less l _ _ h
     simp only [List.length_cons]
     omega
theorem rdU_some (h : (rdU s).2.2 = some l) : (rdU s).2.1 = 0 ∧ ∃ l0, s = some l0 ∧ l.length < l0.length := by
 rcases s with _ | l0
 ·simp [rdU, rdG] at h
 ·rcases hu : uvD 0 0 l0 with _ | ⟨m, l'⟩
  ·simp [rdU, rdG, hu] at h
  ·simp [rdU, rdG, hu] at h
   refine ⟨by simp [rdU, rdG, hu], l0, rfl, ?_⟩
   have := uvD_less l0 0 0 hu
   rw [← h]
   exact this
theorem rdC_eq (h : (rdU s).1 ≤ most) : rdC most s = rdU s := by
 unfold rdC
 rw [if_neg (by omega)]
theorem rdB_some (h : (rdB s).2.2 = some l) : (rdB s).2.1 = 0 ∧ ∃ l0, s = some l0 ∧ l.length < l0.length := by
 unfold rdB at h ⊢
 by_cases hc : (rdU s).2.1 = 0
 ·rw [if_pos hc] at h ⊢
  rcases hs : (rdU s).2.2 with _ | l1
  ·rw [hs] at h
   cases h
  ·obtain ⟨-, l0, h0, hlt⟩ := rdU_some hs
   rw [hs] at h
   unfold rdT at h ⊢
   by_cases hn : l1.length < (rdU s).1
   ·simp only [if_pos hn] at h
    cases h
   ·simp only [if_neg hn] at h ⊢
    injection h with h
    refine ⟨trivial, l0, h0, ?_⟩
    rw [← h, List.length_drop]
    omega
 ·rw [if_neg hc] at h
  cases h
theorem wrap_nat (n : Nat) (h : n < 9223372036854775808) : IntKind.i64.wrap (n : Int) = (n : Int) := IntWalk.i64_in _ (by omega)
def MvIn (m : Mv) : Prop := (0 ≤ m.g ∧ m.g ≤ 4096) ∧ (0 ≤ m.p ∧ m.p ≤ 16) ∧ (0 ≤ m.to.disk ∧ m.to.disk ≤ 60) ∧ (0 ≤ m.to.block ∧ m.to.block ≤ 65536)
end
section
variable {s b : Rst} {l : List Nat} {most k j w : Nat}
theorem rdU_sub (hc : ∀ x ∈ rdL s, x < 256) : ∀ x ∈ rdL (rdU s).2.2, x < 256 := by
 rcases rdU_or s hc with h | ⟨m, l', h, -, -, k, hk⟩
 ·rw [h]; simp [rdL]
 ·rw [h]
  intro x hx
  simp only [rdL, Option.getD] at hx
  rw [hk] at hx
  exact hc x (List.mem_of_mem_drop hx)
theorem rdB_sub (hc : ∀ x ∈ rdL s, x < 256) : ∀ x ∈ rdL (rdB s).2.2, x < 256 := by
 unfold rdB
 by_cases h : (rdU s).2.1 = 0
 ·rw [if_pos h]
  rcases hs : (rdU s).2.2 with _ | l1
  ·simp [rdT, rdL]
  ·have h1 := rdU_sub hc
   rw [hs] at h1
   unfold rdT
   by_cases hn : l1.length < (rdU s).1
   ·simp [if_pos hn, rdL]
   ·simp only [if_neg hn, rdL, Option.getD]
    exact fun x hx => h1 x (List.mem_of_mem_drop hx)
 ·rw [if_neg h]
  simp [rdL]
theorem rdC_sub (hc : ∀ x ∈ rdL s, x < 256) : ∀ x ∈ rdL (rdC most s).2.2, x < 256 := by
 unfold rdC
 split
 ·simp [rdL]
 ·exact rdU_sub hc
theorem ntS_len : ∀ k, (ntS b k).1.length = k
 | 0 => rfl
 | k + 1 => by simp [ntS, ntS_len k]
end
theorem inc_len : ∀ (l : List Int) (lo N : Int), l.Pairwise (· < ·) → (∀ x ∈ l, lo ≤ x ∧ x < N) → l.length ≤ (N - lo).toNat
 | [], _, _, _, _ => by simp
 | x :: l, lo, N, hp, h => by
  have hx := h x (by simp)
  have := inc_len l (x + 1) N (List.pairwise_cons.1 hp).2 fun y hy => ⟨(List.pairwise_cons.1 hp).1 y hy, (h y (by simp [hy])).2⟩
  simp only [List.length_cons]
  omega
theorem isP_in {L : LayD} {g p : Int} (h : isP L g p = true) : 0 ≤ g ∧ g < L.G ∧ 0 ≤ p ∧ p < L.w := by
 unfold isP at h
 simp only [Bool.and_eq_true, decide_eq_true_eq] at h
 exact ⟨h.1.1.1, h.1.1.2, h.1.2, h.2⟩
theorem ms_len {L : LayD} {ms : List Mv} (h : MvOk L ms) : ms.length ≤ L.G * L.w := by
 have h1 := inc_len (ms.map fun m => m.g * L.w + m.p) 0 ((L.G * L.w : Nat) : Int) (by
  rw [List.pairwise_map]
  refine List.Pairwise.imp_of_mem (fun {a b} ha hb hlt => ?_) h.ord
  obtain ⟨a0, a1, a2, a3⟩ := isP_in (h.is a ha)
  obtain ⟨b0, b1, b2, b3⟩ := isP_in (h.is b hb)
  unfold ltM at hlt
  rcases hlt with hlt | ⟨he, hlt⟩
  ·have := Int.mul_le_mul_of_nonneg_right (show a.g + 1 ≤ b.g by omega) (show (0 : Int) ≤ L.w by omega)
   rw [Int.add_mul] at this
   omega
  ·rw [he]; omega) fun x hx => by
  obtain ⟨m, hm, rfl⟩ := List.mem_map.1 hx
  obtain ⟨a0, a1, a2, a3⟩ := isP_in (h.is m hm)
  have h0 := Int.mul_nonneg a0 (show (0 : Int) ≤ L.w by omega)
  have := Int.mul_le_mul_of_nonneg_right (show m.g + 1 ≤ L.G by omega) (show (0 : Int) ≤ L.w by omega)
  rw [Int.add_mul] at this
  push_cast
  omega
 rw [List.length_map] at h1
 omega
theorem ms_in {L : LayD} {ms : List Mv} (hL : LayOk L) (h : MvOk L ms) : ∀ m ∈ ms, MvIn m := fun m hm => by
 obtain ⟨a0, a1, a2, a3⟩ := isP_in (h.is m hm)
 have ht := h.to m hm
 unfold toOk at ht
 simp only [Bool.and_eq_true, decide_eq_true_eq] at ht
 have := hL.disks
 have := hL.w
 have := hL.G
 have := hL.blocks
 exact ⟨⟨a0, by omega⟩, ⟨a2, by omega⟩, ⟨by omega, by omega⟩, by omega, by omega⟩
section
variable (L : LayD) (l : List Nat) (k j : Nat)
def dA : List Leaf × Rst := lsS L.w (some l) L.G
def dN : Nat × Nat × Rst := rdC (L.G * L.w) (dA L l).2
def dM : List Mv × Rst := mvP (dN L l).2.2 (dN L l).1
def dH : Nat × Nat × Rst := rdC (rdL (dM L l).2).length (dM L l).2
def dT : List (List Nat) × Rst := ntS (dH L l).2.2 (dH L l).1
def dU : List Nat × Nat × Rst := rdB (dT L l).2
def eN : Nat × Nat × Rst := rdU (dA L l).2
def eM : List Mv × Rst := mvQ (eN L l).2.2 k
def eH : Nat × Nat × Rst := rdU (eM L l k).2
def eT : List (List Nat) × Rst := ntS (eH L l k).2.2 j
def eU : List Nat × Nat × Rst := rdB (eT L l k j).2
def decF (S : St) (u : List Nat) (s : Rst) : St × List Nat × Nat := if rdD s = 0 ∧ stOk L S = true then (S, u, 0) else (St.zero, [], 5)
def decP : St × List Nat × Nat := decF L ⟨(dA L l).1, (dM L l).1, (dT L l).1⟩ (dU L l).1 (dU L l).2.2
end
section
variable {L : LayD} {l : List Nat} {k j : Nat}
theorem rdD_zero {s : Rst} (h : rdD s = 0) : s = some [] := by
 unfold rdD at h
 by_cases hs : s = some []
 ·exact hs
 ·rw [if_neg hs] at h; cases h
theorem prS_sub {b : Rst} (hc : ∀ x ∈ rdL b, x < 256) : ∀ k, ∀ x ∈ rdL (prS b k).2.2, x < 256
 | 0 => hc
 | k + 1 => rdU_sub (rdU_sub (prS_sub hc k))
theorem lsS_sub {w : Nat} {b : Rst} (hc : ∀ x ∈ rdL b, x < 256) : ∀ k, ∀ x ∈ rdL (lsS w b k).2, x < 256
 | 0 => hc
 | k + 1 => prS_sub (lsS_sub hc k) w
end
end Go.Proofs.YtjgjofepedcfnaaGreat
