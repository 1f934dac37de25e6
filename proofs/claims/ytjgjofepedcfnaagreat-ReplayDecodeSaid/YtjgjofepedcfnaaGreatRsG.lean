/- PLAIN: both decoders of a state answer alike: what is read, on lists. No program is walked here. -/
import Derived.Test.YtjgjofepedcfnaaGreatRsF
import Derived.Test.YtjgjofepedcfnaaGreatGRn
namespace Go.Proofs.YtjgjofepedcfnaaGreat
open Go.RowKit
def prS (b : Rst) : Nat → List Nat × List Nat × Rst
 | 0 => ([], [], b)
 | k + 1 => ((prS b k).1 ++ [(rdU (prS b k).2.2).1], (prS b k).2.1 ++ [(rdU (rdU (prS b k).2.2).2.2).1], (rdU (rdU (prS b k).2.2).2.2).2.2)
def lsS (w : Nat) (b : Rst) : Nat → List Leaf × Rst
 | 0 => ([], b)
 | k + 1 => ((lsS w b k).1 ++ [⟨(prS (lsS w b k).2 w).1, (prS (lsS w b k).2 w).2.1⟩], (prS (lsS w b k).2 w).2.2)
def mvC (s : Rst) : Mv × Rst :=
 (⟨((rdC 4096 s).1 : Int), ((rdC 16 (rdC 4096 s).2.2).1 : Int), ⟨((rdC 60 (rdC 16 (rdC 4096 s).2.2).2.2).1 : Int), ((rdC 65536 (rdC 60 (rdC 16 (rdC 4096 s).2.2).2.2).2.2).1 : Int)⟩⟩, (rdC 65536 (rdC 60 (rdC 16 (rdC 4096 s).2.2).2.2).2.2).2.2)
def u4 (s : Rst) : Nat × Nat × Nat × Nat × Rst :=
 ((rdU s).1, (rdU (rdU s).2.2).1, (rdU (rdU (rdU s).2.2).2.2).1, (rdU (rdU (rdU (rdU s).2.2).2.2).2.2).1, (rdU (rdU (rdU (rdU s).2.2).2.2).2.2).2.2)
def mvU (s : Rst) : Mv × Rst :=
 (⟨IntKind.i64.wrap ((u4 s).1 : Int), IntKind.i64.wrap ((u4 s).2.1 : Int), ⟨IntKind.i64.wrap ((u4 s).2.2.1 : Int), IntKind.i64.wrap ((u4 s).2.2.2.1 : Int)⟩⟩, (u4 s).2.2.2.2)
def mvP (b : Rst) : Nat → List Mv × Rst
 | 0 => ([], b)
 | k + 1 => ((mvP b k).1 ++ [(mvC (mvP b k).2).1], (mvC (mvP b k).2).2)
def mvQ (b : Rst) : Nat → List Mv × Rst
 | 0 => ([], b)
 | k + 1 => ((mvQ b k).1 ++ [(mvU (mvQ b k).2).1], (mvU (mvQ b k).2).2)
def ntS (b : Rst) : Nat → List (List Nat) × Rst
 | 0 => ([], b)
 | k + 1 => ((ntS b k).1 ++ [(rdB (ntS b k).2).1], (rdB (ntS b k).2).2.2)
section
variable {s b : Rst} {l : List Nat} {most k j : Nat}
theorem uvD_less : ∀ (l : List Nat) (i n : Nat) {m : Nat} {l' : List Nat}, uvD i n l = some (m, l') → l'.length < l.length
 | [], i, n, m, l', h => by simp [uvD] at h
 | c :: l, i, n, m, l', h => by
  unfold uvD at h
  split at h
  ·cases h
  ·split at h
   ·cases h
   ·split at h
    ·split at h
     ·cases h
     ·injection h with h
      injection h with h1 h2
      subst h2
      simp
    ·have := uvD_less l _ _ h
     simp only [List.length_cons]
     omega
theorem rdU_some (h : (rdU s).2.2 = some l) : (rdU s).2.1 = 0 ∧ ∃ l0, s = some l0 ∧ l.length < l0.length := by
 rcases s with _ | l0
 ·simp [rdU, rdG] at h
 ·rcases hu : uvD 0 0 l0 with _ | ⟨m, l'⟩
  ·simp [rdU, rdG, hu] at h
  ·simp [rdU, rdG, hu] at h
   refine ⟨by simp [rdU, rdG, hu], l0, rfl, ?_⟩
   have := uvD_less l0 0 0 hu
   rw [← h]
   exact this
theorem rdC_some (h : (rdC most s).2.2 = some l) : rdC most s = rdU s ∧ (rdU s).1 ≤ most := by
 unfold rdC at h ⊢
 by_cases hc : (rdU s).2.1 = 0 ∧ most < (rdU s).1
 ·rw [if_pos hc] at h
  cases h
 ·rw [if_neg hc] at h ⊢
  exact ⟨rfl, by have := (rdU_some h).1; omega⟩
theorem rdC_eq (h : (rdU s).1 ≤ most) : rdC most s = rdU s := by
 unfold rdC
 rw [if_neg (by omega)]
theorem rdB_some (h : (rdB s).2.2 = some l) : (rdB s).2.1 = 0 ∧ ∃ l0, s = some l0 ∧ l.length < l0.length := by
 unfold rdB at h ⊢
 by_cases hc : (rdU s).2.1 = 0
 ·rw [if_pos hc] at h ⊢
  rcases hs : (rdU s).2.2 with _ | l1
  ·rw [hs] at h
   cases h
  ·obtain ⟨-, l0, h0, hlt⟩ := rdU_some hs
   rw [hs] at h
   unfold rdT at h ⊢
   by_cases hn : l1.length < (rdU s).1
   ·simp only [if_pos hn] at h
    cases h
   ·simp only [if_neg hn] at h ⊢
    injection h with h
    refine ⟨trivial, l0, h0, ?_⟩
    rw [← h, List.length_drop]
    omega
 ·rw [if_neg hc] at h
  cases h
theorem u4_some (h : (u4 s).2.2.2.2 = some l) : ∃ l0, s = some l0 ∧ l.length < l0.length := by
 obtain ⟨-, l3, h3, g3⟩ := rdU_some h
 obtain ⟨-, l2, h2, g2⟩ := rdU_some h3
 obtain ⟨-, l1, h1, g1⟩ := rdU_some h2
 obtain ⟨-, l0, h0, g0⟩ := rdU_some h1
 exact ⟨l0, h0, by omega⟩
theorem wrap_nat (n : Nat) (h : n < 9223372036854775808) : IntKind.i64.wrap (n : Int) = (n : Int) := IntWalk.i64_in _ (by omega)
theorem mvC_some (h : (mvC s).2 = some l) : mvU s = mvC s := by
 have h' : (rdC 65536 (rdC 60 (rdC 16 (rdC 4096 s).2.2).2.2).2.2).2.2 = some l := h
 obtain ⟨e4, m4⟩ := rdC_some h'
 obtain ⟨-, l3, h3, -⟩ := rdU_some (by rw [e4] at h'; exact h')
 obtain ⟨e3, m3⟩ := rdC_some h3
 obtain ⟨-, l2, h2, -⟩ := rdU_some (by rw [e3] at h3; exact h3)
 obtain ⟨e2, m2⟩ := rdC_some h2
 obtain ⟨-, l1, h1, -⟩ := rdU_some (by rw [e2] at h2; exact h2)
 obtain ⟨e1, m1⟩ := rdC_some h1
 unfold mvU mvC u4
 rw [e1] at e2 e3 e4 m2 m3 m4 ⊢
 rw [e2] at e3 e4 m3 m4 ⊢
 rw [e3] at e4 m4 ⊢
 rw [e4]
 dsimp only
 rw [wrap_nat _ (by omega), wrap_nat _ (by omega), wrap_nat _ (by omega), wrap_nat _ (by omega)]
def MvIn (m : Mv) : Prop := (0 ≤ m.g ∧ m.g ≤ 4096) ∧ (0 ≤ m.p ∧ m.p ≤ 16) ∧ (0 ≤ m.to.disk ∧ m.to.disk ≤ 60) ∧ (0 ≤ m.to.block ∧ m.to.block ≤ 65536)
theorem wrap_back {n : Nat} {B : Int} (h : n < 18446744073709551616) (h0 : 0 ≤ IntKind.i64.wrap (n : Int)) (h1 : IntKind.i64.wrap (n : Int) ≤ B) : IntKind.i64.wrap (n : Int) = (n : Int) ∧ (n : Int) ≤ B := by
 have e : IntKind.i64.wrap (n : Int) = if n < 9223372036854775808 then (n : Int) else (n : Int) - 18446744073709551616 := by
  by_cases hn : n < 9223372036854775808
  ·rw [if_pos hn, wrap_nat n hn]
  ·rw [if_neg hn]
   simp [IntKind.wrap, IntKind.bits, IntKind.signed]
   omega
 by_cases hn : n < 9223372036854775808
 ·rw [wrap_nat n hn] at h1 ⊢
  exact ⟨rfl, h1⟩
 ·rw [e, if_neg hn] at h0
  omega
end
section
variable {s b : Rst} {l : List Nat} {most k j w : Nat}
theorem rdU_lt (hc : ∀ x ∈ rdL s, x < 256) : (rdU s).1 < 18446744073709551616 := by
 rcases rdU_or s hc with h | ⟨m, l', h, hm, -⟩
 ·rw [h]; decide
 ·rw [h]; exact hm
theorem rdU_sub (hc : ∀ x ∈ rdL s, x < 256) : ∀ x ∈ rdL (rdU s).2.2, x < 256 := by
 rcases rdU_or s hc with h | ⟨m, l', h, -, -, k, hk⟩
 ·rw [h]; simp [rdL]
 ·rw [h]
  intro x hx
  simp only [rdL, Option.getD] at hx
  rw [hk] at hx
  exact hc x (List.mem_of_mem_drop hx)
theorem rdB_sub (hc : ∀ x ∈ rdL s, x < 256) : ∀ x ∈ rdL (rdB s).2.2, x < 256 := by
 unfold rdB
 by_cases h : (rdU s).2.1 = 0
 ·rw [if_pos h]
  rcases hs : (rdU s).2.2 with _ | l1
  ·simp [rdT, rdL]
  ·have h1 := rdU_sub hc
   rw [hs] at h1
   unfold rdT
   by_cases hn : l1.length < (rdU s).1
   ·simp [if_pos hn, rdL]
   ·simp only [if_neg hn, rdL, Option.getD]
    exact fun x hx => h1 x (List.mem_of_mem_drop hx)
 ·rw [if_neg h]
  simp [rdL]
theorem rdC_sub (hc : ∀ x ∈ rdL s, x < 256) : ∀ x ∈ rdL (rdC most s).2.2, x < 256 := by
 unfold rdC
 split
 ·simp [rdL]
 ·exact rdU_sub hc
theorem mvQ_some (h : (mvQ b k).2 = some l) : ∃ l0, b = some l0 ∧ k + l.length ≤ l0.length ∧ ∀ j < k, rdL (mvQ b j).2 ≠ [] := by
 induction k generalizing l with
 | zero => exact ⟨l, h, by omega, by omega⟩
 | succ k ih =>
  obtain ⟨l1, h1, g1⟩ := u4_some h
  obtain ⟨l0, h0, g0, q0⟩ := ih h1
  refine ⟨l0, h0, by omega, fun j hj => ?_⟩
  by_cases hjk : j = k
  ·subst hjk
   rw [h1]
   intro e
   simp only [rdL, Option.getD] at e
   rw [e] at g1
   simp at g1
  ·exact q0 j (by omega)
theorem mvP_Q (h : (mvP b k).2 = some l) : mvQ b k = mvP b k := by
 induction k generalizing l with
 | zero => rfl
 | succ k ih =>
  have hs : (mvC (mvP b k).2).2 = some l := h
  have hq := mvC_some hs
  have hu : (mvU (mvP b k).2).2 = some l := by rw [hq]; exact hs
  obtain ⟨l1, h1, -⟩ := u4_some hu
  have := ih h1
  simp only [mvQ, mvP, this, hq]
theorem mvQ_len : ∀ k, (mvQ b k).1.length = k
 | 0 => rfl
 | k + 1 => by simp [mvQ, mvQ_len k]
theorem ntS_len : ∀ k, (ntS b k).1.length = k
 | 0 => rfl
 | k + 1 => by simp [ntS, ntS_len k]
theorem ntS_some (h : (ntS b k).2 = some l) : ∃ l0, b = some l0 ∧ k + l.length ≤ l0.length ∧ ∀ j < k, rdL (ntS b j).2 ≠ [] := by
 induction k generalizing l with
 | zero => exact ⟨l, h, by omega, by omega⟩
 | succ k ih =>
  obtain ⟨-, l1, h1, g1⟩ := rdB_some h
  obtain ⟨l0, h0, g0, q0⟩ := ih h1
  refine ⟨l0, h0, by omega, fun j hj => ?_⟩
  by_cases hjk : j = k
  ·subst hjk
   rw [h1]
   intro e
   simp only [rdL, Option.getD] at e
   rw [e] at g1
   simp at g1
  ·exact q0 j (by omega)
theorem mvU_sub (hc : ∀ x ∈ rdL s, x < 256) : ∀ x ∈ rdL (mvU s).2, x < 256 := rdU_sub (rdU_sub (rdU_sub (rdU_sub hc)))
theorem mvQ_sub (hc : ∀ x ∈ rdL b, x < 256) : ∀ k, ∀ x ∈ rdL (mvQ b k).2, x < 256
 | 0 => hc
 | k + 1 => mvU_sub (mvQ_sub hc k)
theorem mvU_in' (hc : ∀ x ∈ rdL s, x < 256) (h : MvIn (mvU s).1) : mvC s = mvU s := by
 have c1 := rdU_sub hc
 have c2 := rdU_sub c1
 have c3 := rdU_sub c2
 obtain ⟨⟨a0, a1⟩, ⟨b0, b1⟩, ⟨g0, g1⟩, d0, d1⟩ := h
 obtain ⟨ea, la⟩ := wrap_back (rdU_lt hc) a0 a1
 obtain ⟨eb, lb⟩ := wrap_back (rdU_lt c1) b0 b1
 obtain ⟨ec, lc⟩ := wrap_back (rdU_lt c2) g0 g1
 obtain ⟨ed, ld⟩ := wrap_back (rdU_lt c3) d0 d1
 unfold mvU u4
 dsimp only
 rw [ea, eb, ec, ed]
 unfold mvC
 rw [rdC_eq (s := s) (by omega : (rdU s).1 ≤ 4096)]
 rw [rdC_eq (s := (rdU s).2.2) (most := 16) (by omega)]
 rw [rdC_eq (s := (rdU (rdU s).2.2).2.2) (most := 60) (by omega)]
 rw [rdC_eq (s := (rdU (rdU (rdU s).2.2).2.2).2.2) (most := 65536) (by omega)]
theorem mvQ_P (hc : ∀ x ∈ rdL b, x < 256) : ∀ k, (∀ m ∈ (mvQ b k).1, MvIn m) → mvP b k = mvQ b k
 | 0, _ => rfl
 | k + 1, h => by
  have h1 := mvQ_P hc k fun m hm => h m (by simp [mvQ, hm])
  have h2 := mvU_in' (mvQ_sub hc k) (h _ (by simp [mvQ]))
  simp only [mvP, mvQ, h1, h2]
end
theorem inc_len : ∀ (l : List Int) (lo N : Int), l.Pairwise (· < ·) → (∀ x ∈ l, lo ≤ x ∧ x < N) → l.length ≤ (N - lo).toNat
 | [], _, _, _, _ => by simp
 | x :: l, lo, N, hp, h => by
  have hx := h x (by simp)
  have := inc_len l (x + 1) N (List.pairwise_cons.1 hp).2 fun y hy => ⟨(List.pairwise_cons.1 hp).1 y hy, (h y (by simp [hy])).2⟩
  simp only [List.length_cons]
  omega
theorem isP_in {L : LayD} {g p : Int} (h : isP L g p = true) : 0 ≤ g ∧ g < L.G ∧ 0 ≤ p ∧ p < L.w := by
 unfold isP at h
 simp only [Bool.and_eq_true, decide_eq_true_eq] at h
 exact ⟨h.1.1.1, h.1.1.2, h.1.2, h.2⟩
theorem ms_len {L : LayD} {ms : List Mv} (h : MvOk L ms) : ms.length ≤ L.G * L.w := by
 have h1 := inc_len (ms.map fun m => m.g * L.w + m.p) 0 ((L.G * L.w : Nat) : Int) (by
  rw [List.pairwise_map]
  refine List.Pairwise.imp_of_mem (fun {a b} ha hb hlt => ?_) h.ord
  obtain ⟨a0, a1, a2, a3⟩ := isP_in (h.is a ha)
  obtain ⟨b0, b1, b2, b3⟩ := isP_in (h.is b hb)
  unfold ltM at hlt
  rcases hlt with hlt | ⟨he, hlt⟩
  ·have := Int.mul_le_mul_of_nonneg_right (show a.g + 1 ≤ b.g by omega) (show (0 : Int) ≤ L.w by omega)
   rw [Int.add_mul] at this
   omega
  ·rw [he]; omega) fun x hx => by
  obtain ⟨m, hm, rfl⟩ := List.mem_map.1 hx
  obtain ⟨a0, a1, a2, a3⟩ := isP_in (h.is m hm)
  have h0 := Int.mul_nonneg a0 (show (0 : Int) ≤ L.w by omega)
  have := Int.mul_le_mul_of_nonneg_right (show m.g + 1 ≤ L.G by omega) (show (0 : Int) ≤ L.w by omega)
  rw [Int.add_mul] at this
  push_cast
  omega
 rw [List.length_map] at h1
 omega
theorem ms_in {L : LayD} {ms : List Mv} (hL : LayOk L) (h : MvOk L ms) : ∀ m ∈ ms, MvIn m := fun m hm => by
 obtain ⟨a0, a1, a2, a3⟩ := isP_in (h.is m hm)
 have ht := h.to m hm
 unfold toOk at ht
 simp only [Bool.and_eq_true, decide_eq_true_eq] at ht
 have := hL.disks
 have := hL.w
 have := hL.G
 have := hL.blocks
 exact ⟨⟨a0, by omega⟩, ⟨a2, by omega⟩, ⟨by omega, by omega⟩, by omega, by omega⟩
section
variable (L : LayD) (l : List Nat) (k j : Nat)
def dA : List Leaf × Rst := lsS L.w (some l) L.G
def dN : Nat × Nat × Rst := rdC (L.G * L.w) (dA L l).2
def dM : List Mv × Rst := mvP (dN L l).2.2 (dN L l).1
def dH : Nat × Nat × Rst := rdC (rdL (dM L l).2).length (dM L l).2
def dT : List (List Nat) × Rst := ntS (dH L l).2.2 (dH L l).1
def dU : List Nat × Nat × Rst := rdB (dT L l).2
def eN : Nat × Nat × Rst := rdU (dA L l).2
def eM : List Mv × Rst := mvQ (eN L l).2.2 k
def eH : Nat × Nat × Rst := rdU (eM L l k).2
def eT : List (List Nat) × Rst := ntS (eH L l k).2.2 j
def eU : List Nat × Nat × Rst := rdB (eT L l k j).2
def decF (S : St) (u : List Nat) (s : Rst) : St × List Nat × Nat := if rdD s = 0 ∧ stOk L S = true then (S, u, 0) else (St.zero, [], 5)
def decP : St × List Nat × Nat := decF L ⟨(dA L l).1, (dM L l).1, (dT L l).1⟩ (dU L l).1 (dU L l).2.2
def decQ : St × List Nat × Nat := if k = (eN L l).1 ∧ j = (eH L l k).1 then decF L ⟨(dA L l).1, (eM L l k).1, (eT L l k j).1⟩ (eU L l k j).1 (eU L l k j).2.2 else (St.zero, [], 5)
end
section
variable {L : LayD} {l : List Nat} {k j : Nat}
theorem rdD_zero {s : Rst} (h : rdD s = 0) : s = some [] := by
 unfold rdD at h
 by_cases hs : s = some []
 ·exact hs
 ·rw [if_neg hs] at h; cases h
theorem prS_sub {b : Rst} (hc : ∀ x ∈ rdL b, x < 256) : ∀ k, ∀ x ∈ rdL (prS b k).2.2, x < 256
 | 0 => hc
 | k + 1 => rdU_sub (rdU_sub (prS_sub hc k))
theorem lsS_sub {w : Nat} {b : Rst} (hc : ∀ x ∈ rdL b, x < 256) : ∀ k, ∀ x ∈ rdL (lsS w b k).2, x < 256
 | 0 => hc
 | k + 1 => prS_sub (lsS_sub hc k) w
theorem dec_same (hL : LayOk L) (hc : ∀ x ∈ l, x < 256) (h1 : k ≤ (eN L l).1) (h2 : k = (eN L l).1 ∨ rdL (eM L l k).2 = []) (h3 : k = (eN L l).1 → j ≤ (eH L l k).1 ∧ (j = (eH L l k).1 ∨ rdL (eT L l k j).2 = [])) : decQ L l k j = decP L l := by
 have hsub : ∀ x ∈ rdL (dA L l).2, x < 256 := lsS_sub (b := some l) hc _
 by_cases hP : rdD (dU L l).2.2 = 0 ∧ stOk L ⟨(dA L l).1, (dM L l).1, (dT L l).1⟩ = true
 ·obtain ⟨-, lT, hT, -⟩ := rdB_some (rdD_zero hP.1)
  obtain ⟨lH, hH, -, nH⟩ := ntS_some hT
  obtain ⟨eqH, -⟩ := rdC_some hH
  obtain ⟨-, lM, hM, -⟩ := rdU_some (by rw [← eqH]; exact hH)
  have eqM := mvP_Q hM
  obtain ⟨lN, hN, -, nN⟩ := mvQ_some (by rw [eqM]; exact hM)
  obtain ⟨eqN, -⟩ := rdC_some hN
  have qN : eN L l = dN L l := eqN.symm
  have qk : k = (eN L l).1 := by
   rcases h2 with h2 | h2
   ·exact h2
   ·by_cases hk : k = (eN L l).1
    ·exact hk
    ·have := nN k (by rw [qN] at h1 hk; omega)
     unfold eM at h2
     rw [qN] at h2
     exact absurd h2 this
  have qM : eM L l k = dM L l := by
   unfold eM
   rw [qk, qN]
   exact eqM
  have qH : eH L l k = dH L l := by
   unfold eH
   rw [qM]
   exact eqH.symm
  obtain ⟨g1, g2⟩ := h3 qk
  have qj : j = (eH L l k).1 := by
   rcases g2 with g2 | g2
   ·exact g2
   ·by_cases hj : j = (eH L l k).1
    ·exact hj
    ·have := nH j (by rw [qH] at g1 hj; omega)
     unfold eT at g2
     rw [qH] at g2
     exact absurd g2 this
  have qT : eT L l k j = dT L l := by
   unfold eT
   rw [qj, qH]
   rfl
  have qU : eU L l k j = dU L l := by
   unfold eU
   rw [qT]
   rfl
  unfold decQ
  rw [if_pos ⟨qk, qj⟩, qM, qT, qU]
  rfl
 ·have e : decP L l = (St.zero, [], 5) := if_neg hP
  rw [e]
  unfold decQ
  by_cases hkj : k = (eN L l).1 ∧ j = (eH L l k).1
  ·rw [if_pos hkj]
   unfold decF
   refine if_neg fun hQ => hP ?_
   obtain ⟨-, lT, hT, -⟩ := rdB_some (rdD_zero hQ.1)
   obtain ⟨lH, hH, nH, -⟩ := ntS_some hT
   obtain ⟨-, lM, hM, nM⟩ := rdU_some hH
   have hmo := stOk_ms hQ.2
   have hlen := ms_len hmo
   have hin := ms_in hL hmo
   have hql : (eM L l k).1.length = k := mvQ_len k
   have qN : dN L l = eN L l := rdC_eq (by show (eN L l).1 ≤ _; rw [← hkj.1]; simp only at hlen; omega)
   have qM : dM L l = eM L l k := by
    unfold dM
    rw [qN, ← hkj.1]
    exact mvQ_P (rdU_sub hsub) k hin
   have qH : dH L l = eH L l k := by
    unfold dH
    rw [qM]
    refine rdC_eq ?_
    show (eH L l k).1 ≤ _
    rw [← hkj.2, hM]
    show j ≤ lM.length
    omega
   have qT : dT L l = eT L l k j := by
    unfold dT
    rw [qH, ← hkj.2]
    rfl
   have qU : dU L l = eU L l k j := by
    unfold dU
    rw [qT]
    rfl
   rw [qM, qT, qU]
   exact hQ
  ·rw [if_neg hkj]
end
end Go.Proofs.YtjgjofepedcfnaaGreat
