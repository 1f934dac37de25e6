/- PLAIN: a checksum tells the last eight bytes.
The tree of sums in memory, with its levels; walk of sumtree.join.
PLAIN: the differences of two trees, and the roots.
Walk of sumtree.Build, with the tree in memory. -/
import Derived.Test.YtopoefcklipaeaaGreatDoorGRh
import Derived.Test.YtopoefcklipaeaaGreatDoorGWb
namespace Go.Proofs.YtopoefcklipaeaaGreatDoor
theorem xor_div2 (x y : Nat) : (x ^^^ (2 * y)) / 2 = x / 2 ^^^ y := by
 apply Nat.eq_of_testBit_eq
 intro i
 rw [Nat.testBit_xor, Nat.testBit_div_two, Nat.testBit_div_two, Nat.testBit_xor]
 congr 1
 rw [show 2 * y = 2 ^ 1 * y by omega, Nat.testBit_two_pow_mul]
 simp
theorem xor_mod2 (x y : Nat) : (x ^^^ (2 * y)) % 2 = x % 2 := by
 have h : (x ^^^ (2 * y)).testBit 0 = x.testBit 0 := by
  rw [Nat.testBit_xor, show 2 * y = 2 ^ 1 * y by omega, Nat.testBit_two_pow_mul]
  simp
 rw [Nat.testBit_zero, Nat.testBit_zero] at h
 have := decide_eq_decide.1 h
 omega
theorem stepN_two (x y : Nat) : stepN (x ^^^ (2 * y)) = stepN x ^^^ y := by
 unfold stepN
 rw [xor_mod2, xor_div2]
 split
 ·rw [Nat.xor_assoc, Nat.xor_comm y, ← Nat.xor_assoc]
 ·rfl
theorem itN_inner : ∀ (n x : Nat), itN (n + 1) x = itN n (stepN x)
 | 0, _ => rfl
 | n + 1, x => by show stepN (itN (n + 1) x) = stepN (itN n (stepN x)); rw [itN_inner n x]
theorem itN_add (a : Nat) : ∀ (b x : Nat), itN (b + a) x = itN b (itN a x)
 | 0, x => by rw [Nat.zero_add]; rfl
 | b + 1, x => by rw [show b + 1 + a = (b + a) + 1 by omega]; show stepN (itN (b + a) x) = stepN (itN b (itN a x)); rw [itN_add a b x]
theorem itN_two : ∀ (k x y : Nat), itN k (x ^^^ (2 ^ k * y)) = itN k x ^^^ y
 | 0, x, y => by rw [Nat.pow_zero, Nat.one_mul]; rfl
 | k + 1, x, y => by
  rw [itN_inner, itN_inner, show 2 ^ (k + 1) * y = 2 * (2 ^ k * y) by rw [Nat.pow_succ]; rw [Nat.mul_comm (2 ^ k) 2, Nat.mul_assoc], stepN_two, itN_two k]
theorem xor_add {m k c : Nat} (h : m < 2 ^ k) : m ^^^ (2 ^ k * c) = 2 ^ k * c + m := by
 apply Nat.eq_of_testBit_eq
 intro i
 rw [Nat.testBit_xor, Nat.testBit_two_pow_mul_add c h, Nat.testBit_two_pow_mul]
 by_cases hi : i < k
 ·rw [if_pos hi]; simp [Nat.not_le.2 hi]
 ·rw [if_neg hi, Nat.testBit_lt_two_pow (Nat.lt_of_lt_of_le h (Nat.pow_le_pow_right (by decide) (by omega)))]
  simp [Nat.not_lt.1 hi]
theorem fold_leB (a s : Nat) : ∀ k, (leB s k).foldl updN a = itN (8 * k) (a ^^^ (s % 2 ^ (8 * k)))
 | 0 => by simp [leB, itN, Nat.mod_one]
 | k + 1 => by
  rw [leB_succ, List.foldl_append, fold_leB a s k]
  show updN (itN (8 * k) (a ^^^ (s % 2 ^ (8 * k)))) (s / 2 ^ (8 * k) % 256) = _
  unfold updN
  rw [← itN_two (8 * k), ← itN_add, Nat.xor_assoc, xor_add (Nat.mod_lt _ (Nat.two_pow_pos _)), show 8 * (k + 1) = 8 + 8 * k by omega, Nat.pow_add, show (2 : Nat) ^ 8 = 256 by decide, Nat.mul_comm 256, Nat.mod_mul]
  rw [Nat.add_comm (s % 2 ^ (8 * k))]
theorem stepN_inj {x y : Nat} (hx : x < 18446744073709551616) (hy : y < 18446744073709551616) (h : stepN x = stepN y) : x = y := by
 have key : ∀ z, z < 18446744073709551616 → (stepN z).testBit 63 = decide (z % 2 = 1) := by
  intro z hz
  unfold stepN
  have hb : (z / 2).testBit 63 = false := Nat.testBit_lt_two_pow (by omega)
  split
  ·rename_i h1
   rw [Nat.testBit_xor, hb, h1]
   decide
  ·rename_i h1
   rw [hb]; simp [h1]
 have h1 := key x hx
 have h2 := key y hy
 rw [h, h2] at h1
 have hm : x % 2 = y % 2 := by
  have := decide_eq_decide.1 h1
  omega
 unfold stepN at h
 rw [hm] at h
 split at h
 ·have := congrArg (fun z => z ^^^ polyN) h
  simp only [Nat.xor_assoc, Nat.xor_self, Nat.xor_zero] at this
  omega
 ·omega
theorem itN_inj : ∀ (n : Nat) {x y : Nat}, x < 18446744073709551616 → y < 18446744073709551616 → itN n x = itN n y → x = y
 | 0, _, _, _, _, h => h
 | n + 1, _, _, hx, hy, h => itN_inj n hx hy (stepN_inj (itN_lt hx) (itN_lt hy) h)
theorem crc_inj {l : List Nat} {x y : Nat} (hl : ∀ z ∈ l, z < 256) (hx : x < 18446744073709551616) (hy : y < 18446744073709551616) (h : crcN (l ++ leB x 8) = crcN (l ++ leB y 8)) : x = y := by
 have hlt : ∀ s, ∀ z ∈ l ++ leB s 8, z < 256 := by
  intro s z hz
  rcases List.mem_append.1 hz with hz | hz
  ·exact hl z hz
  ·unfold leB at hz
   obtain ⟨i, _, rfl⟩ := List.mem_map.1 hz
   exact Nat.mod_lt _ (by decide)
 have h1 := crcF_lt (hlt x)
 have h2 := crcF_lt (hlt y)
 unfold crcN at h
 have h3 : crcF (l ++ leB x 8) = crcF (l ++ leB y 8) := by omega
 have h4 := crcF_lt hl
 unfold crcF at h3 h4
 rw [List.foldl_append, List.foldl_append, fold_leB, fold_leB] at h3
 rw [show 2 ^ (8 * 8) = 18446744073709551616 by decide, Nat.mod_eq_of_lt hx, Nat.mod_eq_of_lt hy] at h3
 have h5 := itN_inj _ (xor_lt64 h4 hx) (xor_lt64 h4 hy) h3
 have h6 := congrArg (fun z => List.foldl updN 18446744073709551615 l ^^^ z) h5
 simp only [← Nat.xor_assoc, Nat.xor_self, Nat.zero_xor] at h6
 exact h6
end Go.Proofs.YtopoefcklipaeaaGreatDoor
namespace Go.Proofs.YtopoefcklipaeaaGreatDoor
open Go.RowKit
def lev (l : List Nat) : Nat → List Nat
 | 0 => l
 | d + 1 => upL (lev l d)
theorem upL_get {l : List Nat} {j : Nat} (h : 4 * j < l.length) : (upL l)[j]? = some (ruN ((l.drop (4 * j)).take 4)) := by
 unfold upL upK
 rw [List.getElem?_map, List.getElem?_range (by omega)]
 rfl
theorem lev_up {l : List Nat} {d j : Nat} (h : 4 * j < (lev l d).length) : (lev l (d + 1))[j]? = some (ruN (((lev l d).drop (4 * j)).take 4)) := upL_get h
def NeE (w : World) (E : Nat → Prop) (l : List Nat) : Nat → Nat → Nat → Prop
 | 0, j, b => E b ∧ ∃ s : Nat, l[j]? = some s ∧ w.heap[b]? = some (.cells #[.int .u64 (s : Int), .slice none 0 0] 101 (0, 0))
 | d + 1, j, b => E b ∧ ∃ s A off c : Nat, (lev l (d + 1))[j]? = some s ∧ E A ∧ w.heap[b]? = some (.cells #[.int .u64 (s : Int), .slice (some ⟨A, off, none⟩) (min 4 ((lev l d).length - 4 * j)) c] 101 (0, 0)) ∧
    ∀ k, k < min 4 ((lev l d).length - 4 * j) → ∃ p : Nat, w.cell? ⟨A, off + k, none⟩ = some (.pointer (some ⟨p, 0, none⟩)) ∧ NeE w E l d (4 * j + k) p
theorem NeE.own {w : World} {E : Nat → Prop} {l : List Nat} : ∀ {d j b : Nat}, NeE w E l d j b → E b
 | 0, _, _, h => h.1
 | _ + 1, _, _, h => h.1
theorem NeE.row {w : World} {E : Nat → Prop} {l : List Nat} : ∀ {d j b : Nat}, NeE w E l d j b → ∃ (s : Nat) (kv : Value), (lev l d)[j]? = some s ∧ w.heap[b]? = some (.cells #[.int .u64 (s : Int), kv] 101 (0, 0))
 | 0, _, _, ⟨_, s, h1, h2⟩ => ⟨s, _, h1, h2⟩
 | _ + 1, _, _, ⟨_, s, _, _, _, h1, _, h2, _⟩ => ⟨s, _, h1, h2⟩
theorem NeE.sum {w : World} {E : Nat → Prop} {l : List Nat} {d j b : Nat} (h : NeE w E l d j b) : ∃ s : Nat, (lev l d)[j]? = some s ∧ w.cell? ⟨b, 0, none⟩ = some (.int .u64 (s : Int)) := by
 obtain ⟨s, kv, h1, h2⟩ := h.row
 exact ⟨s, h1, by rw [cell_of_row _ _ _ _ _ _ h2]; rfl⟩
theorem NeE.to {w w' : World} {E E' : Nat → Prop} {l : List Nat} (hE : ∀ k, E k → E' k) (hw : ∀ k, E k → w'.heap[k]? = w.heap[k]?) : ∀ {d j b : Nat}, NeE w E l d j b → NeE w' E' l d j b
 | 0, _, b, ⟨h1, s, h2, h3⟩ => ⟨hE _ h1, s, h2, (hw b h1).trans h3⟩
 | d + 1, _, b, ⟨h1, s, A, off, c, h2, h4, h5, h6⟩ => ⟨hE _ h1, s, A, off, c, h2, hE _ h4, (hw b h1).trans h5, fun k hk => by
   obtain ⟨p, hp, hn⟩ := h6 k hk
   exact ⟨p, (World.cell?_of_block (hw A h4)).trans hp, NeE.to hE hw hn⟩⟩
def NeS (w : World) (B : Nat) (E : Nat → Prop) (A : Option Addr) (l : List Nat) (d lo n : Nat) : Prop := ∃ ps : List Nat, ps.length = n ∧ RdS w B 1 A (ps.map ptC) ∧ (∀ a, A = some a → 0 < n → E a.block) ∧ ∀ (i b : Nat), ps[i]? = some b → NeE w E l d (lo + i) b
def NeB (w : World) (lo X : Nat) (k : Nat) : Prop := (lo ≤ k ∧ k < w.heap.size) ∧ k ≠ X
def NeX (w : World) (lo X : Nat) (v : Value) (k : Nat) : Prop := NeB w lo X k ∧ v.ownBlock ≠ some k
abbrev NeP (w : World) (lo base X : Nat) (v : Value) (l : List Nat) (d n : Nat) (ps : List Nat) : Prop := ps.length = n ∧ OwS w base 51 1 v (ps.map ptC) ∧ (lo ≤ base ∧ v.ownBlock ≠ some X) ∧ ∀ (i b : Nat), ps[i]? = some b → NeE w (NeX w lo X v) l d i b
def NeO (w : World) (lo base X : Nat) (v : Value) (l : List Nat) (d n : Nat) : Prop := ∃ ps : List Nat, NeP w lo base X v l d n ps
section
variable {w w' : World} {B C lo base X d n : Nat} {A : Option Addr} {v : Value} {l : List Nat} {E E' : Nat → Prop}
theorem NeS.below {m : Nat} (h : NeS w B E A l d m n) (hE : ∀ k, E k → k < B) (hb : Below C w w') (hC : B ≤ C) : NeS w' B E A l d m n := by
 obtain ⟨ps, h1, h2, h3, h4⟩ := h
 exact ⟨ps, h1, h2.below' hb hC, h3, fun i b hp => (h4 i b hp).to (fun _ h => h) (fun k hk => hb.block k (by have := hE k hk; omega))⟩
theorem NeS.at_ {m : Nat} (h : NeS w B E A l d m n) {k : Nat} (hk : k < n) : ∃ b off p, A = some ⟨b, off, none⟩ ∧ b < B ∧ E b ∧ w.cell? ⟨b, off + k, none⟩ = some (.pointer (some ⟨p, 0, none⟩)) ∧ NeE w E l d (m + k) p := by
 obtain ⟨ps, h1, h2, h3, h4⟩ := h
 have hp : ps[k]? = some ps[k] := List.getElem?_eq_getElem (by omega)
 obtain ⟨b, off, rfl, hb, hc⟩ := h2.2 (by simp; omega)
 have hr : (ps.map ptC)[k]? = some (ptC ps[k]) := by rw [List.getElem?_map, hp]; rfl
 exact ⟨b, off, ps[k], rfl, hb, h3 _ rfl (by omega), by simpa using hc k _ hr 0 _ rfl, h4 k _ hp⟩
theorem NeS.part {b off m : Nat} (h : NeS w B E (some ⟨b, off, none⟩) l d m n) (k q : Nat) : NeS w B E (some ⟨b, off + k, none⟩) l d (m + k) (min q (n - k)) := by
 obtain ⟨ps, h1, h2, h3, h4⟩ := h
 refine ⟨(ps.drop k).take q, by simp [h1], ?_, fun a ha hn => ?_, fun i p hp => ?_⟩
 ·rw [List.map_take, List.map_drop]
  refine RdS.take ?_ q
  refine ⟨fun r hr => h2.1 r (List.mem_of_mem_drop hr), fun hn => ?_⟩
  rw [List.length_drop] at hn
  obtain ⟨b', off', he, hb, hc⟩ := h2.2 (by omega)
  cases he
  refine ⟨b, off + k, rfl, hb, fun i r hr j v hv => ?_⟩
  rw [List.getElem?_drop] at hr
  have := hc (k + i) r hr j v hv
  rw [show off + k + i * 1 + j = off + (k + i) * 1 + j by omega]
  exact this
 ·cases ha
  exact h3 ⟨b, off, none⟩ rfl (by omega)
 ·rw [List.getElem?_take] at hp
  split at hp
  ·rw [List.getElem?_drop] at hp
   rw [Nat.add_assoc]
   exact h4 (k + i) p hp
  ·cases hp
theorem NeS.sums {m : Nat} (h : NeS w B E A l d m n) (hE : ∀ k, E k → k < B) : NdS w B A (((lev l d).drop m).take n) := by
 obtain ⟨ps, h1, h2, _, h3⟩ := h
 have hlen : (((lev l d).drop m).take n).length = n := by
  rw [List.length_take, List.length_drop]
  cases n with
  | zero => simp
  | succ n =>
   have hp : ps[n]? = some ps[n] := List.getElem?_eq_getElem (by omega)
   obtain ⟨s, hs, _⟩ := (h3 n _ hp).sum
   have := (List.getElem?_eq_some_iff.1 hs).1
   omega
 refine ⟨ps, by rw [hlen, h1], h2, fun i b s hp hs => ?_⟩
 have hn := h3 i b hp
 obtain ⟨s', hs', hc⟩ := hn.sum
 have hi : i < n := by have := (List.getElem?_eq_some_iff.1 hp).1; omega
 rw [List.getElem?_take, if_pos hi, List.getElem?_drop, hs'] at hs
 cases hs
 exact ⟨hE _ hn.own, hc⟩
theorem NeO.nil (w : World) {lo base : Nat} (X : Nat) (l : List Nat) (d : Nat) (h : lo ≤ base) : NeO w lo base X (.slice none 0 0) l d 0 := ⟨[], rfl, OwS.nil _ _ _ _, ⟨h, by simp [Value.ownBlock]⟩, fun i b h => by simp at h⟩
theorem NeO.form (h : NeO w lo base X v l d n) : ∃ A c, v = .slice A n c ∧ NeS w w.heap.size (NeB w lo X) A l d 0 n ∧ n ≤ c := by
 obtain ⟨ps, h1, h2, h0, h3⟩ := h
 obtain ⟨A, c, rfl, hc, -⟩ := h2.form
 refine ⟨A, c, by simp [h1], ⟨ps, h1, h2.reads, fun a ha hn => ?_, fun i b hp => by rw [Nat.zero_add]; exact (h3 i b hp).to (fun k hk => hk.1) (fun _ _ => rfl)⟩, by simpa [h1] using hc⟩
 subst ha
 have := h2.lt (k := a.block) rfl
 exact ⟨⟨Nat.le_trans h0.1 this.1, this.2⟩, fun e => h0.2 (by rw [← e]; rfl)⟩
theorem NeP.call {ps : List Nat} (h : NeP w lo base X v l d n ps) (hb : Below w.heap.size w w') : NeP w' lo base X v l d n ps := by
 obtain ⟨h1, h2, h0, h3⟩ := h
 exact ⟨h1, h2.below hb, h0, fun i b hp => (h3 i b hp).to (fun k hk => ⟨⟨⟨hk.1.1.1, Nat.lt_of_lt_of_le hk.1.1.2 hb.size⟩, hk.1.2⟩, hk.2⟩) (fun k hk => hb.block k hk.1.1.2)⟩
theorem NeO.call (h : NeO w lo base X v l d n) (hb : Below w.heap.size w w') : NeO w' lo base X v l d n := by
 obtain ⟨ps, h⟩ := h
 exact ⟨ps, h.call hb⟩
theorem NeO.toX (h : NeO w lo base X v l d n) : NeO w lo base w.heap.size v l d n := by
 obtain ⟨ps, h1, h2, h0, h3⟩ := h
 exact ⟨ps, h1, h2, ⟨h0.1, fun e => by have := (h2.lt e).2; omega⟩, fun i b hp => (h3 i b hp).to (fun k hk => ⟨⟨hk.1.1, by have := hk.1.1.2; omega⟩, hk.2⟩) (fun _ _ => rfl)⟩
theorem NeO.base0 (h : NeO w lo base X v l d n) {b0 : Nat} (h0 : b0 ≤ base) (hl : lo ≤ b0) : NeO w lo b0 X v l d n := by
 obtain ⟨ps, h1, h2, h4, h3⟩ := h
 exact ⟨ps, h1, h2.mono h0, ⟨hl, h4.2⟩, h3⟩
theorem NeO.setX (h : NeO w lo base X v l d n) (j : Nat) (u : Value) : NeO (w.setCell ⟨X, j, none⟩ u) lo base X v l d n := by
 obtain ⟨ps, h1, h2, h0, h3⟩ := h
 have hg := grownBy_setCell w ⟨X, j, none⟩ u
 refine ⟨ps, h1, h2.kept hg ?_, h0, fun i b hp => (h3 i b hp).to (fun k hk => ⟨⟨⟨hk.1.1.1, Nat.lt_of_lt_of_le hk.1.1.2 hg.size⟩, hk.1.2⟩, hk.2⟩) (fun k hk => hg.block k hk.1.1.2 (fun e => hk.1.2 (by injection e)))⟩
 rcases hv : v.ownBlock with _ | k
 ·exact .inl rfl
 ·exact .inr fun e => by
   injection e with e
   have e2 : k = X := e
   exact h0.2 (by rw [hv, e2])
theorem NeP.push {q : Nat} {v' : Value} {ps : List Nat} (h : NeP w lo base X v l d n ps) (hX : X < w.heap.size) (hq : NeE w (NeX w lo X v) l d n q) (hg : w.grownBy w' v.ownBlock) (ho : OwS w' base 51 1 v' (ps.map ptC ++ [ptC q])) (hv : v'.ownBlock = v.ownBlock ∨ ∃ k, v'.ownBlock = some k ∧ w.heap.size ≤ k) : NeO w' lo base X v' l d (n + 1) := by
 obtain ⟨h1, h2, h0, h3⟩ := h
 have key : ∀ {i b : Nat}, NeE w (NeX w lo X v) l d i b → NeE w' (NeX w' lo X v') l d i b := fun hn => hn.to (fun k hk => ⟨⟨⟨hk.1.1.1, Nat.lt_of_lt_of_le hk.1.1.2 hg.size⟩, hk.1.2⟩, by
  rcases hv with e | ⟨k', e, hk'⟩
  ·rw [e]; exact hk.2
  ·rw [e]; intro e2; injection e2 with e2; have := hk.1.1.2; omega⟩) (fun k hk => hg.block k hk.1.1.2 (fun e => hk.2 e.symm))
 refine ⟨ps ++ [q], by simp [h1], by rw [List.map_append]; exact ho, ⟨h0.1, ?_⟩, fun i b hp => ?_⟩
 ·rcases hv with e | ⟨k', e, hk'⟩
  ·rw [e]; exact h0.2
  ·rw [e]; intro e2; injection e2 with e2; omega
 by_cases hi : i < ps.length
 ·rw [List.getElem?_append_left hi] at hp
  exact key (h3 i b hp)
 ·have hi2 : i = ps.length := by
   have := (List.getElem?_eq_some_iff.1 hp).1
   simp at this
   omega
  subst hi2
  simp at hp
  subst hp
  rw [h1]
  exact key hq
theorem NeO.head (h : NeO w lo base X v l d n) (hn : 0 < n) : ∃ b off p c, v = .slice (some ⟨b, off, none⟩) n c ∧ w.cell? ⟨b, off, none⟩ = some (.pointer (some ⟨p, 0, none⟩)) ∧ NeE w (NeB w lo X) l d 0 p := by
 obtain ⟨ps, h1, h2, h0, h3⟩ := h
 have hp : ps[0]? = some ps[0] := List.getElem?_eq_getElem (by omega)
 obtain ⟨A, c, rfl, -, -⟩ := h2.form
 obtain ⟨b, off, rfl, -, hc⟩ := h2.reads.2 (by simp; omega)
 have hr : (ps.map ptC)[0]? = some (ptC ps[0]) := by rw [List.getElem?_map, hp]; rfl
 exact ⟨b, off, ps[0], c, by simp [h1], by simpa using hc 0 _ hr 0 _ rfl, (h3 0 _ hp).to (fun _ hk => hk.1) (fun _ _ => rfl)⟩
end
set_option maxHeartbeats 1000000 in
set_option maxRecDepth 100000 in
theorem join_kids {A : Option Addr} {B c : Nat} {l : List Nat} (w : World) (h : NdS w B A l) (hB : B ≤ w.heap.size) (hn : l.length < 256) :
  Calls Tryz.prog 35 #[.slice A l.length c] w fun r w' => (∃ q, r = .returned (.pointer (some ⟨q, 0, none⟩)) ∧ w.heap.size ≤ q ∧ q < w'.heap.size ∧ w'.heap[q]? = some (.cells #[.int .u64 (ruN l : Int), .slice A l.length c] 101 (0, 0))) ∧ Below w.heap.size w w' := by
 have HU := Lib.hid h
 have HTA : Hid (l.take l.length = l) := List.take_length
 clear h
 go_enter Tryz.func35, Tryz.ntmps35
 go_wp2
 go_loopw [3, 8] (fun s3 s8 wr => ∃ k : Nat, k ≤ l.length ∧ s8 = .int .i64 k ∧ OwS wr w.heap.size 38 1 s3 ((l.take k).map u64C) ∧ Below w.heap.size w wr) (fun _ s8 _ => l.length - (intOf s8).toNat)
 case atStart => exact ⟨0, by omega, rfl, OwS.nil _ _ _ _, Below.refl _ _⟩
 case round =>
  obtain ⟨k, hk, rfl, hO, hb⟩ := hrel
  have HO := Lib.hid hO
  have HB := Lib.hid hb
  clear hO hb
  by_cases hkn : k < l.length
  case neg =>
   have hkI : ¬ (k : Int) < (l.length : Int) := by omega
   obtain rfl : k = l.length := by omega
   rw [HTA.out] at HO
   obtain ⟨A2, c2, rfl, hby, -⟩ := HO.out.u64s
   have HSM := Lib.hid (run_any (c := c2) wr hby (Nat.le_refl _) hn)
   clear hby HO
   go_wp2_with fail
   refine HSM.out.mono ?_
   rintro r w3 ⟨rfl, hb3⟩
   have HB3 := Lib.hid (HB.out.trans (hb3.mono HB.out.size))
   clear hb3
   go_wp2
   go_ret
   exact ⟨⟨w3.heap.size, rfl, HB3.out.size, by simp, heap_alloc_new w3 _⟩, HB3.out.alloc HB3.out.size _⟩
  case pos =>
   have hkI : (k : Int) < (l.length : Int) := by omega
   have hk0 : ¬ (k : Int) < 0 := by omega
   obtain ⟨x, hx⟩ : ∃ x, l[k]? = some x := ⟨_, List.getElem?_eq_getElem hkn⟩
   obtain ⟨b, o, p, rfl, hbB, hc, hpB, hcp⟩ := NdS.at_ (HU.out.below HB.out hB) hx
   have HSE : Hid ((l.take k) ++ [x] = l.take (k + 1)) := by rw [Hid, List.take_add_one, hx]; rfl
   have hlk : (l.take k).length ≤ 256 := by rw [List.length_take]; omega
   have hz := HB.out.size
   generalize l.take k = m at *
   clear hx
   go_wp2_with (at_builtin; refine wpList_ap1 rfl (.tmp 12) (.tmp 17) _ rfl elemU64 rfl HO.out (u64C x) _ (by rfl) wr.heap.size (by rfl) (by rfl) (u64C_one x) (by simp [maxLen]; omega) (by simp; omega) hz ?_)
   intro v5 w5 hown5 hg5 _
   have hb5 : Below w.heap.size w w5 := (HB.out.alloc hz _).grown hg5 (by simp; omega) (fun k h => (HO.out.lt h).1)
   have ho5 : OwS w5 w.heap.size 38 1 v5 ((l.take (k + 1)).map u64C) := by
    rw [← HSE.out, List.map_append]
    exact hown5
   clear hg5 hown5 hc hcp
   go_wp2
   go_roundw
   case rel => exact ⟨k + 1, by omega, by go_num, ho5, hb5⟩
   case measure => simp [intOf] <;> omega
theorem join_tree {b off B c d j : Nat} {l : List Nat} {E : Nat → Prop} (w : World) (h : NeS w B E (some ⟨b, off, none⟩) l d (4 * j) (min 4 ((lev l d).length - 4 * j))) (hE : ∀ k, E k → k < B) (hB : B ≤ w.heap.size) (hj : 4 * j < (lev l d).length) :
  Calls Tryz.prog 35 #[.slice (some ⟨b, off, none⟩) (min 4 ((lev l d).length - 4 * j)) c] w fun r w' => (∃ q, r = .returned (.pointer (some ⟨q, 0, none⟩)) ∧ w.heap.size ≤ q ∧ NeE w' (fun k => E k ∨ k = q) l (d + 1) j q ∧ q < w'.heap.size) ∧ Below w.heap.size w w' := by
 have hlen : (((lev l d).drop (4 * j)).take 4).length = min 4 ((lev l d).length - 4 * j) := by rw [List.length_take, List.length_drop]
 have hs : NdS w B (some ⟨b, off, none⟩) (((lev l d).drop (4 * j)).take 4) := by
  have := h.sums hE
  rwa [show ((lev l d).drop (4 * j)).take (min 4 ((lev l d).length - 4 * j)) = ((lev l d).drop (4 * j)).take 4 by
   rw [← List.length_drop, ← List.take_take, List.take_of_length_le (Nat.le_refl _)]] at this
 have := join_kids (c := c) w hs hB (by rw [hlen]; omega)
 rw [hlen] at this
 refine this.mono fun r w' hh => ?_
 obtain ⟨⟨q, rfl, h1, h2, h3⟩, hb⟩ := hh
 have hS := h.below hE hb hB
 refine ⟨⟨q, rfl, h1, ⟨.inr rfl, _, b, off, c, lev_up hj, ?_, h3, fun k hk => ?_⟩, h2⟩, hb⟩
 ·obtain ⟨b', off', p, he, _, hbE, _⟩ := hS.at_ (k := 0) (by omega)
  cases he
  exact .inl hbE
 ·obtain ⟨b', off', p, he, _, _, hc, hn⟩ := hS.at_ hk
  cases he
  exact ⟨p, hc, hn.to (fun _ h => .inl h) (fun _ _ => rfl)⟩
end Go.Proofs.YtopoefcklipaeaaGreatDoor
namespace Go.Proofs.YtopoefcklipaeaaGreatDoor
def difL (x y : List Nat) : Nat → Nat → List Int
 | 0, j => if x[j]? = y[j]? then [] else [(j : Int)]
 | d + 1, j => if (lev x (d + 1))[j]? = (lev y (d + 1))[j]? then [] else (List.range (min 4 ((lev x d).length - 4 * j))).flatMap fun k => difL x y d (4 * j + k)
theorem difL_succ (x y : List Nat) (d j : Nat) : difL x y (d + 1) j = if (lev x (d + 1))[j]? = (lev y (d + 1))[j]? then [] else (List.range (min 4 ((lev x d).length - 4 * j))).flatMap fun k => difL x y d (4 * j + k) := rfl
theorem lev_len {x y : List Nat} (h : x.length = y.length) : ∀ d, (lev x d).length = (lev y d).length
 | 0 => h
 | d + 1 => by show (upL (lev x d)).length = (upL (lev y d)).length; rw [upL_len, upL_len, lev_len h d]
theorem flat_le {f : Nat → List Int} {m : Nat} (h : ∀ k, (f k).length ≤ m) : ∀ n, ((List.range n).flatMap f).length ≤ n * m
 | 0 => by simp
 | n + 1 => by
  rw [List.range_succ, List.flatMap_append, List.length_append, Nat.succ_mul]
  have h1 := flat_le h n
  have h2 := h n
  have h3 : ([n].flatMap f).length = (f n).length := by simp
  omega
theorem difL_len (x y : List Nat) : ∀ d j, (difL x y d j).length ≤ 4 ^ d
 | 0, j => by unfold difL; split <;> simp
 | d + 1, j => by
  unfold difL
  split
  ·simp
  ·refine Nat.le_trans (flat_le (m := 4 ^ d) (fun k => difL_len x y d _) _) ?_
   rw [Nat.pow_succ, Nat.mul_comm (4 ^ d) 4]
   exact Nat.mul_le_mul_right _ (by omega)
def chT (x y : List Nat) (i : Nat) : Nat → Bool
 | 0 => true
 | e + 1 => chT x y i e && ((lev x e)[i / 4 ^ e]? != (lev y e)[i / 4 ^ e]?)
def refD (x y : List Nat) (d : Nat) : List Nat := (List.range x.length).filter fun i => chT x y i (d + 1)
def difW (x y : List Nat) : List Nat := (List.range x.length).filter fun g => x[g]? != y[g]?
theorem lev_ge {x : List Nat} : ∀ {d i : Nat}, (lev x d).length ≤ i / 4 ^ d → x.length ≤ i
 | 0, i, h => by
  have h1 : x.length ≤ i / 4 ^ 0 := h
  simpa using h1
 | d + 1, i, h => by
  refine lev_ge (d := d) ?_
  have h1 : (lev x (d + 1)).length = ((lev x d).length + 3) / 4 := upL_len _
  rw [h1, Nat.pow_succ, ← Nat.div_div_eq_div_mul] at h
  omega
theorem range_cut (s c : Nat) : ∀ m, List.range' s (m * c) = (List.range m).flatMap fun k => List.range' (s + k * c) c
 | 0 => by simp
 | m + 1 => by
  rw [List.range_succ, List.flatMap_append, ← range_cut s c m, Nat.succ_mul]
  simp [List.range'_append_1]
theorem flat_congr {l : List Nat} {f g : Nat → List Int} (h : ∀ k ∈ l, f k = g k) : l.flatMap f = l.flatMap g := by
 induction l with
 | nil => rfl
 | cons a l ih => rw [List.flatMap_cons, List.flatMap_cons, h a (by simp), ih fun k hk => h k (List.mem_cons_of_mem _ hk)]
theorem chT_out {x y : List Nat} (hxy : x.length = y.length) {i d : Nat} (h : x.length ≤ i) : chT x y i (d + 1) = false := by
 induction d with
 | zero => simp [chT, lev, List.getElem?_eq_none h, List.getElem?_eq_none (hxy ▸ h)]
 | succ d ih => rw [chT, ih, Bool.false_and]
theorem difL_eq {x y : List Nat} (hxy : x.length = y.length) : ∀ d j, difL x y d j = ((List.range' (j * 4 ^ d) (4 ^ d)).filter fun i => chT x y i (d + 1)).map fun i => ((i : Nat) : Int)
 | 0, j => by
  rw [difL, Nat.pow_zero, Nat.mul_one]
  by_cases h : x[j]? = y[j]?
  ·simp [chT, lev, h]
  ·simp [chT, lev, h]
 | d + 1, j => by
  rw [difL_succ, Nat.pow_succ, Nat.mul_comm (4 ^ d) 4, range_cut, List.filter_flatMap, List.map_flatMap]
  have hlv : ∀ i, j * (4 * 4 ^ d) ≤ i → i < (j + 1) * (4 * 4 ^ d) → i / 4 ^ (d + 1) = j := fun i h1 h2 => by
   rw [Nat.pow_succ, Nat.mul_comm (4 ^ d) 4]
   exact Nat.div_eq_of_lt_le h1 h2
  have hmem : ∀ k i, k < 4 → i ∈ List.range' (j * (4 * 4 ^ d) + k * 4 ^ d) (4 ^ d) → i / 4 ^ (d + 1) = j ∧ i / 4 ^ d = 4 * j + k := fun k i hk hi => by
   obtain ⟨h1, h2⟩ := List.mem_range'_1.1 hi
   have e1 : j * (4 * 4 ^ d) + k * 4 ^ d = (4 * j + k) * 4 ^ d := by rw [Nat.add_mul, ← Nat.mul_assoc, Nat.mul_comm j 4]
   have e2 : j * (4 * 4 ^ d) + k * 4 ^ d + 4 ^ d = (4 * j + k + 1) * 4 ^ d := by rw [e1, Nat.add_mul (4 * j + k) 1, Nat.one_mul]
   have e3 : i / 4 ^ d = 4 * j + k := Nat.div_eq_of_lt_le (by omega) (by omega)
   refine ⟨?_, e3⟩
   rw [Nat.pow_succ, ← Nat.div_div_eq_div_mul, e3]
   omega
  split
  ·rename_i h
   symm
   rw [List.flatMap_eq_nil_iff]
   intro k hk
   rw [List.map_eq_nil_iff, List.filter_eq_nil_iff]
   intro i hi
   obtain ⟨h1, _⟩ := hmem k i (List.mem_range.1 hk) hi
   rw [chT, h1, h]
   simp
  ·rename_i h
   have hn : min 4 ((lev x d).length - 4 * j) ≤ 4 := by omega
   obtain ⟨m, hm⟩ : ∃ m, 4 = min 4 ((lev x d).length - 4 * j) + m := ⟨_, (Nat.add_sub_cancel' hn).symm⟩
   have hr : List.range 4 = List.range (min 4 ((lev x d).length - 4 * j)) ++ List.range' (min 4 ((lev x d).length - 4 * j)) m := by
    rw [List.range_eq_range', List.range_eq_range']
    have := List.range'_append_1 (s := 0) (m := min 4 ((lev x d).length - 4 * j)) (n := m)
    rw [Nat.zero_add] at this
    rw [this, ← hm]
   rw [hr, List.flatMap_append]
   have hz : (List.range' (min 4 ((lev x d).length - 4 * j)) m).flatMap (fun k => List.map (fun i => ((i : Nat) : Int)) ((List.range' (j * (4 * 4 ^ d) + k * 4 ^ d) (4 ^ d)).filter fun i => chT x y i (d + 1 + 1))) = [] := by
    rw [List.flatMap_eq_nil_iff]
    intro k hk
    obtain ⟨g1, g2⟩ := List.mem_range'_1.1 hk
    rw [List.map_eq_nil_iff, List.filter_eq_nil_iff]
    intro i hi
    obtain ⟨_, h2⟩ := hmem k i (by omega) hi
    rw [chT_out hxy (lev_ge (d := d) (by rw [h2]; omega))]
    simp
   rw [hz, List.append_nil]
   refine flat_congr fun k hk => ?_
   have hk4 : k < 4 := by have := List.mem_range.1 hk; omega
   rw [difL_eq hxy d (4 * j + k)]
   have e1 : (4 * j + k) * 4 ^ d = j * (4 * 4 ^ d) + k * 4 ^ d := by rw [Nat.add_mul, ← Nat.mul_assoc, Nat.mul_comm j 4]
   rw [e1]
   congr 1
   refine List.filter_congr fun i hi => ?_
   obtain ⟨h1, _⟩ := hmem k i hk4 hi
   rw [chT.eq_2 x y i (d + 1), h1]
   simp [h]
theorem difL_top {x y : List Nat} (hxy : x.length = y.length) {d : Nat} (h : x.length ≤ 4 ^ d) : difL x y d 0 = (refD x y d).map fun i => ((i : Nat) : Int) := by
 rw [difL_eq hxy, Nat.zero_mul, refD]
 obtain ⟨m, hm⟩ : ∃ m, 4 ^ d = x.length + m := ⟨_, (Nat.add_sub_cancel' h).symm⟩
 rw [hm, ← List.range'_append_1, List.filter_append, List.range_eq_range', Nat.zero_add]
 have hz : (List.range' x.length m).filter (fun i => chT x y i (d + 1)) = [] := by
  rw [List.filter_eq_nil_iff]
  intro i hi
  rw [chT_out hxy (List.mem_range'_1.1 hi).1]
  simp
 rw [hz, List.append_nil]
theorem chT_zero {x y : List Nat} {i : Nat} : ∀ d, chT x y i (d + 1) = true → (x[i]? != y[i]?) = true
 | 0, h => by simpa [chT, lev] using h
 | d + 1, h => by
  rw [chT, Bool.and_eq_true] at h
  exact chT_zero d h.1
theorem refD_sub (x y : List Nat) (d : Nat) : (refD x y d).Sublist (difW x y) := by
 have : refD x y d = (difW x y).filter fun i => chT x y i (d + 1) := by
  rw [refD, difW, List.filter_filter]
  refine List.filter_congr fun i _ => ?_
  cases h : chT x y i (d + 1) with
  | false => rfl
  | true => rw [chT_zero d h]; rfl
 rw [this]
 exact List.filter_sublist
theorem refD_eq {x y : List Nat} {d : Nat} (h : (refD x y d).length = (difW x y).length) : refD x y d = difW x y := (refD_sub x y d).eq_of_length h
theorem difW_nil {x y : List Nat} (hxy : x.length = y.length) (h : difW x y = []) : x = y := by
 apply List.ext_getElem? 
 intro i
 by_cases hi : i < x.length
 ·rw [difW, List.filter_eq_nil_iff] at h
  simpa using h i (List.mem_range.2 hi)
 ·rw [List.getElem?_eq_none (by omega), List.getElem?_eq_none (by omega)]
theorem leB_lt2 (n k : Nat) : ∀ z ∈ leB n k, z < 256 := by
 intro z hz
 unfold leB at hz
 obtain ⟨i, _, rfl⟩ := List.mem_map.1 hz
 exact Nat.mod_lt _ (by decide)
theorem top_eq {x y : List Nat} {d : Nat} (hxy : x.length = y.length) (h1 : (lev x d).length = 1) (h2 : (lev y d).length = 1) (hx : ∀ z ∈ lev x d, z < 18446744073709551616) (hy : ∀ z ∈ lev y d, z < 18446744073709551616) (tx : lev x d = topL x) (ty : lev y d = topL y) (h : rtN x = rtN y) : (lev x d)[0]? = (lev y d)[0]? := by
 unfold rtN at h
 rw [hxy, ← tx, ← ty] at h
 match hu : lev x d, hv : lev y d with
 | [], _ => rw [hu] at h1; cases h1
 | _ :: _ :: _, _ => rw [hu] at h1; simp at h1
 | [_], [] => rw [hv] at h2; cases h2
 | [_], _ :: _ :: _ => rw [hv] at h2; simp at h2
 | [a], [b] =>
  rw [hu, hv] at h
  have := crc_inj (leB_lt2 _ _) (hx a (by rw [hu]; simp)) (hy b (by rw [hv]; simp)) h
  simpa using this
theorem ref_top {x y : List Nat} {d : Nat} (h : x.length ≤ 4 ^ d) (ht : (lev x d)[0]? = (lev y d)[0]?) : refD x y d = [] := by
 rw [refD, List.filter_eq_nil_iff]
 intro i hi
 have hi2 := List.mem_range.1 hi
 rw [chT, Nat.div_eq_of_lt (by omega), ht]
 simp
theorem lev_lt {x : List Nat} (hx : ∀ z ∈ x, z < 18446744073709551616) (hr : ∀ l, ruN l < 18446744073709551616) : ∀ d, ∀ z ∈ lev x d, z < 18446744073709551616
 | 0, z, h => hx z h
 | d + 1, z, h => by
  have h1 : z ∈ upL (lev x d) := h
  unfold upL upK at h1
  obtain ⟨i, _, rfl⟩ := List.mem_map.1 h1
  exact hr _
theorem filt_at {P : Nat → Bool} {N g : Nat} (hg : g < N) (hP : P g = true) : ((List.range N).filter P)[((List.range g).filter P).length]? = some g := by
 obtain ⟨m, hm⟩ : ∃ m, N = g + (m + 1) := ⟨N - g - 1, by omega⟩
 have h1 : List.range N = List.range g ++ g :: List.range' (g + 1) m := by
  rw [hm, List.range_eq_range', List.range_eq_range', ← List.range'_append_1, Nat.zero_add]
  rfl
 rw [h1, List.filter_append, List.filter_cons, if_pos hP, List.getElem?_append_right (Nat.le_refl _), Nat.sub_self]
 rfl
theorem filt_succ (P : Nat → Bool) (g : Nat) : ((List.range (g + 1)).filter P).length = ((List.range g).filter P).length + (if P g then 1 else 0) := by
 rw [List.range_succ, List.filter_append, List.length_append]
 congr 1
 cases h : P g <;> simp [h]
theorem lev_in {x : List Nat} {i : Nat} (h : i < x.length) : ∀ d, i / 4 ^ d < (lev x d).length := fun d => by
 rcases Nat.lt_or_ge (i / 4 ^ d) (lev x d).length with g | g
 ·exact g
 ·have := lev_ge g
  omega
end Go.Proofs.YtopoefcklipaeaaGreatDoor
namespace Go.Proofs.YtopoefcklipaeaaGreatDoor
open Go.RowKit
def Tall (l : List Nat) (d : Nat) : Prop := (lev l d).length ≤ 1 ∧ ∀ i, i < d → 1 < (lev l i).length
theorem Tall.uniq {l m : List Nat} {d e : Nat} (h : Tall l d) (k : Tall m e) (hl : ∀ i, (lev l i).length = (lev m i).length) : d = e := by
 rcases Nat.lt_trichotomy d e with g | g | g
 ·have := k.2 d g
  have := h.1
  have := hl d
  omega
 ·exact g
 ·have := h.2 e g
  have := k.1
  have := hl e
  omega
theorem lev_small {l : List Nat} {k : Nat} (h : l.length ≤ 4 ^ k) : ∀ i, i ≤ k → (lev l i).length ≤ 4 ^ (k - i)
 | 0, _ => h
 | i + 1, hi => by
  have h1 := lev_small h i (by omega)
  show (upL (lev l i)).length ≤ _
  rw [upL_len]
  have e : k - i = (k - (i + 1)) + 1 := by omega
  rw [e, Nat.pow_succ] at h1
  omega
theorem Tall.le {l : List Nat} {d k : Nat} (h : Tall l d) (hl : l.length ≤ 4 ^ k) : d ≤ k := by
 rcases Nat.lt_or_ge k d with g | g
 ·have h1 := h.2 k g
  have h2 := lev_small hl k (Nat.le_refl _)
  rw [Nat.sub_self] at h2
  omega
 ·exact g
def BldT (l : List Nat) (w' : World) (e : Ending) : Prop := ∃ (d : Nat) (p : Option Addr), e = .returned (.agg #[.int .i64 (l.length : Int), .int .i64 (d : Int), .pointer p]) ∧ (l = [] → p = none) ∧ (l ≠ [] → ∃ q, p = some ⟨q, 0, none⟩ ∧ (lev l d).length = 1 ∧ lev l d = topL l ∧ Tall l d ∧ NeE w' (fun k => k < w'.heap.size) l d 0 q)
set_option maxHeartbeats 4000000 in
set_option maxRecDepth 100000 in
theorem build_tree {A : Option Addr} {B c : Nat} {l : List Nat} (w : World) (h : U64S w B A l) (hB : B ≤ w.heap.size) (hn : l.length ≤ 100000) :
  Calls Tryz.prog 12 #[.slice A l.length c] w fun r w' => BldT l w' r ∧ Below w.heap.size w w' := by
 have HU := Lib.hid h
 have HLL := Lib.hid hn
 clear h
 go_enter Tryz.func12, Tryz.ntmps12
 go_upto_region 2 with (fail)
 generalize hW0 : w.alloc _ = w0
 have HR0 : Hid (w0.heap[w.heap.size]? = some (.cells #[.int .i64 0, .int .i64 0, .pointer none] 53 (0, 0))) := by rw [← hW0]; exact heap_alloc_new w _
 have HB0 : Hid (Below w.heap.size w w0) := by rw [← hW0]; exact below_laid
 have HRL : Hid (w.heap.size < w0.heap.size) := (Array.getElem?_eq_some_iff.1 HR0.out).1
 clear hW0
 go_wp2
 go_loopw [3, 11] (fun s3 s11 wr => ∃ k : Nat, k ≤ l.length ∧ s11 = .int .i64 k ∧ NeO wr w0.heap.size w0.heap.size w.heap.size s3 l 0 k ∧ Below w0.heap.size w0 wr) (fun _ s11 _ => l.length - (intOf s11).toNat)
 case atStart => exact ⟨0, by omega, rfl, NeO.nil _ _ _ _ (Nat.le_refl _), Below.refl _ _⟩
 case round =>
  obtain ⟨k, hk, rfl, hO, hb⟩ := hrel
  by_cases hkn : k < l.length
  case pos =>
   have hkI : (k : Int) < (l.length : Int) := by omega
   have hk0 : ¬ (k : Int) < 0 := by omega
   obtain ⟨ps, hnd⟩ := hO
   have HND := Lib.hid hnd
   have HB := Lib.hid hb
   obtain ⟨x, hx⟩ : ∃ x, l[k]? = some x := ⟨_, List.getElem?_eq_getElem hkn⟩
   obtain ⟨b, o, rfl, hbB, hc⟩ := U64S.at_ (RdS.below' HU.out (HB0.out.trans (hb.mono HB0.out.size)) hB) hx
   have HX := Lib.hid hx
   have hpl : ps.length ≤ 100000 := by have := hnd.1; omega
   have HOO := Lib.hid (hnd.2.1)
   have hz := hb.size
   obtain ⟨A3, c3, rfl, -, -⟩ := hnd.2.1.form
   rw [List.length_map] at HND HOO ⊢
   clear hnd hb hx
   have HOA : Hid (OwS (wr.alloc (.cells #[.int .u64 (x : Int), .slice none 0 0] 101)) w0.heap.size 51 1 (.slice A3 ps.length c3) (ps.map ptC)) := HOO.out.below below_laid
   go_wp2_with (at_builtin; refine wpList_ap1 rfl (.tmp 15) (.tmp 19) _ rfl elemPt rfl HOA.out (ptC wr.heap.size) _ (by rfl) (wr.heap.size + 1) (by rfl) (by simp) (ptC_one _) (by simp [maxLen]; omega) (by simp; omega) (by simp; omega) ?_)
   intro v5 w5 hown5 hg5 hv5
   have hb2 : Below wr.heap.size wr ((wr.alloc (.cells #[.int .u64 (x : Int), .slice none 0 0] 101)).alloc (.cells (ptC wr.heap.size).toArray 51)) := below_laid.trans (below_laid.mono (by simp))
   have hq2 : ((wr.alloc (.cells #[.int .u64 (x : Int), .slice none 0 0] 101)).alloc (.cells (ptC wr.heap.size).toArray 51)).heap[wr.heap.size]? = some (.cells #[.int .u64 (x : Int), .slice none 0 0] 101) := by
    rw [Below.heap_alloc _ _ _ (by simp)]
    exact heap_alloc_new wr _
   have HN5 : Hid (NeO w5 w0.heap.size w0.heap.size w.heap.size v5 l 0 (k + 1)) := by
    refine (HND.out.call hb2).push (q := wr.heap.size) (by have := HRL.out; have := hb2.size; omega) ⟨⟨⟨⟨hz, by simp; omega⟩, by have := HRL.out; omega⟩, fun e => by have := (HOO.out.lt e).2; omega⟩, x, HX.out, hq2⟩ hg5 hown5 ?_
    rcases hv5 with e | e
    ·exact .inl e
    ·exact .inr ⟨_, e, by simp⟩
   have HB5 : Hid (Below w0.heap.size w0 w5) := (HB.out.trans (hb2.mono hz)).grown hg5 (by simp; omega) (fun k h => (HOO.out.lt h).1)
   clear hown5 hg5 hv5 hb2 hq2 hc
   go_wp2
   go_roundw
   case rel => exact ⟨k + 1, by omega, by go_num, HN5.out, HB5.out⟩
   case measure => simp [intOf] <;> omega
  case neg =>
   have hkI : ¬ (k : Int) < (l.length : Int) := by omega
   obtain rfl : k = l.length := by omega
   obtain ⟨A3, c3, rfl, -, -⟩ := hO.form
   have HO := Lib.hid hO.toX
   have HB := Lib.hid hb
   have hz := hb.size
   clear hO hb
   go_upto_region 8 with (fail)
   have hbl : Below wr.heap.size wr (wr.alloc (.cells #[.int .i64 (l.length : Int), .int .i64 0, .pointer none] 53)) := below_laid
   have HT1 := Lib.hid (heap_alloc_new wr (.cells #[.int .i64 (l.length : Int), .int .i64 0, .pointer none] 53))
   have HO1 := Lib.hid (HO.out.call hbl)
   have HB1 := Lib.hid (HB.out.trans (hbl.mono hz))
   generalize wr.alloc _ = w1 at *
   have HXL : Hid (w0.heap.size ≤ wr.heap.size) := hz
   generalize wr.heap.size = X at *
   clear hbl HO HB hz
   go_wp2
   go_loopw [3] (fun s3 wr => ∃ (d f n : Nat), n = (lev l d).length ∧ (∀ i, i < d → 1 < (lev l i).length) ∧ NeO wr w0.heap.size w0.heap.size X s3 l d n ∧ n ≤ f ∧ topF f (lev l d) = topL l ∧ d + n ≤ l.length ∧ wr.heap[X]? = some (.cells #[.int .i64 (l.length : Int), .int .i64 (d : Int), .pointer none] 53 (0, 0)) ∧ Below w0.heap.size w0 wr) (fun s3 _ => lenV s3)
   case atStart => exact ⟨0, l.length, l.length, rfl, fun i h => absurd h (Nat.not_lt_zero _), HO1.out, Nat.le_refl _, rfl, by omega, HT1.out, HB1.out⟩
   case round =>
    obtain ⟨d, f, n, hn0, hta, hO, hf, hR, hcl, ht, hb⟩ := hrel
    have HTL := Lib.hid hta
    have HLL2 : Hid (l.length ≤ 100000) := HLL.out
    have HNL := Lib.hid hn0
    have HDN := Lib.hid hcl
    obtain ⟨A4, c4, rfl, hN, hc4⟩ := hO.form
    have HO := Lib.hid hO
    have HT := Lib.hid ht
    have HB := Lib.hid hb
    have HNS := Lib.hid hN
    have HR := Lib.hid hR
    have hln : n ≤ 100000 := by have := HLL.out; omega
    have hld : d ≤ 100000 := by have := HLL.out; omega
    clear hO ht hb hN HO1 HT1 HB1 hn0 hta
    by_cases h1 : 1 < n
    case pos =>
     have h1I : (1 : Int) < (n : Int) := by omega
     have HTN : Hid (∀ i, i < d + 1 → 1 < (lev l i).length) := fun i hi => by
      rcases Nat.lt_or_ge i d with g | g
      ·exact HTL.out i g
      ·obtain rfl : i = d := by omega
       rw [← HNL.out]; exact h1
     obtain ⟨b, o, p0, rfl, -⟩ := HNS.out.at_ (k := 0) (by omega)
     generalize wr = wo at *
     have hwo : w0.heap.size ≤ wo.heap.size := HB.out.size
     have HXo : Hid (X < wo.heap.size) := (Array.getElem?_eq_some_iff.1 HT.out).1
     go_wp2
     go_loopw [7, 8] (fun s7 s8 wr => ∃ i j : Nat, i = 4 * j ∧ j ≤ (n + 3) / 4 ∧ s8 = .int .i64 i ∧ NeO wr w0.heap.size wo.heap.size X s7 l (d + 1) j ∧ Below wo.heap.size wo wr) (fun _ s8 _ => n + 8 - (intOf s8).toNat)
     case atStart => exact ⟨0, 0, rfl, Nat.zero_le _, rfl, NeO.nil _ _ _ _ hwo, Below.refl _ _⟩
     case round =>
      obtain ⟨i, j, hij, hj, rfl, hO, hb⟩ := hrel
      by_cases hic : i < n
      case pos =>
       have hiI : (i : Int) < (n : Int) := by omega
       have hi0 : ¬ (i : Int) < 0 := by omega
       have hi0' : (0 : Int) ≤ (i : Int) := by omega
       have HIJ : Hid (i = 4 * j) := hij
       obtain ⟨hi, hhi⟩ : ∃ hi, min (i + 4) n = hi := ⟨_, rfl⟩
       have q1 : IntKind.i64.wrap ((i : Int) + 4) = (i : Int) + 4 := IntWalk.i64_in _ (by omega)
       have q2 : ¬ c4 = i := by omega
       have q3 : min ((i : Int) + 4) (n : Int) = (hi : Int) := by omega
       have q4 : (i : Int) ≤ (hi : Int) := by omega
       have q5 : (hi : Int) ≤ (c4 : Int) := by omega
       have hpl : min 4 ((lev l d).length - 4 * j) = hi - i := by rw [← HNL.out]; omega
       have HJN : Hid (Calls Tryz.prog 35 #[.slice (some ⟨b, o + i, none⟩) (hi - i) (c4 - i)] wr fun r w' => (∃ q, r = .returned (.pointer (some ⟨q, 0, none⟩)) ∧ wr.heap.size ≤ q ∧ NeE w' (fun k => NeB wo w0.heap.size X k ∨ k = q) l (d + 1) j q ∧ q < w'.heap.size) ∧ Below wr.heap.size wr w') := by
        have h5 := (HNS.out.below (fun k hk => hk.1.2) hb (Nat.le_refl _)).part i 4
        have h6 := join_tree (l := l) (d := d) (j := j) (c := c4 - i) (b := b) (off := o + i) (E := NeB wo w0.heap.size X) (B := wo.heap.size) wr (by
         rw [Nat.zero_add] at h5
         rw [← hij, ← HNL.out]
         exact h5) (fun k hk => hk.1.2) hb.size (by rw [← HNL.out]; omega)
        rw [hpl] at h6
        exact h6
       have HMJ : Hid (j + 1 ≤ (n + 3) / 4) := by rw [Hid]; omega
       obtain ⟨ps, hnd⟩ := hO
       have hps : ps.length ≤ 100000 := by have := hnd.1; omega
       obtain ⟨A5, c5, rfl, -, -⟩ := hnd.2.1.form
       have HND := Lib.hid hnd
       have HB5 := Lib.hid hb
       have HOO := Lib.hid hnd.2.1
       rw [List.length_map] at HND HOO ⊢
       clear hnd hb hij hhi hpl hj
       go_wp2_with fail
       refine HJN.out.mono ?_
       rintro r wj ⟨⟨q, rfl, hq1, hqn, hq2⟩, hbj⟩
       have HNJ := Lib.hid (HND.out.call hbj)
       have HBJ := Lib.hid (HB5.out.trans (hbj.mono HB5.out.size))
       have HOJ := Lib.hid (HOO.out.below hbj)
       have HQ := Lib.hid (And.intro hq1 (And.intro hq2 hqn))
       have hwj : wo.heap.size ≤ wj.heap.size := HBJ.out.size
       have HQB : Hid (wo.heap.size ≤ q) := Nat.le_trans HB5.out.size hq1
       clear hq1 hq2 hqn hbj HJN
       go_wp2_with (at_builtin; refine wpList_ap1 rfl (.tmp 34) (.tmp 44) _ rfl elemPt rfl HOJ.out (ptC q) _ (by rfl) wj.heap.size (by rfl) (by rfl) (ptC_one _) (by simp [maxLen]; omega) (by simp; omega) hwj ?_)
       intro v5 w5 hown5 hg5 hv5
       have hb2 : Below wj.heap.size wj (wj.alloc (.cells (ptC q).toArray 51)) := below_laid
       have HN5 : Hid (NeO w5 w0.heap.size wo.heap.size X v5 l (d + 1) (j + 1)) := by
        obtain ⟨k1, k2, k3⟩ := HQ.out
        have hb2s := hb2.size
        refine (HNJ.out.call hb2).push (q := q) (by have := HXo.out; omega) (k3.to (fun k hk => ?_) (fun k hk => hb2.block k ?_)) hg5 hown5 ?_
        ·rcases hk with hk | rfl
         ·exact ⟨⟨⟨hk.1.1, by have := hk.1.2; omega⟩, hk.2⟩, fun e => by have := (HOO.out.lt e).1; have := hk.1.2; omega⟩
         ·exact ⟨⟨⟨by have := HQB.out; omega, by omega⟩, by have := HXo.out; have := HQB.out; omega⟩, fun e => by have := (HOO.out.lt e).2; omega⟩
        ·rcases hk with hk | rfl
         ·have := hk.1.2
          omega
         ·exact k2
        rcases hv5 with e | e
        ·exact .inl e
        ·exact .inr ⟨_, e, by simp⟩
       have HB6 : Hid (Below wo.heap.size wo w5) := (HBJ.out.trans (hb2.mono hwj)).grown hg5 (by simp; omega) (fun k h => (HOO.out.lt h).1)
       clear hown5 hg5 hv5 hb2
       go_wp2
       go_roundw
       case rel => exact ⟨i + 4, j + 1, by have := HIJ.out; omega, HMJ.out, by go_num, HN5.out, HB6.out⟩
       case measure => simp [intOf] <;> omega
      case neg =>
       have hiI : ¬ (i : Int) < (n : Int) := by omega
       obtain rfl : j = (n + 3) / 4 := by omega
       have HO2 : Hid (NeO wr w0.heap.size wo.heap.size X u7 l (d + 1) ((n + 3) / 4)) := hO
       have HB2 := Lib.hid hb
       obtain ⟨A5, c5, rfl, -, -⟩ := hO.form
       obtain ⟨f', hf', hR'⟩ := topF_step (l := lev l d) (by have := HNL.out; omega) (by have := HNL.out; omega) HR.out
       have HN3 : Hid ((n + 3) / 4 = (lev l (d + 1)).length) := by rw [Hid, show lev l (d + 1) = upL (lev l d) from rfl, upL_len, ← HNL.out]
       have HR2 := Lib.hid hR'
       have HF2 := Lib.hid hf'
       have hT2 := (hb.block X (by have := HXo.out; omega)).trans HT.out
       have t1 : wr.cell? ⟨X, 1, none⟩ = some (.int .i64 (d : Int)) := by rw [cell_of_row _ _ _ _ _ _ hT2]; rfl
       have t9 : IntKind.i64.wrap ((d : Int) + 1) = (d : Int) + 1 := IntWalk.i64_in _ (by omega)
       have tf := frozen_blk hT2 1
       have HS : Hid (∀ u, NeO (wr.setCell ⟨X, 1, none⟩ u) w0.heap.size w0.heap.size X (.slice A5 ((n + 3) / 4) c5) l (d + 1) ((n + 3) / 4)) := fun u => (HO2.out.setX 1 u).base0 hwo (Nat.le_refl _)
       have HT3 : Hid (∀ u, (wr.setCell ⟨X, 1, none⟩ (.int .i64 u)).heap[X]? = some (.cells #[.int .i64 (l.length : Int), .int .i64 u, .pointer none] 53 (0, 0))) := fun u => heap_setCell_same _ _ 1 _ _ _ hT2
       have HB3 : Hid (∀ u, Below w0.heap.size w0 (wr.setCell ⟨X, 1, none⟩ u)) := fun u => (HB.out.trans (hb.mono hwo)).setCell HXL.out u
       have HUL : Hid (d + 1 + (n + 3) / 4 ≤ l.length) := by have := HDN.out; rw [Hid]; omega
       have HML : Hid ((n + 3) / 4 < n) := by rw [Hid]; omega
       have HF3 : Hid ((n + 3) / 4 ≤ f') := by rw [Hid, HN3.out]; exact HF2.out
       clear hO hb hT2 hR' hf' hij hj
       go_wp2
       go_roundw
       case rel => exact ⟨d + 1, f', (n + 3) / 4, HN3.out, HTN.out, HS.out _, HF3.out, HR2.out, HUL.out, HT3.out _, HB3.out _⟩
       case measure => simp [lenV]; exact HML.out
    case neg =>
     have h1I : ¬ (1 : Int) < (n : Int) := by omega
     have hzr : w0.heap.size ≤ wr.heap.size := HB.out.size
     have hXr : X < wr.heap.size := (Array.getElem?_eq_some_iff.1 HT.out).1
     have hRr := (HB.out.block _ HRL.out).trans HR0.out
     have HEQ : Hid (lev l d = topL l) := by
      have := HR.out
      rw [topF_one (by rw [← HNL.out]; omega)] at this
      exact this
     have t0 : wr.cell? ⟨X, 0, none⟩ = some (.int .i64 (l.length : Int)) := by rw [cell_of_row _ _ _ _ _ _ HT.out]; rfl
     have t1 : wr.cell? ⟨X, 1, none⟩ = some (.int .i64 (d : Int)) := by rw [cell_of_row _ _ _ _ _ _ HT.out]; rfl
     have t2 : wr.cell? ⟨X, 2, none⟩ = some (.pointer none) := by rw [cell_of_row _ _ _ _ _ _ HT.out]; rfl
     have z0 : wr.cell? ⟨w.heap.size, 0, none⟩ = some (.int .i64 0) := by rw [cell_of_row _ _ _ _ _ _ hRr]; rfl
     have z1 : wr.cell? ⟨w.heap.size, 1, none⟩ = some (.int .i64 0) := by rw [cell_of_row _ _ _ _ _ _ hRr]; rfl
     have z2 : wr.cell? ⟨w.heap.size, 2, none⟩ = some (.pointer none) := by rw [cell_of_row _ _ _ _ _ _ hRr]; rfl
     have f0 := frozen_blk hRr 0
     have f1 := frozen_blk hRr 1
     have f2 := frozen_blk hRr 2
     have tf := frozen_blk HT.out 2
     have HRR := Lib.hid hRr
     clear hRr h1
     by_cases hc0 : n = 0
     case pos =>
      have HL0 : Hid (lev l d = []) := List.length_eq_zero_iff.1 (by rw [← HNL.out]; exact hc0)
      have HLE : Hid (l = []) := by
       by_cases e : l = []
       ·exact e
       ·exact absurd (HEQ.out.symm.trans HL0.out) (topF_ne e)
      subst hc0
      have HBF : Hid (Below w.heap.size w (((wr.setCell ⟨w.heap.size, 0, none⟩ (.int .i64 (l.length : Int))).setCell ⟨w.heap.size, 1, none⟩ (.int .i64 (d : Int))).setCell ⟨w.heap.size, 2, none⟩ (.pointer none))) := (((HB0.out.trans (HB.out.mono HB0.out.size)).setCell (Nat.le_refl _) _).setCell (Nat.le_refl _) _).setCell (Nat.le_refl _) _
      have HRF : Hid ((((wr.setCell ⟨w.heap.size, 0, none⟩ (.int .i64 (l.length : Int))).setCell ⟨w.heap.size, 1, none⟩ (.int .i64 (d : Int))).setCell ⟨w.heap.size, 2, none⟩ (.pointer none)).heap[w.heap.size]? = some (.cells #[.int .i64 (l.length : Int), .int .i64 (d : Int), .pointer none] 53 (0, 0))) := heap_setCell_same _ _ 2 _ _ _ (heap_setCell_same _ _ 1 _ _ _ (heap_setCell_same _ _ 0 _ _ _ HRR.out))
      go_wp2
      (try simp only [Exit.inBlock, Exit.then])
      refine bodyPost_ret (v := .agg #[.int .i64 (l.length : Int), .int .i64 (d : Int), .pointer none]) ?_ rfl ⟨⟨d, none, rfl, fun _ => rfl, fun e => absurd HLE.out e⟩, HBF.out⟩
      exact results_cell_row rfl _ _ w.heap.size 53 #[.int .i64 (l.length : Int), .int .i64 (d : Int), .pointer none] (0, 0) _ rfl HRF.out Tryz.underlying53 rfl (by kernel_rfl)
     case neg =>
      have g0 : (0 : Int) < (n : Int) := by omega
      obtain ⟨b, o, p, c6, he, hcp, hnp⟩ := HO.out.head (by omega)
      obtain ⟨rfl, rfl⟩ : A4 = some ⟨b, o, none⟩ ∧ c4 = c6 := by injection he with e1 _ e2; exact ⟨e1, e2⟩
      have hpb := hnp.own
      have HN1 : Hid ((lev l d).length = 1) := by rw [Hid, ← HNL.out]; omega
      have HLN : Hid (l ≠ []) := fun e => by
       have h2 := HEQ.out
       rw [e] at h2
       have h3 : topL [] = [] := rfl
       rw [h3] at h2
       have := HN1.out
       rw [e, h2] at this
       cases this
      have HNP := Lib.hid hnp
      have HW : Hid (∀ W : World, W = ((((wr.setCell ⟨X, 2, none⟩ (.pointer (some ⟨p, 0, none⟩))).setCell ⟨w.heap.size, 0, none⟩ (.int .i64 (l.length : Int))).setCell ⟨w.heap.size, 1, none⟩ (.int .i64 (d : Int))).setCell ⟨w.heap.size, 2, none⟩ (.pointer (some ⟨p, 0, none⟩))) → Below w.heap.size w W ∧ W.heap[w.heap.size]? = some (.cells #[.int .i64 (l.length : Int), .int .i64 (d : Int), .pointer (some ⟨p, 0, none⟩)] 53 (0, 0)) ∧ NeE W (fun k => k < W.heap.size) l d 0 p) := fun W hW => by
       have hRL := HRL.out
       have hXL := HXL.out
       subst hW
       refine ⟨((((HB0.out.trans (HB.out.mono HB0.out.size)).setCell (by show w.heap.size ≤ X; omega) _).setCell (Nat.le_refl _) _).setCell (Nat.le_refl _) _).setCell (Nat.le_refl _) _, ?_, ?_⟩
       ·exact heap_setCell_same _ _ 2 _ _ _ (heap_setCell_same _ _ 1 _ _ _ (heap_setCell_same _ _ 0 _ _ _ ((heap_setCell_other _ _ _ _ (by show w.heap.size ≠ X; omega)).trans HRR.out)))
       ·refine HNP.out.to (fun k hk => by simpa using hk.1.2) (fun k hk => ?_)
        have hp2 : k ≠ w.heap.size := by have := hk.1.1; omega
        exact (((heap_setCell_other _ _ _ _ hp2).trans (heap_setCell_other _ _ _ _ hp2)).trans (heap_setCell_other _ _ _ _ hp2)).trans (heap_setCell_other _ _ _ _ hk.2)
      have hne : ¬ X = w.heap.size := by have := HRL.out; have := HXL.out; omega
      have hne2 : ¬ w.heap.size = X := fun e => hne e.symm
      clear he hpb hnp
      go_wp2
      (try simp only [Exit.inBlock, Exit.then])
      obtain ⟨k1, k2, k3⟩ := HW.out _ rfl
      refine bodyPost_ret (v := .agg #[.int .i64 (l.length : Int), .int .i64 (d : Int), .pointer (some ⟨p, 0, none⟩)]) ?_ rfl ⟨⟨d, some ⟨p, 0, none⟩, rfl, fun e => absurd e HLN.out, fun _ => ⟨p, rfl, HN1.out, HEQ.out, ⟨Nat.le_of_eq HN1.out, HTL.out⟩, k3⟩⟩, k1⟩
      exact results_cell_row rfl _ _ w.heap.size 53 #[.int .i64 (l.length : Int), .int .i64 (d : Int), .pointer (some ⟨p, 0, none⟩)] (0, 0) _ rfl k2 Tryz.underlying53 rfl (by kernel_rfl)
end Go.Proofs.YtopoefcklipaeaaGreatDoor
