/- The small layouts of tegularef21, on lists: they are valid. Plain: no program is walked here.
How Check counts the pairs of disks, on lists. Plain: no program is walked here.
What the laws of layer 22 say of moves, on lists: SpareApart, SpareReturns. Plain: no program is walked here.
The moves that bytes describe, on lists. Plain: no program is walked here.
Laws on slices of rows: append, store, separation. Nothing of the program is walked here.
What the functions of layer 45 compute, on lists. Plain: no program is walked here.
What a call that lays a list of events answers; slices that a literal lays. Nothing of the program is walked here.
A region that draws its order: a head that only reads and calls (the callees may make memory), then a tail in one order. The ordering lemmas are the kit's (StillTail, Quiet); the class of worlds is 'below'.
Bytes as small numbers: their range, their conversion to int, the range of small ints.
Layouts, moves, places, lists of booleans and of lists in memory. No program is walked here. -/
import Derived.Test.YtopoefcklipaeaaGreatDoorGRa
import Derived.Maps.AppendAt
import Derived.StillTail
import Derived.Lib.QuietBelow
import Derived.DataShut
namespace Go.Proofs.YtopoefcklipaeaaGreatDoor
def comb (hi : Nat) : Nat → Nat → Nat → List (List Nat)
 | 0, _, _ => []
 | _ + 1, _, 0 => [[]]
 | f + 1, lo, k + 1 => if hi ≤ lo then [] else (comb hi f (lo + 1) k).map (lo :: ·) ++ comb hi f (lo + 1) (k + 1)
def compL (d k : Nat) : List (List Nat) := comb d (d + 2) 0 k
def growAt (d k : Nat) (l : List Nat) : Nat → Option Nat
 | 0 => none
 | i + 1 => if l[i]?.getD 0 = d - k + i then growAt d k l i else some i
def nextC (d k : Nat) (l : List Nat) : Option (List Nat) := (growAt d k l k).map fun i => (l.take i) ++ (List.range (k - i)).map fun j => l[i]?.getD 0 + 1 + j
def chainC (d k : Nat) : List (List Nat) → Bool
 | [] => false
 | [x] => nextC d k x == none
 | x :: y :: r => nextC d k x == some y && chainC d k (y :: r)
def coord3 : List (Nat × Nat × Nat) := (List.range 3).flatMap fun x => (List.range 3).flatMap fun y => (List.range 3).filterMap fun z => if x = 1 ∨ (x = 0 ∧ y = 1) ∨ (x = 0 ∧ y = 0 ∧ z = 1) then some (x, y, z) else none
def dot3 (a b : Nat × Nat × Nat) : Nat := (a.1 * b.1 % 3 + a.2.1 * b.2.1 % 3 + a.2.2 * b.2.2 % 3) % 3
def proj3 : List (List Nat) := coord3.map fun a => (List.range 13).filter fun k => dot3 a (coord3[k]?.getD (0, 0, 0)) == 0
def desB (d w r lam : Nat) (gs : List (List Nat)) : Bool :=
 decide (1 ≤ gs.length) && gs.all (fun g => g.length == w && decide (g.Pairwise (· < ·)) && g.all fun x => decide (x < d)) &&
  (List.range d).all fun a => (gs.countP fun g => g.contains a) == r && (List.range d).all fun b => a == b || (gs.countP fun g => g.contains a && g.contains b) == lam
def smallDes (k : Nat) : Nat × List (List Nat) :=
 if k % 8 < 3 then (5, compL 5 4) else if k % 8 = 3 then (6, compL 6 4) else if k % 8 = 4 then (6, compL 6 5)
 else if k % 8 = 5 then (if k / 8 % 2 = 0 then (4, compL 4 4) else (5, compL 5 5)) else if k % 8 = 6 then (13, proj3) else (7, compL 7 5)
def smallL (n : Nat) : LayD := ⟨(smallDes n).1, (smallDes n).2, 1 + n / 16 % 5, n / 80 % 8⟩
theorem des_lay {d w r lam t s : Nat} {gs : List (List Nat)} (h : desB d w r lam gs = true) (hd : 2 ≤ d ∧ d ≤ 60) (hw : 4 ≤ w ∧ w ≤ 16) (hn : gs.length ≤ 30) (hr : r ≤ 30) (ht : 1 ≤ t ∧ t ≤ 5) (hs : s ≤ 1000) :
  LayOk ⟨d, gs, t, s⟩ ∧ (⟨d, gs, t, s⟩ : LayD).w = w ∧ (⟨d, gs, t, s⟩ : LayD).r = r := by
 unfold desB at h
 simp only [Bool.and_eq_true, List.all_eq_true, decide_eq_true_eq, beq_iff_eq, List.mem_range, Bool.or_eq_true] at h
 obtain ⟨⟨h1, h2⟩, h3⟩ := h
 have hW : (⟨d, gs, t, s⟩ : LayD).w = w := by
  unfold LayD.w
  cases gs with
  | nil => simp at h1
  | cons g gs => exact (h2 g (by simp)).1.1
 have hR : (⟨d, gs, t, s⟩ : LayD).r = r := (h3 0 (by omega)).1
 have hG : (⟨d, gs, t, s⟩ : LayD).G ≤ 150 := by
  show t * gs.length ≤ 150
  exact Nat.le_trans (Nat.mul_le_mul ht.2 hn) (by decide)
 refine ⟨⟨hd, ⟨h1, Nat.le_trans hn (by decide)⟩, fun g hg => ?_, fun g hg => (h2 g hg).1.2, fun g hg x hx => (h2 g hg).2 x hx, fun a ha => ?_, by rw [hW]; exact hw, ⟨ht.1, Nat.le_trans ht.2 (by decide)⟩, by omega, ?_, ?_⟩, hW, hR⟩
 ·rw [hW]; exact (h2 g hg).1.1
 ·rw [hR]; exact (h3 a ha).1
 ·rw [hW]
  exact Nat.le_trans (Nat.mul_le_mul hG (show w - 3 ≤ 13 by omega)) (by decide)
 ·unfold LayD.blocks LayD.homes
  rw [hR]
  have : t * r ≤ 5 * 30 := Nat.mul_le_mul ht.2 hr
  simp only
  omega
theorem des_54 : desB 5 4 4 3 (compL 5 4) = true := by decide +kernel
theorem des_64 : desB 6 4 10 6 (compL 6 4) = true := by decide +kernel
theorem des_65 : desB 6 5 5 4 (compL 6 5) = true := by decide +kernel
theorem des_44 : desB 4 4 1 1 (compL 4 4) = true := by decide +kernel
theorem des_55 : desB 5 5 1 1 (compL 5 5) = true := by decide +kernel
theorem des_75 : desB 7 5 15 10 (compL 7 5) = true := by decide +kernel
theorem des_p3 : desB 13 4 4 1 proj3 = true := by decide +kernel
theorem chain_54 : chainC 5 4 (compL 5 4) = true := by decide +kernel
theorem chain_64 : chainC 6 4 (compL 6 4) = true := by decide +kernel
theorem chain_65 : chainC 6 5 (compL 6 5) = true := by decide +kernel
theorem chain_55 : chainC 5 5 (compL 5 5) = true := by decide +kernel
theorem small_des (n : Nat) : ∃ w r lam, desB (smallDes n).1 w r lam (smallDes n).2 = true ∧ 4 ≤ w ∧ w ≤ 5 ∧ r ≤ 15 ∧ 1 ≤ lam ∧ lam ≤ 10 ∧ (smallDes n).2.length ≤ 21 ∧ 4 ≤ (smallDes n).1 ∧ (smallDes n).1 ≤ 13 := by
 unfold smallDes
 split
 ·exact ⟨4, 4, 3, des_54, by decide⟩
 ·split
  ·exact ⟨4, 10, 6, des_64, by decide +kernel⟩
  ·split
   ·exact ⟨5, 5, 4, des_65, by decide⟩
   ·split
    ·split
     ·exact ⟨4, 1, 1, des_44, by decide⟩
     ·exact ⟨5, 1, 1, des_55, by decide⟩
    ·split
     ·exact ⟨4, 4, 1, des_p3, by decide +kernel⟩
     ·exact ⟨5, 15, 10, des_75, by decide +kernel⟩
theorem small_ok (n : Nat) : LayOk (smallL n) := by
 obtain ⟨w, r, lam, h1, h2, h3, h4, -, -, h5, h6, h7⟩ := small_des n
 exact (des_lay h1 ⟨by omega, by omega⟩ ⟨h2, by omega⟩ (by omega) (by omega) (t := 1 + n / 16 % 5) (s := n / 80 % 8) ⟨by omega, by omega⟩ (by omega)).1
end Go.Proofs.YtopoefcklipaeaaGreatDoor
namespace Go.Proofs.YtopoefcklipaeaaGreatDoor
def incF (f : Nat → Nat → Nat) (x : Nat × Nat) : Nat → Nat → Nat := fun a b => if a = x.1 ∧ b = x.2 then f a b + 1 else f a b
def prodP (l : List Nat) : List (Nat × Nat) := l.flatMap fun x => l.map fun y => (x, y)
def prodTo (l : List Nat) (i k : Nat) : List (Nat × Nat) := ((l.take i).flatMap fun x => l.map fun y => (x, y)) ++ (l.take k).map fun y => (l[i]?.getD 0, y)
theorem prodTo_next {l : List Nat} {i k : Nat} {x y : Nat} (hx : l[i]? = some x) (hy : l[k]? = some y) : prodTo l i (k + 1) = prodTo l i k ++ [(x, y)] := by
 unfold prodTo
 rw [List.take_add_one, hy, hx, List.append_assoc]
 simp
theorem prodTo_row {l : List Nat} {i : Nat} (hi : i < l.length) : prodTo l i l.length = prodTo l (i + 1) 0 := by
 unfold prodTo
 rw [List.take_length, List.take_add_one, List.getElem?_eq_getElem hi, List.flatMap_append]
 simp
theorem prodTo_all (l : List Nat) : prodTo l l.length 0 = prodP l := by unfold prodTo prodP; simp
theorem prodTo_zero (l : List Nat) : prodTo l 0 0 = [] := by unfold prodTo; simp
theorem fold_inc (ps : List (Nat × Nat)) : ∀ f a b, ps.foldl incF f a b = f a b + ps.count (a, b) := by
 induction ps with
 | nil => intro f a b; rfl
 | cons p ps ih =>
  intro f a b
  rw [List.foldl_cons, ih, List.count_cons]
  unfold incF
  by_cases h : a = p.1 ∧ b = p.2
  ·rw [if_pos h]
   have : (p == (a, b)) = true := by rw [beq_iff_eq]; exact Prod.ext h.1.symm h.2.symm
   rw [this]
   simp
   omega
  ·rw [if_neg h]
   have : (p == (a, b)) = false := by
    rw [beq_eq_false_iff_ne]
    rintro rfl
    exact h ⟨rfl, rfl⟩
   rw [this]
   simp
theorem count_map (l : List Nat) (x a b : Nat) : (l.map fun y => (x, y)).count (a, b) = if x = a then l.count b else 0 := by
 induction l with
 | nil => simp
 | cons y l ih =>
  rw [List.map_cons, List.count_cons, ih, List.count_cons]
  by_cases hx : x = a
  ·subst hx
   by_cases hy : y = b
   ·subst hy; simp
   ·have : ((x, y) == (x, b)) = false := by rw [beq_eq_false_iff_ne]; intro e; exact hy (congrArg Prod.snd e)
    simp [this, hy]
  ·have : ((x, y) == (a, b)) = false := by rw [beq_eq_false_iff_ne]; intro e; exact hx (congrArg Prod.fst e)
   simp [this, hx]
theorem count_prod (l : List Nat) (a b : Nat) : (prodP l).count (a, b) = l.count a * l.count b := by
 have key : ∀ m : List Nat, (m.flatMap fun x => l.map fun y => (x, y)).count (a, b) = m.count a * l.count b := by
  intro m
  induction m with
  | nil => simp
  | cons x m ih =>
   rw [List.flatMap_cons, List.count_append, ih, count_map, List.count_cons]
   by_cases hx : x = a
   ·subst hx
    simp [Nat.add_mul, Nat.add_comm]
   ·simp [hx]
 exact key l
theorem count_inc {l : List Nat} (h : l.Pairwise (· < ·)) (a : Nat) : l.count a = if l.contains a then 1 else 0 := by
 have hn : l.Nodup := List.Pairwise.imp (fun h => by omega) h
 by_cases ha : a ∈ l
 ·rw [if_pos (by simpa using ha)]
  clear h
  induction l with
  | nil => cases ha
  | cons x l ih =>
   obtain ⟨n1, n2⟩ := List.nodup_cons.1 hn
   rw [List.count_cons]
   by_cases hx : x = a
   ·subst hx
    rw [List.count_eq_zero_of_not_mem n1]
    simp
   ·have := ih n2 (by rcases List.mem_cons.1 ha with h | h; exact absurd h.symm hx; exact h)
    simp [this, hx]
 ·rw [if_neg (by simpa using ha)]
  exact List.count_eq_zero_of_not_mem ha
def pairTo (gs : List (List Nat)) (k : Nat) : Nat → Nat → Nat := fun a b => (gs.take k).countP fun g => g.contains a && g.contains b
theorem pair_next {gs : List (List Nat)} {k : Nat} {l : List Nat} (hl : gs[k]? = some l) (hi : l.Pairwise (· < ·)) : (prodP l).foldl incF (pairTo gs k) = pairTo gs (k + 1) := by
 funext a b
 rw [fold_inc, count_prod, count_inc hi, count_inc hi]
 unfold pairTo
 rw [List.take_add_one, hl, List.countP_append]
 simp only [Option.toList_some, List.countP_cons, List.countP_nil, Nat.zero_add]
 congr 1
 rcases l.contains a with _ | _ <;> rcases l.contains b with _ | _ <;> rfl
theorem pair_zero (gs : List (List Nat)) : pairTo gs 0 = fun _ _ => 0 := by funext a b; simp [pairTo]
theorem pair_bd (gs : List (List Nat)) (k a b : Nat) : pairTo gs k a b ≤ k := by
 unfold pairTo
 exact Nat.le_trans List.countP_le_length (by rw [List.length_take]; omega)
theorem pair_all {d w r lam : Nat} {gs : List (List Nat)} (h : desB d w r lam gs = true) {a b : Nat} (ha : a < d) (hb : b < d) : pairTo gs gs.length a b = if a = b then r else lam := by
 unfold desB at h
 simp only [Bool.and_eq_true, List.all_eq_true, decide_eq_true_eq, beq_iff_eq, List.mem_range, Bool.or_eq_true] at h
 obtain ⟨-, h3⟩ := h
 obtain ⟨h4, h5⟩ := h3 a ha
 unfold pairTo
 rw [List.take_length]
 split
 ·rename_i he
  subst he
  rw [← h4]
  congr 1
  funext g
  simp
 ·rename_i hne
  rcases h5 b hb with h | h
  ·exact absurd h hne
  ·exact h
end Go.Proofs.YtopoefcklipaeaaGreatDoor
namespace Go.Proofs.YtopoefcklipaeaaGreatDoor
theorem apply_ok {L : LayD} {ms out : List Mv} {m : Mv} (h : applyL L ms m = (out, 0)) : isP L m.g m.p = true ∧ out = withM ms m ∧ MvOk L out ∧ ¬ (m.to.disk = -1 ∧ (withM ms m).length = ms.length) := by
 unfold applyL at h
 split at h
 ·cases h
 ·rename_i hp
  split at h
  ·cases h
  ·rename_i hn
   split at h
   ·rename_i hv
    cases h
    exact ⟨by simpa using hp, rfl, valid_ok hv, hn⟩
   ·cases h
theorem isP_nat {L : LayD} {g p : Int} (h : isP L g p = true) : ∃ a b : Nat, g = a ∧ p = b ∧ a < L.G ∧ b < L.w := by
 unfold isP at h
 simp only [Bool.and_eq_true, decide_eq_true_eq] at h
 exact ⟨g.toNat, p.toNat, by omega, by omega, by omega, by omega⟩
end Go.Proofs.YtopoefcklipaeaaGreatDoor
namespace Go.Proofs.YtopoefcklipaeaaGreatDoor
theorem withL_len (m : Mv) : ∀ (xs : List Mv) (put : Bool), (withL m put xs).length ≤ xs.length + 1 := by
 intro xs
 induction xs with
 | nil => intro put; rw [withL]; cases put <;> simp
 | cons y ys ih =>
  intro put
  rw [withL]
  split
  ·have := ih put
   rw [List.length_cons]
   omega
  ·split
   ·rw [withL_true]
    have := List.length_filter_le (fun x : Mv => !(x.g == m.g && x.p == m.p)) ys
    simp only [List.length_cons]
    omega
   ·have := ih put
    simp only [List.length_cons]
    omega
end Go.Proofs.YtopoefcklipaeaaGreatDoor
namespace Go.Proofs.YtopoefcklipaeaaGreatDoor
open Go.RowKit
def Elem (P : Program) (t e : TypeId) (size bytes : Nat) : Prop :=
 P.underlying t = some (.slice e) ∧ 0 < size ∧ ∃ i z, P.info? e = some i ∧ i.zero = some z ∧ i.size = size ∧ i.bytes = bytes ∧ z.cells.size = size
theorem Elem.mk {P : Program} {t e : TypeId} {size bytes : Nat} {z : Value} (ht : P.underlying t = some (.slice e)) (h : (P.info? e).map (fun i => (i.zero, i.size, i.bytes)) = some (some z, size, bytes)) (hs : 0 < size) (hz : z.cells.size = size) : Elem P t e size bytes := by
 obtain ⟨i, hi, h1, h2, h3⟩ := info_parts h
 exact ⟨ht, hs, i, z, hi, h1, h2, h3, hz⟩
section
variable {P : Program} {w w' : World} {base size bytes : Nat} {t e : TypeId} {v : Value} {rows : List (List Value)}
theorem OwS.lt (h : OwS w base e size v rows) {k : Nat} (hk : v.ownBlock = some k) : base ≤ k ∧ k < w.heap.size := h.2.lt k hk
theorem OwS.ne {base' : Nat} {e' : TypeId} {size' : Nat} {v' : Value} {rows' : List (List Value)} (h : OwS w base e size v rows) (h' : OwS w base' e' size' v' rows') (hne : e ≠ e') : v.ownBlock = none ∨ v.ownBlock ≠ v'.ownBlock := by
 rcases h.2.2 with ⟨rfl, _⟩ | ⟨g, cap, cur, rfl, _, hg, _⟩
 ·exact .inl rfl
 ·rcases h'.2.2 with ⟨rfl, _⟩ | ⟨g', cap', cur', rfl, _, hg', _⟩
  ·right; simp [Value.ownBlock]
  ·right
   simp only [Value.ownBlock]
   rintro hgg
   injection hgg with hgg
   subst hgg
   rw [hg] at hg'
   injection hg' with hg'
   injection hg' with _ he
   exact hne he
theorem OwS.pos (h : OwS w base e size v rows) (hn : 0 < rows.length) : ∃ g cap, v = .slice (some ⟨g, 0, none⟩) rows.length cap ∧ base ≤ g ∧ g < w.heap.size := by
 rcases h.2.2 with ⟨_, h0⟩ | ⟨g, cap, cur, hv, hb, hh, _⟩
 ·omega
 ·exact ⟨g, cap, hv, hb, (Array.getElem?_eq_some_iff.1 hh).1⟩
theorem OwS.drewN (h : OwS w base e size v rows) (n : Nat) : OwS (w.drewN n) base e size v rows := h
theorem OwS.drew (h : OwS w base e size v rows) : OwS w.drew base e size v rows := h
theorem OwS.blk_ne {g : Nat} {cs : Array Value} {t : TypeId} {fr : Nat × Nat} (h : OwS w base e size v rows) (hb : w.heap[g]? = some (.cells cs t fr)) (hne : e ≠ t) : v.ownBlock ≠ some g := by
 rcases h.2.2 with ⟨rfl, _⟩ | ⟨g', cap, cur, rfl, _, hg, _⟩
 ·simp [Value.ownBlock]
 ·simp only [Value.ownBlock]
  rintro hgg
  injection hgg with hgg
  subst hgg
  rw [hg] at hb
  injection hb with hb
  injection hb with _ he
  exact hne he
theorem OwS.mono {base' : Nat} (h : OwS w base e size v rows) (hb : base' ≤ base) : OwS w base' e size v rows := by
 refine ⟨h.1, h.2.1, ?_⟩
 rcases h.2.2 with h0 | ⟨g, cap, cur, hv, hg, r⟩
 ·exact .inl h0
 ·exact .inr ⟨g, cap, cur, hv, by omega, r⟩
theorem wpList_apS {ops : Array Oper} {rest : List Oper} {o : Oper} {a : Act} {Q : Exit → Act → World → Prop} (hgd : o.guard = none) (s x : Operand) (t : TypeId)
  (ho : o.op = .call { callee := .builtin .append, args := #[s, x], argTypes := #[t, t] }) (E : Elem P t e size bytes)
  (hs : a.eval s = v) (hown : OwS w base e size v rows) (B : Nat) (A : Option Addr) (m c : Nat) (news : List (List Value)) (hx : a.eval x = .slice A m c) (hr : RdS w B size A news) (hm : m = news.length)
  (h1 : ∀ r ∈ news, ∀ u ∈ r, u.oneCell' = true) (h63 : rows.length + news.length ≤ maxLen) (hbytes : (rows.length + news.length) * bytes ≤ 140737488355328) (hbase : base ≤ w.heap.size)
  (h : ∀ v' w', OwS w' base e size v' (rows ++ news) → w.grownBy w' v.ownBlock → (v'.ownBlock = v.ownBlock ∨ v'.ownBlock = some w.heap.size) → wpList P ops Q rest (a.put o.dst v') w') : wpList P ops Q (o :: rest) a w := by
 obtain ⟨ht, hsz, i, z, hi, hz, hsize, hby, hzs⟩ := E
 have hone : ∀ u ∈ news.flatten, u.oneCell' = true := by
  intro u hu
  obtain ⟨r, hr, hu⟩ := List.mem_flatten.1 hu
  exact h1 r hr u hu
 have hfl : news.flatten.length = news.length * size := flatten_length hr.1
 have hall : ∀ r ∈ rows ++ news, r.length = size := by
  intro r hrr
  rcases List.mem_append.1 hrr with hrr | hrr
  ·exact hown.1 r hrr
  ·exact hr.1 r hrr
 by_cases h0 : news.length = 0
 ·have hn : news = [] := List.eq_nil_of_length_eq_zero h0
  subst hn
  simp only [List.length_nil] at hm
  subst hm
  have hrun : (Builtin.append_ #[t, t] o.type #[v, .slice A 0 c]).run P w = .ok v w := by
   rcases A with _ | ad
   ·rcases hown.2.2 with ⟨rfl, _⟩ | ⟨g, cap, cur, rfl, _, _, hnc, _⟩
    ·simp [Builtin.append_, run_underlying ht, sizeOf, typeInfo, hi, Builtin.lenOf, Builtin.firstCells]
    ·simp [Builtin.append_, run_underlying ht, sizeOf, typeInfo, hi, Builtin.lenOf, Builtin.firstCells, hnc, storeCells]
   ·rcases hown.2.2 with ⟨rfl, hz0⟩ | ⟨g, cap, cur, rfl, _, _, hnc, _⟩
    ·simp [Builtin.append_, run_underlying ht, sizeOf, typeInfo, hi, Builtin.lenOf, Builtin.firstCells, loadCells, loadCellsFrom]
    ·simp [Builtin.append_, run_underlying ht, sizeOf, typeInfo, hi, Builtin.lenOf, Builtin.firstCells, hnc, storeCells, loadCells, loadCellsFrom]
  refine wpList_plain hgd fun K hK => ?_
  unfold Oper.wp execOp
  simp only [ho, resolve, invoke, builtin, Sem.run_bind, Sem.run_pure, Result.andThen_ok, List.map_toArray, List.map_cons, List.map_nil, hs, hx, hrun]
  exact hK _ _ (h v w (by simpa using hown) (World.grownBy.refl w _) (.inl rfl))
 ·obtain ⟨b, off, rfl, hbB, hc⟩ := hr.2 (by omega)
  have hcells : ∀ j u, news.flatten[j]? = some u → w.cell? ((⟨b, off, none⟩ : Addr).add j) = some u := by
   intro j u hu
   have hj : j < news.length * size := by rw [← hfl]; exact (List.getElem?_eq_some_iff.1 hu).1
   have hq : j / size < news.length := Nat.div_lt_of_lt_mul (by rw [Nat.mul_comm]; exact hj)
   have hmod : j % size < size := Nat.mod_lt _ hsz
   have hrr := List.getElem?_eq_getElem hq
   have hl : (news[j / size]).length = size := hr.1 _ (List.getElem_mem hq)
   have hvv : (news[j / size])[j % size]? = some ((news[j / size])[j % size]'(by omega)) := List.getElem?_eq_getElem (by omega)
   have h2 := hc _ _ hrr _ _ hvv
   have h3 := flatten_get hr.1 _ _ hrr _ _ hvv
   have hdm : j / size * size + j % size = j := by rw [Nat.mul_comm]; exact Nat.div_add_mod j size
   rw [hdm] at h3
   rw [h3] at hu
   cases hu
   rw [Nat.add_assoc, hdm] at h2
   rw [show (⟨b, off, none⟩ : Addr).add j = ⟨b, off + j, none⟩ from Addr.add_lit _ _ _]
   exact h2
  obtain ⟨v', w', hrun, h2, h3, _, h5⟩ := run_append_own_at (P := P) w base t o.type e i z size bytes ht hi hz hsize hby hzs hsz v rows.length rows.flatten hown.2 ⟨b, off, none⟩ news.length c news.flatten hfl hcells hone h63 hbytes hbase
  refine wpList_plain hgd fun K hK => ?_
  unfold Oper.wp execOp
  rw [hm] at hx
  simp only [ho, resolve, invoke, builtin, Sem.run_bind, Sem.run_pure, Result.andThen_ok, List.map_toArray, List.map_cons, List.map_nil, hs, hx, hrun]
  exact hK _ _ (h v' w' ⟨hall, by simpa using h2⟩ h3 h5)
theorem wpList_ap1 {ops : Array Oper} {rest : List Oper} {o : Oper} {a : Act} {Q : Exit → Act → World → Prop} (hgd : o.guard = none) (s x : Operand) (t : TypeId)
  (ho : o.op = .call { callee := .builtin .append, args := #[s, x], argTypes := #[t, t] }) (E : Elem P t e size bytes)
  (hs : a.eval s = v) (hown : OwS w base e size v rows) (cs : List Value) (e' : TypeId) (hcs : cs.length = size) (g : Nat) (hx : a.eval x = .slice (some ⟨g, 0, none⟩) 1 1) (hg : g = w.heap.size)
  (h1 : ∀ u ∈ cs, u.oneCell' = true) (h63 : rows.length + 1 ≤ maxLen) (hbytes : (rows.length + 1) * bytes ≤ 140737488355328) (hbase : base ≤ w.heap.size)
  (h : ∀ v' w', OwS w' base e size v' (rows ++ [cs]) → (w.alloc (.cells cs.toArray e')).grownBy w' v.ownBlock → (v'.ownBlock = v.ownBlock ∨ v'.ownBlock = some (w.heap.size + 1)) → wpList P ops Q rest (a.put o.dst v') w') :
  wpList P ops Q (o :: rest) a (w.alloc (.cells cs.toArray e')) := by
 subst hg
 refine wpList_apS hgd s x t ho E hs (hown.alloc _) (w.heap.size + 1) _ 1 1 [cs] hx ⟨by simp [hcs], fun _ => ⟨w.heap.size, 0, rfl, by omega, ?_⟩⟩ rfl (by simpa using h1) (by simpa using h63) (by simpa using hbytes) (by simp; omega) ?_
 ·intro i r hi j u hj
  match i, hi with
  | 0, hi =>
   simp at hi
   subst hi
   rw [cell_of_row _ w.heap.size _ cs.toArray e' (0, 0) (heap_alloc_new w _)]
   simpa using hj
 ·intro v' w' h2 h3 h4
  exact h v' w' h2 h3 (by simpa using h4)
theorem flatten_set {rows : List (List Value)} (hs : ∀ r ∈ rows, r.length = size) : ∀ (i : Nat) (r : List Value), rows[i]? = some r → ∀ (j : Nat) (u : Value), j < size → rows.flatten.set (i * size + j) u = (rows.set i (r.set j u)).flatten := by
 induction rows with
 | nil => intro i r hr; simp at hr
 | cons x xs ih =>
  intro i r hr j u hj
  have hx : x.length = size := hs x (by simp)
  have hxs : ∀ r ∈ xs, r.length = size := fun r hr => hs r (by simp [hr])
  cases i with
  | zero =>
   simp at hr
   subst hr
   simp only [List.flatten_cons, Nat.zero_mul, Nat.zero_add, List.set_cons_zero]
   rw [List.set_append_left _ _ (by omega)]
  | succ i =>
   simp at hr
   have := ih hxs i r hr j u hj
   simp only [List.flatten_cons, List.set_cons_succ]
   rw [List.set_append_right _ _ (by rw [hx, Nat.add_mul]; omega)]
   rw [show (i + 1) * size + j - x.length = i * size + j by rw [hx, Nat.add_mul]; omega, this]
theorem OwS.cell {g cap n : Nat} (h : OwS w base e size (.slice (some ⟨g, 0, none⟩) n cap) rows) {k j : Nat} {r : List Value} {u : Value} (hr : rows[k]? = some r) (hj : r[j]? = some u) : w.cell? ⟨g, k * size + j, none⟩ = some u := by
 obtain ⟨b, off, hb, _, hc⟩ := h.reads.2 (by have := (List.getElem?_eq_some_iff.1 hr).1; omega)
 cases hb
 simpa using hc k r hr j u hj
theorem OwS.frozen {g cap n : Nat} (h : OwS w base e size (.slice (some ⟨g, 0, none⟩) n cap) rows) (j : Nat) : w.frozen? ⟨g, j, none⟩ = false := by
 have hn : n = rows.length := by
  rcases h.2.2 with ⟨h', _⟩ | ⟨g', cap', cur, h', _⟩
  ·simp at h'
  ·injection h'
 subst hn
 exact h.2.frozenAt j
theorem OwS.set {g cap n : Nat} (h : OwS w base e size (.slice (some ⟨g, 0, none⟩) n cap) rows) {k j : Nat} {r : List Value} (hr : rows[k]? = some r) (hj : j < size) (u : Value) :
  OwS (w.setCell ⟨g, k * size + j, none⟩ u) base e size (.slice (some ⟨g, 0, none⟩) n cap) (rows.set k (r.set j u)) ∧ w.grownBy (w.setCell ⟨g, k * size + j, none⟩ u) (some g) := by
 have hn : n = rows.length := by
  rcases h.2.2 with ⟨h', _⟩ | ⟨g', cap', cur, h', _⟩
  ·simp at h'
  ·injection h'
 subst hn
 obtain ⟨h1, h2⟩ := h.2.stored (k * size + j) u
 rw [flatten_set h.1 k r hr j u hj] at h1
 have hall : ∀ r' ∈ rows.set k (r.set j u), r'.length = size := by
  intro r' hr'
  rcases List.mem_or_eq_of_mem_set hr' with h' | rfl
  ·exact h.1 _ h'
  ·rw [List.length_set]; exact h.1 _ (List.mem_of_getElem? hr)
 exact ⟨⟨hall, by simpa using h1⟩, h2⟩
end
theorem grownBy_setCell (w : World) (p : Addr) (u : Value) : w.grownBy (w.setCell p u) (some p.block) :=
 ⟨rfl, rfl, rfl, by simp [World.setCell], fun k _ hk => heap_setCell_other w p k u (fun e => hk (by rw [e]))⟩
theorem OwS.far {w : World} {base size : Nat} {e : TypeId} {v : Value} {rows : List (List Value)} (h : OwS w base e size v rows) {p : Addr} (hp : v.ownBlock ≠ some p.block) (u : Value) : OwS (w.setCell p u) base e size v rows :=
 h.kept (grownBy_setCell w p u) (.inr hp)
theorem still_tail_drew {P : Program} {w : World} {id : Nat} {Q : Exit → Act → World → Prop} {a : Act} {l : List Oper} (n : Nat) (hm : P.follows .mixedOrders = true) (hB : Region.lexTailB .any l.toArray n = true)
  (h : wpStill P l.toArray w.drew (fun a' => wpList P l.toArray Q (l.drop n) a' w.drew) (l.take n) a) : (Code.region id l.toArray true).wp P Q a w :=
 wp_region_still_tail n hm hB h
theorem Ev.one (e : Ev) : ∀ u ∈ e.cells, u.oneCell' = true := by
 intro u hu
 simp [Ev.cells] at hu
 rcases hu with rfl | rfl | rfl | rfl | rfl | rfl <;> rfl
theorem Opr.one (e : Opr) : ∀ u ∈ e.cells, u.oneCell' = true := by
 intro u hu
 simp [Opr.cells] at hu
 rcases hu with rfl | rfl | rfl | rfl | rfl | rfl | rfl | rfl <;> rfl
end Go.Proofs.YtopoefcklipaeaaGreatDoor
namespace Go.Proofs.YtopoefcklipaeaaGreatDoor
def Ev.cut : Ev := ⟨3, 0, false, 0, 0, false⟩
end Go.Proofs.YtopoefcklipaeaaGreatDoor
namespace Go.Proofs.YtopoefcklipaeaaGreatDoor
open Go.RowKit
theorem OwS.lit {w : World} {base size g n : Nat} {e : TypeId} {rows : List (List Value)} {cs : Array Value} (hs : ∀ r ∈ rows, r.length = size) (hh : w.heap[g]? = some (.cells cs e)) (hcs : cs.toList = rows.flatten) (hn : n = rows.length) (hm : n ≤ maxLen) (hb : base ≤ g) :
  OwS w base e size (.slice (some ⟨g, 0, none⟩) n n) rows := by
 subst hn
 have hl : rows.flatten.length = rows.length * size := flatten_length hs
 refine ⟨hs, hl, .inr ⟨g, rows.length, cs, rfl, hb, hh, Nat.le_refl _, hm, by rw [← Array.length_toList, hcs, hl], ?_⟩⟩
 rw [hcs, ← hl, List.take_length]
theorem below_laid {w : World} {o : Obj} : Below w.heap.size w (w.alloc o) := (Below.refl _ _).alloc (Nat.le_refl _) _
end Go.Proofs.YtopoefcklipaeaaGreatDoor
namespace Go.Proofs.YtopoefcklipaeaaGreatDoor
open Go.RowKit
section
variable {P : Program} {ops : Array Oper} {md : Region.Mode} {C : World → Prop}
def headQ (P : Program) (md : Region.Mode) (ops : Array Oper) (C : World → Prop) (n : Nat) (L : Array Bool → Act → Prop) : Nat → Array Bool → Act → Prop
 | 0, listed, a => L listed a
 | f + 1, listed, a => Region.ready md ops listed ≠ [] ∧ ∀ i ∈ Region.ready md ops listed, i < n ∧ qOp P ops C i (headQ P md ops C n L f (listed.setIfInBounds i true)) a
theorem any_of_headQ {n g : Nat} {L : Array Bool → Act → Prop} {Q' : Exit → Act → World → Prop} (hL : ∀ listed a w, C w → L listed a → wpAny P md ops Q' g listed a w) :
  ∀ (f : Nat) (listed : Array Bool) (a : Act) (w : World), C w → headQ P md ops C n L f listed a → wpAny P md ops Q' (f + g) listed a w
 | 0, listed, a, w, hw, h => by rw [Nat.zero_add]; exact hL _ _ _ hw h
 | f + 1, listed, a, w, hw, h => by
  rw [show f + 1 + g = (f + g) + 1 by omega]
  exact ⟨fun h0 => absurd h0 h.1, fun i hi => wpOp_of_qOp hw (fun a' w' hw' h' => any_of_headQ hL f _ a' w' hw' h') (h.2 i hi).2⟩
theorem headQ_first {n i : Nat} {oi : Oper} {v : Value} {L : Array Bool → Act → Prop} (hi : ops[i]? = some oi) (hsel : ∀ (j : Nat) (o : Oper) cs b, ops[j]? = some o → o.op ≠ .select cs b)
  (hs : Region.sinkB md ops n = true) (hc : Region.chainB md ops n = true) (hn : n < ops.size) (hin : i < n)
  (hdone : ∀ listed a, L listed a → ∀ j ∈ Region.ready md ops listed, n ≤ j) :
  ∀ (f : Nat) (listed : Array Bool) (a : Act), HeadInv md ops n listed →
   (∀ j oj, ops[j]? = some oj → j ≠ i → listed.getD j true = false → (∀ e ∈ oj.after, Region.binds md e = true → e.on ≠ i) → oi.apart ops oj = true) →
   i ∈ Region.ready md ops listed → YieldsIn P ops C oi v a →
   headQ P md ops C n L f (listed.setIfInBounds i true) (a.put oi.dst v) → headQ P md ops C n L (f + 1) listed a := by
 intro f
 induction f with
 | zero =>
  intro listed a inv _ hr hy H
  have hun := (mem_ready.1 hr).1
  refine ⟨fun h => (by rw [h] at hr; cases hr), fun j hj => ?_⟩
  have hjn : j < n := by
   rcases Nat.lt_or_ge j n with h | h
   ·exact h
   ·exact absurd hj (tail_waits hs hc hn inv _ i rfl hin hun j h)
  refine ⟨hjn, ?_⟩
  by_cases hji : j = i
  ·subst hji; exact hy.qOp hi H
  ·have := hdone _ _ H j (ready_mono hj hji)
   omega
 | succ f ih =>
  intro listed a inv hfree hr hy H
  have hun := (mem_ready.1 hr).1
  refine ⟨fun h => (by rw [h] at hr; cases hr), fun j hj => ?_⟩
  have hjn : j < n := by
   rcases Nat.lt_or_ge j n with h | h
   ·exact h
   ·exact absurd hj (tail_waits hs hc hn inv _ i rfl hin hun j h)
  refine ⟨hjn, ?_⟩
  by_cases hji : j = i
  ·subst hji; exact hy.qOp hi H
  ·have h1 := (H.2 j (ready_mono hj hji)).2
   obtain ⟨hjun, oj, hoj, hall⟩ := mem_ready.1 hj
   have hnot : ∀ e ∈ oj.after, Region.binds md e = true → e.on ≠ i := fun e he hb heq => by
    have h1 := hall e he hb
    rw [heq, getD_both hun] at h1
    cases h1
   have h2 := qOp_put hoj (hfree j oj hoj hji hjun hnot) (fun cs b => hsel i oi cs b hi) (fun cs b => hsel j oj cs b hoj) hy h1
   have hfree' : ∀ k ok, ops[k]? = some ok → k ≠ i → (listed.setIfInBounds j true).getD k true = false →
     (∀ e ∈ ok.after, Region.binds md e = true → e.on ≠ i) → oi.apart ops ok = true := fun k ok hk hki hun hno => by
    refine hfree k ok hk hki ?_ hno
    by_cases hjk : j = k
    ·subst hjk; exact hjun
    ·rw [getD_set_ne true hjk] at hun; exact hun
   refine qOp_mono (fun a' h3 => ih (listed.setIfInBounds j true) a' (inv.set hj hjn) hfree' (ready_mono hr (Ne.symm hji)) h3.1 ?_) h2
   rw [Array.setIfInBounds_comm _ _ hji]
   exact h3.2
theorem headQ_lex {n g : Nat} {Lq : Act → Prop} (hsel : Region.noSelect ops = true) (hs : Region.sinkB md ops n = true) (hc : Region.chainB md ops n = true) (hn : n < ops.size) :
  ∀ (l : List Oper) (k : Nat) (listed : Array Bool) (a : Act), (∀ j, j < l.length → l[j]? = ops[k + j]?) → k + l.length = n → HeadInv md ops n listed →
  Region.lexHead md ops g l.length k listed = true → wpQuiet P ops C Lq l a →
  headQ P md ops C n (fun listed' a' => Region.seqB md ops g n listed' = true ∧ Lq a') l.length listed a
 | [], k, listed, a, _, hk, _, hB, h => by
  have : k = n := by simpa using hk
  subst this
  exact ⟨by simpa [Region.lexHead] using hB, h⟩
 | o :: l, k, listed, a, hl, hk, inv, hB, h => by
  have h0 : ops[k]? = some o := by simpa using (hl 0 (by simp)).symm
  simp only [List.length_cons, Region.lexHead, Bool.and_eq_true] at hB
  obtain ⟨⟨hr, hf⟩, hB'⟩ := hB
  have hkn : k < n := by simp only [List.length_cons] at hk; omega
  have hr' : k ∈ Region.ready md ops listed := by simpa using hr
  have hst : qOp P ops C k (wpQuiet P ops C Lq l) a := by unfold qOp; simp only [h0]; exact h
  obtain ⟨v, hy, hK⟩ := yieldsIn_of_qOp h0 hst
  exact headQ_first h0 (Region.noSelect_spec hsel) hs hc hn hkn (fun listed' a' hL => seqB_ready hL.1) l.length listed a inv (Region.free_spec h0 hf) hr' hy
   (headQ_lex hsel hs hc hn l (k + 1) _ _ (fun j hj => by have := hl (j + 1) (by simp; omega); simpa [Nat.add_assoc, Nat.add_comm 1 j] using this) (by simp only [List.length_cons] at hk; omega) (inv.set hr' hkn) hB' hK)
theorem quiet_tail_any {id : Nat} {Q : Exit → Act → World → Prop} {a : Act} {w : World} {l : List Oper} (n : Nat) (hm : P.follows .mixedOrders = true) (hB : Region.lexTailB .any l.toArray n = true) (hC : C { w with drawn := w.drawn + 1 })
  (h : wpQuiet P l.toArray C (fun a' => ∀ w', C w' → wpList P l.toArray Q (l.drop n) a' w') (l.take n) a) : (Code.region id l.toArray true).wp P Q a w := by
 simp only [Region.lexTailB, Bool.and_eq_true, decide_eq_true_eq] at hB
 obtain ⟨⟨⟨⟨hsel, hn⟩, hs⟩, hc⟩, hlex⟩ := hB
 have hn' : n < l.length := by simpa using hn
 have htl : (l.take n).length = n := by simp; omega
 have hdl : (l.drop n).length = l.toArray.size - n := by simp
 have inv0 : HeadInv .any l.toArray n (Array.replicate l.toArray.size false) :=
  ⟨by simp, fun j oj _ hl => (by rw [getD_replicate_false] at hl; cases hl), fun t _ ht => getD_in (by simpa using ht) (getD_replicate_false _ _)⟩
 have H := headQ_lex (md := .any) (g := l.toArray.size - n) hsel hs hc hn (l.take n) 0 _ a (fun j hj => by
  have hj' : j < n := by rw [htl] at hj; exact hj
  simp [hj']) (by simpa using htl) inv0 (by rw [htl]; exact hlex) h
 refine wp_region_any hm ?_
 have := any_of_headQ (Q' := Q) (g := l.toArray.size - n) (fun listed a' w' hw' hL => by
  have := wpAny_of_seq (md := .any) (Q' := Q) (l.drop n) n listed a' w' (fun j => by simp [List.getElem?_drop]) (by rw [hdl]; exact hL.1) (hL.2 w' hw')
  rwa [hdl] at this) _ _ _ _ hC H
 rw [htl, show n + (l.toArray.size - n) = l.toArray.size by omega] at this
 exact this
end
theorem quiet_tail {P : Program} {id : Nat} {Q : Exit → Act → World → Prop} {a : Act} {w : World} {l : List Oper} (n : Nat) (hm : P.follows .mixedOrders = true) (hB : Region.lexTailB .any l.toArray n = true)
  (h : wpQuiet P l.toArray (fun w' => ∃ p : Regrown, w' = Sort.grow (redrawn w p.d) p.os) (fun a' => ∀ w', Below w.heap.size w w' → wpList P l.toArray Q (l.drop n) a' w') (l.take n) a) : (Code.region id l.toArray true).wp P Q a w := by
 refine quiet_tail_any (C := fun w' => ∃ p : Regrown, w' = Sort.grow (redrawn w p.d) p.os) n hm hB ⟨⟨w.drawn + 1, #[]⟩, by rw [Sort.grow_empty]; rfl⟩ ?_
 refine cast (congrArg (fun F => wpQuiet P l.toArray (fun w' => ∃ p : Regrown, w' = Sort.grow (redrawn w p.d) p.os) F (l.take n) a) ?_) h
 funext a'
 refine propext ⟨fun h w' ⟨p, hp⟩ => h w' (by rw [hp]; exact below_regrown w p.d p.os), fun h w' hb => h w' (regrown_of_below hb)⟩
theorem quiet_below {P : Program} {id : Nat} {Q : Exit → Act → World → Prop} {a : Act} {w : World} {l : List Oper} (hm : P.follows .mixedOrders = true) (hB : Region.lexB .any l.toArray = true)
  (h : wpQuiet P l.toArray (fun w' => ∃ p : Regrown, w' = Sort.grow (redrawn w p.d) p.os) (fun a' => ∀ w', Below w.heap.size w w' → Q .normal a' w') l a) : (Code.region id l.toArray true).wp P Q a w := by
 refine wp_region_quiet_below hm hB ?_
 refine cast (congrArg (fun F => wpQuiet P l.toArray (fun w' => ∃ p : Regrown, w' = Sort.grow (redrawn w p.d) p.os) F l a) ?_) h
 funext a'
 refine propext ⟨fun h w' ⟨p, hp⟩ => h w' (by rw [hp]; exact below_regrown w p.d p.os), fun h w' hb => h w' (regrown_of_below hb)⟩
end Go.Proofs.YtopoefcklipaeaaGreatDoor
namespace Go.Proofs.YtopoefcklipaeaaGreatDoor
open Go.RowKit
theorem conv_u8 (x : Int) (h0 : 0 ≤ x) (h1 : x < 256) (W : World) : (convert 5 3 (.int .u8 x)).run Tryz.prog W = .ok (.int .i64 x) W := by
 rw [run_convert_int W 5 3 .u8 x (by rw [Tryz.underlying5]; rfl) (by kernel_rfl)]
 have hk : Tryz.prog.intKind 3 = .i64 := by kernel_rfl
 rw [hk]
 have : IntKind.i64.wrap x = x := by simp [IntKind.wrap, IntKind.bits, IntKind.signed]; omega
 rw [this]
theorem byte_nat {n : Int} (h : (Lit.int .u8 n).wf = true) : ∃ m : Nat, n = m ∧ m < 256 := by
 rw [Lit.wf_int_iff, IntKind.min_u8, IntKind.max_u8] at h
 exact ⟨n.toNat, by omega, by omega⟩
theorem small_wf (x : Nat) (h : x < 100000) : (Lit.int .i64 (x : Int)).wf = true := by
 rw [Lit.wf_int_iff, IntKind.min_i64, IntKind.max_i64]
 omega
end Go.Proofs.YtopoefcklipaeaaGreatDoor
namespace Go.Proofs.YtopoefcklipaeaaGreatDoor
open Go.RowKit
def nInts (l : List Nat) : List Int := l.map fun (x : Nat) => (x : Int)
@[simp] theorem nInts_len (l : List Nat) : (nInts l).length = l.length := by simp [nInts]
theorem nInts_at {l : List Nat} {k x : Nat} (h : l[k]? = some x) : (nInts l)[k]? = some (x : Int) := by unfold nInts; rw [List.getElem?_map, h]; rfl
def GsV (w : World) (B : Nat) (A : Option Addr) (gs : List (List Nat)) : Prop := ∃ vs : List (Option Addr × Nat), vs.length = gs.length ∧
 RdS w B 1 A ((vs.zip gs).map fun p => [.slice p.1.1 p.2.length p.1.2]) ∧ ∀ (i : Nat) (p : Option Addr × Nat) (g : List Nat), vs[i]? = some p → gs[i]? = some g → IntS w B p.1 (nInts g)
section
variable {w w' : World} {B C : Nat} {A : Option Addr} {gs : List (List Nat)}
theorem GsV.below (h : GsV w B A gs) (hb : Below C w w') (hC : B ≤ C) : GsV w' B A gs := by
 obtain ⟨vs, h1, h2, h3⟩ := h
 exact ⟨vs, h1, h2.below' hb hC, fun i p g hp hg => (h3 i p g hp hg).below' hb hC⟩
theorem GsV.more (h : GsV w B A gs) (hB : B ≤ C) : GsV w C A gs := by
 obtain ⟨vs, h1, h2, h3⟩ := h
 exact ⟨vs, h1, h2.more hB, fun i p g hp hg => (h3 i p g hp hg).more hB⟩
theorem GsV.at_ (h : GsV w B A gs) {k : Nat} {g : List Nat} (hg : gs[k]? = some g) : ∃ b off Ai ci, A = some ⟨b, off, none⟩ ∧ b < B ∧ ∀ W C, Below C w W → B ≤ C → W.cell? ⟨b, off + k, none⟩ = some (.slice Ai g.length ci) ∧ IntS W B Ai (nInts g) := by
 obtain ⟨vs, h1, h2, h3⟩ := h
 have hk : k < gs.length := (List.getElem?_eq_some_iff.1 hg).1
 have hp : vs[k]? = some vs[k] := List.getElem?_eq_getElem (by omega)
 obtain ⟨b, off, rfl, hb, hc⟩ := h2.2 (by simp; omega)
 have hz : (vs.zip gs)[k]? = some (vs[k], g) := by rw [List.getElem?_zip_eq_some]; exact ⟨hp, hg⟩
 have hr : ((vs.zip gs).map fun p => [Value.slice p.1.1 p.2.length p.1.2])[k]? = some [.slice vs[k].1 g.length vs[k].2] := by rw [List.getElem?_map, hz]; rfl
 refine ⟨b, off, vs[k].1, vs[k].2, rfl, hb, fun W C hW hC => ⟨(hW.cell (p := ⟨b, off + k, none⟩) (by show b < C; omega)).trans ?_, (h3 k _ _ hp hg).below' hW hC⟩⟩
 have := hc k _ hr 0 _ rfl
 simpa using this
theorem nints_at {l : List Nat} (h : IntS w B A (nInts l)) {k x : Nat} (hx : l[k]? = some x) : ∃ b off, A = some ⟨b, off, none⟩ ∧ b < B ∧ w.cell? ⟨b, off + k, none⟩ = some (.int .i64 (x : Int)) := by
 obtain ⟨b, off, y, rfl, hb, hy, hc⟩ := IntS.at_ h (k := k) (by rw [nInts_len]; exact (List.getElem?_eq_some_iff.1 hx).1)
 rw [nInts_at hx] at hy
 cases hy
 exact ⟨b, off, rfl, hb, hc⟩
end
def layAgg (L : LayD) (A : Option Addr) (c : Nat) : Value := .agg #[.int .i64 L.disks, .slice A L.n c, .int .i64 L.tiles, .int .i64 L.spare]
def Mv.cells (m : Mv) : List Value := [.int .i64 m.g, .int .i64 m.p, .int .i64 m.to.disk, .int .i64 m.to.block]
def Mv.agg (m : Mv) : Value := .agg #[.int .i64 m.g, .int .i64 m.p, .int .i64 m.to.disk, .int .i64 m.to.block]
def Plc.agg (t : Plc) : Value := .agg #[.int .i64 t.disk, .int .i64 t.block]
@[simp] theorem Mv.cells_length (m : Mv) : m.cells.length = 4 := rfl
theorem Mv.one (m : Mv) : ∀ u ∈ m.cells, u.oneCell' = true := by
 intro u hu
 simp [Mv.cells] at hu
 rcases hu with rfl | rfl | rfl | rfl <;> rfl
abbrev MvS (w : World) (B : Nat) (A : Option Addr) (ms : List Mv) : Prop := RdS w B 4 A (ms.map Mv.cells)
theorem MvS.at_ {w : World} {B : Nat} {A : Option Addr} {ms : List Mv} (h : MvS w B A ms) {k : Nat} {m : Mv} (hm : ms[k]? = some m) : ∃ b off, A = some ⟨b, off, none⟩ ∧ b < B ∧ w.cell? ⟨b, off + k * 4, none⟩ = some (.int .i64 m.g) ∧ w.cell? ⟨b, off + k * 4 + 1, none⟩ = some (.int .i64 m.p) ∧
  w.cell? ⟨b, off + k * 4 + 2, none⟩ = some (.int .i64 m.to.disk) ∧ w.cell? ⟨b, off + k * 4 + 3, none⟩ = some (.int .i64 m.to.block) := by
 have hk := (List.getElem?_eq_some_iff.1 hm).1
 obtain ⟨b, off, rfl, hb, hc⟩ := h.2 (by simp; omega)
 have hr : (ms.map Mv.cells)[k]? = some m.cells := by rw [List.getElem?_map, hm]; rfl
 exact ⟨b, off, rfl, hb, hc k _ hr 0 _ rfl, hc k _ hr 1 _ rfl, hc k _ hr 2 _ rfl, hc k _ hr 3 _ rfl⟩
abbrev BoolS (w : World) (B : Nat) (A : Option Addr) (l : List Bool) : Prop := RdS w B 1 A (l.map fun b => [.bool b])
theorem BoolS.at_ {w : World} {B : Nat} {A : Option Addr} {l : List Bool} (h : BoolS w B A l) {k : Nat} {x : Bool} (hx : l[k]? = some x) : ∃ b off, A = some ⟨b, off, none⟩ ∧ b < B ∧ w.cell? ⟨b, off + k, none⟩ = some (.bool x) := by
 have hk := (List.getElem?_eq_some_iff.1 hx).1
 obtain ⟨b, off, rfl, hb, hc⟩ := h.2 (by simp; omega)
 have hr : (l.map fun b => [Value.bool b])[k]? = some [.bool x] := by rw [List.getElem?_map, hx]; rfl
 exact ⟨b, off, rfl, hb, by simpa using hc k _ hr 0 _ rfl⟩
end Go.Proofs.YtopoefcklipaeaaGreatDoor
