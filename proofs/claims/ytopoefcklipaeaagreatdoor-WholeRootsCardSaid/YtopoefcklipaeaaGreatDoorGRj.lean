/- Lists of leaves in memory: those that came in (LvS), and a list of the call's own (LvO), whose block is none of its leaves'.
Walks of layout: data, Valid, Width, Data.
States; walk of replay.New.
Walks of tegularef27.within, record.piece, record.place, tegulalaw50.to, from.
Walk of record.place.
Records: their values and what record.Valid says (plain). -/
import Derived.Test.YtopoefcklipaeaaGreatDoorGWp
import Derived.Test.YtopoefcklipaeaaGreatDoorGRf
import Derived.Test.YtopoefcklipaeaaGreatDoorGRd
namespace Go.Proofs.YtopoefcklipaeaaGreatDoor
open Go.RowKit
theorem RdS.keepBlk {w w' : World} {B size : Nat} {A : Option Addr} {rows : List (List Value)} (h : RdS w B size A rows) (hk : ∀ a, A = some a → w'.heap[a.block]? = w.heap[a.block]?) : RdS w' B size A rows := by
 refine ⟨h.1, fun hn => ?_⟩
 obtain ⟨b, off, rfl, hb, hc⟩ := h.2 hn
 refine ⟨b, off, rfl, hb, fun i r hr j u hu => ?_⟩
 have h2 := hk _ rfl
 simp only at h2
 have h3 := hc i r hr j u hu
 rw [← h3]
 exact World.cell?_of_block (w := w) h2
theorem LfV.kept {w w' : World} {B : Nat} {ua ub : Value} {L : Leaf} {row : Option Nat} (h : LfV w B (.agg #[ua, ub]) L) (hB : B ≤ w.heap.size) (hg : w.grownBy w' row) (ha : ua.ownBlock = none ∨ ua.ownBlock ≠ row) (hb : ub.ownBlock = none ∨ ub.ownBlock ≠ row) : LfV w' B (.agg #[ua, ub]) L := by
 obtain ⟨A, c, A', c', he, h1, h2, h3⟩ := h
 injection he with he
 have e1 : ua = .slice A L.vs.length c := by have := congrArg (fun x => x[0]?) he; simpa using this
 have e2 : ub = .slice A' L.ss.length c' := by have := congrArg (fun x => x[1]?) he; simpa using this
 subst e1 e2
 refine ⟨A, c, A', c', rfl, ?_, ?_, h3⟩
 ·by_cases hn : (L.vs.map u64C).length = 0
  ·exact ⟨h1.1, fun hh => absurd hh (by omega)⟩
  ·obtain ⟨b, off, rfl, hbB, -⟩ := h1.2 (by omega)
   refine h1.keepBlk fun a e => ?_
   cases e
   rcases ha with e | e
   ·cases e
   ·exact hg.block b (by omega) (fun e2 => e (by rw [← e2]; rfl))
 ·by_cases hn : (L.ss.map u64C).length = 0
  ·exact ⟨h2.1, fun hh => absurd hh (by omega)⟩
  ·obtain ⟨b, off, rfl, hbB, -⟩ := h2.2 (by omega)
   refine h2.keepBlk fun a e => ?_
   cases e
   rcases hb with e | e
   ·cases e
   ·exact hg.block b (by omega) (fun e2 => e (by rw [← e2]; rfl))
def LvS (w : World) (B : Nat) (A : Option Addr) (ls : List Leaf) : Prop := ∃ rows : List (Value × Value), rows.length = ls.length ∧ RdS w B 2 A (rows.map fun x => [x.1, x.2]) ∧ ∀ (k : Nat) (x : Value × Value) (L : Leaf), rows[k]? = some x → ls[k]? = some L → LfV w B (.agg #[x.1, x.2]) L
theorem LvS.below {w w' : World} {B C : Nat} {A : Option Addr} {ls : List Leaf} (h : LvS w B A ls) (hb : Below C w w') (hC : B ≤ C) : LvS w' B A ls := by
 obtain ⟨rows, hn, hr, hl⟩ := h
 exact ⟨rows, hn, hr.below' hb hC, fun k x L hk hL => (hl k x L hk hL).below hb hC⟩
theorem LvS.more {w : World} {B C : Nat} {A : Option Addr} {ls : List Leaf} (h : LvS w B A ls) (hC : B ≤ C) : LvS w C A ls := by
 obtain ⟨rows, hn, hr, hl⟩ := h
 exact ⟨rows, hn, hr.more hC, fun k x L hk hL => (hl k x L hk hL).more hC⟩
theorem LvS.at_ {w : World} {B : Nat} {A : Option Addr} {ls : List Leaf} (h : LvS w B A ls) {k : Nat} {L : Leaf} (hL : ls[k]? = some L) : ∃ b off ua ub, A = some ⟨b, off, none⟩ ∧ b < B ∧ w.cell? ⟨b, off + k * 2, none⟩ = some ua ∧ w.cell? ⟨b, off + k * 2 + 1, none⟩ = some ub ∧ LfV w B (.agg #[ua, ub]) L := by
 obtain ⟨rows, hn, hr, hl⟩ := h
 have hk := (List.getElem?_eq_some_iff.1 hL).1
 obtain ⟨b, off, rfl, hb, hc⟩ := hr.2 (by simp; omega)
 have hx := List.getElem?_eq_getElem (l := rows) (i := k) (by omega)
 have hx2 : (rows.map fun x => [x.1, x.2])[k]? = some [rows[k].1, rows[k].2] := by rw [List.getElem?_map, hx]; rfl
 exact ⟨b, off, _, _, rfl, hb, by simpa using hc k _ hx2 0 _ rfl, by simpa using hc k _ hx2 1 _ rfl, hl k _ L hx hL⟩
def LvO (w : World) (lo base : Nat) (v : Value) (ls : List Leaf) : Prop := ∃ rows : List (Value × Value), rows.length = ls.length ∧ OwS w base 58 2 v (rows.map fun x => [x.1, x.2]) ∧ ∀ (k : Nat) (x : Value × Value) (L : Leaf), rows[k]? = some x → ls[k]? = some L → LfV w w.heap.size (.agg #[x.1, x.2]) L ∧ (x.1.ownBlock = none ∨ x.1.ownBlock ≠ v.ownBlock) ∧ (x.2.ownBlock = none ∨ x.2.ownBlock ≠ v.ownBlock) ∧ ∀ j, (x.1.ownBlock = some j ∨ x.2.ownBlock = some j) → j < w.heap.size ∧ (j < lo ∨ base ≤ j)
theorem LvO.nil (w : World) (lo base : Nat) : LvO w lo base (.slice none 0 0) [] := ⟨[], rfl, OwS.nil _ _ _ _, fun k x L h => by simp at h⟩
theorem LvO.reads {w : World} {lo base : Nat} {v : Value} {ls : List Leaf} (h : LvO w lo base v ls) : ∃ A c, v = .slice A ls.length c ∧ LvS w w.heap.size A ls := by
 obtain ⟨rows, hn, ho, hl⟩ := h
 obtain ⟨A, c, rfl, -, -⟩ := ho.form
 exact ⟨A, c, by simp [hn], rows, hn, ho.reads, fun k x L hk hL => (hl k x L hk hL).1⟩
theorem LvO.below {w w' : World} {lo base : Nat} {v : Value} {ls : List Leaf} (h : LvO w lo base v ls) (hb : Below w.heap.size w w') : LvO w' lo base v ls := by
 obtain ⟨rows, hn, ho, hl⟩ := h
 exact ⟨rows, hn, ho.below hb, fun k x L hk hL => ⟨((hl k x L hk hL).1.below hb (Nat.le_refl _)).more hb.size, (hl k x L hk hL).2.1, (hl k x L hk hL).2.2.1, fun j hj => ⟨Nat.lt_of_lt_of_le ((hl k x L hk hL).2.2.2 j hj).1 hb.size, ((hl k x L hk hL).2.2.2 j hj).2⟩⟩⟩
theorem LfV.lt {w : World} {B : Nat} {ua ub : Value} {L : Leaf} (h : LfV w B (.agg #[ua, ub]) L) (h1 : 0 < L.vs.length) (h2 : 0 < L.ss.length) : ∀ j, (ua.ownBlock = some j ∨ ub.ownBlock = some j) → j < B := by
 obtain ⟨A, c, A', c', he, h3, h4, -⟩ := h
 injection he with he
 have e1 : ua = .slice A L.vs.length c := by have := congrArg (fun x => x[0]?) he; simpa using this
 have e2 : ub = .slice A' L.ss.length c' := by have := congrArg (fun x => x[1]?) he; simpa using this
 subst e1 e2
 obtain ⟨b, off, rfl, hb, -⟩ := h3.2 (by simpa using h1)
 obtain ⟨b', off', rfl, hb', -⟩ := h4.2 (by simpa using h2)
 intro j hj
 rcases hj with e | e
 ·have : b = j := Option.some.inj e
  omega
 ·have : b' = j := Option.some.inj e
  omega
theorem LvO.push {w w' : World} {lo base : Nat} {v v' ua ub : Value} {o : Obj} {ls : List Leaf} {L : Leaf} {rows : List (Value × Value)} (hn : rows.length = ls.length) (_ho : OwS w base 58 2 v (rows.map fun x => [x.1, x.2]))
  (hl : ∀ (k : Nat) (x : Value × Value) (L : Leaf), rows[k]? = some x → ls[k]? = some L → LfV w w.heap.size (.agg #[x.1, x.2]) L ∧ (x.1.ownBlock = none ∨ x.1.ownBlock ≠ v.ownBlock) ∧ (x.2.ownBlock = none ∨ x.2.ownBlock ≠ v.ownBlock) ∧ ∀ j, (x.1.ownBlock = some j ∨ x.2.ownBlock = some j) → j < w.heap.size ∧ (j < lo ∨ base ≤ j))
  (hL : LfV w w.heap.size (.agg #[ua, ub]) L) (hf1 : ua.ownBlock = none ∨ ua.ownBlock ≠ v.ownBlock) (hf2 : ub.ownBlock = none ∨ ub.ownBlock ≠ v.ownBlock) (hf3 : ∀ j, (ua.ownBlock = some j ∨ ub.ownBlock = some j) → j < w.heap.size ∧ (j < lo ∨ base ≤ j))
  (hg : (w.alloc o).grownBy w' v.ownBlock) (ho' : OwS w' base 58 2 v' (rows.map (fun x => [x.1, x.2]) ++ [[ua, ub]])) (hv : v'.ownBlock = v.ownBlock ∨ v'.ownBlock = some (w.heap.size + 1)) :
  LvO w' lo base v' (ls ++ [L]) := by
 have hz : w.heap.size ≤ w'.heap.size := Nat.le_trans (by simp) hg.size
 have key : ∀ (x : Value × Value) (L : Leaf), LfV w w.heap.size (.agg #[x.1, x.2]) L → (x.1.ownBlock = none ∨ x.1.ownBlock ≠ v.ownBlock) → (x.2.ownBlock = none ∨ x.2.ownBlock ≠ v.ownBlock) → (∀ j, (x.1.ownBlock = some j ∨ x.2.ownBlock = some j) → j < w.heap.size ∧ (j < lo ∨ base ≤ j)) →
   LfV w' w'.heap.size (.agg #[x.1, x.2]) L ∧ (x.1.ownBlock = none ∨ x.1.ownBlock ≠ v'.ownBlock) ∧ (x.2.ownBlock = none ∨ x.2.ownBlock ≠ v'.ownBlock) ∧ ∀ j, (x.1.ownBlock = some j ∨ x.2.ownBlock = some j) → j < w'.heap.size ∧ (j < lo ∨ base ≤ j) := by
  intro x L h h1 h2 hlt
  have hb1 : LfV (w.alloc o) w.heap.size (.agg #[x.1, x.2]) L := h.below below_laid (Nat.le_refl _)
  refine ⟨(hb1.kept (by simp) hg h1 h2).more hz, ?_, ?_, fun j hj => ⟨Nat.lt_of_lt_of_le (hlt j hj).1 hz, (hlt j hj).2⟩⟩
  ·rcases hv with e | e
   ·rw [e]; exact h1
   ·rw [e]
    rcases he : x.1.ownBlock with _ | k
    ·exact .inl rfl
    ·refine .inr fun e2 => ?_
     injection e2 with e2
     have := (hlt k (.inl he)).1
     omega
  ·rcases hv with e | e
   ·rw [e]; exact h2
   ·rw [e]
    rcases he : x.2.ownBlock with _ | k
    ·exact .inl rfl
    ·refine .inr fun e2 => ?_
     injection e2 with e2
     have := (hlt k (.inr he)).1
     omega
 refine ⟨rows ++ [(ua, ub)], by simp [hn], by simpa using ho', fun k x L' hk hL' => ?_⟩
 by_cases hkn : k < rows.length
 ·rw [List.getElem?_append_left hkn] at hk
  rw [List.getElem?_append_left (by omega)] at hL'
  have h := hl k x L' hk hL'
  exact key x L' h.1 h.2.1 h.2.2.1 h.2.2.2
 ·rw [List.getElem?_append_right (by omega)] at hk hL'
  rw [hn] at hk
  obtain ⟨h0, hh⟩ := List.getElem?_eq_some_iff.1 hk
  have e0 : k - ls.length = 0 := by simpa using h0
  rw [e0] at hk hL'
  simp at hk hL'
  subst hk hL'
  exact key (ua, ub) L hL hf1 hf2 hf3
theorem LvO.lt {w : World} {lo base : Nat} {v : Value} {ls : List Leaf} (h : LvO w lo base v ls) : ∀ k, v.ownBlock = some k → base ≤ k ∧ k < w.heap.size := by
 obtain ⟨rows, -, ho, -⟩ := h
 exact fun k hk => ho.lt hk
theorem LvO.far {w : World} {lo base : Nat} {v : Value} {ls : List Leaf} (h : LvO w lo base v ls) {p : Addr} (h1 : lo ≤ p.block) (h2 : p.block < base) (u : Value) : LvO (w.setCell p u) lo base v ls := by
 have hvp : v.ownBlock ≠ some p.block := fun e => by have := (h.lt _ e).1; omega
 obtain ⟨rows, hn, ho, hl⟩ := h
 have hg := grownBy_setCell w p u
 refine ⟨rows, hn, ho.far hvp u, fun k x L hk hL => ?_⟩
 obtain ⟨g1, g2, g3, g4⟩ := hl k x L hk hL
 have key : ∀ t : Value, (∀ j, t.ownBlock = some j → j < lo ∨ base ≤ j) → t.ownBlock = none ∨ t.ownBlock ≠ some p.block := fun t ht => .inr fun e => by have := ht _ e; omega
 exact ⟨(g1.kept (Nat.le_refl _) hg (key _ fun j hj => (g4 j (.inl hj)).2) (key _ fun j hj => (g4 j (.inr hj)).2)).more hg.size, g2, g3, fun j hj => ⟨Nat.lt_of_lt_of_le (g4 j hj).1 hg.size, (g4 j hj).2⟩⟩
end Go.Proofs.YtopoefcklipaeaaGreatDoor
namespace Go.Proofs.YtopoefcklipaeaaGreatDoor
open Go.RowKit
set_option maxHeartbeats 1000000 in
theorem lvalid_any {L : LayD} {A : Option Addr} {B c : Nat} (w : World) (hx : LayX L) (hv : GsV w B A L.gs) (hB : B ≤ w.heap.size) : Calls Tryz.prog 25 #[layAgg L A c] w fun r w' => r = .returned (.bool true) ∧ Below w.heap.size w w' := by
 have HV := Lib.hid hv
 have HC := Lib.hid (fun W hv hB => measure_any (L := L) (A := A) (B := B) (c := c) W hx hv hB)
 unfold layAgg at *
 clear hv
 go_enter Tryz.func25, Tryz.ntmps25
 go_wp2_with fail
 have hb0 : Below w.heap.size w (w.alloc (.cells #[.int .i64 L.disks, .slice A L.n c, .int .i64 L.tiles, .int .i64 L.spare] 28)) := below_laid
 generalize w.alloc _ = w0 at *
 refine (HC.out w0 (HV.out.below hb0 hB) (Nat.le_trans hB hb0.size)).mono ?_
 rintro r w1 ⟨⟨Ar, cr, O, rfl, -, -⟩, hb1⟩
 have HB := Lib.hid ((hb0.trans (hb1.mono hb0.size)))
 clear hb0 hb1
 unfold numC
 go_wp2
 go_ret
 exact ⟨rfl, HB.out.trans (below_laid.mono HB.out.size)⟩
set_option maxHeartbeats 1000000 in
theorem lwidth_any {L : LayD} {A : Option Addr} {B c : Nat} (w : World) (hx : LayX L) (hv : GsV w B A L.gs) (hB : B ≤ w.heap.size) : Calls Tryz.prog 28 #[layAgg L A c] w fun r w' => r = .returned (.int .i64 (L.w : Int)) ∧ Below w.heap.size w w' := by
 have HV := Lib.hid hv
 have HC := Lib.hid (fun W hv hB => measure_any (L := L) (A := A) (B := B) (c := c) W hx hv hB)
 unfold layAgg at *
 clear hv
 go_enter Tryz.func28, Tryz.ntmps28
 go_wp2_with fail
 have hb0 : Below w.heap.size w (w.alloc (.cells #[.int .i64 L.disks, .slice A L.n c, .int .i64 L.tiles, .int .i64 L.spare] 28)) := below_laid
 generalize w.alloc _ = w0 at *
 refine (HC.out w0 (HV.out.below hb0 hB) (Nat.le_trans hB hb0.size)).mono ?_
 rintro r w1 ⟨⟨Ar, cr, O, rfl, -, -⟩, hb1⟩
 have HB := Lib.hid ((hb0.trans (hb1.mono hb0.size)))
 clear hb0 hb1
 unfold numC
 go_wp2
 go_ret
 exact ⟨rfl, HB.out.trans (below_laid.mono HB.out.size)⟩
end Go.Proofs.YtopoefcklipaeaaGreatDoor
namespace Go.Proofs.YtopoefcklipaeaaGreatDoor
open Go.RowKit
def zeroLs (L : LayD) (k : Nat) : List Leaf := (List.range k).map fun g => zeroL g L.w
theorem zeroLs_succ (L : LayD) (k : Nat) : zeroLs L (k + 1) = zeroLs L k ++ [zeroL k L.w] := by
 unfold zeroLs
 rw [List.range_succ, List.map_append]
 rfl
@[simp] theorem zeroLs_len (L : LayD) (k : Nat) : (zeroLs L k).length = k := by simp [zeroLs]
theorem elemLeaf : Elem Tryz.prog 30 58 2 48 := Elem.mk (z := .agg #[.slice none 0 0, .slice none 0 0]) Tryz.underlying30 (by kernel_rfl) (by decide) rfl
theorem LfV.slices {w : World} {B : Nat} {v : Value} {L : Leaf} (h : LfV w B v L) : ∃ A n c A' n' c', v = .agg #[.slice A n c, .slice A' n' c'] := by
 obtain ⟨A, c, A', c', rfl, -⟩ := h
 exact ⟨_, _, _, _, _, _, rfl⟩
theorem new_leaf {w : World} {b lo base : Nat} {ua ub lv : Value} {L : Leaf} (hv : LfV w w.heap.size (.agg #[ua, ub]) L) (h1 : 0 < L.vs.length) (h2 : 0 < L.ss.length) (hf : LfF b (.agg #[ua, ub])) (hb : base ≤ b) (hlv : ∀ j, lv.ownBlock = some j → j < b) :
  (ua.ownBlock = none ∨ ua.ownBlock ≠ lv.ownBlock) ∧ (ub.ownBlock = none ∨ ub.ownBlock ≠ lv.ownBlock) ∧ ∀ j, (ua.ownBlock = some j ∨ ub.ownBlock = some j) → j < w.heap.size ∧ (j < lo ∨ base ≤ j) := by
 obtain ⟨u1, u2, he, hk⟩ := hf
 injection he with he
 have e1 : ua = u1 := by have := congrArg (fun x => x[0]?) he; simpa using this
 have e2 : ub = u2 := by have := congrArg (fun x => x[1]?) he; simpa using this
 subst e1 e2
 refine ⟨?_, ?_, fun j hj => ⟨hv.lt h1 h2 j hj, .inr (Nat.le_trans hb (hk j hj))⟩⟩
 ·rcases hq : ua.ownBlock with _ | j
  ·exact .inl rfl
  ·exact .inr fun e => by have := hk j (.inl hq); have := hlv j e.symm; omega
 ·rcases hq : ub.ownBlock with _ | j
  ·exact .inl rfl
  ·exact .inr fun e => by have := hk j (.inr hq); have := hlv j e.symm; omega
structure NewS (w0 w : World) (S : Nat) (L : LayD) (A : Option Addr) (c : Nat) (T : TypeId) (lv : Value) (ls : List Leaf) : Prop where
 lay : w.heap[w0.heap.size]? = some (.cells #[.int .i64 L.disks, .slice A L.n c, .int .i64 L.tiles, .int .i64 L.spare] 28 (0, 0))
 res : w.heap[w0.heap.size + 1]? = some (.cells #[.slice none 0 0, .slice none 0 0, .slice none 0 0] T (0, 0))
 box : w.heap[S]? = some (.cells #[lv, .slice none 0 0, .slice none 0 0] T (0, 0))
 own : LvO w 0 (S + 1) lv ls
 bel : Below w0.heap.size w0 w
 gt : w0.heap.size + 2 ≤ S
section
variable {w0 w w' : World} {S : Nat} {L : LayD} {A : Option Addr} {c : Nat} {T : TypeId} {lv lv' : Value} {ls ls' : List Leaf}
theorem NewS.lt (h : NewS w0 w S L A c T lv ls) : S < w.heap.size := (Array.getElem?_eq_some_iff.1 h.box).1
theorem NewS.below (h : NewS w0 w S L A c T lv ls) (hb : Below w.heap.size w w') : NewS w0 w' S L A c T lv ls := by
 have hl := h.lt
 have hg := h.gt
 exact ⟨(hb.block _ (by omega)).trans h.lay, (hb.block _ (by omega)).trans h.res, (hb.block _ hl).trans h.box, h.own.below hb, h.bel.trans (hb.mono (by omega)), hg⟩
theorem NewS.kept {row : Option Nat} {o : Obj} (h : NewS w0 w S L A c T lv ls) (hg : (w.alloc o).grownBy w' row) (hrow : row = lv.ownBlock) (k : Nat) (hk : k < S + 1) : w'.heap[k]? = w.heap[k]? := by
 have hl := h.lt
 refine (hg.block k (by simp; omega) (fun e => ?_)).trans (Below.heap_alloc _ _ _ (by omega))
 have := (h.own.lt k (by rw [← hrow, e])).1
 omega
theorem NewS.set {row : Option Nat} {o : Obj} (h : NewS w0 w S L A c T lv ls) (hg : (w.alloc o).grownBy w' row) (hrow : row = lv.ownBlock) (ho : LvO w' 0 (S + 1) lv' ls') :
  NewS w0 (w'.setCell ⟨S, 0, none⟩ lv') S L A c T lv' ls' := by
 have hl := h.lt
 have hgt := h.gt
 have hk := h.kept hg hrow
 refine ⟨(heap_setCell_other _ _ _ _ (by show w0.heap.size ≠ S; omega)).trans ((hk _ (by omega)).trans h.lay), (heap_setCell_other _ _ _ _ (by show w0.heap.size + 1 ≠ S; omega)).trans ((hk _ (by omega)).trans h.res), ?_, ho.far (p := ⟨S, 0, none⟩) (Nat.zero_le _) (by show S < S + 1; omega) _, ?_, hgt⟩
 ·exact heap_setCell_same w' _ 0 _ _ lv' ((hk _ (by omega)).trans h.box)
 ·refine ((h.bel.alloc (by omega) o).grown hg (by simp; omega) (fun k e => ?_)).setCell (by show w0.heap.size ≤ S; omega) _
  have := (h.own.lt k (by rw [← hrow, e])).1
  omega
theorem NewS.cells (h : NewS w0 w S L A c T lv ls) : w.cell? ⟨w0.heap.size, 0, none⟩ = some (.int .i64 L.disks) ∧ w.cell? ⟨w0.heap.size, 1, none⟩ = some (.slice A L.n c) ∧ w.cell? ⟨w0.heap.size, 2, none⟩ = some (.int .i64 L.tiles) ∧ w.cell? ⟨w0.heap.size, 3, none⟩ = some (.int .i64 L.spare) ∧ w.cell? ⟨S, 0, none⟩ = some lv :=
 ⟨by rw [cell_of_row _ _ _ _ _ _ h.lay]; rfl, by rw [cell_of_row _ _ _ _ _ _ h.lay]; rfl, by rw [cell_of_row _ _ _ _ _ _ h.lay]; rfl, by rw [cell_of_row _ _ _ _ _ _ h.lay]; rfl, by rw [cell_of_row _ _ _ _ _ _ h.box]; rfl⟩
end
set_option maxHeartbeats 1000000 in
set_option maxRecDepth 100000 in
theorem rnew {L : LayD} {A : Option Addr} {B c : Nat} (w : World) (hx : LayX L) (hv : GsV w B A L.gs) (hB : B ≤ w.heap.size) (hw1 : 1 ≤ L.w) (hw2 : L.w ≤ 16) (hG : L.G ≤ 100000) :
  Calls Tryz.prog 6 #[layAgg L A c] w fun r w' => (∃ A' c', r = .returned (.tuple #[.agg #[.slice A' L.G c', .slice none 0 0, .slice none 0 0], .int .i64 0]) ∧ LvS w' w'.heap.size A' (zeroLs L L.G)) ∧ Below w.heap.size w w' := by
 have HVA : Hid (∀ W, Below w.heap.size w W → Calls Tryz.prog 25 #[.agg #[.int .i64 L.disks, .slice A L.n c, .int .i64 L.tiles, .int .i64 L.spare]] W fun r w' => r = .returned (.bool true) ∧ Below W.heap.size W w') := fun W hW => lvalid_any W hx (hv.below hW hB) (Nat.le_trans hB hW.size)
 have HGR : Hid (∀ W, Below w.heap.size w W → Calls Tryz.prog 26 #[.agg #[.int .i64 L.disks, .slice A L.n c, .int .i64 L.tiles, .int .i64 L.spare]] W fun r w' => r = .returned (.int .i64 (L.G : Int)) ∧ Below W.heap.size W w') := fun W hW => lgroups2_any W hx (hv.below hW hB) (Nat.le_trans hB hW.size)
 have HWI : Hid (∀ W, Below w.heap.size w W → Calls Tryz.prog 28 #[.agg #[.int .i64 L.disks, .slice A L.n c, .int .i64 L.tiles, .int .i64 L.spare]] W fun r w' => r = .returned (.int .i64 (L.w : Int)) ∧ Below W.heap.size W w') := fun W hW => lwidth_any W hx (hv.below hW hB) (Nat.le_trans hB hW.size)
 have HZ : Hid (∀ (g : Nat) (W : World), g < 1000000 → Calls Tryz.prog 27 #[.int .i64 (g : Int), .int .i64 (L.w : Int)] W fun r w' => (∃ v, r = .returned v ∧ LfV w' w'.heap.size v (zeroL g L.w) ∧ LfF W.heap.size v) ∧ Below W.heap.size W w') := fun g W hg => pzero g L.w W hg hw1 hw2
 have HW1 := Lib.hid hw1
 obtain ⟨G, hGe⟩ : ∃ G, L.G = G := ⟨_, rfl⟩
 rw [hGe] at HGR hG ⊢
 unfold layAgg
 clear hx hv hGe
 go_enter Tryz.func6, Tryz.ntmps6
 go_upto_region 1 with (fail)
 obtain ⟨w1, hw1', ha, hc, hb, hz⟩ := two_laid w (.cells #[.int .i64 L.disks, .slice A L.n c, .int .i64 L.tiles, .int .i64 L.spare] 28) (.cells #[.slice none 0 0, .slice none 0 0, .slice none 0 0] 34)
 rw [hw1']
 have HA := Lib.hid ha
 have HC := Lib.hid hc
 have HB := Lib.hid hb
 have l0 : w1.cell? ⟨w.heap.size, 0, none⟩ = some (.int .i64 L.disks) := by rw [cell_of_row _ _ _ _ _ _ ha]; rfl
 have l1 : w1.cell? ⟨w.heap.size, 1, none⟩ = some (.slice A L.n c) := by rw [cell_of_row _ _ _ _ _ _ ha]; rfl
 have l2 : w1.cell? ⟨w.heap.size, 2, none⟩ = some (.int .i64 L.tiles) := by rw [cell_of_row _ _ _ _ _ _ ha]; rfl
 have l3 : w1.cell? ⟨w.heap.size, 3, none⟩ = some (.int .i64 L.spare) := by rw [cell_of_row _ _ _ _ _ _ ha]; rfl
 clear ha hc hb hw1'
 go_wp2_with fail
 refine (HVA.out w1 HB.out).mono ?_
 rintro r w2 ⟨rfl, hb2⟩
 have hz2 : w.heap.size + 2 ≤ w2.heap.size := Nat.le_trans (Nat.le_of_eq hz.symm) hb2.size
 have HA2 := Lib.hid ((hb2.block _ (by omega)).trans HA.out)
 have HC2 := Lib.hid ((hb2.block _ (by omega)).trans HC.out)
 have HB2 := Lib.hid (HB.out.trans (hb2.mono (by omega)))
 clear l0 l1 l2 l3 hb2 HA HC HB hz
 go_upto_region 4 with (fail)
 have HN : Hid (NewS w (w2.alloc (.cells #[.slice none 0 0, .slice none 0 0, .slice none 0 0] 34)) w2.heap.size L A c 34 (.slice none 0 0) (zeroLs L 0)) :=
  ⟨(Below.heap_alloc _ _ _ (by omega)).trans HA2.out, (Below.heap_alloc _ _ _ (by omega)).trans HC2.out, heap_alloc_new w2 _, LvO.nil _ _ _, HB2.out.alloc (by omega) _, hz2⟩
 generalize w2.alloc _ = w3 at *
 obtain ⟨l0, l1, l2, l3, -⟩ := HN.out.cells
 have hlt3 := HN.out.lt
 clear HA2 HC2 HB2
 go_wp2_with fail
 refine (HGR.out w3 HN.out.bel).mono ?_
 rintro r w4 ⟨rfl, hb4⟩
 have HN4 := Lib.hid (HN.out.below hb4)
 clear l0 l1 l2 l3 hb4 HN hlt3
 generalize w2.heap.size = S at *
 go_wp2
 go_loopw [5, 12] (fun s5 s12 wr => ∃ k : Nat, k ≤ G ∧ s12 = .int .i64 k ∧ ∃ lv, NewS w wr S L A c 34 lv (zeroLs L k)) (fun _ s12 _ => G - (intOf s12).toNat)
 case atStart => exact ⟨0, by omega, rfl, _, HN4.out⟩
 case round =>
  obtain ⟨k, hk, rfl, lv, hN⟩ := hrel
  have HNW := Lib.hid hN
  obtain ⟨Al, nl, cl, rfl⟩ : ∃ A n c, lv = .slice A n c := by
   obtain ⟨A', c', e, -⟩ := hN.own.reads
   exact ⟨_, _, _, e⟩
  have hlt := hN.lt
  have hgt := hN.gt
  clear hN HN4
  by_cases hkG : k < G
  case neg =>
   have hkI : ¬ (k : Int) < (G : Int) := by omega
   obtain rfl : k = G := by omega
   clear hkG
   have s0 : wr.cell? ⟨S, 0, none⟩ = some (.slice Al nl cl) := by rw [cell_of_row _ _ _ _ _ _ HNW.out.box]; rfl
   have s1 : wr.cell? ⟨S, 1, none⟩ = some (.slice none 0 0) := by rw [cell_of_row _ _ _ _ _ _ HNW.out.box]; rfl
   have s2 : wr.cell? ⟨S, 2, none⟩ = some (.slice none 0 0) := by rw [cell_of_row _ _ _ _ _ _ HNW.out.box]; rfl
   have r0 : wr.cell? ⟨w.heap.size + 1, 0, none⟩ = some (.slice none 0 0) := by rw [cell_of_row _ _ _ _ _ _ HNW.out.res]; rfl
   have r1 : wr.cell? ⟨w.heap.size + 1, 1, none⟩ = some (.slice none 0 0) := by rw [cell_of_row _ _ _ _ _ _ HNW.out.res]; rfl
   have r2 : wr.cell? ⟨w.heap.size + 1, 2, none⟩ = some (.slice none 0 0) := by rw [cell_of_row _ _ _ _ _ _ HNW.out.res]; rfl
   have f0 := frozen_blk HNW.out.res 0
   have f1 := frozen_blk HNW.out.res 1
   have f2 := frozen_blk HNW.out.res 2
   have hO := ((HNW.out.own.far (p := ⟨w.heap.size + 1, 0, none⟩) (Nat.zero_le _) (by show w.heap.size + 1 < S + 1; omega) (.slice Al nl cl)).far (p := ⟨w.heap.size + 1, 1, none⟩) (Nat.zero_le _) (by show w.heap.size + 1 < S + 1; omega) (.slice none 0 0)).far (p := ⟨w.heap.size + 1, 2, none⟩) (Nat.zero_le _) (by show w.heap.size + 1 < S + 1; omega) (.slice none 0 0)
   obtain ⟨A', c', he, hls⟩ := hO.reads
   rw [zeroLs_len] at he
   obtain ⟨rfl, rfl, rfl⟩ : Al = A' ∧ nl = k ∧ cl = c' := by injection he with h1 h2 h3; exact ⟨h1, h2, h3⟩
   have HLS := Lib.hid hls
   have HBF := Lib.hid (((HNW.out.bel.setCell (p := ⟨w.heap.size + 1, 0, none⟩) (by show w.heap.size ≤ w.heap.size + 1; omega) (.slice Al nl cl)).setCell (p := ⟨w.heap.size + 1, 1, none⟩) (by show w.heap.size ≤ w.heap.size + 1; omega) (.slice none 0 0)).setCell (p := ⟨w.heap.size + 1, 2, none⟩) (by show w.heap.size ≤ w.heap.size + 1; omega) (.slice none 0 0))
   clear he hls hO
   go_wp2
   (try simp only [Exit.inBlock, Exit.then])
   refine bodyPost_ret (v := .tuple #[.agg #[.slice Al nl cl, .slice none 0 0, .slice none 0 0], .int .i64 0]) ?_ rfl (by first | exact ⟨⟨_, _, rfl, HLS.out⟩, HBF.out⟩ | exact ⟨⟨_, ⟨_, rfl⟩, HLS.out⟩, HBF.out⟩ | exact ⟨⟨_, HLS.out, _, rfl⟩, HBF.out⟩ | fail)
   rw [results_cell_tmp rfl]
   go_simp
  case pos =>
   have hkI : (k : Int) < (G : Int) := by omega
   go_upto_region 7 with (fail)
   obtain ⟨l0, l1, l2, l3, l4⟩ := HNW.out.cells
   have HKG := Lib.hid hkG
   go_region_law (first
    | (refine step_ap1 (by rfl) (.tmp 16) (.tmp 21) _ (by rfl) elemLeaf (by rfl) ho [.slice A1 n1 c1, .slice A2 n2 c2] _ (by rfl) y2.heap.size (by rfl) (by rfl) (by intro u hu; simp only [List.mem_cons, List.not_mem_nil, or_false] at hu; rcases hu with rfl | rfl <;> rfl) (by simp [maxLen, hn]; omega) (by simp [hn]; omega) hz2' ?_; intro v7 w7 hown7 hg7 hv7; have hO7 := LvO.push hn0 ho hl hv2 hnl.1 hnl.2.1 hnl.2.2 hg7 hown7 hv7; have hb7 := hy2.out.kept hg7 rfl S (by omega); obtain ⟨A7, n7, c7, rfl⟩ := hown7.sl; have hS7 := Lib.hid (hy2.out.set hg7 rfl hO7); have x7 : w7.cell? ⟨S, 0, none⟩ = some (.slice Al nl cl) := (by rw [cell_of_row _ _ _ _ _ _ (hb7.trans hy2.out.box)]; rfl); have y7 := frozen_blk (hb7.trans hy2.out.box) 0)
    | (go_simp; go_wp2_with (first
      | (go_at_call 28; (with_reducible refine (HWI.out _ (HNW.out.bel.drew)).mono ?_); rintro r y1 ⟨rfl, hb1⟩; have hy1 := Lib.hid (HNW.out.below ((Below.refl _ _).drew.trans hb1)); obtain ⟨-, -, -, -, d4⟩ := hy1.out.cells)
      | (go_at_call 27; (with_reducible refine (HZ.out k y1 (by omega)).mono ?_); rintro r y2 ⟨⟨v2, rfl, hv2, hf2⟩, hb2⟩; obtain ⟨A1, n1, c1, A2, n2, c2, rfl⟩ := hv2.slices; have hy2 := Lib.hid (hy1.out.below hb2); obtain ⟨-, -, -, -, e4⟩ := hy2.out.cells; have e5 : ∀ o, (y2.alloc o).cell? ⟨S, 0, none⟩ = some (.slice Al nl cl) := (fun o => by rw [cell_of_row _ _ _ _ _ _ ((Below.heap_alloc y2 o _ hy2.out.lt).trans hy2.out.box)]; rfl); have hnl := new_leaf (lo := 0) (base := S + 1) (lv := .slice Al nl cl) hv2 (by have := HW1.out; simp [zeroL]; omega) (by have := HW1.out; simp [zeroL, sumsZ]; omega) hf2 hy1.out.lt (fun j hj => (hy1.out.own.lt j hj).2); obtain ⟨rows, hn, ho, hl⟩ := hy2.out.own; have hz2' : S + 1 ≤ y2.heap.size := hy2.out.lt; have hn0 := hn; rw [zeroLs_len] at hn)
      | fail))
    | fail)
   all_goals
    have HE : Hid (NewS w (w7.setCell ⟨S, 0, none⟩ (.slice A7 n7 c7)) S L A c 34 (.slice A7 n7 c7) (zeroLs L (k + 1))) := Lib.hid (by rw [zeroLs_succ]; exact hS7.out)
    clear hS7 hb7 hO7 hv7 hg7 hown7 hl ho hn hn0 hnl hy2 hy1 hv2 hf2
    go_wp2
    go_round
    case rel => exact ⟨k + 1, by omega, by go_num, _, HE.out⟩
    case measure => simp [intOf] <;> omega
end Go.Proofs.YtopoefcklipaeaaGreatDoor
namespace Go.Proofs.YtopoefcklipaeaaGreatDoor
open Go.RowKit
def inB (n lo hi : Int) : Bool := decide (lo ≤ n) && decide (n ≤ hi)
def pieceB (g p : Int) : Bool := inB g 0 4095 && inB p 0 15
theorem rpiece (g p : Int) (w : World) : Calls Tryz.prog 152 #[.int .i64 g, .int .i64 p] w fun r w' => r = .returned (.bool (pieceB g p)) ∧ w = w' := by
 unfold pieceB inB
 by_cases h1 : 0 ≤ g <;> by_cases h2 : g < 4096 <;> by_cases h3 : 0 ≤ p <;> by_cases h4 : p < 16
 all_goals
  have e2 : decide (g ≤ 4095) = decide (g < 4096) := by rw [decide_eq_decide]; omega
  have e4 : decide (p ≤ 15) = decide (p < 16) := by rw [decide_eq_decide]; omega
  rw [e2, e4]
  clear e2 e4
  go_enter Tryz.func152, Tryz.ntmps152
  go_wp2
  go_ret
  simp [h1, h2, h3, h4]
end Go.Proofs.YtopoefcklipaeaaGreatDoor
namespace Go.Proofs.YtopoefcklipaeaaGreatDoor
open Go.RowKit
def placeB (d b : Int) : Bool := (decide (d = -1) && decide (b = 0)) || (inB d 0 59 && inB b 0 65535)
set_option maxHeartbeats 1000000 in
theorem rplace (d b : Int) (w : World) : Calls Tryz.prog 153 #[.agg #[.int .i64 d, .int .i64 b]] w fun r w' => r = .returned (.bool (placeB d b)) ∧ Below w.heap.size w w' := by
  have hb : Below w.heap.size w (w.alloc (.cells #[.int .i64 d, .int .i64 b] 194)) := below_laid
  by_cases h0 : d = -1
  · have e0 : (d == -1) = true := by rw [beq_iff_eq]; exact h0
    have HP : Hid ((b == 0) = placeB d b) := by
      unfold Hid placeB inB
      rw [h0]
      by_cases hb : b = 0
      · subst hb; decide
      · have : (b == 0) = false := by rw [beq_eq_false_iff_ne]; exact hb
        rw [this]
        simp [hb]
    clear h0
    go_enter Tryz.func153, Tryz.ntmps153
    go_wp2
    go_ret
    exact ⟨by rw [← HP.out]; rfl, hb⟩
  · have e0 : (d == -1) = false := by rw [beq_eq_false_iff_ne]; exact h0
    have HP : Hid (placeB d b = (decide (0 ≤ d) && decide (d < 60) && decide (0 ≤ b) && decide (b < 65536))) := by
      unfold Hid placeB inB
      have e2 : decide (d ≤ 59) = decide (d < 60) := by rw [decide_eq_decide]; omega
      have e4 : decide (b ≤ 65535) = decide (b < 65536) := by rw [decide_eq_decide]; omega
      rw [e2, e4]
      simp [h0, Bool.and_assoc]
    by_cases h1 : 0 ≤ d <;> by_cases h2 : d < 60 <;> by_cases h3 : 0 ≤ b <;> by_cases h4 : b < 65536
    all_goals first
      | (exfalso; omega)
      | (clear h0
         go_enter Tryz.func153, Tryz.ntmps153
         go_wp2
         go_ret
         rw [HP.out]
         exact ⟨by simp [h1, h2, h3, h4], hb⟩)
end Go.Proofs.YtopoefcklipaeaaGreatDoor
namespace Go.Proofs.YtopoefcklipaeaaGreatDoor
open Go.RowKit
abbrev PwS (w : World) (B : Nat) (A : Option Addr) (l : List Pw) : Prop := RdS w B 11 A (l.map Pw.cells)
structure Rcd where
 gen : Nat
 seq : Nat
 ws : List Pw
 ms : List Mv
 nt : List Nat
def RcdV (w : World) (B : Nat) (v : Value) (r : Rcd) : Prop := ∃ A c A' c' A'' c'', v = .agg #[.int .u64 r.gen, .int .u64 r.seq, .slice A r.ws.length c, .slice A' r.ms.length c', .slice A'' r.nt.length c''] ∧ PwS w B A r.ws ∧ MvS w B A' r.ms ∧ BytS w B A'' r.nt
theorem RcdV.below {w w' : World} {B C : Nat} {v : Value} {r : Rcd} (h : RcdV w B v r) (hb : Below C w w') (hC : B ≤ C) : RcdV w' B v r := by
 obtain ⟨A, c, A', c', A'', c'', rfl, h1, h2, h3⟩ := h
 exact ⟨A, c, A', c', A'', c'', rfl, h1.below' hb hC, h2.below' hb hC, h3.below' hb hC⟩
def wrB (m : Pw) : Bool := pieceB m.g m.p
def mvB (m : Mv) : Bool := pieceB m.g m.p && placeB m.to.disk m.to.block
def rcdB (r : Rcd) : Bool := decide (1 ≤ r.seq) && decide (r.ws.length ≤ 64) && decide (r.ms.length ≤ 64) && decide (r.nt.length ≤ 256) && r.ws.all wrB && r.ms.all mvB
theorem PwS.at_ {w : World} {B : Nat} {A : Option Addr} {l : List Pw} (h : PwS w B A l) {k : Nat} {m : Pw} (hm : l[k]? = some m) : ∃ b off, A = some ⟨b, off, none⟩ ∧ b < B ∧ ∀ (j : Nat) (u : Value), m.cells[j]? = some u → w.cell? ⟨b, off + k * 11 + j, none⟩ = some u := by
 have hk := (List.getElem?_eq_some_iff.1 hm).1
 obtain ⟨b, off, rfl, hb, hc⟩ := h.2 (by simp; omega)
 have hr : (l.map Pw.cells)[k]? = some m.cells := by rw [List.getElem?_map, hm]; rfl
 exact ⟨b, off, rfl, hb, fun j u hj => hc k _ hr j u hj⟩
end Go.Proofs.YtopoefcklipaeaaGreatDoor
