/- What stays while some blocks turn (Agr, Stb); notes; states in memory: as they came in (StV), and the call's own (LvW, NtW). No program is walked here.
A state of the call's own: as a value (StW), in a box (StB); what each step makes of it. No program is walked here. -/
import Derived.Test.YtopoefcklipaeaaGreatDoorRpN
namespace Go.Proofs.YtopoefcklipaeaaGreatDoor
open Go.RowKit
structure Agr (F : Nat → Prop) (w w' : World) : Prop where
 os : w'.os = w.os
 tape : w'.tape = w.tape
 output : w'.output = w.output
 size : w.heap.size ≤ w'.heap.size
 block : ∀ k, k < w.heap.size → ¬ F k → w'.heap[k]? = w.heap[k]?
section
variable {F F' : Nat → Prop} {a b c w w' : World}
theorem Agr.refl (F : Nat → Prop) (w : World) : Agr F w w := ⟨rfl, rfl, rfl, Nat.le_refl _, fun _ _ _ => rfl⟩
theorem Agr.trans' (h : Agr F a b) (k : Agr F' b c) (hF : ∀ i, i < a.heap.size → F' i → F i) : Agr F a c :=
 ⟨k.os.trans h.os, k.tape.trans h.tape, k.output.trans h.output, Nat.le_trans h.size k.size, fun i hi hn => (k.block i (Nat.lt_of_lt_of_le hi h.size) (fun e => hn (hF i hi e))).trans (h.block i hi hn)⟩
theorem Agr.trans (h : Agr F a b) (k : Agr F b c) : Agr F a c := h.trans' k fun _ _ e => e
theorem Agr.mono (h : Agr F a b) (hF : ∀ i, i < a.heap.size → F i → F' i) : Agr F' a b := ⟨h.os, h.tape, h.output, h.size, fun i hi hn => h.block i hi fun e => hn (hF i hi e)⟩
theorem Agr.of (h : Below w.heap.size w w') : Agr F w w' := ⟨h.os, h.tape, h.output, h.size, fun i hi _ => h.block i hi⟩
theorem Agr.call (h : Agr F a b) (k : Below b.heap.size b c) : Agr F a c := h.trans (.of k)
theorem Agr.drew (h : Agr F a b) : Agr F a b.drew := h.call (Below.refl _ _).drew
theorem Agr.alloc (h : Agr F a b) (o : Obj) : Agr F a (b.alloc o) := h.call below_laid
theorem Agr.grown {row : Option Nat} (h : Agr F a b) (hg : b.grownBy c row) (hr : ∀ k, row = some k → F k ∨ a.heap.size ≤ k) : Agr F a c :=
 ⟨hg.os.trans h.os, hg.tape.trans h.tape, hg.output.trans h.output, Nat.le_trans h.size hg.size, fun i hi hn => (hg.block i (Nat.lt_of_lt_of_le hi h.size) (fun e => by
  rcases hr i e.symm with h1 | h1
  ·exact hn h1
  ·omega)).trans (h.block i hi hn)⟩
theorem Agr.set (h : Agr F a b) {p : Addr} (hp : F p.block ∨ a.heap.size ≤ p.block) (u : Value) : Agr F a (b.setCell p u) :=
 h.grown (grownBy_setCell b p u) fun k hk => by cases hk; exact hp
theorem Agr.below {B : Nat} (h : Agr F a b) (hF : ∀ k, k < a.heap.size → F k → B ≤ k) (hB : B ≤ a.heap.size) : Below B a b :=
 ⟨h.os, h.tape, h.output, h.size, fun k hk => h.block k (by omega) fun e => by have := hF k (by omega) e; omega⟩
def Stb (F : Nat → Prop) (w : World) (P : World → Prop) : Prop := ∀ W, Agr F w W → P W
variable {P Q : World → Prop}
theorem Stb.now (h : Stb F w P) : P w := h w (Agr.refl _ _)
theorem Stb.to (h : Stb F w P) (k : Agr F w w') (hF : ∀ i, i < w.heap.size → F' i → F i) : Stb F' w' P := fun W hW => h W (k.trans' hW hF)
theorem Stb.step (h : Stb F w P) (k : Agr F w w') : Stb F w' P := h.to k fun _ _ e => e
theorem Stb.call (h : Stb F w P) (k : Below w.heap.size w w') : Stb F w' P := h.step (.of k)
theorem Stb.mono (h : Stb F w P) (hF : ∀ i, i < w.heap.size → F' i → F i) : Stb F' w P := h.to (Agr.refl _ _) hF
theorem Stb.imp (h : Stb F w P) (hi : ∀ W, P W → Q W) : Stb F w Q := fun W hW => hi W (h W hW)
end
theorem stb_in {F : Nat → Prop} {w : World} {B : Nat} {P : World → Prop} (hB : B ≤ w.heap.size) (hF : ∀ k, k < w.heap.size → F k → B ≤ k) (h : ∀ W, Below B w W → P W) : Stb F w P := fun W hW => h W (hW.below hF hB)
theorem RdS.stb {F : Nat → Prop} {w : World} {size : Nat} {A : Option Addr} {rows : List (List Value)} (h : RdS w w.heap.size size A rows) (hA : ∀ a, A = some a → ¬ F a.block) : Stb F w fun W => RdS W W.heap.size size A rows := by
 intro W hW
 by_cases hn : rows.length = 0
 ·exact ⟨h.1, fun hh => absurd hh (by omega)⟩
 ·obtain ⟨b, off, rfl, hb, -⟩ := h.2 (by omega)
  exact (h.keepBlk fun a e => by cases e; exact hW.block _ hb (hA _ rfl)).more hW.size
theorem RdS.stb0 {F : Nat → Prop} {w : World} {size B0 : Nat} {A : Option Addr} {rows : List (List Value)} (h : RdS w w.heap.size size A rows) (hA : ∀ a, A = some a → B0 ≤ a.block) (hF : ∀ k, F k → k < B0) : Stb F w fun W => RdS W W.heap.size size A rows :=
 h.stb fun a ha hf => by have := hA a ha; have := hF _ hf; omega
theorem LfV.stb {F : Nat → Prop} {w : World} {B0 : Nat} {v : Value} {L : Leaf} (h : LfV w w.heap.size v L) (hf : LfF B0 v) (hF : ∀ k, F k → k < B0) : Stb F w fun W => LfV W W.heap.size v L := by
 obtain ⟨A, c, A', c', rfl, h1, h2, h3⟩ := h
 obtain ⟨ua, ub, he, hk⟩ := hf
 injection he with he
 have e1 : Value.slice A L.vs.length c = ua := by have := congrArg (fun x => x[0]?) he; simpa using this
 have e2 : Value.slice A' L.ss.length c' = ub := by have := congrArg (fun x => x[1]?) he; simpa using this
 subst e1 e2
 have h1' := RdS.stb0 (F := F) h1 (fun a ha => hk _ (.inl (by rw [ha]; rfl))) hF
 have h2' := RdS.stb0 (F := F) h2 (fun a ha => hk _ (.inr (by rw [ha]; rfl))) hF
 exact fun W hW => ⟨A, c, A', c', rfl, h1' W hW, h2' W hW, h3⟩
def ntRow (p : (Option Addr × Nat) × List Nat) : List Value := [.slice p.1.1 p.2.length p.1.2]
def NtS (w : World) (B : Nat) (A : Option Addr) (nt : List (List Nat)) : Prop := ∃ vs : List (Option Addr × Nat), vs.length = nt.length ∧ RdS w B 1 A ((vs.zip nt).map ntRow) ∧ ∀ (i : Nat) (p : Option Addr × Nat) (g : List Nat), vs[i]? = some p → nt[i]? = some g → BytS w B p.1 g
section
variable {w w' : World} {B C : Nat} {A : Option Addr} {nt : List (List Nat)}
theorem NtS.below (h : NtS w B A nt) (hb : Below C w w') (hC : B ≤ C) : NtS w' B A nt := by
 obtain ⟨vs, h1, h2, h3⟩ := h
 exact ⟨vs, h1, h2.below' hb hC, fun i p g hp hg => (h3 i p g hp hg).below' hb hC⟩
theorem NtS.more (h : NtS w B A nt) (hC : B ≤ C) : NtS w C A nt := by
 obtain ⟨vs, h1, h2, h3⟩ := h
 exact ⟨vs, h1, h2.more hC, fun i p g hp hg => (h3 i p g hp hg).more hC⟩
theorem NtS.nil : NtS w B A [] := ⟨[], rfl, RdS.nil _ _ _ _, fun i p g h => by simp at h⟩
theorem NtS.at_ (h : NtS w B A nt) {k : Nat} {g : List Nat} (hg : nt[k]? = some g) : ∃ b off Ai ci, A = some ⟨b, off, none⟩ ∧ b < B ∧ w.cell? ⟨b, off + k, none⟩ = some (.slice Ai g.length ci) ∧ BytS w B Ai g := by
 obtain ⟨vs, h1, h2, h3⟩ := h
 have hk : k < nt.length := (List.getElem?_eq_some_iff.1 hg).1
 have hp : vs[k]? = some vs[k] := List.getElem?_eq_getElem (by omega)
 obtain ⟨b, off, rfl, hb, hc⟩ := h2.2 (by simp; omega)
 have hz : (vs.zip nt)[k]? = some (vs[k], g) := by rw [List.getElem?_zip_eq_some]; exact ⟨hp, hg⟩
 have hr : ((vs.zip nt).map ntRow)[k]? = some [.slice vs[k].1 g.length vs[k].2] := by rw [List.getElem?_map, hz]; rfl
 exact ⟨b, off, vs[k].1, vs[k].2, rfl, hb, by simpa using hc k _ hr 0 _ rfl, h3 k _ _ hp hg⟩
end
structure St where
 ls : List Leaf
 ms : List Mv
 nt : List (List Nat)
def St.zero : St := ⟨[], [], []⟩
def StV (w : World) (B : Nat) (v : Value) (S : St) : Prop := ∃ A c A' c' A'' c'', v = .agg #[.slice A S.ls.length c, .slice A' S.ms.length c', .slice A'' S.nt.length c''] ∧ LvS w B A S.ls ∧ MvS w B A' S.ms ∧ NtS w B A'' S.nt
theorem StV.below {w w' : World} {B C : Nat} {v : Value} {S : St} (h : StV w B v S) (hb : Below C w w') (hC : B ≤ C) : StV w' B v S := by
 obtain ⟨A, c, A', c', A'', c'', rfl, h1, h2, h3⟩ := h
 exact ⟨A, c, A', c', A'', c'', rfl, h1.below hb hC, h2.below' hb hC, h3.below hb hC⟩
theorem StV.more {w : World} {B C : Nat} {v : Value} {S : St} (h : StV w B v S) (hC : B ≤ C) : StV w C v S := by
 obtain ⟨A, c, A', c', A'', c'', rfl, h1, h2, h3⟩ := h
 exact ⟨A, c, A', c', A'', c'', rfl, h1.more hC, h2.more hC, h3.more hC⟩
theorem StV.zero (w : World) (B : Nat) : StV w B (.agg #[.slice none 0 0, .slice none 0 0, .slice none 0 0]) St.zero :=
 ⟨none, 0, none, 0, none, 0, rfl, ⟨[], rfl, RdS.nil _ _ _ _, fun k x L h => by simp at h⟩, RdS.nil _ _ _ _, NtS.nil⟩
def StE (E : Nat → Prop) (w : World) (v : Value) (S : St) : Prop := Stb E w fun V => StV V V.heap.size v S
theorem StE.zero (E : Nat → Prop) (w : World) : StE E w (.agg #[.slice none 0 0, .slice none 0 0, .slice none 0 0]) St.zero := fun V _ => StV.zero V _
theorem RcdV.more {w : World} {B C : Nat} {v : Value} {r : Rcd} (h : RcdV w B v r) (hC : B ≤ C) : RcdV w C v r := by
 obtain ⟨A, c, A', c', A'', c'', rfl, h1, h2, h3⟩ := h
 exact ⟨A, c, A', c', A'', c'', rfl, h1.more hC, h2.more hC, h3.more hC⟩
def LvW (F : Nat → Prop) (w : World) (v : Value) (ls : List Leaf) : Prop := ∃ rows : List (Value × Value), rows.length = ls.length ∧ OwS w 0 58 2 v (rows.map fun x => [x.1, x.2]) ∧ (∀ k, v.ownBlock = some k → F k) ∧
 ∀ (k : Nat) (x : Value × Value) (L : Leaf), rows[k]? = some x → ls[k]? = some L → Stb F w fun W => LfV W W.heap.size (.agg #[x.1, x.2]) L
def NtW (F : Nat → Prop) (w : World) (v : Value) (nt : List (List Nat)) : Prop := ∃ vs : List (Option Addr × Nat), vs.length = nt.length ∧ OwS w 0 40 1 v ((vs.zip nt).map ntRow) ∧ (∀ k, v.ownBlock = some k → F k) ∧
 ∀ (i : Nat) (p : Option Addr × Nat) (g : List Nat), vs[i]? = some p → nt[i]? = some g → Stb F w fun W => BytS W W.heap.size p.1 g
theorem OwS.same {w w' : World} {base size : Nat} {e : TypeId} {v : Value} {rows : List (List Value)} (h : OwS w base e size v rows) (hk : ∀ k, v.ownBlock = some k → w'.heap[k]? = w.heap[k]?) : OwS w' base e size v rows := by
 obtain ⟨h1, h2, h3⟩ := h
 refine ⟨h1, h2, ?_⟩
 rcases h3 with h3 | ⟨g, cap, cur, rfl, hb, hh, h4⟩
 ·exact .inl h3
 ·exact .inr ⟨g, cap, cur, rfl, hb, (hk g rfl).trans hh, h4⟩
section
variable {F F' : Nat → Prop} {w w' : World} {v v' : Value} {ls : List Leaf} {nt : List (List Nat)}
theorem LvW.nil (F : Nat → Prop) (w : World) : LvW F w (.slice none 0 0) [] := ⟨[], rfl, OwS.nil _ _ _ _, (fun k h => by cases h), (fun k x L h => by simp at h)⟩
theorem NtW.nil (F : Nat → Prop) (w : World) : NtW F w (.slice none 0 0) [] := ⟨[], rfl, OwS.nil _ _ _ _, (fun k h => by cases h), (fun k x L h => by simp at h)⟩
theorem LvW.form (h : LvW F w v ls) : ∃ A c, v = .slice A ls.length c ∧ LvS w w.heap.size A ls := by
 obtain ⟨rows, hn, ho, -, hl⟩ := h
 obtain ⟨A, c, rfl, -, -⟩ := ho.form
 exact ⟨A, c, by simp [hn], rows, hn, ho.reads, fun k x L hk hL => (hl k x L hk hL).now⟩
theorem NtW.form (h : NtW F w v nt) : ∃ A c, v = .slice A nt.length c ∧ NtS w w.heap.size A nt := by
 obtain ⟨vs, hn, ho, -, hl⟩ := h
 obtain ⟨A, c, rfl, -, -⟩ := ho.form
 exact ⟨A, c, by simp [hn], vs, hn, ho.reads, fun k x L hk hL => (hl k x L hk hL).now⟩
theorem LvW.lt (h : LvW F w v ls) : ∀ k, v.ownBlock = some k → k < w.heap.size ∧ F k := by
 obtain ⟨rows, -, ho, hf, -⟩ := h
 exact fun k hk => ⟨(ho.lt hk).2, hf k hk⟩
theorem NtW.lt (h : NtW F w v nt) : ∀ k, v.ownBlock = some k → k < w.heap.size ∧ F k := by
 obtain ⟨rows, -, ho, hf, -⟩ := h
 exact fun k hk => ⟨(ho.lt hk).2, hf k hk⟩
theorem LvW.to (h : LvW F w v ls) (k : Agr F w w') (hs : ∀ k, v.ownBlock = some k → w'.heap[k]? = w.heap[k]?) (hv : ∀ k, v.ownBlock = some k → F' k) (hF : ∀ i, i < w.heap.size → F' i → F i) : LvW F' w' v ls := by
 obtain ⟨rows, hn, ho, -, hl⟩ := h
 exact ⟨rows, hn, ho.same hs, hv, fun i x L hk hL => (hl i x L hk hL).to k hF⟩
theorem NtW.to (h : NtW F w v nt) (k : Agr F w w') (hs : ∀ k, v.ownBlock = some k → w'.heap[k]? = w.heap[k]?) (hv : ∀ k, v.ownBlock = some k → F' k) (hF : ∀ i, i < w.heap.size → F' i → F i) : NtW F' w' v nt := by
 obtain ⟨rows, hn, ho, -, hl⟩ := h
 exact ⟨rows, hn, ho.same hs, hv, fun i x L hk hL => (hl i x L hk hL).to k hF⟩
theorem LvW.step (h : LvW F w v ls) (k : Agr F w w') (hs : ∀ k, v.ownBlock = some k → w'.heap[k]? = w.heap[k]?) : LvW F w' v ls := h.to k hs (fun k hk => (h.lt k hk).2) fun _ _ e => e
theorem NtW.step (h : NtW F w v nt) (k : Agr F w w') (hs : ∀ k, v.ownBlock = some k → w'.heap[k]? = w.heap[k]?) : NtW F w' v nt := h.to k hs (fun k hk => (h.lt k hk).2) fun _ _ e => e
theorem LvW.call (h : LvW F w v ls) (k : Below w.heap.size w w') : LvW F w' v ls := h.step (.of k) fun i hi => k.block i (h.lt i hi).1
theorem NtW.call (h : NtW F w v nt) (k : Below w.heap.size w w') : NtW F w' v nt := h.step (.of k) fun i hi => k.block i (h.lt i hi).1
end
theorem LvW.at_ {F : Nat → Prop} {w : World} {v : Value} {ls : List Leaf} (h : LvW F w v ls) {k : Nat} {L : Leaf} (hL : ls[k]? = some L) : ∃ g c ua ub, v = .slice (some ⟨g, 0, none⟩) ls.length c ∧ w.cell? ⟨g, k * 2, none⟩ = some ua ∧ w.cell? ⟨g, k * 2 + 1, none⟩ = some ub ∧ (∀ j, w.frozen? ⟨g, j, none⟩ = false) ∧ Stb F w fun W => LfV W W.heap.size (.agg #[ua, ub]) L := by
 obtain ⟨rows, hn, ho, hf, hl⟩ := h
 have hk := (List.getElem?_eq_some_iff.1 hL).1
 obtain ⟨g, cap, rfl, -, -⟩ := ho.pos (by simp; omega)
 have hx := List.getElem?_eq_getElem (l := rows) (i := k) (by omega)
 have hx2 : (rows.map fun x => [x.1, x.2])[k]? = some [rows[k].1, rows[k].2] := by rw [List.getElem?_map, hx]; rfl
 exact ⟨g, cap, rows[k].1, rows[k].2, by simp [hn], by simpa using ho.cell (k := k) (j := 0) hx2 rfl, ho.cell (k := k) (j := 1) hx2 rfl, fun j => ho.frozen j, hl k _ L hx hL⟩
theorem LvW.set {F : Nat → Prop} {w : World} {g n c : Nat} {ls : List Leaf} (h : LvW F w (.slice (some ⟨g, 0, none⟩) n c) ls) {k : Nat} {L : Leaf} (hk : k < ls.length) {ua ub : Value} (hL : Stb F w fun W => LfV W W.heap.size (.agg #[ua, ub]) L) :
  LvW F ((w.setCell ⟨g, k * 2, none⟩ ua).setCell ⟨g, k * 2 + 1, none⟩ ub) (.slice (some ⟨g, 0, none⟩) n c) (ls.set k L) := by
 obtain ⟨rows, hn, ho, hf, hl⟩ := h
 have hFg : F g := hf g rfl
 have hag : Agr F w ((w.setCell ⟨g, k * 2, none⟩ ua).setCell ⟨g, k * 2 + 1, none⟩ ub) := ((Agr.refl F w).set (.inl hFg) _).set (.inl hFg) _
 have hx := List.getElem?_eq_getElem (l := rows) (i := k) (by omega)
 have hx2 : (rows.map fun x => [x.1, x.2])[k]? = some [rows[k].1, rows[k].2] := by rw [List.getElem?_map, hx]; rfl
 have h1 := (ho.set (k := k) (j := 0) hx2 (by decide) ua).1
 have e1 : (rows.map fun x => [x.1, x.2]).set k ([rows[k].1, rows[k].2].set 0 ua) = (rows.set k (ua, rows[k].2)).map fun x => [x.1, x.2] := by rw [List.map_set]; rfl
 rw [e1, Nat.add_zero] at h1
 have hx3 : ((rows.set k (ua, rows[k].2)).map fun x => [x.1, x.2])[k]? = some [ua, rows[k].2] := by rw [List.getElem?_map, List.getElem?_set_self (by omega)]; rfl
 have h2 := (h1.set (k := k) (j := 1) hx3 (by decide) ub).1
 have e2 : ((rows.set k (ua, rows[k].2)).map fun x => [x.1, x.2]).set k ([ua, rows[k].2].set 1 ub) = (rows.set k (ua, ub)).map fun x => [x.1, x.2] := by rw [List.map_set, List.map_set, List.set_set]; rfl
 rw [e2] at h2
 refine ⟨rows.set k (ua, ub), by simp [hn], h2, hf, fun j x L' hj hL' => ?_⟩
 by_cases e : k = j
 ·subst e
  rw [List.getElem?_set_self (by omega)] at hj
  rw [List.getElem?_set_self hk] at hL'
  cases hj
  cases hL'
  exact hL.step hag
 ·rw [List.getElem?_set_ne e] at hj hL'
  exact (hl j x L' hj hL').step hag
end Go.Proofs.YtopoefcklipaeaaGreatDoor
namespace Go.Proofs.YtopoefcklipaeaaGreatDoor
open Go.RowKit
theorem LvW.push {F F' : Nat → Prop} {w w' : World} {v v' ua ub : Value} {o : Obj} {ls : List Leaf} {L : Leaf} {rows : List (Value × Value)} (hn : rows.length = ls.length) (_ho : OwS w 0 58 2 v (rows.map fun x => [x.1, x.2])) (hf : ∀ k, v.ownBlock = some k → F k)
  (hl : ∀ (k : Nat) (x : Value × Value) (L : Leaf), rows[k]? = some x → ls[k]? = some L → Stb F w fun W => LfV W W.heap.size (.agg #[x.1, x.2]) L)
  (hL : Stb F w fun W => LfV W W.heap.size (.agg #[ua, ub]) L) (hg : (w.alloc o).grownBy w' v.ownBlock) (ho' : OwS w' 0 58 2 v' (rows.map (fun x => [x.1, x.2]) ++ [[ua, ub]]))
  (hv : ∀ k, v'.ownBlock = some k → F' k) (hF : ∀ i, i < w.heap.size → F' i → F i) : LvW F' w' v' (ls ++ [L]) := by
 have hag : Agr F w w' := ((Agr.refl F w).alloc o).grown hg fun k hk => .inl (hf k hk)
 refine ⟨rows ++ [(ua, ub)], by simp [hn], by simpa using ho', hv, fun k x L' hk hL' => ?_⟩
 by_cases hkn : k < rows.length
 ·rw [List.getElem?_append_left hkn] at hk
  rw [List.getElem?_append_left (by omega)] at hL'
  exact (hl k x L' hk hL').to hag hF
 ·rw [List.getElem?_append_right (by omega)] at hk hL'
  rw [hn] at hk
  obtain ⟨h0, -⟩ := List.getElem?_eq_some_iff.1 hk
  have e0 : k - ls.length = 0 := by simpa using h0
  rw [e0] at hk hL'
  simp at hk hL'
  subst hk hL'
  exact hL.to hag hF
theorem NtW.push {F F' : Nat → Prop} {w w' : World} {v v' : Value} {o : Obj} {nt : List (List Nat)} {x : List Nat} {A : Option Addr} {c : Nat} {vs : List (Option Addr × Nat)} (hn : vs.length = nt.length) (hf : ∀ k, v.ownBlock = some k → F k)
  (hl : ∀ (i : Nat) (p : Option Addr × Nat) (g : List Nat), vs[i]? = some p → nt[i]? = some g → Stb F w fun W => BytS W W.heap.size p.1 g)
  (hx : Stb F w fun W => BytS W W.heap.size A x) (hg : (w.alloc o).grownBy w' v.ownBlock) (ho' : OwS w' 0 40 1 v' ((vs.zip nt).map ntRow ++ [[.slice A x.length c]]))
  (hv : ∀ k, v'.ownBlock = some k → F' k) (hF : ∀ i, i < w.heap.size → F' i → F i) : NtW F' w' v' (nt ++ [x]) := by
 have hag : Agr F w w' := ((Agr.refl F w).alloc o).grown hg fun k hk => .inl (hf k hk)
 refine ⟨vs ++ [(A, c)], by simp [hn], ?_, hv, fun k p g hk hg' => ?_⟩
 ·rw [List.zip_append hn, List.map_append]
  exact ho'
 ·by_cases hkn : k < vs.length
  ·rw [List.getElem?_append_left hkn] at hk
   rw [List.getElem?_append_left (by omega)] at hg'
   exact (hl k p g hk hg').to hag hF
  ·rw [List.getElem?_append_right (by omega)] at hk hg'
   rw [hn] at hk
   obtain ⟨h0, -⟩ := List.getElem?_eq_some_iff.1 hk
   have e0 : k - nt.length = 0 := by simpa using h0
   rw [e0] at hk hg'
   simp at hk hg'
   subst hk hg'
   exact hx.to hag hF
def MvW (F : Nat → Prop) (w : World) (v : Value) (ms : List Mv) : Prop := ∃ A c, v = .slice A ms.length c ∧ Stb F w fun W => MvS W W.heap.size A ms
theorem MvW.nil (F : Nat → Prop) (w : World) : MvW F w (.slice none 0 0) [] := ⟨none, 0, rfl, fun _W _ => RdS.nil _ _ _ _⟩
theorem MvW.to {F F' : Nat → Prop} {w w' : World} {v : Value} {ms : List Mv} (h : MvW F w v ms) (k : Agr F w w') (hF : ∀ i, i < w.heap.size → F' i → F i) : MvW F' w' v ms := by
 obtain ⟨A, c, rfl, h⟩ := h
 exact ⟨A, c, rfl, h.to k hF⟩
theorem MvW.step {F : Nat → Prop} {w w' : World} {v : Value} {ms : List Mv} (h : MvW F w v ms) (k : Agr F w w') : MvW F w' v ms := h.to k fun _ _ e => e
theorem MvW.made {F : Nat → Prop} {w : World} {B0 : Nat} {v : Value} {ms : List Mv} (h : OwS w B0 196 4 v (ms.map Mv.cells)) (hF : ∀ k, F k → k < B0) : MvW F w v ms := by
 obtain ⟨A, c, rfl, -⟩ := h.form
 refine ⟨A, c, by simp, RdS.stb h.reads fun a ha hf => ?_⟩
 have h1 := (h.lt (k := a.block) (by rw [ha]; rfl)).1
 have h2 := hF _ hf
 omega
def FsB (lv nv : Value) (k : Nat) : Prop := lv.ownBlock = some k ∨ nv.ownBlock = some k
def FE (E : Nat → Prop) (lv nv : Value) (k : Nat) : Prop := E k ∨ FsB lv nv k
def FX (X : Nat) (E : Nat → Prop) (lv nv : Value) (k : Nat) : Prop := k = X ∨ E k ∨ FsB lv nv k
def StW (w : World) (E : Nat → Prop) (lv mv nv : Value) (S : St) : Prop := LvW (FE E lv nv) w lv S.ls ∧ MvW (FE E lv nv) w mv S.ms ∧ NtW (FE E lv nv) w nv S.nt
structure StB (w : World) (X : Nat) (E : Nat → Prop) (T : TypeId) (lv mv nv : Value) (S : St) : Prop where
 box : w.heap[X]? = some (.cells #[lv, mv, nv] T (0, 0))
 ls : LvW (FX X E lv nv) w lv S.ls
 ms : MvW (FX X E lv nv) w mv S.ms
 nt : NtW (FX X E lv nv) w nv S.nt
 tl : T ≠ 58
 tn : T ≠ 40
theorem LvW.own {F : Nat → Prop} {w : World} {v : Value} {ls : List Leaf} (h : LvW F w v ls) : ∃ rows, OwS w 0 58 2 v rows := by obtain ⟨rows, -, ho, -⟩ := h; exact ⟨_, ho⟩
theorem NtW.own {F : Nat → Prop} {w : World} {v : Value} {nt : List (List Nat)} (h : NtW F w v nt) : ∃ rows, OwS w 0 40 1 v rows := by obtain ⟨rows, -, ho, -⟩ := h; exact ⟨_, ho⟩
theorem lv_nv {F F' : Nat → Prop} {w : World} {lv nv : Value} {ls : List Leaf} {nt : List (List Nat)} (h : LvW F w lv ls) (h' : NtW F' w nv nt) : ∀ k, lv.ownBlock = some k → nv.ownBlock ≠ some k := by
 obtain ⟨r1, h1⟩ := h.own
 obtain ⟨r2, h2⟩ := h'.own
 intro k hk he
 rcases h1.ne h2 (by decide) with e | e
 ·rw [hk] at e; cases e
 ·exact e (hk.trans he.symm)
theorem FsB.lt {w : World} {lv nv : Value} {ls : List Leaf} {nt : List (List Nat)} {F F' : Nat → Prop} (h : LvW F w lv ls) (h' : NtW F' w nv nt) {k : Nat} (hk : FsB lv nv k) : k < w.heap.size := by
 rcases hk with e | e
 ·exact (h.lt k e).1
 ·exact (h'.lt k e).1
theorem FX.l {X : Nat} {E : Nat → Prop} {lv nv : Value} : ∀ k, lv.ownBlock = some k → FX X E lv nv k := fun _ h => .inr (.inr (.inl h))
theorem FX.n {X : Nat} {E : Nat → Prop} {lv nv : Value} : ∀ k, nv.ownBlock = some k → FX X E lv nv k := fun _ h => .inr (.inr (.inr h))
theorem FX.x {X : Nat} {E : Nat → Prop} {lv nv : Value} : FX X E lv nv X := .inl rfl
theorem FX.r {X R : Nat} {E : Nat → Prop} {lv nv : Value} (h : E R) : FX X E lv nv R := .inr (.inl h)
theorem FX.s {X : Nat} {E : Nat → Prop} {lv nv : Value} : ∀ k, FsB lv nv k → FX X E lv nv k := fun _ h => .inr (.inr h)
theorem FX.lv' {X n : Nat} {E : Nat → Prop} {lv lv' nv : Value} (hv : lv'.ownBlock = lv.ownBlock ∨ lv'.ownBlock = some (n + 1)) : ∀ i, i < n → FX X E lv' nv i → FX X E lv nv i := fun i hi e => by
 rcases e with e | e | e | e
 ·exact .inl e
 ·exact .inr (.inl e)
 ·rcases hv with e2 | e2
  ·exact FX.l _ (e2 ▸ e)
  ·rw [e2] at e; injection e with e; omega
 ·exact FX.n _ e
theorem FX.nv' {X n : Nat} {E : Nat → Prop} {lv nv nv' : Value} (hv : nv'.ownBlock = nv.ownBlock ∨ nv'.ownBlock = some (n + 1)) : ∀ i, i < n → FX X E lv nv' i → FX X E lv nv i := fun i hi e => by
 rcases e with e | e | e | e
 ·exact .inl e
 ·exact .inr (.inl e)
 ·exact FX.l _ e
 ·rcases hv with e2 | e2
  ·exact FX.n _ (e2 ▸ e)
  ·rw [e2] at e; injection e with e; omega
section
variable {w w' : World} {X : Nat} {E : Nat → Prop} {T : TypeId} {lv mv nv lv' mv' nv' : Value} {S : St}
theorem StB.lt (h : StB w X E T lv mv nv S) : X < w.heap.size := (Array.getElem?_eq_some_iff.1 h.box).1
theorem StB.flt (h : StB w X E T lv mv nv S) (hE : ∀ k, E k → k < w.heap.size) {k : Nat} (hk : FX X E lv nv k) : k < w.heap.size := by
 rcases hk with rfl | hk | hk
 ·exact h.lt
 ·exact hE k hk
 ·exact FsB.lt h.ls h.nt hk
theorem StB.ne (h : StB w X E T lv mv nv S) : lv.ownBlock ≠ some X ∧ nv.ownBlock ≠ some X := by
 obtain ⟨r1, h1⟩ := h.ls.own
 obtain ⟨r2, h2⟩ := h.nt.own
 exact ⟨h1.blk_ne h.box (fun e => h.tl e.symm), h2.blk_ne h.box (fun e => h.tn e.symm)⟩
theorem StB.not (h : StB w X E T lv mv nv S) {Y : Nat} {cs : Array Value} {t : TypeId} {fr : Nat × Nat} (hb : w.heap[Y]? = some (.cells cs t fr)) (h1 : t ≠ 58) (h2 : t ≠ 40) : ¬ FsB lv nv Y := by
 obtain ⟨r1, g1⟩ := h.ls.own
 obtain ⟨r2, g2⟩ := h.nt.own
 rintro (e | e)
 ·exact g1.blk_ne hb (fun e => h1 e.symm) e
 ·exact g2.blk_ne hb (fun e => h2 e.symm) e
theorem StB.call (h : StB w X E T lv mv nv S) (hb : Below w.heap.size w w') : StB w' X E T lv mv nv S :=
 ⟨(hb.block _ h.lt).trans h.box, h.ls.call hb, h.ms.step (.of hb), h.nt.call hb, h.tl, h.tn⟩
theorem StB.cells (h : StB w X E T lv mv nv S) : w.cell? ⟨X, 0, none⟩ = some lv ∧ w.cell? ⟨X, 1, none⟩ = some mv ∧ w.cell? ⟨X, 2, none⟩ = some nv ∧ ∀ j, w.frozen? ⟨X, j, none⟩ = false :=
 ⟨by rw [cell_of_row _ _ _ _ _ _ h.box]; rfl, by rw [cell_of_row _ _ _ _ _ _ h.box]; rfl, by rw [cell_of_row _ _ _ _ _ _ h.box]; rfl, fun j => frozen_blk h.box j⟩
theorem StW.box {w0 : World} {E0 : Nat → Prop} (h : StW w0 E0 lv mv nv S) (hb : Below w0.heap.size w0 w) (hx : w.heap[X]? = some (.cells #[lv, mv, nv] T (0, 0))) (h1 : w0.heap.size ≤ X) (h2 : ∀ k, k < w0.heap.size → E k → E0 k) (hT : T ≠ 58 ∧ T ≠ 40) : StB w X E T lv mv nv S := by
 have hF : ∀ i, i < w0.heap.size → FX X E lv nv i → FE E0 lv nv i := fun i hi e => by
  rcases e with e | e | e
  ·omega
  ·exact .inl (h2 i hi e)
  ·exact .inr e
 exact ⟨hx, h.1.to (.of hb) (fun k hk => hb.block k (h.1.lt k hk).1) FX.l hF, h.2.1.to (.of hb) hF, h.2.2.to (.of hb) (fun k hk => hb.block k (h.2.2.lt k hk).1) FX.n hF, hT.1, hT.2⟩
theorem StB.val {E0 : Nat → Prop} (h : StB w X E T lv mv nv S) (hE : ∀ k, E0 k → E k) : StW w E0 lv mv nv S := by
 have hF : ∀ i, i < w.heap.size → FE E0 lv nv i → FX X E lv nv i := fun i _ e => by
  rcases e with e | e
  ·exact .inr (.inl (hE i e))
  ·exact FX.s _ e
 exact ⟨h.ls.to (Agr.refl _ _) (fun _ _ => rfl) (fun k hk => .inr (.inl hk)) hF, h.ms.to (Agr.refl _ _) hF, h.nt.to (Agr.refl _ _) (fun _ _ => rfl) (fun k hk => .inr (.inr hk)) hF⟩
theorem StW.turn (h : StW w E lv mv nv S) (ha : Agr (FE E lv nv) w w') (hk : ∀ k, FsB lv nv k → w'.heap[k]? = w.heap[k]?) : StW w' E lv mv nv S :=
 ⟨h.1.step ha fun k e => hk k (.inl e), h.2.1.step ha, h.2.2.step ha fun k e => hk k (.inr e)⟩
theorem StW.call (h : StW w E lv mv nv S) (hb : Below w.heap.size w w') : StW w' E lv mv nv S := ⟨h.1.call hb, h.2.1.step (.of hb), h.2.2.call hb⟩
theorem StW.reads (h : StW w E lv mv nv S) : StV w w.heap.size (.agg #[lv, mv, nv]) S := by
 obtain ⟨A, c, rfl, h1⟩ := h.1.form
 obtain ⟨A2, c2, rfl, h2⟩ := h.2.1
 obtain ⟨A3, c3, rfl, h3⟩ := h.2.2.form
 exact ⟨A, c, A2, c2, A3, c3, rfl, h1, h2.now, h3⟩
theorem StB.other (h : StB w X E T lv mv nv S) (ha : Agr (FX X E lv nv) w w') (h1 : w'.heap[X]? = w.heap[X]?) (h2 : ∀ k, FsB lv nv k → w'.heap[k]? = w.heap[k]?) : StB w' X E T lv mv nv S :=
 ⟨h1.trans h.box, h.ls.step ha fun k hk => h2 k (.inl hk), h.ms.step ha, h.nt.step ha fun k hk => h2 k (.inr hk), h.tl, h.tn⟩
theorem StB.setR {R : Nat} (h : StB w X E T lv mv nv S) (hER : E R) (hX : R ≠ X) (hR : ¬ FsB lv nv R) (j : Nat) (u : Value) : StB (w.setCell ⟨R, j, none⟩ u) X E T lv mv nv S :=
 h.other ((Agr.refl _ _).set (.inl (show FX X E _ _ R from FX.r hER)) _) (heap_setCell_other _ _ _ _ fun e => hX e.symm) fun k hk => heap_setCell_other _ _ _ _ fun e => hR (by rw [← show k = R from e]; exact hk)
theorem StB.setM (h : StB w X E T lv mv nv S) {ms : List Mv} (hm : MvW (FX X E lv nv) w mv' ms) : StB (w.setCell ⟨X, 1, none⟩ mv') X E T lv mv' nv ⟨S.ls, ms, S.nt⟩ := by
 have ha : Agr (FX X E lv nv) w (w.setCell ⟨X, 1, none⟩ mv') := (Agr.refl _ _).set (.inl (show FX X E _ _ X from FX.x)) _
 have hne := h.ne
 have hk : ∀ k, k ≠ X → (w.setCell ⟨X, 1, none⟩ mv').heap[k]? = w.heap[k]? := fun k hk => heap_setCell_other _ _ _ _ hk
 exact ⟨heap_setCell_same w X 1 _ _ mv' h.box, h.ls.step ha fun k e => hk k fun e2 => hne.1 (e.trans (by rw [e2])), hm.step ha, h.nt.step ha fun k e => hk k fun e2 => hne.2 (e.trans (by rw [e2])), h.tl, h.tn⟩
theorem StB.setL {g n c : Nat} (h : StB w X E T (.slice (some ⟨g, 0, none⟩) n c) mv nv S) {k : Nat} {L : Leaf} (hk : k < S.ls.length) {ua ub : Value} (hL : Stb (FX X E (.slice (some ⟨g, 0, none⟩) n c) nv) w fun W => LfV W W.heap.size (.agg #[ua, ub]) L) :
  StB ((w.setCell ⟨g, k * 2, none⟩ ua).setCell ⟨g, k * 2 + 1, none⟩ ub) X E T (.slice (some ⟨g, 0, none⟩) n c) mv nv ⟨S.ls.set k L, S.ms, S.nt⟩ := by
 have hne := h.ne
 have hln := lv_nv h.ls h.nt g rfl
 have hFg : FX X E (.slice (some ⟨g, 0, none⟩) n c) nv g := FX.l _ rfl
 have ha : Agr (FX X E (.slice (some ⟨g, 0, none⟩) n c) nv) w ((w.setCell ⟨g, k * 2, none⟩ ua).setCell ⟨g, k * 2 + 1, none⟩ ub) := ((Agr.refl _ w).set (.inl hFg) _).set (.inl hFg) _
 have hk2 : ∀ j, j ≠ g → ((w.setCell ⟨g, k * 2, none⟩ ua).setCell ⟨g, k * 2 + 1, none⟩ ub).heap[j]? = w.heap[j]? := fun j hj => (heap_setCell_other _ _ _ _ hj).trans (heap_setCell_other _ _ _ _ hj)
 refine ⟨(hk2 X fun e => hne.1 (by rw [e]; rfl)).trans h.box, h.ls.set hk hL, h.ms.step ha, h.nt.step ha fun j e => hk2 j fun e2 => hln (by rw [e, e2]), h.tl, h.tn⟩
end
theorem StB.pushL {w w' : World} {X : Nat} {E : Nat → Prop} {T : TypeId} {lv mv nv lv' ua ub : Value} {S : St} {L : Leaf} {o : Obj} {rows : List (Value × Value)} (h : StB w X E T lv mv nv S) (hn : rows.length = S.ls.length) (ho : OwS w 0 58 2 lv (rows.map fun x => [x.1, x.2]))
  (hl : ∀ (k : Nat) (x : Value × Value) (L : Leaf), rows[k]? = some x → S.ls[k]? = some L → Stb (FX X E lv nv) w fun W => LfV W W.heap.size (.agg #[x.1, x.2]) L)
  (hL : Stb (FX X E lv nv) w fun W => LfV W W.heap.size (.agg #[ua, ub]) L) (hg : (w.alloc o).grownBy w' lv.ownBlock) (ho' : OwS w' 0 58 2 lv' (rows.map (fun x => [x.1, x.2]) ++ [[ua, ub]])) (hv : lv'.ownBlock = lv.ownBlock ∨ lv'.ownBlock = some (w.heap.size + 1)) :
  StB (w'.setCell ⟨X, 0, none⟩ lv') X E T lv' mv nv ⟨S.ls ++ [L], S.ms, S.nt⟩ ∧ w'.heap[X]? = some (.cells #[lv, mv, nv] T (0, 0)) := by
 have hne := h.ne
 have hlt := h.lt
 have hF := FX.lv' (X := X) (E := E) (nv := nv) hv
 have hag : Agr (FX X E lv nv) w w' := ((Agr.refl _ w).alloc o).grown hg fun k hk => .inl (FX.l _ hk)
 have hl' := LvW.push hn ho FX.l hl hL hg ho' (F' := FX X E lv' nv) FX.l hF
 have hbx : w'.heap[X]? = some (.cells #[lv, mv, nv] T (0, 0)) := (hg.block X (by simp; omega) (fun e => hne.1 e.symm)).trans ((Below.heap_alloc _ _ _ hlt).trans h.box)
 have hnt : NtW (FX X E lv' nv) w' nv S.nt := h.nt.to hag (fun k hk => (hg.block k (by have := (h.nt.lt k hk).1; simp; omega) (fun e => lv_nv h.ls h.nt k e.symm hk)).trans (Below.heap_alloc _ _ _ (h.nt.lt k hk).1)) FX.n hF
 have hlv' : lv'.ownBlock ≠ some X := by
  rcases hv with e | e
  ·rw [e]; exact hne.1
  ·rw [e]; intro e; injection e with e; omega
 have ha2 : Agr (FX X E lv' nv) w' (w'.setCell ⟨X, 0, none⟩ lv') := (Agr.refl _ _).set (.inl (show FX X E _ _ X from FX.x)) _
 have hk : ∀ k, k ≠ X → (w'.setCell ⟨X, 0, none⟩ lv').heap[k]? = w'.heap[k]? := fun k hk => heap_setCell_other _ _ _ _ hk
 exact ⟨⟨heap_setCell_same w' X 0 _ _ lv' hbx, hl'.step ha2 fun k e => hk k fun e2 => hlv' (e.trans (by rw [e2])), (h.ms.to hag hF).step ha2, hnt.step ha2 fun k e => hk k fun e2 => hne.2 (e.trans (by rw [e2])), h.tl, h.tn⟩, hbx⟩
theorem StB.pushN {w w' : World} {X : Nat} {E : Nat → Prop} {T : TypeId} {lv mv nv nv' : Value} {S : St} {x : List Nat} {A : Option Addr} {c : Nat} {o : Obj} {vs : List (Option Addr × Nat)} (h : StB w X E T lv mv nv S) (hn : vs.length = S.nt.length)
  (hl : ∀ (i : Nat) (p : Option Addr × Nat) (g : List Nat), vs[i]? = some p → S.nt[i]? = some g → Stb (FX X E lv nv) w fun W => BytS W W.heap.size p.1 g)
  (hx : Stb (FX X E lv nv) w fun W => BytS W W.heap.size A x) (hg : (w.alloc o).grownBy w' nv.ownBlock) (ho' : OwS w' 0 40 1 nv' ((vs.zip S.nt).map ntRow ++ [[.slice A x.length c]])) (hv : nv'.ownBlock = nv.ownBlock ∨ nv'.ownBlock = some (w.heap.size + 1)) :
  StB (w'.setCell ⟨X, 2, none⟩ nv') X E T lv mv nv' ⟨S.ls, S.ms, S.nt ++ [x]⟩ ∧ w'.heap[X]? = some (.cells #[lv, mv, nv] T (0, 0)) := by
 have hne := h.ne
 have hlt := h.lt
 have hF := FX.nv' (X := X) (E := E) (lv := lv) hv
 have hag : Agr (FX X E lv nv) w w' := ((Agr.refl _ w).alloc o).grown hg fun k hk => .inl (FX.n _ hk)
 have hn' := NtW.push (c := c) hn FX.n hl hx hg ho' (F' := FX X E lv nv') FX.n hF
 have hbx : w'.heap[X]? = some (.cells #[lv, mv, nv] T (0, 0)) := (hg.block X (by simp; omega) (fun e => hne.2 e.symm)).trans ((Below.heap_alloc _ _ _ hlt).trans h.box)
 have hls : LvW (FX X E lv nv') w' lv S.ls := h.ls.to hag (fun k hk => (hg.block k (by have := (h.ls.lt k hk).1; simp; omega) (fun e => lv_nv h.ls h.nt k hk e.symm)).trans (Below.heap_alloc _ _ _ (h.ls.lt k hk).1)) FX.l hF
 have hnv' : nv'.ownBlock ≠ some X := by
  rcases hv with e | e
  ·rw [e]; exact hne.2
  ·rw [e]; intro e; injection e with e; omega
 have ha2 : Agr (FX X E lv nv') w' (w'.setCell ⟨X, 2, none⟩ nv') := (Agr.refl _ _).set (.inl (show FX X E _ _ X from FX.x)) _
 have hk : ∀ k, k ≠ X → (w'.setCell ⟨X, 2, none⟩ nv').heap[k]? = w'.heap[k]? := fun k hk => heap_setCell_other _ _ _ _ hk
 exact ⟨⟨heap_setCell_same w' X 2 _ _ nv' hbx, hls.step ha2 fun k e => hk k fun e2 => hne.1 (e.trans (by rw [e2])), (h.ms.to hag hF).step ha2, hn'.step ha2 fun k e => hk k fun e2 => hnv' (e.trans (by rw [e2])), h.tl, h.tn⟩, hbx⟩
theorem bel_trans {a b c : World} (h : Below a.heap.size a b) (k : Below b.heap.size b c) : Below a.heap.size a c := h.trans (k.mono h.size)
end Go.Proofs.YtopoefcklipaeaaGreatDoor
