/- The state of layout's measure, in memory. No program is walked here. -/
import Derived.Test.YtjgjofepedcfnaaGreatGRe
namespace Go.Proofs.YtjgjofepedcfnaaGreat
open Go.RowKit
def numC (L : LayD) (A : Option Addr) (c : Nat) (rv ov : Value) (ho ca : Int) : Array Value :=
 #[.int .i64 L.disks, .slice A L.n c, .int .i64 L.tiles, .int .i64 L.spare, .int .i64 L.w, .int .i64 L.r, .int .i64 L.n, rv, ov, .int .i64 ho, .int .i64 ca]
def numZ : Array Value := #[.int .i64 0, .slice none 0 0, .int .i64 0, .int .i64 0, .int .i64 0, .int .i64 0, .int .i64 0, .slice none 0 0, .slice none 0 0, .int .i64 0, .int .i64 0]
structure MeaS (w wr : World) (Q O N : Nat) (L : LayD) (A : Option Addr) (c g : Nat) (rv : Value) (vs : Nat → Value) (ls : Nat → List Nat) : Prop where
 box : wr.heap[Q]? = some (.cells (numC L A c rv (.slice (some ⟨O, 0, none⟩) L.disks L.disks) L.homes L.blocks) 133)
 on : wr.heap[O]? = some (.cells ((List.range L.disks).map vs).toArray 131)
 rks : OwS wr (O + 1) 131 1 rv ((List.range g).map fun k => [vs (L.disks + k)])
 fam : Fam wr (O + 1) N vs ls
 lay : LayB wr w.heap.size L A c
 res : wr.heap[w.heap.size + 1]? = some (.cells numZ 133)
 bel : Below w.heap.size w wr
 ord : w.heap.size + 1 < Q ∧ Q < O
section
variable {w wr w' : World} {Q O N : Nat} {L : LayD} {A : Option Addr} {c g : Nat} {rv : Value} {vs : Nat → Value} {ls : Nat → List Nat}
theorem blk_lt {w : World} {X : Nat} {o : Obj} (h : w.heap[X]? = some o) : X < w.heap.size := (Array.getElem?_eq_some_iff.1 h).1
theorem MeaS.below (h : MeaS w wr Q O N L A c g rv vs ls) (hb : Below wr.heap.size wr w') : MeaS w w' Q O N L A c g rv vs ls :=
 ⟨(hb.block _ (blk_lt h.box)).trans h.box, (hb.block _ (blk_lt h.on)).trans h.on, h.rks.below hb, h.fam.below hb, h.lay.below hb h.lay.lt, (hb.block _ (blk_lt h.res)).trans h.res, h.bel.trans (hb.mono h.bel.size), h.ord⟩
theorem MeaS.onAt (h : MeaS w wr Q O N L A c g rv vs ls) {d : Nat} (hd : d < L.disks) : wr.cell? ⟨O, d, none⟩ = some (vs d) ∧ wr.frozen? ⟨O, d, none⟩ = false := by
 refine ⟨?_, frozen_of_row _ _ _ _ _ h.on⟩
 rw [cell_of_row _ _ _ _ _ _ h.on]
 simp [hd]
theorem MeaS.q8 (h : MeaS w wr Q O N L A c g rv vs ls) : wr.cell? ⟨Q, 8, none⟩ = some (.slice (some ⟨O, 0, none⟩) L.disks L.disks) := by rw [cell_of_row _ _ _ _ _ _ h.box]; rfl
theorem MeaS.q7 (h : MeaS w wr Q O N L A c g rv vs ls) : wr.cell? ⟨Q, 7, none⟩ = some rv ∧ wr.frozen? ⟨Q, 7, none⟩ = false := ⟨by rw [cell_of_row _ _ _ _ _ _ h.box]; rfl, frozen_of_row _ _ _ _ _ h.box⟩
theorem MeaS.cur (h : MeaS w wr Q O N L A c g rv vs ls) {k : Nat} (hk : L.disks + g ≤ k) (hkN : k < N) {v' : Value} {l' : List Nat} (hg : wr.grownBy w' (vs k).ownBlock) (ho : OwS w' (O + 1) 3 1 v' (rowsI l'))
  (hl : v'.ownBlock = (vs k).ownBlock ∨ ∃ q, v'.ownBlock = some q ∧ wr.heap.size ≤ q) : MeaS w w' Q O N L A c g rv (updF vs k v') (updF ls k l') := by
 have hf := h.fam k hkN
 have hb : Below w.heap.size wr w' ∨ True := .inr trivial
 refine ⟨(hg.block _ (blk_lt h.box) (fun e => hf.1.blk_ne h.box (by decide) e.symm)).trans h.box, ?_, ?_, h.fam.upd hkN hg ho hl, h.lay.grown hf.1 (by decide) hg, (hg.block _ (blk_lt h.res) (fun e => hf.1.blk_ne h.res (by decide) e.symm)).trans h.res, h.bel.grown hg h.bel.size (fun q hq => by have := (hf.1.lt hq).1; have := h.ord; omega), h.ord⟩
 ·have e : (List.range L.disks).map (updF vs k v') = (List.range L.disks).map vs := by
   apply List.map_congr_left
   intro x hx
   rw [List.mem_range] at hx
   unfold updF
   rw [if_neg (by omega)]
  rw [e]
  exact (hg.block _ (blk_lt h.on) (fun e => hf.1.blk_ne h.on (by decide) e.symm)).trans h.on
 ·have e : ((List.range g).map fun j => [updF vs k v' (L.disks + j)]) = (List.range g).map fun j => [vs (L.disks + j)] := by
   apply List.map_congr_left
   intro x hx
   rw [List.mem_range] at hx
   unfold updF
   rw [if_neg (by omega)]
  rw [e]
  exact h.rks.kept hg (h.rks.ne hf.1 (by decide))
theorem MeaS.onSet (h : MeaS w wr Q O N L A c g rv vs ls) {d : Nat} (hd : d < L.disks) (hdN : d < N) {v' : Value} {l' : List Nat} (hg : wr.grownBy w' (vs d).ownBlock) (ho : OwS w' (O + 1) 3 1 v' (rowsI l'))
  (hl : v'.ownBlock = (vs d).ownBlock ∨ ∃ q, v'.ownBlock = some q ∧ wr.heap.size ≤ q) : MeaS w (w'.setCell ⟨O, d, none⟩ v') Q O N L A c g rv (updF vs d v') (updF ls d l') := by
 have hf := h.fam d hdN
 have hbox := (hg.block _ (blk_lt h.box) (fun e => hf.1.blk_ne h.box (by decide) e.symm)).trans h.box
 have hon := (hg.block _ (blk_lt h.on) (fun e => hf.1.blk_ne h.on (by decide) e.symm)).trans h.on
 have hres := (hg.block _ (blk_lt h.res) (fun e => hf.1.blk_ne h.res (by decide) e.symm)).trans h.res
 have hord := h.ord
 refine ⟨(heap_setCell_other _ _ _ _ (by show Q ≠ O; omega)).trans hbox, ?_, ?_, (h.fam.upd hdN hg ho hl).far hon (by decide) v', (h.lay.grown hf.1 (by decide) hg).far (by show _ ≠ O; omega) _, (heap_setCell_other _ _ _ _ (by show _ ≠ O; omega)).trans hres,
  (h.bel.grown hg h.bel.size (fun q hq => by have := (hf.1.lt hq).1; omega)).setCell (by show _ ≤ O; omega) _, hord⟩
 ·rw [heap_setCell_same _ O d _ _ _ hon]
  congr 2
  apply Array.ext_getElem?
  intro i
  rw [Array.getElem?_setIfInBounds]
  simp only [List.getElem?_toArray, List.getElem?_map, List.size_toArray, List.length_map, List.length_range]
  by_cases e : d = i
  ·subst e
   rw [if_pos rfl, if_pos hd, List.getElem?_range hd]
   simp [updF]
  ·rw [if_neg e]
   by_cases hi : i < L.disks
   ·rw [List.getElem?_range hi]
    simp [updF, Ne.symm e]
   ·rw [List.getElem?_eq_none (by simpa using hi)]
    rfl
 ·have e : ((List.range g).map fun j => [updF vs d v' (L.disks + j)]) = (List.range g).map fun j => [vs (L.disks + j)] := by
   apply List.map_congr_left
   intro x hx
   unfold updF
   rw [if_neg (by omega)]
  rw [e]
  exact (h.rks.kept hg (h.rks.ne hf.1 (by decide))).far (fun he => by
   have := (h.rks.lt he).1
   simp at this
   omega) _
theorem MeaS.push (h : MeaS w wr Q O (L.disks + g + 1) L A c g rv vs ls) {rv' : Value} (hg : wr.grownBy w' rv.ownBlock) (ho : OwS w' (O + 1) 131 1 rv' ((List.range g).map (fun k => [vs (L.disks + k)]) ++ [[vs (L.disks + g)]])) :
  MeaS w (w'.setCell ⟨Q, 7, none⟩ rv') Q O (L.disks + g + 1) L A c (g + 1) rv' vs ls := by
 have hord := h.ord
 have hbox := (hg.block _ (blk_lt h.box) (fun e => h.rks.blk_ne h.box (by decide) e.symm)).trans h.box
 have hon := (hg.block _ (blk_lt h.on) (fun e => by have := (h.rks.lt e.symm).1; omega)).trans h.on
 have hres := (hg.block _ (blk_lt h.res) (fun e => h.rks.blk_ne h.res (by decide) e.symm)).trans h.res
 refine ⟨?_, (heap_setCell_other _ _ _ _ (by show O ≠ Q; omega)).trans hon, ?_, (h.fam.kept h.rks (by decide) hg).far hbox (by decide) _, (h.lay.grown h.rks (by decide) hg).far (by show _ ≠ Q; omega) _, (heap_setCell_other _ _ _ _ (by show _ ≠ Q; omega)).trans hres,
  (h.bel.grown hg h.bel.size (fun q hq => by have := (h.rks.lt hq).1; omega)).setCell (by show _ ≤ Q; omega) _, hord⟩
 ·rw [heap_setCell_same _ Q 7 _ _ _ hbox]
  rfl
 ·rw [List.range_succ, List.map_append]
  exact ho.far (fun he => by have := (ho.lt he).1; simp at this; omega) _
theorem MeaS.add (h : MeaS w wr Q O (L.disks + g) L A c g rv vs ls) : MeaS w wr Q O (L.disks + g + 1) L A c g rv (updF vs (L.disks + g) (.slice none 0 0)) (updF ls (L.disks + g) []) := by
 refine ⟨h.box, ?_, ?_, h.fam.add, h.lay, h.res, h.bel, h.ord⟩
 ·have e : (List.range L.disks).map (updF vs (L.disks + g) (.slice none 0 0)) = (List.range L.disks).map vs := by
   apply List.map_congr_left
   intro x hx
   rw [List.mem_range] at hx
   unfold updF
   rw [if_neg (by omega)]
  rw [e]
  exact h.on
 ·have e : ((List.range g).map fun j => [updF vs (L.disks + g) (.slice none 0 0) (L.disks + j)]) = (List.range g).map fun j => [vs (L.disks + j)] := by
   apply List.map_congr_left
   intro x hx
   rw [List.mem_range] at hx
   unfold updF
   rw [if_neg (by omega)]
  rw [e]
  exact h.rks
theorem MeaS.congr {ls' : Nat → List Nat} (h : MeaS w wr Q O N L A c g rv vs ls) (he : ∀ i, i < N → ls i = ls' i) : MeaS w wr Q O N L A c g rv vs ls' :=
 ⟨h.box, h.on, h.rks, h.fam.congr he, h.lay, h.res, h.bel, h.ord⟩
end
/-! ### what comes out -/
def prV (v : Value) : Option Addr × Nat := match v with | .slice a _ c => (a, c) | _ => (none, 0)
theorem prV_form {w : World} {B : Nat} {v : Value} {l : List Nat} (h : OwS w B 3 1 v (rowsI l)) : v = .slice (prV v).1 l.length (prV v).2 := by
 obtain ⟨A, c, rfl, -, -⟩ := h.form
 rw [rowsI_len]
 rfl
theorem gsV_of {w : World} {A : Option Addr} {B m k0 : Nat} {vs : Nat → Value} {ls : Nat → List Nat} {N : Nat} (hf : Fam w B N vs ls) (hN : k0 + m ≤ N) (hr : RdS w w.heap.size 1 A ((List.range m).map fun k => [vs (k0 + k)])) : GsV w w.heap.size A ((List.range m).map fun k => ls (k0 + k)) := by
 refine ⟨(List.range m).map fun k => prV (vs (k0 + k)), by simp, ?_, ?_⟩
 ·have e : (((List.range m).map fun k => prV (vs (k0 + k))).zip ((List.range m).map fun k => ls (k0 + k))).map (fun p => [Value.slice p.1.1 p.2.length p.1.2]) = (List.range m).map fun k => [vs (k0 + k)] := by
   rw [List.zip_map', List.map_map]
   apply List.map_congr_left
   intro x hx
   rw [List.mem_range] at hx
   simp only [Function.comp]
   rw [← prV_form (hf (k0 + x) (by omega)).1]
  rw [e]
  exact hr
 ·intro i p gl hp hg
  rw [List.getElem?_map] at hp hg
  by_cases hi : i < m
  ·rw [List.getElem?_range hi] at hp hg
   simp only [Option.map_some, Option.some.injEq] at hp hg
   subst hp hg
   have h := (hf (k0 + i) (by omega)).1
   rw [prV_form h] at h
   exact h.reads
  ·rw [List.getElem?_eq_none (by simpa using hi)] at hp
   cases hp
end Go.Proofs.YtjgjofepedcfnaaGreat
