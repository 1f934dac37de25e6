/- The state of layout's measure, in memory. No program is walked here.
Walk of layout's measure on a valid layout. -/
import Derived.Test.YtopoefcklipaeaaGreatDoorGRe
import Derived.Deep.RegionHeld3
namespace Go.Proofs.YtopoefcklipaeaaGreatDoor
open Go.RowKit
def numC (L : LayD) (A : Option Addr) (c : Nat) (rv ov : Value) (ho ca : Int) : Array Value :=
 #[.int .i64 L.disks, .slice A L.n c, .int .i64 L.tiles, .int .i64 L.spare, .int .i64 L.w, .int .i64 L.r, .int .i64 L.n, rv, ov, .int .i64 ho, .int .i64 ca]
def numZ : Array Value := #[.int .i64 0, .slice none 0 0, .int .i64 0, .int .i64 0, .int .i64 0, .int .i64 0, .int .i64 0, .slice none 0 0, .slice none 0 0, .int .i64 0, .int .i64 0]
structure MeaS (w wr : World) (Q O N : Nat) (L : LayD) (A : Option Addr) (c g : Nat) (rv : Value) (vs : Nat → Value) (ls : Nat → List Nat) : Prop where
 box : wr.heap[Q]? = some (.cells (numC L A c rv (.slice (some ⟨O, 0, none⟩) L.disks L.disks) L.homes L.blocks) 180)
 on : wr.heap[O]? = some (.cells ((List.range L.disks).map vs).toArray 47)
 rks : OwS wr (O + 1) 47 1 rv ((List.range g).map fun k => [vs (L.disks + k)])
 fam : Fam wr (O + 1) N vs ls
 lay : LayB wr w.heap.size L A c
 res : wr.heap[w.heap.size + 1]? = some (.cells numZ 180)
 bel : Below w.heap.size w wr
 ord : w.heap.size + 1 < Q ∧ Q < O
section
variable {w wr w' : World} {Q O N : Nat} {L : LayD} {A : Option Addr} {c g : Nat} {rv : Value} {vs : Nat → Value} {ls : Nat → List Nat}
theorem blk_lt {w : World} {X : Nat} {o : Obj} (h : w.heap[X]? = some o) : X < w.heap.size := (Array.getElem?_eq_some_iff.1 h).1
theorem MeaS.below (h : MeaS w wr Q O N L A c g rv vs ls) (hb : Below wr.heap.size wr w') : MeaS w w' Q O N L A c g rv vs ls :=
 ⟨(hb.block _ (blk_lt h.box)).trans h.box, (hb.block _ (blk_lt h.on)).trans h.on, h.rks.below hb, h.fam.below hb, h.lay.below hb h.lay.lt, (hb.block _ (blk_lt h.res)).trans h.res, h.bel.trans (hb.mono h.bel.size), h.ord⟩
theorem MeaS.onAt (h : MeaS w wr Q O N L A c g rv vs ls) {d : Nat} (hd : d < L.disks) : wr.cell? ⟨O, d, none⟩ = some (vs d) ∧ wr.frozen? ⟨O, d, none⟩ = false := by
 refine ⟨?_, frozen_of_row _ _ _ _ _ h.on⟩
 rw [cell_of_row _ _ _ _ _ _ h.on]
 simp [hd]
theorem MeaS.q8 (h : MeaS w wr Q O N L A c g rv vs ls) : wr.cell? ⟨Q, 8, none⟩ = some (.slice (some ⟨O, 0, none⟩) L.disks L.disks) := by rw [cell_of_row _ _ _ _ _ _ h.box]; rfl
theorem MeaS.q7 (h : MeaS w wr Q O N L A c g rv vs ls) : wr.cell? ⟨Q, 7, none⟩ = some rv ∧ wr.frozen? ⟨Q, 7, none⟩ = false := ⟨by rw [cell_of_row _ _ _ _ _ _ h.box]; rfl, frozen_of_row _ _ _ _ _ h.box⟩
theorem MeaS.cur (h : MeaS w wr Q O N L A c g rv vs ls) {k : Nat} (hk : L.disks + g ≤ k) (hkN : k < N) {v' : Value} {l' : List Nat} (hg : wr.grownBy w' (vs k).ownBlock) (ho : OwS w' (O + 1) 3 1 v' (rowsI l'))
  (hl : v'.ownBlock = (vs k).ownBlock ∨ ∃ q, v'.ownBlock = some q ∧ wr.heap.size ≤ q) : MeaS w w' Q O N L A c g rv (updF vs k v') (updF ls k l') := by
 have hf := h.fam k hkN
 have hb : Below w.heap.size wr w' ∨ True := .inr trivial
 refine ⟨(hg.block _ (blk_lt h.box) (fun e => hf.1.blk_ne h.box (by decide) e.symm)).trans h.box, ?_, ?_, h.fam.upd hkN hg ho hl, h.lay.grown hf.1 (by decide) hg, (hg.block _ (blk_lt h.res) (fun e => hf.1.blk_ne h.res (by decide) e.symm)).trans h.res, h.bel.grown hg h.bel.size (fun q hq => by have := (hf.1.lt hq).1; have := h.ord; omega), h.ord⟩
 ·have e : (List.range L.disks).map (updF vs k v') = (List.range L.disks).map vs := by
   apply List.map_congr_left
   intro x hx
   rw [List.mem_range] at hx
   unfold updF
   rw [if_neg (by omega)]
  rw [e]
  exact (hg.block _ (blk_lt h.on) (fun e => hf.1.blk_ne h.on (by decide) e.symm)).trans h.on
 ·have e : ((List.range g).map fun j => [updF vs k v' (L.disks + j)]) = (List.range g).map fun j => [vs (L.disks + j)] := by
   apply List.map_congr_left
   intro x hx
   rw [List.mem_range] at hx
   unfold updF
   rw [if_neg (by omega)]
  rw [e]
  exact h.rks.kept hg (h.rks.ne hf.1 (by decide))
theorem MeaS.onSet (h : MeaS w wr Q O N L A c g rv vs ls) {d : Nat} (hd : d < L.disks) (hdN : d < N) {v' : Value} {l' : List Nat} (hg : wr.grownBy w' (vs d).ownBlock) (ho : OwS w' (O + 1) 3 1 v' (rowsI l'))
  (hl : v'.ownBlock = (vs d).ownBlock ∨ ∃ q, v'.ownBlock = some q ∧ wr.heap.size ≤ q) : MeaS w (w'.setCell ⟨O, d, none⟩ v') Q O N L A c g rv (updF vs d v') (updF ls d l') := by
 have hf := h.fam d hdN
 have hbox := (hg.block _ (blk_lt h.box) (fun e => hf.1.blk_ne h.box (by decide) e.symm)).trans h.box
 have hon := (hg.block _ (blk_lt h.on) (fun e => hf.1.blk_ne h.on (by decide) e.symm)).trans h.on
 have hres := (hg.block _ (blk_lt h.res) (fun e => hf.1.blk_ne h.res (by decide) e.symm)).trans h.res
 have hord := h.ord
 refine ⟨(heap_setCell_other _ _ _ _ (by show Q ≠ O; omega)).trans hbox, ?_, ?_, (h.fam.upd hdN hg ho hl).far hon (by decide) v', (h.lay.grown hf.1 (by decide) hg).far (by show _ ≠ O; omega) _, (heap_setCell_other _ _ _ _ (by show _ ≠ O; omega)).trans hres,
  (h.bel.grown hg h.bel.size (fun q hq => by have := (hf.1.lt hq).1; omega)).setCell (by show _ ≤ O; omega) _, hord⟩
 ·rw [heap_setCell_same _ O d _ _ _ hon]
  congr 2
  apply Array.ext_getElem?
  intro i
  rw [Array.getElem?_setIfInBounds]
  simp only [List.getElem?_toArray, List.getElem?_map, List.size_toArray, List.length_map, List.length_range]
  by_cases e : d = i
  ·subst e
   rw [if_pos rfl, if_pos hd, List.getElem?_range hd]
   simp [updF]
  ·rw [if_neg e]
   by_cases hi : i < L.disks
   ·rw [List.getElem?_range hi]
    simp [updF, Ne.symm e]
   ·rw [List.getElem?_eq_none (by simpa using hi)]
    rfl
 ·have e : ((List.range g).map fun j => [updF vs d v' (L.disks + j)]) = (List.range g).map fun j => [vs (L.disks + j)] := by
   apply List.map_congr_left
   intro x hx
   unfold updF
   rw [if_neg (by omega)]
  rw [e]
  exact (h.rks.kept hg (h.rks.ne hf.1 (by decide))).far (fun he => by
   have := (h.rks.lt he).1
   simp at this
   omega) _
theorem MeaS.push (h : MeaS w wr Q O (L.disks + g + 1) L A c g rv vs ls) {rv' : Value} (hg : wr.grownBy w' rv.ownBlock) (ho : OwS w' (O + 1) 47 1 rv' ((List.range g).map (fun k => [vs (L.disks + k)]) ++ [[vs (L.disks + g)]])) :
  MeaS w (w'.setCell ⟨Q, 7, none⟩ rv') Q O (L.disks + g + 1) L A c (g + 1) rv' vs ls := by
 have hord := h.ord
 have hbox := (hg.block _ (blk_lt h.box) (fun e => h.rks.blk_ne h.box (by decide) e.symm)).trans h.box
 have hon := (hg.block _ (blk_lt h.on) (fun e => by have := (h.rks.lt e.symm).1; omega)).trans h.on
 have hres := (hg.block _ (blk_lt h.res) (fun e => h.rks.blk_ne h.res (by decide) e.symm)).trans h.res
 refine ⟨?_, (heap_setCell_other _ _ _ _ (by show O ≠ Q; omega)).trans hon, ?_, (h.fam.kept h.rks (by decide) hg).far hbox (by decide) _, (h.lay.grown h.rks (by decide) hg).far (by show _ ≠ Q; omega) _, (heap_setCell_other _ _ _ _ (by show _ ≠ Q; omega)).trans hres,
  (h.bel.grown hg h.bel.size (fun q hq => by have := (h.rks.lt hq).1; omega)).setCell (by show _ ≤ Q; omega) _, hord⟩
 ·rw [heap_setCell_same _ Q 7 _ _ _ hbox]
  rfl
 ·rw [List.range_succ, List.map_append]
  exact ho.far (fun he => by have := (ho.lt he).1; simp at this; omega) _
theorem MeaS.add (h : MeaS w wr Q O (L.disks + g) L A c g rv vs ls) : MeaS w wr Q O (L.disks + g + 1) L A c g rv (updF vs (L.disks + g) (.slice none 0 0)) (updF ls (L.disks + g) []) := by
 refine ⟨h.box, ?_, ?_, h.fam.add, h.lay, h.res, h.bel, h.ord⟩
 ·have e : (List.range L.disks).map (updF vs (L.disks + g) (.slice none 0 0)) = (List.range L.disks).map vs := by
   apply List.map_congr_left
   intro x hx
   rw [List.mem_range] at hx
   unfold updF
   rw [if_neg (by omega)]
  rw [e]
  exact h.on
 ·have e : ((List.range g).map fun j => [updF vs (L.disks + g) (.slice none 0 0) (L.disks + j)]) = (List.range g).map fun j => [vs (L.disks + j)] := by
   apply List.map_congr_left
   intro x hx
   rw [List.mem_range] at hx
   unfold updF
   rw [if_neg (by omega)]
  rw [e]
  exact h.rks
theorem MeaS.congr {ls' : Nat → List Nat} (h : MeaS w wr Q O N L A c g rv vs ls) (he : ∀ i, i < N → ls i = ls' i) : MeaS w wr Q O N L A c g rv vs ls' :=
 ⟨h.box, h.on, h.rks, h.fam.congr he, h.lay, h.res, h.bel, h.ord⟩
end
/-! ### what comes out -/
def prV (v : Value) : Option Addr × Nat := match v with | .slice a _ c => (a, c) | _ => (none, 0)
theorem prV_form {w : World} {B : Nat} {v : Value} {l : List Nat} (h : OwS w B 3 1 v (rowsI l)) : v = .slice (prV v).1 l.length (prV v).2 := by
 obtain ⟨A, c, rfl, -, -⟩ := h.form
 rw [rowsI_len]
 rfl
theorem gsV_of {w : World} {A : Option Addr} {B m k0 : Nat} {vs : Nat → Value} {ls : Nat → List Nat} {N : Nat} (hf : Fam w B N vs ls) (hN : k0 + m ≤ N) (hr : RdS w w.heap.size 1 A ((List.range m).map fun k => [vs (k0 + k)])) : GsV w w.heap.size A ((List.range m).map fun k => ls (k0 + k)) := by
 refine ⟨(List.range m).map fun k => prV (vs (k0 + k)), by simp, ?_, ?_⟩
 ·have e : (((List.range m).map fun k => prV (vs (k0 + k))).zip ((List.range m).map fun k => ls (k0 + k))).map (fun p => [Value.slice p.1.1 p.2.length p.1.2]) = (List.range m).map fun k => [vs (k0 + k)] := by
   rw [List.zip_map', List.map_map]
   apply List.map_congr_left
   intro x hx
   rw [List.mem_range] at hx
   simp only [Function.comp]
   rw [← prV_form (hf (k0 + x) (by omega)).1]
  rw [e]
  exact hr
 ·intro i p gl hp hg
  rw [List.getElem?_map] at hp hg
  by_cases hi : i < m
  ·rw [List.getElem?_range hi] at hp hg
   simp only [Option.map_some, Option.some.injEq] at hp hg
   subst hp hg
   have h := (hf (k0 + i) (by omega)).1
   rw [prV_form h] at h
   exact h.reads
  ·rw [List.getElem?_eq_none (by simpa using hi)] at hp
   cases hp
end Go.Proofs.YtopoefcklipaeaaGreatDoor
namespace Go.Proofs.YtopoefcklipaeaaGreatDoor
open Go.RowKit
set_option maxHeartbeats 1000000 in
theorem ldata_any {L : LayD} {A : Option Addr} {c : Nat} {rv ov : Value} {ho ca : Int} (w : World) (hw : 4 ≤ L.w ∧ L.w ≤ 16) : Calls Tryz.prog 149 #[.agg (numC L A c rv ov ho ca)] w fun r w' => r = .returned (.int .i64 ((L.w : Int) - 3)) ∧ Below w.heap.size w w' := by
 unfold numC
 go_enter Tryz.func149, Tryz.ntmps149
 go_wp2
 go_ret
 exact ⟨rfl, below_laid⟩
def rkL (L : LayD) : List (List Nat) := (List.range L.n).map fun k => rkRow L k
def onLs (L : LayD) : List (List Nat) := (List.range L.disks).map fun d => onD L d
structure MeaP (L : LayD) (A : Option Addr) (c : Nat) (w : World) (r : Ending) (w' : World) : Prop where
 res : ∃ Ar cr O, r = .returned (.tuple #[.agg (numC L A c (.slice Ar L.n cr) (.slice (some ⟨O, 0, none⟩) L.disks L.disks) L.homes L.blocks), .bool true]) ∧ GsV w' w'.heap.size Ar (rkL L) ∧ GsV w' w'.heap.size (some ⟨O, 0, none⟩) (onLs L)
 bel : Below w.heap.size w w'
def setAll (w : World) (X : Nat) : Nat → List Value → World
 | _, [] => w
 | j, v :: vs => setAll (w.setCell ⟨X, j, none⟩ v) X (j + 1) vs
theorem setAll_keep {X : Nat} {t : TypeId} (B : Nat) (hB : B ≤ X) : ∀ (l : List Value) (j : Nat) (w : World), (∃ cs, w.heap[X]? = some (.cells cs t)) → Below B w (setAll w X j l) ∧ (setAll w X j l).heap.size = w.heap.size ∧ (∀ Y, Y ≠ X → (setAll w X j l).heap[Y]? = w.heap[Y]?) ∧
  (∀ (C N : Nat) vs ls, t ≠ 3 → Fam w C N vs ls → Fam (setAll w X j l) C N vs ls) ∧ (∀ (C size : Nat) (e : TypeId) v rows, e ≠ t → OwS w C e size v rows → OwS (setAll w X j l) C e size v rows) := by
 intro l
 induction l with
 | nil => intro j w _; exact ⟨Below.refl _ _, rfl, fun _ _ => rfl, fun _ _ _ _ _ h => h, fun _ _ _ _ _ _ h => h⟩
 | cons v l ih =>
  intro j w ⟨cs, hc⟩
  obtain ⟨h1, h2, h3, h4, h5⟩ := ih (j + 1) (w.setCell ⟨X, j, none⟩ v) ⟨_, heap_setCell_same w X j _ _ v hc⟩
  refine ⟨((Below.refl _ _).setCell hB v).trans h1, by rw [setAll, h2]; simp, fun Y hY => (h3 Y hY).trans (heap_setCell_other _ _ _ _ hY), fun C N vs ls ht h => h4 C N vs ls ht (h.far hc ht v), fun C size e u rows he h => h5 C size e u rows he (h.far (h.blk_ne hc he) v)⟩
theorem mea_out {w wr : World} {Q O c cr : Nat} {L : LayD} {A Ar : Option Addr} {vs : Nat → Value} (hm : MeaS w wr Q O (L.disks + L.n) L A c L.n (.slice Ar L.n cr) vs (lsO L L.n)) (l : List Value := (numC L A c (.slice Ar L.n cr) (.slice (some ⟨O, 0, none⟩) L.disks L.disks) L.homes L.blocks).toList) :
  MeaP L A c w (.returned (.tuple #[.agg (numC L A c (.slice Ar L.n cr) (.slice (some ⟨O, 0, none⟩) L.disks L.disks) L.homes L.blocks), .bool true])) (setAll wr (w.heap.size + 1) 0 l) := by
 obtain ⟨h1, h2, h3, h4, h5⟩ := setAll_keep (t := 180) w.heap.size (Nat.le_succ _) l 0 wr ⟨_, hm.res⟩
 have hf := h4 _ _ _ _ (by decide) hm.fam
 have hr := h5 _ _ _ _ _ (by decide) hm.rks
 have hO := (h3 O (by have := hm.ord; omega)).trans hm.on
 refine ⟨⟨Ar, cr, O, rfl, ?_, ?_⟩, hm.bel.trans h1⟩
 ·have := gsV_of (m := L.n) (k0 := L.disks) hf (Nat.le_refl _) hr.reads
  have e : (List.range L.n).map (fun k => lsO L L.n (L.disks + k)) = rkL L := by
   apply List.map_congr_left
   intro x _
   unfold lsO
   rw [if_neg (by omega), Nat.add_sub_cancel_left]
  rw [e] at this
  exact this
 ·have hrd : RdS (setAll wr (w.heap.size + 1) 0 l) (setAll wr (w.heap.size + 1) 0 l).heap.size 1 (some ⟨O, 0, none⟩) ((List.range L.disks).map fun k => [vs (0 + k)]) := by
   refine ⟨fun r hr => ?_, fun _ => ⟨O, 0, rfl, blk_lt hO, fun i r hi j v hj => ?_⟩⟩
   ·obtain ⟨x, -, rfl⟩ := List.mem_map.1 hr
    rfl
   ·rw [List.getElem?_map] at hi
    by_cases hiD : i < L.disks
    ·rw [List.getElem?_range hiD] at hi
     simp only [Option.map_some, Option.some.injEq] at hi
     subst hi
     have hj0 : j = 0 := by have := (List.getElem?_eq_some_iff.1 hj).1; simp at this; omega
     subst hj0
     simp at hj
     subst hj
     rw [cell_of_row _ _ _ _ _ _ hO]
     simp [hiD]
    ·rw [List.getElem?_eq_none (by simpa using hiD)] at hi
     cases hi
  have := gsV_of (m := L.disks) (k0 := 0) hf (by omega) hrd
  have e : (List.range L.disks).map (fun k => lsO L L.n (0 + k)) = onLs L := by
   apply List.map_congr_left
   intro x hx
   rw [List.mem_range] at hx
   unfold lsO
   rw [Nat.zero_add, if_pos hx]
   exact onP_all
  rw [e] at this
  exact this
set_option maxHeartbeats 8000000 in
set_option maxRecDepth 100000 in
theorem measure_any {L : LayD} {A : Option Addr} {B c : Nat} (w : World) (hx : LayX L) (hv : GsV w B A L.gs) (hB : B ≤ w.heap.size) :
  Calls Tryz.prog 65 #[layAgg L A c] w (MeaP L A c w) := by
 have HV := Lib.hid hv
 have HX := Lib.hid hx
 have HCC : Hid (∀ W, GsV W B A L.gs → B ≤ W.heap.size → Calls Tryz.prog 148 #[.agg #[.int .i64 (L.disks : Int), .slice A L.n c]] W fun e w' => (∃ lam : Nat, e = .returned (.tuple #[.int .i64 (L.r : Int), .int .i64 (lam : Int), .int .i64 0])) ∧ Below W.heap.size W w') := fun W hv hB => by
  obtain ⟨lam, h1, h2⟩ := hx.des
  exact (dcheck_any W h2 hv hB hx.ok.disks ⟨by have := hx.ok.w.1; omega, hx.ok.w.2⟩ hx.ok.n.2 h1).mono fun e w' h => ⟨⟨lam, h.1⟩, h.2⟩
 have hd60 := hx.ok.disks
 have hw16 := hx.ok.w
 have hn1 := hx.ok.n
 have hn0 : 0 < L.n := by omega
 have hmk : ∀ W : World, (Instr.makeSlice 24 (.int .i64 (L.disks : Int)) (.int .i64 (L.disks : Int))).run Tryz.prog W = .ok (.slice (some ⟨W.heap.size, 0, none⟩) L.disks L.disks) (W.alloc (.cells (madeCells #[.slice none 0 0] L.disks) 47)) := fun W => by
  obtain ⟨i, hi, h1, h2, h3⟩ := info_parts (P := Tryz.prog) (e := 47) (z := .slice none 0 0) (size := 1) (bytes := 24) (by kernel_rfl)
  have hr := run_make (P := Tryz.prog) W 24 47 i _ Tryz.underlying24 hi h1 .i64 .i64 L.disks L.disks (by omega) (Int.le_refl _) (by rw [h3]; omega) (by omega)
  simp only [Int.toNat_natCast, h2, Nat.mul_one] at hr
  exact hr
 obtain ⟨b, off, A0, c0, hA, hbB, hfirst⟩ := lay_first hx.ok hv
 subst hA
 have HFI := Lib.hid hfirst
 unfold layAgg
 clear hv hfirst hx
 go_enter Tryz.func65, Tryz.ntmps65
 go_wp2_with fail
 generalize hW0 : w.alloc _ = w0
 have hl0 : LayB w0 w.heap.size L (some ⟨b, off, none⟩) c := by rw [← hW0]; exact LayB.made w L _ c
 have hb0 : Below w.heap.size w w0 := by rw [← hW0]; exact below_laid
 have hz0 : w0.heap.size = w.heap.size + 1 := by rw [← hW0]; simp
 generalize hW1 : w0.alloc _ = w1
 have hr1 : w1.heap[w.heap.size + 1]? = some (.cells numZ 180) := by rw [← hW1, ← hz0]; exact heap_alloc_new w0 _
 have hl1 : LayB w1 w.heap.size L (some ⟨b, off, none⟩) c := by rw [← hW1]; exact hl0.below below_laid hl0.lt
 have hb1 : Below w.heap.size w w1 := by rw [← hW1]; exact hb0.trans (below_laid.mono hb0.size)
 clear hW0 hW1 hl0 hb0
 clear hz0
 refine (HCC.out w1 (HV.out.below hb1 hB) (Nat.le_trans hB hb1.size)).mono ?_
 rintro r w2 ⟨⟨lam, rfl⟩, hb2⟩
 have hl2 := hl1.below hb2 hl1.lt
 have hr2 := (hb2.block _ (blk_lt hr1)).trans hr1
 have HB2 := Lib.hid (hb1.trans (hb2.mono hb1.size))
 have HL2 := Lib.hid hl2
 have HR2 := Lib.hid hr2
 obtain ⟨l0, l1, l2, l3⟩ := hl2.cells
 have g0 := HFI.out w2 w.heap.size HB2.out hB
 clear hb1 hb2 hl1 hl2 hr1 hr2
 go_upto_region 4 with (fail)
 have HQZ : Hid (∀ W, Below w2.heap.size w2 W → W.cell? ⟨w.heap.size, 0, none⟩ = some (.int .i64 (L.disks : Int)) ∧ W.cell? ⟨w.heap.size, 1, none⟩ = some (.slice (some ⟨b, off, none⟩) L.n c) ∧ W.cell? ⟨w.heap.size, 2, none⟩ = some (.int .i64 (L.tiles : Int)) ∧ W.cell? ⟨w.heap.size, 3, none⟩ = some (.int .i64 (L.spare : Int)) ∧ W.cell? ⟨b, off, none⟩ = some (.slice A0 L.w c0)) := fun W hW => by
  obtain ⟨a1, a2, a3, a4⟩ := (HL2.out.below hW HL2.out.lt).cells
  exact ⟨a1, a2, a3, a4, HFI.out W w.heap.size (HB2.out.trans (hW.mono HB2.out.size)) hB⟩
 have s1 := HQZ.out (w2.alloc (.cells #[.int .i64 0, .slice none 0 0, .int .i64 0, .int .i64 0, .int .i64 0, .int .i64 0, .int .i64 0, .slice none 0 0, .slice none 0 0, .int .i64 0, .int .i64 0] 180)) ((Below.refl _ _).alloc (Nat.le_refl _) _)
 have s2 := HQZ.out (w2.drew.alloc (.cells #[.int .i64 0, .slice none 0 0, .int .i64 0, .int .i64 0, .int .i64 0, .int .i64 0, .int .i64 0, .slice none 0 0, .slice none 0 0, .int .i64 0, .int .i64 0] 180)) ((Below.refl _ _).drew.alloc (Nat.le_refl _) _)
 have s3 := HQZ.out (w2.alloc (.cells #[.int .i64 0, .slice none 0 0, .int .i64 0, .int .i64 0, .int .i64 0, .int .i64 0, .int .i64 0, .slice none 0 0, .slice none 0 0, .int .i64 0, .int .i64 0] 180)).drew ((Below.refl _ _).alloc (Nat.le_refl _) _).drew
 go_cut [7] (fun s7 wx => s7 = .pointer (some ⟨w2.heap.size, 0, none⟩) ∧ wx.heap[w2.heap.size]? = some (.cells (numC L (some ⟨b, off, none⟩) c (.slice none 0 0) (.slice none 0 0) 0 0) 180) ∧ Below w2.heap.size w2 wx)
 case first =>
  go_region_held3 (fun W => W.cell? ⟨w.heap.size, 0, none⟩ = some (.int .i64 (L.disks : Int)) ∧ W.cell? ⟨w.heap.size, 1, none⟩ = some (.slice (some ⟨b, off, none⟩) L.n c) ∧ W.cell? ⟨w.heap.size, 2, none⟩ = some (.int .i64 (L.tiles : Int)) ∧ W.cell? ⟨w.heap.size, 3, none⟩ = some (.int .i64 (L.spare : Int)) ∧ W.cell? ⟨b, off, none⟩ = some (.slice A0 L.w c0))
   (first | exact HQZ.out _ (Below.refl _ _) | exact HQZ.out _ (Below.refl _ _).drew | exact HQZ.out _ ((Below.refl _ _).drew.alloc (Nat.le_refl _) _) | exact HQZ.out _ ((Below.refl _ _).alloc (Nat.le_refl _) _).drew | exact HQZ.out _ ((Below.refl _ _).alloc (Nat.le_refl _) _))
   (first | fail)
  all_goals
   go_wp2_with fail
   go_meet
   exact ⟨rfl, heap_alloc_new w2 _, ((Below.refl _ _).alloc (Nat.le_refl _) _).drew⟩
 obtain ⟨rfl, hbx, hbc⟩ := hcut
 have HRC : Hid (wc.heap[w.heap.size + 1]? = some (.cells numZ 180)) := (hbc.block _ (blk_lt HR2.out)).trans HR2.out
 have hlc := HL2.out.below hbc HL2.out.lt
 have HLC := Lib.hid hlc
 have HBC := Lib.hid (HB2.out.trans (hbc.mono HB2.out.size))
 have HQW : Hid (w.heap.size + 1 < w2.heap.size) := blk_lt HR2.out
 clear s1 s2 s3 HQZ HL2 HR2 HB2 hbc l0 l1 l2 l3 g0
 generalize w2.heap.size = Q at *
 obtain ⟨l0, l1, l2, l3⟩ := hlc.cells
 have HBX := Lib.hid hbx
 have x4 : wc.cell? ⟨Q, 4, none⟩ = some (.int .i64 (L.w : Int)) := by rw [cell_of_row _ _ _ _ _ _ hbx]; rfl
 have x9 : wc.cell? ⟨Q, 9, none⟩ = some (.int .i64 0) := by rw [cell_of_row _ _ _ _ _ _ hbx]; rfl
 have x10 : wc.cell? ⟨Q, 10, none⟩ = some (.int .i64 0) := by rw [cell_of_row _ _ _ _ _ _ hbx]; rfl
 have f9 := frozen_of_row wc Q 9 _ _ hbx
 have f10 := frozen_of_row wc Q 10 _ _ hbx
 have hm1 : (L.tiles : Int) * (L.n : Int) = (L.G : Int) := by unfold LayD.G; simp
 have hm2 : (L.tiles : Int) * (L.r : Int) = (L.homes : Int) := by unfold LayD.homes; simp
 have hm4 : (L.homes : Int) + (L.spare : Int) = (L.blocks : Int) := by unfold LayD.blocks; simp
 have hs := HX.out.ok.slots
 have hG := HX.out.ok.G
 have hbk : L.homes + L.spare ≤ 65536 := HX.out.ok.blocks
 have hbk2 := HX.out.ok.blocks
 have ht := HX.out.ok.tiles
 have d1 : decide (L.tiles < 1) = false := by rw [decide_eq_false_iff_not]; omega
 have d2 : decide (256 < L.tiles) = false := by rw [decide_eq_false_iff_not]; omega
 have d3 : decide (65536 < L.spare) = false := by rw [decide_eq_false_iff_not]; omega
 have d1' : decide ((L.tiles : Int) < 1) = false := by rw [decide_eq_false_iff_not]; omega
 have d2' : decide (256 < (L.tiles : Int)) = false := by rw [decide_eq_false_iff_not]; omega
 have d3' : decide (65536 < (L.spare : Int)) = false := by rw [decide_eq_false_iff_not]; omega
 have d4 : decide ((L.spare : Int) < 0) = false := by rw [decide_eq_false_iff_not]; omega
 have e1 : decide ((L.w : Int) ≤ 3) = false := by rw [decide_eq_false_iff_not]; omega
 have e2 : decide (16 < (L.w : Int)) = false := by rw [decide_eq_false_iff_not]; omega
 clear hbx hlc
 go_upto_region 9 with (fail)
 have hb3 := heap_setCell_same wc Q 9 _ _ (.int .i64 (L.homes : Int)) HBX.out
 have hb4 := heap_setCell_same _ Q 10 _ _ (.int .i64 (L.blocks : Int)) hb3
 have HBY : Hid (((wc.setCell ⟨Q, 9, none⟩ (.int .i64 (L.homes : Int))).setCell ⟨Q, 10, none⟩ (.int .i64 (L.blocks : Int))).heap[Q]? = some (.cells (numC L (some ⟨b, off, none⟩) c (.slice none 0 0) (.slice none 0 0) L.homes L.blocks) 180)) := hb4
 have HLY : Hid (LayB ((wc.setCell ⟨Q, 9, none⟩ (.int .i64 (L.homes : Int))).setCell ⟨Q, 10, none⟩ (.int .i64 (L.blocks : Int))) w.heap.size L (some ⟨b, off, none⟩) c) := (HLC.out.far (by show _ ≠ Q; have := HQW.out; omega) _).far (by show _ ≠ Q; have := HQW.out; omega) _
 have HRY : Hid (((wc.setCell ⟨Q, 9, none⟩ (.int .i64 (L.homes : Int))).setCell ⟨Q, 10, none⟩ (.int .i64 (L.blocks : Int))).heap[w.heap.size + 1]? = some (.cells numZ 180)) := ((heap_setCell_other _ _ _ _ (by show _ ≠ Q; have := HQW.out; omega)).trans (heap_setCell_other _ _ _ _ (by show _ ≠ Q; have := HQW.out; omega))).trans HRC.out
 have HWY : Hid (Below w.heap.size w ((wc.setCell ⟨Q, 9, none⟩ (.int .i64 (L.homes : Int))).setCell ⟨Q, 10, none⟩ (.int .i64 (L.blocks : Int)))) := (HBC.out.setCell (by show _ ≤ Q; have := HQW.out; omega) _).setCell (by show _ ≤ Q; have := HQW.out; omega) _
 clear hb3 hb4 x4 x9 x10 f9 f10 l0 l1 l2 l3 HBX HLC HRC HBC d1 d2 d3 d1' d2' d3' d4 e1 e2
 generalize World.setCell _ _ _ = w3 at *
 have hl3 := HLY.out
 have X := fun d xs => (hl3.below (below_regrown w3 d xs) hl3.lt).cells
 have Y : ∀ d xs, (Sort.grow (redrawn w3 d) xs).cell? ⟨Q, 0, none⟩ = some (.int .i64 (L.disks : Int)) ∧ (Sort.grow (redrawn w3 d) xs).cell? ⟨Q, 1, none⟩ = some (.slice (some ⟨b, off, none⟩) L.n c) ∧ (Sort.grow (redrawn w3 d) xs).cell? ⟨Q, 2, none⟩ = some (.int .i64 (L.tiles : Int)) ∧ (Sort.grow (redrawn w3 d) xs).cell? ⟨Q, 3, none⟩ = some (.int .i64 (L.spare : Int)) ∧
   (Sort.grow (redrawn w3 d) xs).cell? ⟨Q, 4, none⟩ = some (.int .i64 (L.w : Int)) ∧ (Sort.grow (redrawn w3 d) xs).cell? ⟨Q, 5, none⟩ = some (.int .i64 (L.r : Int)) ∧ (Sort.grow (redrawn w3 d) xs).cell? ⟨Q, 6, none⟩ = some (.int .i64 (L.n : Int)) ∧ (Sort.grow (redrawn w3 d) xs).cell? ⟨Q, 7, none⟩ = some (.slice none 0 0) ∧
   (Sort.grow (redrawn w3 d) xs).cell? ⟨Q, 8, none⟩ = some (.slice none 0 0) ∧ (Sort.grow (redrawn w3 d) xs).cell? ⟨Q, 9, none⟩ = some (.int .i64 (L.homes : Int)) ∧ (Sort.grow (redrawn w3 d) xs).cell? ⟨Q, 10, none⟩ = some (.int .i64 (L.blocks : Int)) := fun d xs => by
  have hq := ((below_regrown w3 d xs).block _ (blk_lt HBY.out)).trans HBY.out
  refine ⟨?_, ?_, ?_, ?_, ?_, ?_, ?_, ?_, ?_, ?_, ?_⟩ <;> (rw [cell_of_row _ _ _ _ _ _ hq]; rfl)
 have KD := Lib.hid (fun d xs => ldata_any (L := L) (A := some ⟨b, off, none⟩) (c := c) (rv := .slice none 0 0) (ov := .slice none 0 0) (ho := L.homes) (ca := L.blocks) (Sort.grow (redrawn w3 d) xs) hw16)
 unfold numC at KD
 have k1 : IntKind.i64.wrap ((L.tiles : Int) * (L.n : Int)) = (L.G : Int) := by rw [hm1]; exact IntWalk.i64_in _ (by omega)
 have k2 : decide ((L.G : Int) > 4096) = false := by rw [decide_eq_false_iff_not]; omega
 have k3 : IntKind.i64.wrap ((L.G : Int) * ((L.w : Int) - 3)) = ((L.G * (L.w - 3) : Nat) : Int) := by
  have : ((L.w - 3 : Nat) : Int) = (L.w : Int) - 3 := by omega
  rw [Int.natCast_mul, this, ← this, ← Int.natCast_mul]
  exact IntWalk.i64_in _ (by omega)
 generalize L.G * (L.w - 3) = sl at *
 have k4 : decide (65536 < sl) = false := by rw [decide_eq_false_iff_not]; omega
 have k4' : decide (65536 < (sl : Int)) = false := by rw [decide_eq_false_iff_not]; omega
 have k5 : decide (65536 < L.blocks) = false := by rw [decide_eq_false_iff_not]; omega
 have k5' : decide (65536 < (L.blocks : Int)) = false := by rw [decide_eq_false_iff_not]; omega
 have k2' : decide (4096 < L.G) = false := by rw [decide_eq_false_iff_not]; omega
 have k2'' : decide (4096 < (L.G : Int)) = false := by rw [decide_eq_false_iff_not]; omega
 clear hl3 hm1
 refine quiet_below (by kernel_rfl) (by kernel_rfl) ?_
 repeat (go_big_quiet_step (first | (go_at_call 149; exact Calls.regrown_of (KD.out _ _))))
 refine wpQuiet_nil ?_
 intro w4 hb4
 have hBY := (hb4.block _ (blk_lt HBY.out)).trans HBY.out
 have hRY := (hb4.block _ (blk_lt HRY.out)).trans HRY.out
 have hLY := HLY.out.below hb4 HLY.out.lt
 have hWY := HWY.out.trans (hb4.mono HWY.out.size)
 have hQl : Q < w4.heap.size := blk_lt hBY
 clear X Y KD k1 k2 k3 k4 k4' k5 k5' k2' k2'' hb4 HBY HRY HLY HWY
 obtain ⟨l0, l1, l2, l3⟩ := hLY.cells
 have hbA : (w4.alloc (.cells (madeCells #[.slice none 0 0] L.disks) 47)).heap[Q]? = some (.cells (numC L (some ⟨b, off, none⟩) c (.slice none 0 0) (.slice none 0 0) L.homes L.blocks) 180) := (below_laid.block _ hQl).trans hBY
 have x8 : (w4.alloc (.cells (madeCells #[.slice none 0 0] L.disks) 47)).cell? ⟨Q, 8, none⟩ = some (.slice none 0 0) := by rw [cell_of_row _ _ _ _ _ _ hbA]; rfl
 have f8 := frozen_of_row (w4.alloc (.cells (madeCells #[.slice none 0 0] L.disks) 47)) Q 8 _ _ hbA
 have HM0 : Hid (MeaS w ((w4.setCell ⟨Q, 8, none⟩ (.slice (some ⟨w4.heap.size, 0, none⟩) L.disks L.disks)).alloc (.cells (madeCells #[.slice none 0 0] L.disks) 47)) Q w4.heap.size (L.disks + 0) L (some ⟨b, off, none⟩) c 0 (.slice none 0 0) (fun _ => .slice none 0 0) (lsO L 0)) := by
  have hzs : (w4.setCell ⟨Q, 8, none⟩ (.slice (some ⟨w4.heap.size, 0, none⟩) L.disks L.disks)).heap.size = w4.heap.size := by simp
  have hqw := HQW.out
  refine ⟨?_, ?_, OwS.nil _ _ _ _, fun i hi => ⟨?_, fun j _ _ => .inl rfl⟩, ?_, ?_, ?_, HQW.out, hQl⟩
  ·exact (below_laid.block _ (by rw [hzs]; exact hQl)).trans (by rw [heap_setCell_same _ Q 8 _ _ _ hBY]; rfl)
  ·have := heap_alloc_new (w4.setCell ⟨Q, 8, none⟩ (.slice (some ⟨w4.heap.size, 0, none⟩) L.disks L.disks)) (.cells (madeCells #[.slice none 0 0] L.disks) 47)
   rw [hzs] at this
   rw [this]
   congr 2
   have h1 := made_list (.slice none 0 0) L.disks
   apply Array.toList_inj.1
   rw [h1]
   simp [List.map_const']
  ·have e : lsO L 0 i = [] := by unfold lsO onP; rw [if_pos (by omega)]; rfl
   rw [e]
   exact OwS.nil _ _ _ _
  ·exact (hLY.far (by show _ ≠ Q; omega) _).below below_laid (by rw [hzs]; exact hLY.lt)
  ·exact (below_laid.block _ (by rw [hzs]; exact blk_lt hRY)).trans ((heap_setCell_other _ _ _ _ (by show _ ≠ Q; omega)).trans hRY)
  ·exact (hWY.setCell (by show _ ≤ Q; omega) _).alloc (by rw [hzs]; exact hWY.size) _
 clear hbA hBY hRY hLY hWY
 go_upto_region 12 with (fail)
 generalize w4.heap.size = O at *
 clear x8 f8 l0 l1 l2 l3
 generalize World.alloc _ _ = w5 at *
 obtain ⟨l0, l1, l2, l3⟩ := HM0.out.lay.cells
 have HOL : Hid (w.heap.size + 1 < Q ∧ Q < O) := HM0.out.ord
 clear hmk
 go_wp2
 clear l0 l1 l2 l3
 go_loopw [108, 8, 9, 10, 12, 115] (fun s108 _ _ _ _ _ wr => ∃ (g : Nat) (rv : Value) (vs : Nat → Value), g ≤ L.n ∧ s108 = .int .i64 g ∧ MeaS w wr Q O (L.disks + g) L (some ⟨b, off, none⟩) c g rv vs (lsO L g)) (fun s108 _ _ _ _ _ _ => L.n - (intOf s108).toNat)
 case atStart => exact ⟨0, _, _, by omega, rfl, HM0.out⟩
 case round =>
  clear HM0
  obtain ⟨g, rv, vs, hg, rfl, hm⟩ := hrel
  by_cases hgn : g < L.n
  ·have hgI : (g : Int) < (L.n : Int) := by omega
   obtain ⟨row, hrow⟩ := at_some (l := L.gs) (i := g) hgn
   obtain ⟨b', off', Al, cl, hA', -, hat⟩ := (HV.out.below hm.bel hB).at_ hrow
   cases hA'
   have hlw := HX.out.ok.len row (List.mem_of_getElem? hrow)
   have hinc := HX.out.ok.inc row (List.mem_of_getElem? hrow)
   have hltd := HX.out.ok.lt row (List.mem_of_getElem? hrow)
   obtain ⟨x0, hx0⟩ := at_some (l := row) (i := 0) (by omega)
   have hBr : B ≤ wr.heap.size := Nat.le_trans hB hm.bel.size
   obtain ⟨bl, ol, rfl, -, -⟩ := nints_at (hat wr wr.heap.size (Below.refl _ _) hBr).2 hx0
   have g1 := (hat wr wr.heap.size (Below.refl _ _) hBr).1
   rw [hlw] at g1
   have HRC : Hid (∀ W, Below w.heap.size w W → ∀ k x : Nat, row[k]? = some x → W.cell? ⟨bl, ol + k, none⟩ = some (.int .i64 (x : Int))) := by
    intro W hW k x hx
    obtain ⟨b3, o3, Al3, cl3, hA3, -, hat3⟩ := (HV.out.below hW hB).at_ hrow
    cases hA3
    have q := (hat3 W W.heap.size (Below.refl _ _) (Nat.le_trans hB hW.size))
    have q1 := (hat3 W W.heap.size (Below.refl _ _) (Nat.le_trans hB hW.size)).1
    have gg1 := (HV.out.at_ hrow)
    obtain ⟨b4, o4, Al4, cl4, hA4, -, hat4⟩ := gg1
    cases hA4
    have r1 := (hat4 W w.heap.size hW hB)
    have r2 := (hat4 wr w.heap.size hm.bel hB).1
    have r3 := g1
    rw [hlw] at r2
    rw [r2] at r3
    injection r3 with r3
    injection r3 with r3 _ r4
    subst r3
    obtain ⟨b5, o5, e5, -, h5⟩ := nints_at r1.2 hx
    cases e5
    exact h5
   have HROW := Lib.hid hrow
   have HLW := Lib.hid hlw
   have HINC := Lib.hid hinc
   have HLT := Lib.hid hltd
   have hma := hm.add
   have HMA : Hid (MeaS w wr Q O (L.disks + g + 1) L (some ⟨b, off, none⟩) c g rv (updF vs (L.disks + g) (.slice none 0 0)) (lsI L g row 0)) := hma.congr (fun i hi => by
    unfold updF lsI lsO
    by_cases e : i = L.disks + g
    ·rw [if_pos e, if_neg (by omega), if_neg (by omega)]; simp
    ·rw [if_neg e]
     by_cases e2 : i < L.disks
     ·rw [if_pos e2, if_pos e2, onQ_zero]
     ·rw [if_neg e2, if_neg e2, if_pos (by omega)])
   have hcur : updF vs (L.disks + g) (.slice none 0 0) (L.disks + g) = .slice none 0 0 := by simp [updF]
   have HCUR := Lib.hid hcur
   clear hm hma hat hlw hinc hltd hx0 hrow hcur
   go_wp2
   clear g1
   go_loopw [115, 10, 12] (fun s115 s10 _ wr => ∃ (i : Nat) (vs : Nat → Value), i ≤ L.w ∧ s115 = .int .i64 i ∧ s10 = vs (L.disks + g) ∧ MeaS w wr Q O (L.disks + g + 1) L (some ⟨b, off, none⟩) c g rv vs (lsI L g row i)) (fun s115 _ _ _ => L.w - (intOf s115).toNat)
   case atStart => exact ⟨0, _, by omega, rfl, HCUR.out.symm, HMA.out⟩
   case round =>
    clear HMA HCUR
    obtain ⟨i, vs, hi, rfl, rfl, hm⟩ := hrel
    by_cases hiw : i < L.w
    ·have hiI : (i : Int) < (L.w : Int) := by omega
     obtain ⟨d, hd⟩ := at_some (l := row) (i := i) (by rw [HLW.out]; exact hiw)
     have hdl : d < L.disks := HLT.out d (List.mem_of_getElem? hd)
     have r0 := HRC.out wr hm.bel i d hd
     have HIT := Lib.hid (onQ_hit (L := L) (g := g) HINC.out hd)
     have HD := Lib.hid hd
     have hcf := hm.fam (L.disks + g) (by omega)
     have hdf := hm.fam d (by omega)
     have q8 := hm.q8
     obtain ⟨on1, on2⟩ := hm.onAt hdl
     have elsd : lsI L g row i d = onQ L d g row i := by unfold lsI; rw [if_pos hdl]
     have elsc : lsI L g row i (L.disks + g) = (row.take i).map fun d => rankL L g d := by unfold lsI; rw [if_neg (by omega), if_neg (by omega)]
     rw [elsd, HIT.out.2] at hdf
     rw [elsc] at hcf
     have hli : ((row.take i).map fun d => rankL L g d).length = i := by rw [List.length_map, List.length_take, HLW.out]; omega
     obtain ⟨cu, hcu⟩ : ∃ cu, (row.take i).map (fun d => rankL L g d) = cu := ⟨_, rfl⟩
     rw [hcu] at hcf hli elsc
     have HCU := Lib.hid hcu
     have HELC := Lib.hid elsc
     obtain ⟨Ac, cc, ec, -, -⟩ := hcf.1.form
     obtain ⟨Ad, cd, ed, -, -⟩ := hdf.1.form
     rw [rowsI_len, hli] at ec
     rw [rowsI_len] at ed
     have hnl : (onP L d g).length ≤ 5000 := by rw [onP_len L d g (by omega)]; have := rankL_le L g d; omega
     have HNL := Lib.hid (onP_len L d g (by omega))
     obtain ⟨pn, hpn⟩ : ∃ pn, (onP L d g).length = pn := ⟨_, rfl⟩
     rw [hpn] at ed hnl HNL
     rw [ed] at on1
     have hco := hcf.1
     rw [ec] at hco ⊢
     have HEC := Lib.hid ec
     have HED := Lib.hid ed
     have HPN := Lib.hid hpn
     have HCO := Lib.hid hco
     have HDO := Lib.hid hdf.1
     have HM := Lib.hid hm
     have hz : O + 1 ≤ wr.heap.size := blk_lt hm.on
     have HLI := Lib.hid hli
     clear hm hcf hdf hco ec ed hpn elsd elsc hli hd hcu
     go_wp2_with (at_builtin; refine wpList_ap1 rfl (.tmp 119) (.tmp 126) _ rfl elemIntS rfl HCO.out (icell (pn : Int)) _ (by rfl) wr.heap.size (by rfl) (by rfl) (icellOneS _) (by rw [rowsI_len, HLI.out]; simp [maxLen]; omega) (by rw [rowsI_len, HLI.out]; omega) hz ?_)
     rintro v1 w6 hown1 hg1 hv1
     have hm1 : MeaS w w6 Q O (L.disks + g + 1) L (some ⟨b, off, none⟩) c g rv (updF vs (L.disks + g) v1) (updF (lsI L g row i) (L.disks + g) (cu ++ [pn])) :=
      (HM.out.below below_laid).cur (Nat.le_refl _) (by omega) (by rw [HEC.out]; exact hg1) (by rw [rowsI_snoc]; exact hown1) (hv1.imp (fun h => by rw [HEC.out]; exact h) fun h => ⟨_, h, by simp⟩)
     have hdf := hm1.fam d (by omega)
     have e1 : updF vs (L.disks + g) v1 d = vs d := by unfold updF; rw [if_neg (by omega)]
     have e2 : updF (lsI L g row i) (L.disks + g) (cu ++ [pn]) d = onP L d g := by unfold updF lsI; rw [if_neg (by omega), if_pos hdl, HIT.out.2]
     obtain ⟨Av1, cv1, rfl, -, -⟩ := hown1.form
     have hq1 := hm1.q8
     have hon1 := hm1.onAt hdl
     rw [e1, HED.out] at hon1
     rw [e1, e2, HED.out] at hdf
     have HDF := Lib.hid hdf.1
     have HM1 := Lib.hid hm1
     have hma := hm1.below (below_laid (o := .cells #[.int .i64 (g : Int)] 3))
     have HMB := Lib.hid (hm1.below ((below_drewN (Below.refl _ _) 1).alloc (Nat.le_refl _) (.cells #[.int .i64 (g : Int)] 3)))
     have hqa := hma.q8
     have hona := hma.onAt hdl
     rw [e1, HED.out] at hona
     have hz6 : O + 1 ≤ w6.heap.size := blk_lt hm1.on
     have HMA := Lib.hid hma
     clear hown1 hg1 hv1 hm1 hdf q8 on1 on2 r0 hma HCO HDO HM e2
     have hee : (rowsI cu ++ [icell (pn : Int)]).length = i + 1 := by rw [List.length_append, rowsI_len, HLI.out]; rfl
     rw [hee]
     clear hee
     go_upto_region 20 with (fail)
     go_region_law (refine step_ap1 (by rfl) (.tmp 135) (.tmp 137) _ (by rfl) elemIntS (by rfl) (HDF.out.drewN 1) (icell (g : Int)) _ (by rfl) w6.heap.size (by rfl) (by rfl) (icellOneS _) (by rw [rowsI_len, HPN.out]; simp [maxLen]; omega) (by rw [rowsI_len, HPN.out]; omega) hz6 ?_; intro v2 w7 hown2 hg2 hv2; obtain ⟨Av2, cv2, hvv, -, -⟩ := hown2.form; rw [show (rowsI (onP L d g) ++ [icell (g : Int)]).length = pn + 1 by (rw [List.length_append, rowsI_len, HPN.out]; rfl)] at hvv; subst hvv; have hq2 := (hg2.block _ (blk_lt HMA.out.box) (fun e => HDF.out.blk_ne HM1.out.box (by decide) e.symm)).trans HMA.out.box; have ho2 := (hg2.block _ (blk_lt HMA.out.on) (fun e => HDF.out.blk_ne HM1.out.on (by decide) e.symm)).trans HMA.out.on; have q82 := (cell_of_row _ _ 8 _ _ _ hq2).trans (show _ = some (.slice (some ⟨O, 0, none⟩) L.disks L.disks) from rfl); have fo2 := frozen_of_row _ O d _ _ ho2; have co2 : w7.cell? ⟨O, d, none⟩ = some (.slice Ad pn cd) := by (rw [cell_of_row _ _ _ _ _ _ ho2, ← HED.out, ← e1]; simp [hdl]))
     all_goals
      have HM2 : Hid (MeaS w (w7.setCell ⟨O, d, none⟩ (.slice Av2 (pn + 1) cv2)) Q O (L.disks + g + 1) L (some ⟨b, off, none⟩) c g rv (updF (updF vs (L.disks + g) (.slice Av1 (rowsI cu ++ [icell (pn : Int)]).length cv1)) d (.slice Av2 (pn + 1) cv2)) (updF (updF (lsI L g row i) (L.disks + g) (cu ++ [pn])) d (onP L d g ++ [g]))) :=
       HMB.out.onSet hdl (by omega) (by rw [e1, HED.out]; exact hg2) (by rw [rowsI_snoc]; exact hown2) (by rw [e1, HED.out]; exact hv2.imp id fun h => ⟨_, h, by simp⟩)
      clear hown2 hg2 hv2 hq2 ho2 q82 fo2 co2 hqa hona hq1 hon1 HMA HMB HM1 HDF
      go_wp2
      go_roundw
      case rel =>
       refine ⟨i + 1, _, by omega, by go_num, ?_, HM2.out.congr fun x hx => ?_⟩
       ·unfold updF
        rw [if_neg (by omega), if_pos rfl]
        congr 1
        rw [List.length_append, rowsI_len, HLI.out]
        rfl
       ·unfold updF lsI
        by_cases ex : x = d
        ·subst ex
         rw [if_pos rfl, if_pos hdl, HIT.out.1, HIT.out.2]
        ·rw [if_neg ex]
         by_cases ex2 : x = L.disks + g
         ·subst ex2
          rw [if_pos rfl, if_neg (by omega), if_neg (by omega), List.take_add_one, HD.out, HNL.out, List.map_append, HCU.out]
          rfl
         ·rw [if_neg ex2]
          by_cases ex3 : x < L.disks
          ·rw [if_pos ex3, if_pos ex3, onQ_miss HD.out ex]
          ·rw [if_neg ex3, if_neg ex3, if_pos (by omega), if_pos (by omega)]
      case measure => simp [intOf] <;> omega
    ·have hiI : ¬ (i : Int) < (L.w : Int) := by omega
     have hiw2 : i = L.w := by omega
     have hcf := (hm.fam (L.disks + g) (by omega)).1
     have elsc : lsI L g row i (L.disks + g) = (row.take i).map fun d => rankL L g d := by unfold lsI; rw [if_neg (by omega), if_neg (by omega)]
     rw [elsc] at hcf
     obtain ⟨Ac, cc, ec, -, -⟩ := hcf.form
     rw [rowsI_len] at ec
     generalize hll : ((row.take i).map fun d => rankL L g d).length = ll at ec
     obtain ⟨Ar, cr, er, -, -⟩ := hm.rks.form
     rw [List.length_map, List.length_range] at er
     subst er
     obtain ⟨q7, f7⟩ := hm.q7
     have hz : O + 1 ≤ wr.heap.size := blk_lt hm.on
     have HM := Lib.hid hm
     have HEC := Lib.hid ec
     rw [ec]
     have hrk := hm.rks
     have HRK := Lib.hid hrk
     have hHU : Hid (∀ u ∈ [Value.slice Ac ll cc], u.oneCell' = true) := by
      intro u hu
      simp only [List.mem_singleton] at hu
      subst hu
      rfl
     clear hm hcf elsc ec hll hrk
     go_wp2_with (at_builtin; refine wpList_ap1 rfl (.tmp 142) (.tmp 144) _ rfl elemIL rfl HRK.out [.slice Ac ll cc] _ (by rfl) wr.heap.size (by rfl) (by rfl) hHU.out (by rw [List.length_map, List.length_range]; simp [maxLen]; omega) (by rw [List.length_map, List.length_range]; omega) hz ?_)
     rintro v1 w6 hown1 hg1 -
     obtain ⟨Av, cv, hvv, -, -⟩ := hown1.form
     rw [show ((List.range g).map (fun k => [vs (L.disks + k)]) ++ [[Value.slice Ac ll cc]]).length = g + 1 by simp] at hvv
     subst hvv
     have hm1 := HM.out.below (below_laid (o := .cells #[.slice Ac ll cc] 47))
     have hbq := (hg1.block _ (blk_lt hm1.box) (fun e => HRK.out.blk_ne HM.out.box (by decide) e.symm)).trans hm1.box
     have q71 := (cell_of_row _ _ 7 _ _ _ hbq).trans (show _ = some (.slice Ar g cr) from rfl)
     have f71 := frozen_of_row _ Q 7 _ _ hbq
     have HMP : Hid (MeaS w (w6.setCell ⟨Q, 7, none⟩ (.slice Av (g + 1) cv)) Q O (L.disks + g + 1) L (some ⟨b, off, none⟩) c (g + 1) (.slice Av (g + 1) cv) vs (lsI L g row i)) := hm1.push hg1 (by rw [HEC.out]; exact hown1)
     clear hown1 hg1 hm1 hbq q7 f7
     go_wp2
     go_roundw
     case rel =>
      refine ⟨g + 1, _, vs, by omega, by go_num, HMP.out.congr fun x hx => ?_⟩
      unfold lsI lsO
      by_cases ex3 : x < L.disks
      ·rw [if_pos ex3, if_pos ex3, onP_succ HROW.out, HLW.out, hiw2]
      ·rw [if_neg ex3, if_neg ex3]
       by_cases ex2 : x < L.disks + g
       ·rw [if_pos ex2]
       ·rw [if_neg ex2, show x - L.disks = g by omega]
        unfold rkRow
        rw [HROW.out, hiw2, ← HLW.out, List.take_length]
        rfl
     case measure => simp [intOf] <;> omega
  ·have hgI : ¬ (g : Int) < (L.n : Int) := by omega
   obtain rfl : L.n = g := by omega
   obtain ⟨Ar, cr, er, -, -⟩ := hm.rks.form
   rw [List.length_map, List.length_range] at er
   subst er
   have HM := Lib.hid hm
   have hq := hm.box
   have hr := hm.res
   have z0 := (cell_of_row _ _ 0 _ _ _ hq).trans (show _ = some (Value.int .i64 (L.disks : Int)) from rfl)
   have z1 := (cell_of_row _ _ 1 _ _ _ hq).trans (show _ = some (Value.slice (some ⟨b, off, none⟩) L.n c) from rfl)
   have z2 := (cell_of_row _ _ 2 _ _ _ hq).trans (show _ = some (Value.int .i64 (L.tiles : Int)) from rfl)
   have z3 := (cell_of_row _ _ 3 _ _ _ hq).trans (show _ = some (Value.int .i64 (L.spare : Int)) from rfl)
   have z4 := (cell_of_row _ _ 4 _ _ _ hq).trans (show _ = some (Value.int .i64 (L.w : Int)) from rfl)
   have z5 := (cell_of_row _ _ 5 _ _ _ hq).trans (show _ = some (Value.int .i64 (L.r : Int)) from rfl)
   have z6 := (cell_of_row _ _ 6 _ _ _ hq).trans (show _ = some (Value.int .i64 (L.n : Int)) from rfl)
   have z7 := (cell_of_row _ _ 7 _ _ _ hq).trans (show _ = some (Value.slice Ar L.n cr) from rfl)
   have z8 := (cell_of_row _ _ 8 _ _ _ hq).trans (show _ = some (Value.slice (some ⟨O, 0, none⟩) L.disks L.disks) from rfl)
   have z9 := (cell_of_row _ _ 9 _ _ _ hq).trans (show _ = some (Value.int .i64 (L.homes : Int)) from rfl)
   have z10 := (cell_of_row _ _ 10 _ _ _ hq).trans (show _ = some (Value.int .i64 (L.blocks : Int)) from rfl)
   have y0 := (cell_of_row _ _ 0 _ _ _ hr).trans (show _ = some (Value.int .i64 0) from rfl)
   have y1 := (cell_of_row _ _ 1 _ _ _ hr).trans (show _ = some (Value.slice none 0 0) from rfl)
   have y2 := (cell_of_row _ _ 2 _ _ _ hr).trans (show _ = some (Value.int .i64 0) from rfl)
   have y3 := (cell_of_row _ _ 3 _ _ _ hr).trans (show _ = some (Value.int .i64 0) from rfl)
   have y4 := (cell_of_row _ _ 4 _ _ _ hr).trans (show _ = some (Value.int .i64 0) from rfl)
   have y5 := (cell_of_row _ _ 5 _ _ _ hr).trans (show _ = some (Value.int .i64 0) from rfl)
   have y6 := (cell_of_row _ _ 6 _ _ _ hr).trans (show _ = some (Value.int .i64 0) from rfl)
   have y7 := (cell_of_row _ _ 7 _ _ _ hr).trans (show _ = some (Value.slice none 0 0) from rfl)
   have y8 := (cell_of_row _ _ 8 _ _ _ hr).trans (show _ = some (Value.slice none 0 0) from rfl)
   have y9 := (cell_of_row _ _ 9 _ _ _ hr).trans (show _ = some (Value.int .i64 0) from rfl)
   have y10 := (cell_of_row _ _ 10 _ _ _ hr).trans (show _ = some (Value.int .i64 0) from rfl)
   have fz : ∀ j, wr.frozen? ⟨w.heap.size + 1, j, none⟩ = false := fun j => frozen_of_row _ _ j _ _ hr
   have HOUT : Hid (MeaP L (some ⟨b, off, none⟩) c w (.returned (.tuple #[.agg (numC L (some ⟨b, off, none⟩) c (.slice Ar L.n cr) (.slice (some ⟨O, 0, none⟩) L.disks L.disks) L.homes L.blocks), .bool true])) (setAll wr (w.heap.size + 1) 0 (numC L (some ⟨b, off, none⟩) c (.slice Ar L.n cr) (.slice (some ⟨O, 0, none⟩) L.disks L.disks) L.homes L.blocks).toList)) := mea_out hm
   unfold setAll numC at HOUT
   simp only [setAll] at HOUT
   clear hm hq hr
   go_wp2
   (try simp only [Exit.inBlock, Exit.then])
   refine bodyPost_ret (v := .tuple #[.agg #[.int .i64 (L.disks : Int), .slice (some ⟨b, off, none⟩) L.n c, .int .i64 (L.tiles : Int), .int .i64 (L.spare : Int), .int .i64 (L.w : Int), .int .i64 (L.r : Int), .int .i64 (L.n : Int), .slice Ar L.n cr, .slice (some ⟨O, 0, none⟩) L.disks L.disks, .int .i64 (L.homes : Int), .int .i64 (L.blocks : Int)], .bool true]) ?_ rfl HOUT.out
   rw [results_cell_tmp rfl]
   go_simp
end Go.Proofs.YtopoefcklipaeaaGreatDoor
