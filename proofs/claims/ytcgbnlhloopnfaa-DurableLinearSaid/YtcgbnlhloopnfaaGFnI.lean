/- The searcher in memory. Nothing of the program is walked here.
Walks of slices.Clone at []int, and of the finder's prefixes.
What a visit of the search keeps. Nothing of the program is walked here. -/
import Derived.Test.YtcgbnlhloopnfaaGFnE
namespace Go.Proofs.Ytcgbnlhloopnfaa
open Go.RowKit

def OrdV (w : World) (v : Value) (ids : List Int) : Prop := (∃ A c, v = .slice A ids.length c) ∧ OwS w 0 3 1 v (ids.map icell)
def eraRow (x : Value × (List Int × Int)) : List Value := [x.1, .int .i64 x.2.2]
/-- a list of explained eras -/
def OutS [BaseW] (w : World) (ov : Value) (out : List (List Int × Int)) : Prop := ∃ es : List (Value × (List Int × Int)), es.map Prod.snd = out ∧ OwS w BaseW.b 138 2 ov (es.map eraRow) ∧ ∀ x ∈ es, OrdV w x.1 x.2.1
def sfX (os : List Opr) (k : Nat) : List Bool := (eraX os k).map (durI os)
/-- the eras of a history -/
def ErasM (w : World) (os : List Opr) (cuts eb : Nat) : Prop := ∃ cur, w.heap[eb]? = some (.cells cur 95 (0, 0)) ∧ ∀ k, k ≤ cuts → ∃ Ao co As cs, cur[3 * k]? = some (.slice Ao (eraX os k).length co) ∧ cur[3 * k + 1]? = some (.slice As (eraX os k).length cs) ∧
  cur[3 * k + 2]? = some (.bool (k == cuts)) ∧ OwS w 0 39 8 (.slice Ao (eraX os k).length co) ((eraX os k).map Opr.cells) ∧ OwS w 0 4 1 (.slice As (eraX os k).length cs) ((sfX os k).map fun x => [.bool x])
def valsO (os : List Opr) : List Int := 0 :: os.map (·.val)
structure SInv [BaseW] (w : World) (os : List Opr) (cuts sb mb eb ce : Nat) (LF : List Lit) (out : List (List Int × Int)) (ov : Value) (ff : Lit → Bool) : Prop where
  blk : w.heap[sb]? = some (.cells #[.slice (some ⟨eb, 0, none⟩) (cuts + 1) ce, .map (some mb), ov] 100 (0, 0))
  eras : ErasM w os cuts eb
  out : OutS w ov out
  map : MapS w Try.prog 125 mb LF ff
  sound : ∀ k v, k ≤ cuts → v ∈ valsO os → ff (pKey (k : Int) v) = true → ¬ ExpO os cuts k v
  bb : BaseW.b ≤ sb

section
variable {w w' : World} {m : Nat}
theorem OwS.stay {base size : Nat} {e' : TypeId} {v : Value} {rows : List (List Value)} (h : OwS w base e' size v rows) (hb : BelR w.heap.size m w w') (hm : ∀ cur e fz, w.heap[m]? ≠ some (.cells cur e fz)) : OwS w' base e' size v rows :=
  h.kept (row := some m) ⟨hb.os, hb.tape, hb.output, hb.size, fun k hk hne => hb.block k hk (by simpa using hne)⟩ (.inr (h.notMap hm).symm)
theorem cells_stay {k : Nat} {cs : Array Value} {t : TypeId} {fz : Nat × Nat} (h : w.heap[k]? = some (.cells cs t fz)) (hb : BelR w.heap.size m w w') (hm : ∀ cur e fz, w.heap[m]? ≠ some (.cells cur e fz)) : w'.heap[k]? = some (.cells cs t fz) := by
  rw [hb.block k (Array.getElem?_eq_some_iff.1 h).1 (fun he => by subst he; exact hm _ _ _ h), h]
theorem ErasM.stay {os : List Opr} {cuts eb : Nat} (h : ErasM w os cuts eb) (hb : BelR w.heap.size m w w') (hm : ∀ cur e fz, w.heap[m]? ≠ some (.cells cur e fz)) : ErasM w' os cuts eb := by
  obtain ⟨cur, h1, h2⟩ := h
  refine ⟨cur, cells_stay h1 hb hm, fun k hk => ?_⟩
  obtain ⟨Ao, co, As, cs, g1, g2, g3, g4, g5⟩ := h2 k hk
  exact ⟨Ao, co, As, cs, g1, g2, g3, g4.stay hb hm, g5.stay hb hm⟩
theorem MapS.stay {P : Program} {k : TypeId} {b : Nat} {L : List Lit} {f : Lit → Bool} (h : MapS w P k b L f) (hb : BelR w.heap.size m w w') (hm : b ≠ m) : MapS w' P k b L f := h.block (hb.block b h.lt hm)
theorem FinV.stay {fb me : Nat} {X : List Opr} {sf : List Bool} {last : Bool} {st : Int} {Ao As : Option Addr} {co cs : Nat} (h : FinV w fb me X sf last st Ao As co cs) (hb : BelR w.heap.size m w w') (hm : ∀ cur e fz, w.heap[m]? ≠ some (.cells cur e fz)) : FinV w' fb me X sf last st Ao As co cs :=
  ⟨cells_stay h.blk hb hm, h.ops.stay hb hm, h.safe.stay hb hm, h.len⟩
theorem belR_big (hb : Below w.heap.size w w') : BelR w.heap.size w.heap.size w w' := .of hb (Nat.le_refl _)
theorem no_block (w : World) : ∀ cur e fz, w.heap[w.heap.size]? ≠ some (.cells cur e fz) := fun cur e fz h => by
  have := (Array.getElem?_eq_some_iff.1 h).1
  omega
end
section
variable [BaseW] {w w' : World} {T : List Nat} {e : TypeId} {m : Nat}
/-- frames in which all rows stay but those of the type e -/
theorem OrdV.fr {v : Value} {ids : List Int} (h : OrdV w v ids) (hf : FrE T 138 w w') (hT : ∀ k ∈ T, ∀ cur fz, w.heap[k]? ≠ some (.cells cur 3 fz)) : OrdV w' v ids := ⟨h.1, h.2.fr hf (by decide) hT⟩
theorem OutS.stay {ov : Value} {out : List (List Int × Int)} (h : OutS w ov out) (hb : BelR w.heap.size m w w') (hm : ∀ cur e fz, w.heap[m]? ≠ some (.cells cur e fz)) : OutS w' ov out := by
  obtain ⟨es, h1, h2, h3⟩ := h
  exact ⟨es, h1, h2.stay hb hm, fun x hx => ⟨(h3 x hx).1, (h3 x hx).2.stay hb hm⟩⟩
variable {os : List Opr} {cuts sb mb eb ce : Nat} {LF : List Lit} {out : List (List Int × Int)} {ov : Value} {ff : Lit → Bool}
theorem SInv.stay (h : SInv w os cuts sb mb eb ce LF out ov ff) (hb : BelR w.heap.size m w w') (hm : ∀ cur e fz, w.heap[m]? ≠ some (.cells cur e fz)) (hne : mb ≠ m) : SInv w' os cuts sb mb eb ce LF out ov ff :=
  ⟨cells_stay h.blk hb hm, h.eras.stay hb hm, h.out.stay hb hm, h.map.stay hb hne, h.sound, h.bb⟩
theorem SInv.below (h : SInv w os cuts sb mb eb ce LF out ov ff) (hb : Below w.heap.size w w') : SInv w' os cuts sb mb eb ce LF out ov ff :=
  h.stay (belR_big hb) (no_block w) (by have := h.map.lt; omega)
theorem SInv.cells (h : SInv w os cuts sb mb eb ce LF out ov ff) : w.cell? ⟨sb, 0, none⟩ = some (.slice (some ⟨eb, 0, none⟩) (cuts + 1) ce) ∧ w.cell? ⟨sb, 1, none⟩ = some (.map (some mb)) ∧ w.cell? ⟨sb, 2, none⟩ = some ov := by
  refine ⟨?_, ?_, ?_⟩ <;> (rw [cell_of_row _ _ _ _ _ _ h.blk]; rfl)
theorem SInv.eraCells (h : SInv w os cuts sb mb eb ce LF out ov ff) {k : Nat} (hk : k ≤ cuts) : ∃ Ao co As cs, w.cell? ⟨eb, 3 * k, none⟩ = some (.slice Ao (eraX os k).length co) ∧ w.cell? ⟨eb, 3 * k + 1, none⟩ = some (.slice As (eraX os k).length cs) ∧ w.cell? ⟨eb, 3 * k + 2, none⟩ = some (.bool (k == cuts)) ∧
    OwS w 0 39 8 (.slice Ao (eraX os k).length co) ((eraX os k).map Opr.cells) ∧ OwS w 0 4 1 (.slice As (eraX os k).length cs) ((sfX os k).map fun x => [.bool x]) ∧ eb < w.heap.size := by
  obtain ⟨cur, h1, h2⟩ := h.eras
  obtain ⟨Ao, co, As, cs, g1, g2, g3, g4, g5⟩ := h2 k hk
  refine ⟨Ao, co, As, cs, ?_, ?_, ?_, g4, g5, (Array.getElem?_eq_some_iff.1 h1).1⟩ <;> rw [cell_of_row _ _ _ _ _ _ h1] <;> assumption
end
theorem elemEra : Elem Try.prog 42 138 2 32 := Elem.mk (z := .agg #[.slice none 0 0, .int .i64 0]) Try.underlying42 (by kernel_rfl) (by decide) rfl
theorem sfX_at {os : List Opr} {k i : Nat} (hi : i < (eraX os k).length) : (sfX os k)[i]?.getD false = safeX os k i := by
  unfold sfX safeX
  rw [List.getElem?_map, opAt_get hi]
  rfl
theorem covS_congr {X : List Opr} {q q' : Nat → Bool} {S : Nat} (h : ∀ i, i < X.length → q i = q' i) : covS X q S = covS X q' S := by
  unfold covS
  rw [Bool.eq_iff_iff, List.all_eq_true, List.all_eq_true]
  constructor
  · intro hh i hi; rw [← h i (by simpa using hi)]; exact hh i hi
  · intro hh i hi; rw [h i (by simpa using hi)]; exact hh i hi
theorem valS_mem {os : List Opr} {k : Nat} {st l : Int} (hst : st ∈ valsO os) : valS (eraX os k) st l ∈ valsO os := by
  unfold valS
  split
  · exact hst
  · unfold opAt
    rcases hx : (eraX os k)[l.toNat]? with _ | o
    · simp [valsO]
    · have hm : o ∈ os := (List.mem_filter.1 (List.mem_filter.1 (List.mem_of_getElem? hx)).1).1
      exact List.mem_cons_of_mem _ (List.mem_map.2 ⟨o, hm, rfl⟩)

/-- what from leaves -/
def FromP [BaseW] (os : List Opr) (cuts sb mb eb ce : Nat) (LF : List Lit) (k : Nat) (v : Int) (out : List (List Int × Int)) (w : World) (r : Ending) (w' : World) : Prop :=
  ∃ b, r = .returned (.bool b) ∧ FrE [sb, mb] 138 w w' ∧ (b = true → ∃ wl ov' ff', wl.length + k = cuts + 1 ∧ accI os cuts k v wl = true ∧ SInv w' os cuts sb mb eb ce LF (out ++ wl) ov' ff') ∧ (b = false → ¬ ExpO os cuts k v ∧ ∃ ov' ff', SInv w' os cuts sb mb eb ce LF out ov' ff')
/-- the visits of era k: what stands ahead of each -/
structure JV [BaseW] (os : List Opr) (cuts sb mb eb ce : Nat) (LF L : List Lit) (k : Nat) (v : Int) (out : List (List Int × Int)) (fb me c1 c2 c3 : Nat) (Ao As : Option Addr) (co cs : Nat) (w : World) (ov : Value) (ff fe : Lit → Bool) : Prop where
  s : SInv w os cuts sb mb eb ce LF out ov ff
  f : FinV w fb me (eraX os k) (sfX os k) (k == cuts) v Ao As co cs
  m : MapS w Try.prog 132 me L fe
  sd : SoundF (eraX os k) v fe
  x1 : Var1 w c1 (.pointer (some ⟨fb, 0, none⟩)) 126
  x2 : Var1 w c2 (.pointer (some ⟨sb, 0, none⟩)) 97
  x3 : Var1 w c3 (.int .i64 (k : Int)) 3
def JW [BaseW] (os : List Opr) (cuts sb mb eb ce : Nat) (LF L : List Lit) (k : Nat) (v : Int) (out : List (List Int × Int)) (fb me c1 c2 c3 : Nat) (Ao As : Option Addr) (co cs : Nat) (w : World) : Prop := ∃ ov ff fe, JV os cuts sb mb eb ce LF L k v out fb me c1 c2 c3 Ao As co cs w ov ff fe
def DoneW [BaseW] (os : List Opr) (cuts sb mb eb ce : Nat) (LF : List Lit) (k : Nat) (v : Int) (out : List (List Int × Int)) (w : World) : Prop := ∃ wl ov ff, wl.length + k = cuts + 1 ∧ accI os cuts k v wl = true ∧ SInv w os cuts sb mb eb ce LF (out ++ wl) ov ff
theorem JW.vis [BaseW] {os : List Opr} {cuts sb mb eb ce : Nat} {LF L : List Lit} {k : Nat} {v : Int} {out : List (List Int × Int)} {fb me c1 c2 c3 ms : Nat} {Ao As : Option Addr} {co cs : Nat} (h1 : ms ≠ sb) (h2 : ms ≠ mb) (h3 : ms ≠ me) :
    VisJ (eraX os k) (sfX os k) (k == cuts) v Ao As co cs fb me ms [sb, mb, me] (JW os cuts sb mb eb ce LF L k v out fb me c1 c2 c3 Ao As co cs) where
  fin := fun W ⟨_, _, _, h⟩ => h.f
  stay := fun W W' ⟨ov, ff, fe, h⟩ hm hb => ⟨ov, ff, fe, h.s.stay hb hm h2.symm, h.f.stay hb hm, h.m.stay hb h3.symm, h.sd, cells_stay h.x1 hb hm, cells_stay h.x2 hb hm, cells_stay h.x3 hb hm⟩
  typ := fun W ⟨ov, ff, fe, h⟩ q hq cur e' fz hc => by
    simp at hq
    rcases hq with rfl | rfl | rfl
    · rw [h.s.blk] at hc
      injection hc with hc
      injection hc with _ h2 _
      exact h2.symm
    · exact absurd hc (h.s.map.isMap _ _ _)
    · exact absurd hc (h.m.isMap _ _ _)
  lt := fun W ⟨ov, ff, fe, h⟩ q hq => by
    simp at hq
    rcases hq with rfl | rfl | rfl
    · exact (Array.getElem?_eq_some_iff.1 h.s.blk).1
    · exact h.s.map.lt
    · exact h.m.lt
  msT := by simp; exact ⟨h1, h2, h3⟩
end Go.Proofs.Ytcgbnlhloopnfaa
namespace Go.Proofs.Ytcgbnlhloopnfaa
open Go.RowKit

set_option maxHeartbeats 1000000 in
set_option maxRecDepth 100000 in
theorem clone_ord {A : Option Addr} {n c : Nat} {ids : List Int} (w : World) (h : OwS w 0 3 1 (.slice A n c) (ids.map icell)) (hl : n ≤ 100000) :
    Calls Try.prog 76 #[.slice A n c] w fun r w' => ∃ v', r = .returned v' ∧ OwS w' w.heap.size 3 1 v' (ids.map icell) ∧ Below w.heap.size w w' := by
  obtain ⟨h1, h2, h3, h4, h5⟩ := ord_cells h
  rcases h5 with rfl | ⟨g, rfl⟩
  · obtain ⟨rfl, rfl⟩ := h1 rfl
    have hids : ids = [] := List.eq_nil_of_length_eq_zero h2.symm
    subst hids
    clear h h1 h2 h3 h4 hl
    have hnil := fun W => Lib.run_eql_slice_nil (P := Try.prog) W 29 3 none 0 0 0 0 Try.underlying29
    go_enter Try.func76, Try.ntmps76
    go_wp2
    go_ret
    exact ⟨_, rfl, OwS.nil _ _ _ _, Below.refl _ _⟩
  · have hR : IntS w w.heap.size (some ⟨g, 0, none⟩) ids := h.reads
    have hnl := Lib.hid (show n = (ids.map icell).length by simp [h2])
    clear h h1 h3 h4
    have hnil := fun W => Lib.run_eql_slice_nil (P := Try.prog) W 29 3 (some ⟨g, 0, none⟩) n c 0 0 Try.underlying29
    have HN := Lib.hid h2
    clear h2
    go_enter Try.func76, Try.ntmps76
    go_wp2_with (at_builtin; refine wpList_apS rfl (.tmp 5) (.tmp 6) _ rfl elemInt (base := w.heap.size) (rows := []) rfl ⟨by simp, by simp, .inr ⟨w.heap.size, 0, #[], rfl, Nat.le_refl _, heap_alloc_new w _, Nat.le_refl _, Nat.zero_le _, rfl, rfl⟩⟩ w.heap.size (some ⟨g, 0, none⟩) n c (ids.map icell) rfl (hR.below below_laid) hnl.out (by intro r hr u hu; obtain ⟨x, _, rfl⟩ := List.mem_map.1 hr; exact icell_one x u hu) (by have := hnl.out; simp [maxLen] at this ⊢; omega) (by have := hnl.out; simp at this ⊢; omega) (by simp) ?_; intro v2 w2 hown2 hg2 _)
    have HO := Lib.hid hown2
    have HG := Lib.hid hg2
    clear hown2 hg2
    go_wp2
    go_ret
    exact ⟨v2, rfl, by simpa using HO.out, below_laid.grown HG.out (by simp) (fun k hk => by cases hk; exact Nat.le_refl _)⟩

/-- what prefixes leaves -/
def PreP [BaseW] (X : List Opr) (st : Int) (T : List Nat) (J Done : World → Prop) (Vis : St → Prop) (w : World) (r : Ending) (w' : World) : Prop :=
  ∃ b, r = .returned (.bool b) ∧ FrE T 138 w w' ∧ (b = true → Done w') ∧ (b = false → J w' ∧ DeadV X st Vis (0, -1))

set_option maxHeartbeats 4000000 in
set_option maxRecDepth 100000 in
theorem prefixes_any [BaseW] (fb me c1 c2 c3 : Nat) {X : List Opr} {sf : List Bool} {last : Bool} {st : Int} {Ao As : Option Addr} {co cs : Nat} {L : List Lit} (T : List Nat) (J Done : World → Prop) (Vis : St → Prop)
    (hlen : X.length ≤ 16) (hL : ∀ s, StOk X s → pKey s.1 s.2 ∈ L) (hLn : L.length < maxLen) (w : World) (hT : ∀ k ∈ T, k < w.heap.size) (_hfb : fb < w.heap.size) (hJ : ∀ ms, w.heap.size ≤ ms → VisJ X sf last st Ao As co cs fb me ms T J) (hj : J w)
    (hv : ∀ s p A n c W, StOk X s → Path X st (0, -1) p s → J W → OwS W 0 3 1 (.slice A n c) ((idsOf X p).map icell) →
      Calls Try.prog 73 #[s.agg, .slice A n c, .pointer (some ⟨c1, 0, none⟩), .pointer (some ⟨c2, 0, none⟩), .pointer (some ⟨c3, 0, none⟩)] W
        fun r w' => VisP T J Done Vis s W r w') :
    Calls Try.prog 72 #[.pointer (some ⟨fb, 0, none⟩), .func (.func 73) #[] #[.pointer (some ⟨c1, 0, none⟩), .pointer (some ⟨c2, 0, none⟩), .pointer (some ⟨c3, 0, none⟩)]] w
      fun r w' => PreP X st T J Done Vis w r w' := by
  have HVS := Lib.hid hv
  have HJ := Lib.hid hJ
  have HT := Lib.hid hT
  have Hj := Lib.hid hj
  clear hv hJ hT hj
  have hmm := @run_makeMap Try.prog
  go_enter Try.func72, Try.ntmps72
  go_wp2_with fail
  generalize hW : ((((w.alloc _).alloc _).alloc _).alloc _).alloc _ = W5
  have hbW : Below w.heap.size w W5 := by
    rw [← hW]
    exact (((below_laid.alloc (by simp) _).alloc (by simp; omega) _).alloc (by simp; omega) _).alloc (by simp; omega) _
  have hb1 : Var1 W5 w.heap.size (.pointer (some ⟨fb, 0, none⟩)) 126 := by
    unfold Var1
    rw [← hW, Below.heap_alloc _ _ _ (by simp <;> omega), Below.heap_alloc _ _ _ (by simp <;> omega), Below.heap_alloc _ _ _ (by simp <;> omega), Below.heap_alloc _ _ _ (by simp <;> omega)]
    exact heap_new_at _ _ rfl
  have hb2 : Var1 W5 (w.heap.size + 1) (.func (.func 73) #[] #[.pointer (some ⟨c1, 0, none⟩), .pointer (some ⟨c2, 0, none⟩), .pointer (some ⟨c3, 0, none⟩)]) 140 := by
    unfold Var1
    rw [← hW, Below.heap_alloc _ _ _ (by simp <;> omega), Below.heap_alloc _ _ _ (by simp <;> omega), Below.heap_alloc _ _ _ (by simp <;> omega)]
    exact heap_new_at _ _ (by simp)
  have hb4 : Var1 W5 (w.heap.size + 1 + 1 + 1) (.map (some (w.heap.size + 1 + 1))) 127 := by
    unfold Var1
    rw [← hW, Below.heap_alloc _ _ _ (by simp <;> omega)]
    exact heap_new_at _ _ (by simp)
  have hb5 : Var1 W5 (w.heap.size + 1 + 1 + 1 + 1) (.func (.func 100) #[] #[.pointer (some ⟨w.heap.size + 1 + 1 + 1, 0, none⟩), .pointer (some ⟨w.heap.size + 1, 0, none⟩), .pointer (some ⟨w.heap.size, 0, none⟩), .pointer (some ⟨w.heap.size + 1 + 1 + 1 + 1, 0, none⟩)]) 140 := by
    unfold Var1
    rw [← hW]
    exact heap_new_at _ _ (by simp)
  have hm3 : MapS W5 Try.prog 132 (w.heap.size + 1 + 1) L (fun _ => false) := by
    refine MapS.block (w := (((w.alloc (.cells #[.pointer (some ⟨fb, 0, none⟩)] 126)).alloc (.cells #[.func (.func 73) #[] #[.pointer (some ⟨c1, 0, none⟩), .pointer (some ⟨c2, 0, none⟩), .pointer (some ⟨c3, 0, none⟩)]] 140)).alloc (.map #[] 0))) ?_ ?_
    · have := MapS.made ((w.alloc (.cells #[.pointer (some ⟨fb, 0, none⟩)] 126)).alloc (.cells #[.func (.func 73) #[] #[.pointer (some ⟨c1, 0, none⟩), .pointer (some ⟨c2, 0, none⟩), .pointer (some ⟨c3, 0, none⟩)]] 140)) Try.prog 132 L
      rw [World.size_alloc, World.size_alloc] at this
      exact this
    · rw [← hW, Below.heap_alloc _ _ _ (by simp <;> omega), Below.heap_alloc _ _ _ (by simp <;> omega)]
  have hJW := HJ.out (w.heap.size + 1 + 1) (by omega)
  have hj5 : J W5 := (HJ.out w.heap.size (Nat.le_refl _)).stay _ _ Hj.out (no_block w) (belR_big hbW)
  have hnT : ∀ q, w.heap.size ≤ q → q ≠ w.heap.size + 1 + 1 → q ∉ (w.heap.size + 1 + 1) :: T := fun q hq hne hm => by
    rcases List.mem_cons.1 hm with h | h
    · exact hne h
    · have := HT.out q h
      omega
  clear hW hmm
  have hX0 : missS X 0 ≤ X.length := by unfold missS; exact Nat.le_trans List.countP_le_length (by simp)
  refine (walk_any fb me (w.heap.size + 1 + 1) (w.heap.size + 1 + 1 + 1) (w.heap.size + 1) w.heap.size (w.heap.size + 1 + 1 + 1 + 1) c1 c2 c3 T J Done Vis hlen hL hLn hJW ⟨hnT _ (by omega) (by omega), hnT _ (by omega) (by omega), hnT _ (by omega) (by omega), hnT _ (by omega) (by omega)⟩ HVS.out 17 (0, -1) [] none 0 0 (fun _ => false) W5
    (by simp only; omega) ⟨by decide, by decide, by simp only; omega⟩ (.nil _) hj5 ⟨hb4, hb2, hb1, hb5⟩ (OwS.nil _ _ _ _) hm3 (fun t _ h => absurd h (by simp))).mono ?_
  rintro r w6 ⟨b, f6, rfl, hf6, hd6, hj6⟩
  have HF := Lib.hid ((FrE.of hbW).trans' (T := T) hf6 (fun k hk => (List.mem_cons.1 hk).elim (fun h => .inr (by omega)) .inl))
  have HD := Lib.hid hd6
  have HJ6 := Lib.hid hj6
  clear hf6 hd6 hj6 hb1 hb2 hb4 hb5 hm3 hj5 hJW hnT
  go_wp2
  go_ret
  exact ⟨b, rfl, HF.out, HD.out, fun h => ⟨(HJ6.out h).1, (HJ6.out h).2.2.1⟩⟩
end Go.Proofs.Ytcgbnlhloopnfaa
namespace Go.Proofs.Ytcgbnlhloopnfaa
open Go.RowKit

/-- where a visit stands behind complete -/
def ComQ (os : List Opr) (cuts k : Nat) (v : Int) (p : List Nat) (s : St) (B me ob : Nat) (L : List Lit) (w : World) (sv : Value) (w' : World) : Prop :=
  ∃ x ov f, sv = .bool x ∧ BelR B me w w' ∧ Var1 w' ob ov 29 ∧ MapS w' Try.prog 132 me L f ∧ SoundF (eraX os k) v f ∧ (x = true → ¬ VisS os cuts k v s) ∧
    (x = false → ∃ q u, Path (eraX os k) v s q u ∧ covS (eraX os k) (ansQ (eraX os k)) u.1 = true ∧ (k = cuts → q = []) ∧ OwS w' B 3 1 ov ((idsOf (eraX os k) (p ++ q)).map icell))
section
variable [BaseW] {w w' : World} {T : List Nat} {e : TypeId} {m : Nat} {os : List Opr} {cuts sb mb eb ce : Nat} {LF L : List Lit} {out out' : List (List Int × Int)} {ov ov' : Value} {ff ff' fe fe' : Lit → Bool}
theorem FrE.ofBelR (h : BelR w.heap.size m w w') (hm : m ∈ T) : FrE T e w w' := ⟨h.os, h.tape, h.output, h.size, fun k hk hkT _ => h.block k hk (fun he => hkT (by rw [he]; exact hm))⟩
theorem FrE.sub {T' : List Nat} (h : FrE T' e w w') (hT : ∀ k ∈ T', k ∈ T) : FrE T e w w' := ⟨h.os, h.tape, h.output, h.size, fun k hk hkT hne => h.block k hk (fun hm => hkT (hT k hm)) hne⟩
theorem ErasM.fr (h : ErasM w os cuts eb) (hf : FrE T 138 w w') (hT : ∀ k ∈ T, ∀ cur e' fz, w.heap[k]? = some (.cells cur e' fz) → e' = 100) : ErasM w' os cuts eb := by
  obtain ⟨cur, h1, h2⟩ := h
  refine ⟨cur, hf.cells_keep h1 (fun hm => absurd (hT _ hm _ _ _ h1) (by decide)) (by decide), fun k hk => ?_⟩
  obtain ⟨Ao, co, As, cs, g1, g2, g3, g4, g5⟩ := h2 k hk
  exact ⟨Ao, co, As, cs, g1, g2, g3, g4.fr hf (by decide) (fun k hk cur fz hc => absurd (hT k hk _ _ _ hc) (by decide)), g5.fr hf (by decide) (fun k hk cur fz hc => absurd (hT k hk _ _ _ hc) (by decide))⟩
theorem SInv.typ (h : SInv w os cuts sb mb eb ce LF out ov ff) : ∀ k ∈ [sb, mb], ∀ cur e' fz, w.heap[k]? = some (.cells cur e' fz) → e' = 100 := fun q hq cur e' fz hc => by
  simp at hq
  rcases hq with rfl | rfl
  · rw [h.blk] at hc
    injection hc with hc
    injection hc with _ h2 _
    exact h2.symm
  · exact absurd hc (h.map.isMap _ _ _)
theorem SInv.ne (h : SInv w os cuts sb mb eb ce LF out ov ff) : mb ≠ sb := fun he => h.map.isMap _ _ _ (show w.heap[mb]? = _ by rw [he]; exact h.blk)
/-- the list of explained eras is laid anew -/
theorem SInv.setOut (h : SInv w os cuts sb mb eb ce LF out ov ff) (hg : w.grownBy w' ov.ownBlock) {es : List (Value × (List Int × Int))} (h1 : es.map Prod.snd = out') (h2 : OwS w' BaseW.b 138 2 ov' (es.map eraRow)) (h3 : ∀ x ∈ es, OrdV w x.1 x.2.1) :
    SInv (w'.setCell ⟨sb, 2, none⟩ ov') os cuts sb mb eb ce LF out' ov' ff ∧ FrE [sb, mb] 138 w (w'.setCell ⟨sb, 2, none⟩ ov') := by
  obtain ⟨es0, -, g2, -⟩ := h.out
  have hf : FrE [sb, mb] 138 w (w'.setCell ⟨sb, 2, none⟩ ov') := ((FrE.refl _ _ _).grown hg fun g hg => .inr (.inr ((g2.rowTypeB g hg).imp fun cur => Exists.imp fun f hh => ⟨hh.1, by rw [bE_era]; exact hh.2⟩))).setCell (.inl (by simp)) _
  have hb : w'.heap[sb]? = some (.cells #[.slice (some ⟨eb, 0, none⟩) (cuts + 1) ce, .map (some mb), ov] 100 (0, 0)) := by
    rw [hg.block sb (Array.getElem?_eq_some_iff.1 h.blk).1 (g2.notRow h.blk (by decide)), h.blk]
  refine ⟨⟨?_, h.eras.fr hf h.typ, ⟨es, h1, h2.far (by simpa using (h2.notRow hb (by decide)).symm) _, fun x hx => (h3 x hx).fr hf fun k hk cur fz hc => absurd (h.typ k hk _ _ _ hc) (by decide)⟩, h.map.block ?_, h.sound, h.bb⟩, hf⟩
  · rw [heap_setCell_same _ _ _ _ _ _ hb]
    rfl
  · rw [heap_setCell_other _ _ _ _ (by simpa using h.ne), hg.block mb h.map.lt (g2.notMap h.map.isMap)]
variable {k : Nat} {v : Int} {fb me c1 c2 c3 : Nat} {Ao As : Option Addr} {co cs : Nat}
theorem JV.below (h : JV os cuts sb mb eb ce LF L k v out fb me c1 c2 c3 Ao As co cs w ov ff fe) (hb : Below w.heap.size w w') : JV os cuts sb mb eb ce LF L k v out fb me c1 c2 c3 Ao As co cs w' ov ff fe :=
  ⟨h.s.below hb, h.f.below hb, h.m.below hb, h.sd, keptB h.x1 hb, keptB h.x2 hb, keptB h.x3 hb⟩
/-- behind complete -/
theorem JV.com (h : JV os cuts sb mb eb ce LF L k v out fb me c1 c2 c3 Ao As co cs w ov ff fe) (hne : mb ≠ me) (hb : BelR w.heap.size me w w') (hm : MapS w' Try.prog 132 me L fe') (hs : SoundF (eraX os k) v fe') : JV os cuts sb mb eb ce LF L k v out fb me c1 c2 c3 Ao As co cs w' ov ff fe' :=
  ⟨h.s.stay hb h.m.isMap hne, h.f.stay hb h.m.isMap, hm, hs, cells_stay h.x1 hb h.m.isMap, cells_stay h.x2 hb h.m.isMap, cells_stay h.x3 hb h.m.isMap⟩
theorem JV.notIn (h : JV os cuts sb mb eb ce LF L k v out fb me c1 c2 c3 Ao As co cs w ov ff fe) {b : Nat} {cs' : Array Value} {t : TypeId} {fz : Nat × Nat} (hb : w.heap[b]? = some (.cells cs' t fz)) (ht : t ≠ 100) : b ∉ [sb, mb] := fun hm => ht (h.s.typ b hm _ _ _ hb)
/-- behind a change of the searcher -/
theorem JV.other (h : JV os cuts sb mb eb ce LF L k v out fb me c1 c2 c3 Ao As co cs w ov ff fe) (hne : mb ≠ me) (hf : FrE [sb, mb] 138 w w') (hs : SInv w' os cuts sb mb eb ce LF out' ov' ff') : JV os cuts sb mb eb ce LF L k v out' fb me c1 c2 c3 Ao As co cs w' ov' ff' fe :=
  ⟨hs, h.f.fr hf (by decide) (by decide) (by decide) (fun q hq cur e' fz hc => by rw [h.s.typ q hq _ _ _ hc]; decide), h.m.fr hf (by simp; exact ⟨fun he => h.m.isMap _ _ _ (show w.heap[me]? = _ by rw [he]; exact h.s.blk), hne.symm⟩), h.sd,
    hf.cells_keep h.x1 (h.notIn h.x1 (by decide)) (by decide), hf.cells_keep h.x2 (h.notIn h.x2 (by decide)) (by decide), hf.cells_keep h.x3 (h.notIn h.x3 (by decide)) (by decide)⟩
theorem JV.cells (h : JV os cuts sb mb eb ce LF L k v out fb me c1 c2 c3 Ao As co cs w ov ff fe) : w.cell? ⟨c1, 0, none⟩ = some (.pointer (some ⟨fb, 0, none⟩)) ∧ w.cell? ⟨c2, 0, none⟩ = some (.pointer (some ⟨sb, 0, none⟩)) ∧ w.cell? ⟨c3, 0, none⟩ = some (.int .i64 (k : Int)) := by
  refine ⟨?_, ?_, ?_⟩
  · rw [cell_of_row _ _ _ _ _ _ h.x1]; rfl
  · rw [cell_of_row _ _ _ _ _ _ h.x2]; rfl
  · rw [cell_of_row _ _ _ _ _ _ h.x3]; rfl
end
end Go.Proofs.Ytcgbnlhloopnfaa
