/- The recorder of histories: what it holds, and the walks of New, call, Read, Write, Flush, Done, Cut, Events. -/
import Derived.Test.YtcgbnlhloopnfaaStepAp
import Derived.Test.YtcgbnlhloopnfaaSpecB
import Derived.RegionTactic
import Derived.BigRegion
import Derived.BigQuiet
import Derived.Outline
import Derived.Deep.DeepCutAuto
namespace Go.Proofs.Ytcgbnlhloopnfaa
open Go.RowKit

structure Rcd where
  evs : List Ev
  calls : List Ev
  opn : List Bool
def flCell (b : Bool) : List Value := [.bool b]
theorem flCell_one (b : Bool) : ∀ u ∈ flCell b, u.oneCell' = true := by
  intro u hu
  simp [flCell] at hu
  subst hu
  rfl
theorem elemBool : Elem Try.prog 93 4 1 1 := Elem.mk (z := .bool false) Try.underlying93 (by kernel_rfl) (by decide) rfl

theorem OwS.isSlice {w : World} {base size : Nat} {e : TypeId} {v : Value} {rows : List (List Value)} (h : OwS w base e size v rows) : ∃ A n c, v = .slice A n c := by
  obtain ⟨A, c, hv, -, -⟩ := h.form
  exact ⟨A, _, c, hv⟩
/-- nothing below a bound has turned, but for one block -/
structure BelR (base rb : Nat) (w w' : World) : Prop where
  os : w'.os = w.os
  tape : w'.tape = w.tape
  output : w'.output = w.output
  size : w.heap.size ≤ w'.heap.size
  block : ∀ k, k < base → k ≠ rb → w'.heap[k]? = w.heap[k]?
section
variable {base rb : Nat} {a w w' : World}
theorem BelR.refl (base rb : Nat) (w : World) : BelR base rb w w := ⟨rfl, rfl, rfl, Nat.le_refl _, fun _ _ _ => rfl⟩
theorem BelR.of {B : Nat} (h : Below B w w') (hB : base ≤ B) : BelR base rb w w' := ⟨h.os, h.tape, h.output, h.size, fun k hk _ => h.block k (by omega)⟩
theorem BelR.below (h : BelR base rb w w') (hr : base ≤ rb) : Below base w w' := ⟨h.os, h.tape, h.output, h.size, fun k hk => h.block k hk (by omega)⟩
theorem BelR.trans (h : BelR base rb a w) (h' : BelR base rb w w') : BelR base rb a w' :=
  ⟨h'.os.trans h.os, h'.tape.trans h.tape, h'.output.trans h.output, Nat.le_trans h.size h'.size, fun k hk hr => (h'.block k hk hr).trans (h.block k hk hr)⟩
theorem BelR.alloc (h : BelR base rb a w) (hB : base ≤ w.heap.size) (o : Obj) : BelR base rb a (w.alloc o) := h.trans (BelR.of ((Below.refl _ _).alloc (Nat.le_refl _) o) hB)
theorem BelR.drew (h : BelR base rb a w) : BelR base rb a w.drew := ⟨h.os, h.tape, h.output, h.size, h.block⟩
theorem BelR.drewN (h : BelR base rb a w) (n : Nat) : BelR base rb a (w.drewN n) := ⟨h.os, h.tape, h.output, h.size, h.block⟩
theorem BelR.grown {row : Option Nat} (h : BelR base rb a w) (hg : w.grownBy w' row) (hB : base ≤ w.heap.size) (hr : ∀ k, row = some k → base ≤ k) : BelR base rb a w' :=
  h.trans ⟨hg.os, hg.tape, hg.output, hg.size, fun k hk _ => hg.block k (by omega) (fun e => by have := hr k e.symm; omega)⟩
theorem BelR.setCell (h : BelR base rb a w) {p : Addr} (hp : base ≤ p.block ∨ p.block = rb) (u : Value) : BelR base rb a (w.setCell p u) :=
  h.trans ⟨rfl, rfl, rfl, by simp [World.setCell], fun k hk hr => Below.heap_setCell _ _ _ _ (by omega)⟩
end
/-- a recorder in memory -/
structure RecV (w : World) (base rb : Nat) (r : Rcd) (ve vc vo : Value) : Prop where
  blk : w.heap[rb]? = some (.cells #[ve, vc, vo] 112 (0, 0))
  evs : OwS w base 56 6 ve (r.evs.map Ev.cells)
  calls : OwS w base 56 6 vc (r.calls.map Ev.cells)
  opn : OwS w base 4 1 vo (r.opn.map flCell)
  apart : ve.ownBlock = none ∨ ve.ownBlock ≠ vc.ownBlock
def RecOk (w : World) (base rb : Nat) (r : Rcd) : Prop := ∃ ve vc vo, RecV w base rb r ve vc vo

section
variable {w w' : World} {base rb : Nat} {r : Rcd} {ve vc vo : Value}
theorem RecV.lt (h : RecV w base rb r ve vc vo) : rb < w.heap.size := (Array.getElem?_eq_some_iff.1 h.blk).1
theorem RecV.below (h : RecV w base rb r ve vc vo) (hb : Below w.heap.size w w') : RecV w' base rb r ve vc vo :=
  ⟨(hb.block _ h.lt).trans h.blk, h.evs.below hb, h.calls.below hb, h.opn.below hb, h.apart⟩
theorem RecOk.below (h : RecOk w base rb r) (hb : Below w.heap.size w w') : RecOk w' base rb r := by
  obtain ⟨ve, vc, vo, h⟩ := h
  exact ⟨ve, vc, vo, h.below hb⟩
theorem RecOk.lt (h : RecOk w base rb r) : rb < w.heap.size := by
  obtain ⟨ve, vc, vo, h⟩ := h
  exact h.lt
theorem RecV.cells (h : RecV w base rb r ve vc vo) : w.cell? ⟨rb, 0, none⟩ = some ve ∧ w.cell? ⟨rb, 1, none⟩ = some vc ∧ w.cell? ⟨rb, 2, none⟩ = some vo ∧ w.frozen? ⟨rb, 0, none⟩ = false ∧ w.frozen? ⟨rb, 1, none⟩ = false ∧ w.frozen? ⟨rb, 2, none⟩ = false := by
  refine ⟨?_, ?_, ?_, frozen_of_row _ _ _ _ _ h.blk, frozen_of_row _ _ _ _ _ h.blk, frozen_of_row _ _ _ _ _ h.blk⟩ <;> rw [cell_of_row _ _ _ _ _ _ h.blk] <;> rfl
end

theorem grow_alloc {w w3 : World} {o : Obj} {row : Option Nat} (h : (w.alloc o).grownBy w3 row) : w.grownBy w3 row :=
  ⟨h.os, h.tape, h.output, by have := h.size; simp at this; omega, fun k hk hne => (h.block k (by simp; omega) hne).trans (Below.heap_alloc _ _ _ hk)⟩
theorem grow_drew {w w3 : World} {row : Option Nat} (h : w.drew.grownBy w3 row) : w.grownBy w3 row := ⟨h.os, h.tape, h.output, h.size, h.block⟩
theorem grow_drewN {w w3 : World} {n : Nat} {row : Option Nat} (h : (w.drewN n).grownBy w3 row) : w.grownBy w3 row := ⟨h.os, h.tape, h.output, h.size, h.block⟩

section
variable {w w3 : World} {base rb : Nat} {r : Rcd} {ve vc vo v3 : Value}
theorem apart_symm {a b : Option Nat} (h : a = none ∨ a ≠ b) : b = none ∨ b ≠ a := by
  rcases h with rfl | h
  · cases b <;> simp
  · exact .inr fun e => h e.symm
theorem apart_new {a b v : Option Nat} {n : Nat} (h : a = none ∨ a ≠ b) (hb : ∀ k, b = some k → k < n) (hv : v = a ∨ ∃ k, v = some k ∧ n ≤ k) : v = none ∨ v ≠ b := by
  rcases hv with rfl | ⟨k, rfl, hk⟩
  · exact h
  · refine .inr fun e => ?_
    have := hb k e.symm
    omega
theorem RecV.blk0 (h : RecV w base rb r ve vc vo) (hg : w.grownBy w3 ve.ownBlock) : w3.heap[rb]? = some (.cells #[ve, vc, vo] 112 (0, 0)) :=
  (hg.block rb h.lt (fun e => h.evs.blk_ne h.blk (by decide) e.symm)).trans h.blk
theorem RecV.blk1 (h : RecV w base rb r ve vc vo) (hg : w.grownBy w3 vc.ownBlock) : w3.heap[rb]? = some (.cells #[ve, vc, vo] 112 (0, 0)) :=
  (hg.block rb h.lt (fun e => h.calls.blk_ne h.blk (by decide) e.symm)).trans h.blk
theorem RecV.blk2 (h : RecV w base rb r ve vc vo) (hg : w.grownBy w3 vo.ownBlock) : w3.heap[rb]? = some (.cells #[ve, vc, vo] 112 (0, 0)) :=
  (hg.block rb h.lt (fun e => h.opn.blk_ne h.blk (by decide) e.symm)).trans h.blk
theorem RecV.put0 (h : RecV w base rb r ve vc vo) (hg : w.grownBy w3 ve.ownBlock) {es : List Ev} (ho : OwS w3 base 56 6 v3 (es.map Ev.cells)) (hv : v3.ownBlock = ve.ownBlock ∨ ∃ k, v3.ownBlock = some k ∧ w.heap.size ≤ k) :
    RecV (w3.setCell ⟨rb, 0, none⟩ v3) base rb ⟨es, r.calls, r.opn⟩ v3 vc vo := by
  have hb := h.blk0 hg
  exact ⟨heap_setCell_same _ _ _ _ _ _ hb, ho.far (ho.blk_ne hb (by decide)) _, (h.calls.kept hg (apart_symm h.apart)).far (h.calls.blk_ne h.blk (by decide)) _, (h.opn.kept hg (h.opn.ne h.evs (by decide))).far (h.opn.blk_ne h.blk (by decide)) _,
    apart_new h.apart (fun k e => (h.calls.lt e).2) hv⟩
theorem RecV.put1 (h : RecV w base rb r ve vc vo) (hg : w.grownBy w3 vc.ownBlock) {es : List Ev} (ho : OwS w3 base 56 6 v3 (es.map Ev.cells)) (hv : v3.ownBlock = vc.ownBlock ∨ ∃ k, v3.ownBlock = some k ∧ w.heap.size ≤ k) :
    RecV (w3.setCell ⟨rb, 1, none⟩ v3) base rb ⟨r.evs, es, r.opn⟩ ve v3 vo := by
  have hb := h.blk1 hg
  exact ⟨heap_setCell_same _ _ _ _ _ _ hb, (h.evs.kept hg h.apart).far (h.evs.blk_ne h.blk (by decide)) _, ho.far (ho.blk_ne hb (by decide)) _, (h.opn.kept hg (h.opn.ne h.calls (by decide))).far (h.opn.blk_ne h.blk (by decide)) _,
    apart_symm (apart_new (apart_symm h.apart) (fun k e => (h.evs.lt e).2) hv)⟩
theorem RecV.put2 (h : RecV w base rb r ve vc vo) (hg : w.grownBy w3 vo.ownBlock) {os : List Bool} (ho : OwS w3 base 4 1 v3 (os.map flCell)) :
    RecV (w3.setCell ⟨rb, 2, none⟩ v3) base rb ⟨r.evs, r.calls, os⟩ ve vc v3 := by
  have hb := h.blk2 hg
  exact ⟨heap_setCell_same _ _ _ _ _ _ hb, (h.evs.kept hg (h.evs.ne h.opn (by decide))).far (h.evs.blk_ne h.blk (by decide)) _, (h.calls.kept hg (h.calls.ne h.opn (by decide))).far (h.calls.blk_ne h.blk (by decide)) _, ho.far (ho.blk_ne hb (by decide)) _, h.apart⟩
end

/-- New -/
theorem hnew_any (w : World) : Calls Try.prog 26 #[] w fun e w' => e = .returned (.pointer (some ⟨w.heap.size, 0, none⟩)) ∧ (∀ base, RecOk w' base w.heap.size ⟨[], [], []⟩) ∧ Below w.heap.size w w' := by
  go_enter Try.func26, Try.ntmps26
  go_wp2
  go_ret
  exact ⟨rfl, fun _ => ⟨.slice none 0 0, .slice none 0 0, .slice none 0 0, heap_alloc_new w _, OwS.nil _ _ _ _, OwS.nil _ _ _ _, OwS.nil _ _ _ _, .inl rfl⟩, (Below.refl _ _).alloc (Nat.le_refl _) _⟩

/-- what a call does -/
def recEv (r : Rcd) (e : Ev) : Ev := { e with kind := 1, op := r.calls.length }
def recCall (r : Rcd) (e : Ev) : Rcd := ⟨r.evs ++ [recEv r e], r.calls ++ [recEv r e], r.opn ++ [true]⟩
end Go.Proofs.Ytcgbnlhloopnfaa
