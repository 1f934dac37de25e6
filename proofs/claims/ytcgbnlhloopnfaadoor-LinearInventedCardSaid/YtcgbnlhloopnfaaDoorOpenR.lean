/- An argument that is a script of a register (rows of two bytes), opened. -/
import Derived.Test.YtcgbnlhloopnfaaDoorGRgL
import Derived.Deep.Slices
import Derived.Deep.Fields
import Derived.ChangeSame
import Derived.OpenShut
namespace Go.Proofs.YtcgbnlhloopnfaaDoor
open Go.ChangeShapes Go.WideShapes Go.Deep Go.RowKit

theorem twoR {α : Type} {l : List α} (h : l.length = 2) : ∃ a b, l = [a, b] := by
  match l, h with
  | [a, b], _ => exact ⟨a, b, rfl⟩
theorem cells_actr : Tryd.prog.cellsOf 85 = 2 := by kernel_rfl
theorem one_byter : Tryd.prog.cellsOf 5 = 1 := by kernel_rfl
theorem open_actr1 {H : Type} {enc : TypeId × Value → H} {w : World} {base : Nat} {spare : Nat → Bool} {held : Bool} {n : Nat} {cs : List Value} {x : DataW H × List MemPlace}
    (h : DataW.trod enc Tryd.prog w base spare held n 85 cs = some x) : ∃ e : RgA, cs = e.cells ∧ e.kind < 256 ∧ e.which < 256 := by
  obtain ⟨ys, m, -, -, hlen, hyl, hf⟩ := DataW.trod_struct Tryd.underlying85 h
  rw [cells_actr] at hlen
  obtain ⟨v0, v1, rfl⟩ := twoR hlen
  obtain ⟨y0, y1, rfl⟩ := twoR (show ys.length = 2 from hyl)
  have h0 : DataW.trod enc Tryd.prog w base spare held m 5 (([v0, v1].drop 0).take (Tryd.prog.cellsOf 5)) = some y0 := hf 0 _ rfl
  rw [one_byter] at h0
  have h1 : DataW.trod enc Tryd.prog w base spare held m 5 (([v0, v1].drop 1).take (Tryd.prog.cellsOf 5)) = some y1 := hf 1 _ rfl
  rw [one_byter] at h1
  obtain ⟨n0, e0, -, w0⟩ := DataW.trod_int Tryd.underlying5 h0
  obtain ⟨n1, e1, -, w1⟩ := DataW.trod_int Tryd.underlying5 h1
  cases e0; cases e1
  obtain ⟨x, rfl, hx⟩ := byte_nat w0
  obtain ⟨y, rfl, hy⟩ := byte_nat w1
  exact ⟨⟨x, y⟩, rfl, hx, hy⟩
/-- a script -/
theorem open_actr {H : Type} {enc : TypeId × Value → H} {w : World} {base : Nat} {spare : Nat → Bool} {held : Bool} {n : Nat} {cs : List Value} {x : DataW H × List MemPlace}
    (h : DataW.trod enc Tryd.prog w base spare held n 40 cs = some x) : ∃ (l : List RgA) (A : Option Addr) (c : Nat), cs = [.slice A l.length c] ∧ RdS w w.heap.size 2 A (l.map RgA.cells) ∧ ∀ a ∈ l, a.kind < 256 ∧ a.which < 256 := by
  rcases open_slice Tryd.underlying40 h with ⟨hcs, -⟩ | ⟨a, len, cap, m, k, D, Pl, hcs, hb, hl, hm, hmm, hx, hi⟩
  · exact ⟨[], none, 0, hcs, RdS.nil _ _ _ _, by simp⟩
  · rw [cells_actr] at hi
    have hle : len ≤ m := by rw [hmm]; split <;> omega
    have hE : ∀ i, ∃ e : RgA, i < len → (∀ j v, e.cells[j]? = some v → w.cell? (a.add (i * 2 + j)) = some v) ∧ e.kind < 256 ∧ e.which < 256 := fun i => by
      by_cases him : i < len
      · obtain ⟨cs', hc, ht⟩ := hi i (by omega)
        obtain ⟨e, rfl, hw⟩ := open_actr1 ht
        obtain ⟨_, hcl, hat⟩ := World.cells?_some hc
        refine ⟨e, fun _ => ⟨fun j v hj => ?_, hw⟩⟩
        have hj6 : j < 2 := (List.getElem?_eq_some_iff.1 hj).1
        rw [← Go.Deep.add_add, hat j hj6, hj]
      · exact ⟨⟨0, 0⟩, fun h => absurd h him⟩
    obtain ⟨f, hf⟩ := Classical.axiomOfChoice hE
    refine ⟨(List.range len).map f, some a, cap, by simpa using hcs, ⟨by simp [RgA.cells], fun h0 => ?_⟩, fun e he => ?_⟩
    · have h0' : 0 < len := by simpa using h0
      have hc0 := (hf 0 h0').1 0 _ rfl
      obtain ⟨b, off, spot⟩ := a
      have hspot : spot = none := by simpa [Addr.add] using World.cell?_spot hc0
      subst hspot
      refine ⟨b, off, rfl, by simpa [Addr.add] using block_lt_of_cell hc0, fun i r hr j v hj => ?_⟩
      have hil : i < len := by
        have := (List.getElem?_eq_some_iff.1 hr).1
        simpa using this
      have hrr : r = (f i).cells := by
        rw [List.getElem?_map, List.getElem?_map, List.getElem?_range hil] at hr
        simpa using hr.symm
      subst hrr
      have := (hf i hil).1 j v hj
      rw [show (⟨b, off, none⟩ : Addr).add (i * 2 + j) = ⟨b, off + (i * 2 + j), none⟩ from Addr.add_lit _ _ _] at this
      rw [Nat.add_assoc]
      exact this
    · obtain ⟨i, hi', rfl⟩ := List.mem_map.1 he
      exact (hf i (List.mem_range.1 hi')).2
end Go.Proofs.YtcgbnlhloopnfaaDoor
