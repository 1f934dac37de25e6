/- An argument that is a list of events, opened. -/
import Derived.Test.YtcgbnlhloopnfaaDurH
import Derived.Deep.Slices
import Derived.Deep.Fields
import Derived.ChangeSame
namespace Go.Proofs.Ytcgbnlhloopnfaa
open Go.ChangeShapes Go.WideShapes Go.Deep Go.RowKit

theorem six {α : Type} {l : List α} (h : l.length = 6) : ∃ a b c d e f, l = [a, b, c, d, e, f] := by
  match l, h with
  | [a, b, c, d, e, f], _ => exact ⟨a, b, c, d, e, f, rfl⟩

theorem cells_event : Try.prog.cellsOf 56 = 6 := by kernel_rfl
theorem one_event : Try.prog.cellsOf 3 = 1 := by kernel_rfl
theorem one_flag : Try.prog.cellsOf 4 = 1 := by kernel_rfl

/-- one event -/
theorem open_event {H : Type} {enc : TypeId × Value → H} {w : World} {base : Nat} {spare : Nat → Bool} {held : Bool} {n : Nat} {cs : List Value} {x : DataW H × List MemPlace}
    (h : DataW.trod enc Try.prog w base spare held n 56 cs = some x) : ∃ e : Ev, cs = e.cells ∧ (Lit.int .i64 e.op).wf = true ∧ (Lit.int .i64 e.reg).wf = true ∧ (Lit.int .i64 e.val).wf = true := by
  obtain ⟨ys, m, -, -, hlen, hyl, hf⟩ := DataW.trod_struct Try.underlying56 h
  rw [cells_event] at hlen
  obtain ⟨v0, v1, v2, v3, v4, v5, rfl⟩ := six hlen
  obtain ⟨y0, y1, y2, y3, y4, y5, rfl⟩ := six (show ys.length = 6 from hyl)
  have h0 : DataW.trod enc Try.prog w base spare held m 3 (([v0, v1, v2, v3, v4, v5].drop 0).take (Try.prog.cellsOf 3)) = some y0 := hf 0 _ rfl
  rw [one_event] at h0
  have h1 : DataW.trod enc Try.prog w base spare held m 3 (([v0, v1, v2, v3, v4, v5].drop 1).take (Try.prog.cellsOf 3)) = some y1 := hf 1 _ rfl
  rw [one_event] at h1
  have h2 : DataW.trod enc Try.prog w base spare held m 4 (([v0, v1, v2, v3, v4, v5].drop 2).take (Try.prog.cellsOf 4)) = some y2 := hf 2 _ rfl
  rw [one_flag] at h2
  have h3 : DataW.trod enc Try.prog w base spare held m 3 (([v0, v1, v2, v3, v4, v5].drop 3).take (Try.prog.cellsOf 3)) = some y3 := hf 3 _ rfl
  rw [one_event] at h3
  have h4 : DataW.trod enc Try.prog w base spare held m 3 (([v0, v1, v2, v3, v4, v5].drop 4).take (Try.prog.cellsOf 3)) = some y4 := hf 4 _ rfl
  rw [one_event] at h4
  have h5 : DataW.trod enc Try.prog w base spare held m 4 (([v0, v1, v2, v3, v4, v5].drop 5).take (Try.prog.cellsOf 4)) = some y5 := hf 5 _ rfl
  rw [one_flag] at h5
  obtain ⟨n0, e0, -, -⟩ := DataW.trod_int Try.underlying3 h0
  obtain ⟨n1, e1, -, w1⟩ := DataW.trod_int Try.underlying3 h1
  obtain ⟨n2, e2, -⟩ := DataW.trod_bool Try.underlying4 h2
  obtain ⟨n3, e3, -, w3⟩ := DataW.trod_int Try.underlying3 h3
  obtain ⟨n4, e4, -, w4⟩ := DataW.trod_int Try.underlying3 h4
  obtain ⟨n5, e5, -⟩ := DataW.trod_bool Try.underlying4 h5
  cases e0; cases e1; cases e2; cases e3; cases e4; cases e5
  exact ⟨⟨n0, n1, n2, n3, n4, n5⟩, rfl, w1, w3, w4⟩

/-- a list of events -/
theorem open_events {H : Type} {enc : TypeId × Value → H} {w : World} {base : Nat} {spare : Nat → Bool} {held : Bool} {n : Nat} {cs : List Value} {x : DataW H × List MemPlace}
    (h : DataW.trod enc Try.prog w base spare held n 22 cs = some x) : ∃ (l : List Ev) (A : Option Addr) (c : Nat), cs = [.slice A l.length c] ∧ EvS w w.heap.size A l ∧ WfE l := by
  rcases open_slice Try.underlying22 h with ⟨hcs, -⟩ | ⟨a, len, cap, m, k, D, Pl, hcs, hb, hl, hm, hmm, hx, hi⟩
  · exact ⟨[], none, 0, hcs, RdS.nil _ _ _ _, by simp [WfE]⟩
  · rw [cells_event] at hi
    have hle : len ≤ m := by rw [hmm]; split <;> omega
    have hE : ∀ i, ∃ e : Ev, i < len → (∀ j v, e.cells[j]? = some v → w.cell? (a.add (i * 6 + j)) = some v) ∧ (Lit.int .i64 e.op).wf = true ∧ (Lit.int .i64 e.reg).wf = true ∧ (Lit.int .i64 e.val).wf = true := fun i => by
      by_cases him : i < len
      · obtain ⟨cs', hc, ht⟩ := hi i (by omega)
        obtain ⟨e, rfl, hw⟩ := open_event ht
        obtain ⟨_, hcl, hat⟩ := World.cells?_some hc
        refine ⟨e, fun _ => ⟨fun j v hj => ?_, hw⟩⟩
        have hj6 : j < 6 := (List.getElem?_eq_some_iff.1 hj).1
        rw [← Go.Deep.add_add, hat j hj6, hj]
      · exact ⟨⟨0, 0, false, 0, 0, false⟩, fun h => absurd h him⟩
    obtain ⟨f, hf⟩ := Classical.axiomOfChoice hE
    refine ⟨(List.range len).map f, some a, cap, by simpa using hcs, ⟨by simp [Ev.cells], fun h0 => ?_⟩, fun e he => ?_⟩
    · have h0' : 0 < len := by simpa using h0
      have hc0 := (hf 0 h0').1 0 _ rfl
      obtain ⟨b, off, spot⟩ := a
      have hspot : spot = none := by simpa [Addr.add] using World.cell?_spot hc0
      subst hspot
      refine ⟨b, off, rfl, by simpa [Addr.add] using block_lt_of_cell hc0, fun i r hr j v hj => ?_⟩
      have hil : i < len := by
        have := (List.getElem?_eq_some_iff.1 hr).1
        simpa using this
      have hrr : r = (f i).cells := by
        rw [List.getElem?_map, List.getElem?_map, List.getElem?_range hil] at hr
        simpa using hr.symm
      subst hrr
      have := (hf i hil).1 j v hj
      rw [show (⟨b, off, none⟩ : Addr).add (i * 6 + j) = ⟨b, off + (i * 6 + j), none⟩ from Addr.add_lit _ _ _] at this
      rw [Nat.add_assoc]
      exact this
    · obtain ⟨i, hi', rfl⟩ := List.mem_map.1 he
      exact (hf i (List.mem_range.1 hi')).2
end Go.Proofs.Ytcgbnlhloopnfaa
