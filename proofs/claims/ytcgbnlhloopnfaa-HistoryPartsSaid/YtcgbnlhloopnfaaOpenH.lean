/- An argument that is a script of a recorder (rows of a byte and two signed bytes), opened. -/
import Derived.Test.YtcgbnlhloopnfaaHSpec
import Derived.Test.YtcgbnlhloopnfaaByte
import Derived.Deep.Slices
import Derived.Deep.Fields
import Derived.ChangeSame
import Derived.OpenShut
namespace Go.Proofs.Ytcgbnlhloopnfaa
open Go.ChangeShapes Go.WideShapes Go.Deep Go.RowKit

theorem threeH {α : Type} {l : List α} (h : l.length = 3) : ∃ a b c, l = [a, b, c] := by
  match l, h with
  | [a, b, c], _ => exact ⟨a, b, c, rfl⟩
theorem cells_acth : Try.prog.cellsOf 78 = 3 := by kernel_rfl
theorem one_u8 : Try.prog.cellsOf 5 = 1 := by kernel_rfl
theorem one_i8 : Try.prog.cellsOf 76 = 1 := by kernel_rfl
theorem sbyte {n : Int} (h : (Lit.int .i8 n).wf = true) : -128 ≤ n ∧ n ≤ 127 := by
  rw [Lit.wf_int_iff, IntKind.min_i8, IntKind.max_i8] at h
  omega
theorem open_acth1 {H : Type} {enc : TypeId × Value → H} {w : World} {base : Nat} {spare : Nat → Bool} {held : Bool} {n : Nat} {cs : List Value} {x : DataW H × List MemPlace}
    (h : DataW.trod enc Try.prog w base spare held n 78 cs = some x) : ∃ e : ActH, cs = e.cells ∧ ActOk e := by
  obtain ⟨ys, m, -, -, hlen, hyl, hf⟩ := DataW.trod_struct Try.underlying78 h
  rw [cells_acth] at hlen
  obtain ⟨v0, v1, v2, rfl⟩ := threeH hlen
  obtain ⟨y0, y1, y2, rfl⟩ := threeH (show ys.length = 3 from hyl)
  have h0 : DataW.trod enc Try.prog w base spare held m 5 (([v0, v1, v2].drop 0).take (Try.prog.cellsOf 5)) = some y0 := hf 0 _ rfl
  rw [one_u8] at h0
  have h1 : DataW.trod enc Try.prog w base spare held m 76 (([v0, v1, v2].drop 1).take (Try.prog.cellsOf 76)) = some y1 := hf 1 _ rfl
  rw [one_i8] at h1
  have h2 : DataW.trod enc Try.prog w base spare held m 76 (([v0, v1, v2].drop 2).take (Try.prog.cellsOf 76)) = some y2 := hf 2 _ rfl
  rw [one_i8] at h2
  obtain ⟨n0, e0, -, w0⟩ := DataW.trod_int Try.underlying5 h0
  obtain ⟨n1, e1, -, w1⟩ := DataW.trod_int Try.underlying76 h1
  obtain ⟨n2, e2, -, w2⟩ := DataW.trod_int Try.underlying76 h2
  cases e0; cases e1; cases e2
  obtain ⟨x, rfl, hx⟩ := byte_nat w0
  have hy := sbyte w1
  have hz := sbyte w2
  exact ⟨⟨x, n1, n2⟩, rfl, hx, hy.1, hy.2, hz.1, hz.2⟩
/-- a script -/
theorem open_acth {H : Type} {enc : TypeId × Value → H} {w : World} {base : Nat} {spare : Nat → Bool} {held : Bool} {n : Nat} {cs : List Value} {x : DataW H × List MemPlace}
    (h : DataW.trod enc Try.prog w base spare held n 31 cs = some x) : ∃ (l : List ActH) (A : Option Addr) (c : Nat), cs = [.slice A l.length c] ∧ RdS w w.heap.size 3 A (l.map ActH.cells) ∧ ActsOk l := by
  rcases open_slice Try.underlying31 h with ⟨hcs, -⟩ | ⟨a, len, cap, m, k, D, Pl, hcs, hb, hl, hm, hmm, hx, hi⟩
  · exact ⟨[], none, 0, hcs, RdS.nil _ _ _ _, by simp [ActsOk]⟩
  · rw [cells_acth] at hi
    have hle : len ≤ m := by rw [hmm]; split <;> omega
    have hE : ∀ i, ∃ e : ActH, i < len → (∀ j v, e.cells[j]? = some v → w.cell? (a.add (i * 3 + j)) = some v) ∧ ActOk e := fun i => by
      by_cases him : i < len
      · obtain ⟨cs', hc, ht⟩ := hi i (by omega)
        obtain ⟨e, rfl, hw⟩ := open_acth1 ht
        obtain ⟨_, hcl, hat⟩ := World.cells?_some hc
        refine ⟨e, fun _ => ⟨fun j v hj => ?_, hw⟩⟩
        have hj6 : j < 3 := (List.getElem?_eq_some_iff.1 hj).1
        rw [← Go.Deep.add_add, hat j hj6, hj]
      · exact ⟨⟨0, 0, 0⟩, fun h => absurd h him⟩
    obtain ⟨f, hf⟩ := Classical.axiomOfChoice hE
    refine ⟨(List.range len).map f, some a, cap, by simpa using hcs, ⟨by simp [ActH.cells], fun h0 => ?_⟩, fun e he => ?_⟩
    · have h0' : 0 < len := by simpa using h0
      have hc0 := (hf 0 h0').1 0 _ rfl
      obtain ⟨b, off, spot⟩ := a
      have hspot : spot = none := by simpa [Addr.add] using World.cell?_spot hc0
      subst hspot
      refine ⟨b, off, rfl, by simpa [Addr.add] using block_lt_of_cell hc0, fun i r hr j v hj => ?_⟩
      have hil : i < len := by
        have := (List.getElem?_eq_some_iff.1 hr).1
        simpa using this
      have hrr : r = (f i).cells := by
        rw [List.getElem?_map, List.getElem?_map, List.getElem?_range hil] at hr
        simpa using hr.symm
      subst hrr
      have := (hf i hil).1 j v hj
      rw [show (⟨b, off, none⟩ : Addr).add (i * 3 + j) = ⟨b, off + (i * 3 + j), none⟩ from Addr.add_lit _ _ _] at this
      rw [Nat.add_assoc]
      exact this
    · obtain ⟨i, hi', rfl⟩ := List.mem_map.1 he
      exact (hf i (List.mem_range.1 hi')).2
end Go.Proofs.Ytcgbnlhloopnfaa
