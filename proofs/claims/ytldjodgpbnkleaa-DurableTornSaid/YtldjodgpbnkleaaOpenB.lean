/- Arguments that are a list of bytes, or an array of three bytes, opened. -/
import Derived.Test.YtldjodgpbnkleaaLawG
import Derived.Deep.Slices
import Derived.Deep.Fields
import Derived.ChangeSame
import Derived.OpenShut
import Derived.WideShapes
namespace Go.Proofs.Ytldjodgpbnkleaa
open Go.ChangeShapes Go.WideShapes Go.Deep Go.RowKit

theorem cells_byte : Try.prog.cellsOf 5 = 1 := by kernel_rfl
theorem cells_three : Try.prog.cellsOf 45 = 3 := by kernel_rfl
/-- a list of bytes -/
theorem open_bytes {H : Type} {enc : TypeId × Value → H} {w : World} {base : Nat} {spare : Nat → Bool} {held : Bool} {n : Nat} {cs : List Value} {x : DataW H × List MemPlace}
    (h : DataW.trod enc Try.prog w base spare held n 44 cs = some x) : ∃ (l : List Nat) (A : Option Addr) (c : Nat), cs = [.slice A l.length c] ∧ ByS w w.heap.size A l := by
  rcases open_slice Try.underlying44 h with ⟨hcs, -⟩ | ⟨a, len, cap, m, k, D, Pl, hcs, hb, hl, hm, hmm, hx, hi⟩
  · exact ⟨[], none, 0, hcs, RdS.nil _ _ _ _⟩
  · rw [cells_byte] at hi
    have hle : len ≤ m := by rw [hmm]; split <;> omega
    have hE : ∀ i, ∃ e : Nat, i < len → (∀ j v, (bcellN e)[j]? = some v → w.cell? (a.add (i * 1 + j)) = some v) := fun i => by
      by_cases him : i < len
      · obtain ⟨cs', hc, ht⟩ := hi i (by omega)
        obtain ⟨n0, e0, -, w0⟩ := DataW.trod_int Try.underlying5 ht
        obtain ⟨x, rfl, hx⟩ := byte_nat w0
        subst e0
        obtain ⟨_, hcl, hat⟩ := World.cells?_some hc
        refine ⟨x, fun _ j v hj => ?_⟩
        have hj6 : j < 1 := (List.getElem?_eq_some_iff.1 hj).1
        rw [← Go.Deep.add_add, hat j hj6, ← hj]
        rfl
      · exact ⟨0, fun h => absurd h him⟩
    obtain ⟨f, hf⟩ := Classical.axiomOfChoice hE
    refine ⟨(List.range len).map f, some a, cap, by simpa using hcs, ⟨by simp [bcellN], fun h0 => ?_⟩⟩
    have h0' : 0 < len := by simpa using h0
    have hc0 := hf 0 h0' 0 _ rfl
    obtain ⟨b, off, spot⟩ := a
    have hspot : spot = none := by simpa [Addr.add] using World.cell?_spot hc0
    subst hspot
    refine ⟨b, off, rfl, by simpa [Addr.add] using block_lt_of_cell hc0, fun i r hr j v hj => ?_⟩
    have hil : i < len := by
      have := (List.getElem?_eq_some_iff.1 hr).1
      simpa using this
    have hrr : r = bcellN (f i) := by
      rw [List.getElem?_map, List.getElem?_map, List.getElem?_range hil] at hr
      simpa using hr.symm
    subst hrr
    have := hf i hil j v hj
    rw [show (⟨b, off, none⟩ : Addr).add (i * 1 + j) = ⟨b, off + (i * 1 + j), none⟩ from Addr.add_lit _ _ _] at this
    rw [Nat.add_assoc]
    exact this
set_option maxRecDepth 100000 in
theorem okWide_array {P : Program} {w : World} {r : Reach} {base : Nat} {t e : TypeId} {m : Nat} {v : Value} (ht : P.underlying t = some (.array m e)) (h : Value.okWide P w r base t v) : ∃ cs, v = .agg cs ∧ cs.size = P.cellsOf t := by
  simp only [Value.okWide, ht] at h
  obtain ⟨cs, h1, h2, _⟩ := h
  exact ⟨cs, h1, h2⟩
set_option maxRecDepth 100000 in
/-- an array of three bytes -/
theorem open_three {H : Type} {enc : TypeId × Value → H} {w : World} {r : Reach} {base b0 : Nat} {spare : Nat → Bool} {held : Bool} {v : Value} {d : DataW H} {p : List MemPlace}
    (hv : Value.okWide Try.prog w r b0 45 v) (h : DataW.Trod enc Try.prog w base spare held 45 v d p) : ∃ x y z : Nat, v = .agg #[.int .u8 x, .int .u8 y, .int .u8 z] ∧ x < 256 ∧ y < 256 ∧ z < 256 := by
  obtain ⟨cs, rfl, hsz⟩ := okWide_array Try.underlying45 hv
  rw [cells_three] at hsz
  obtain ⟨fuel, hf⟩ := h
  obtain ⟨xs, m, -, -, -, hxl, hel⟩ := DataW.trod_array Try.underlying45 hf
  obtain ⟨cl⟩ := cs
  match cl, hsz with
  | [v0, v1, v2], _ =>
    match xs, hxl with
    | [y0, y1, y2], _ =>
      have h0 : DataW.trod enc Try.prog w base spare held m 5 (([v0, v1, v2].drop (0 * Try.prog.cellsOf 5)).take (Try.prog.cellsOf 5)) = some y0 := hel 0 (by omega)
      have h1 : DataW.trod enc Try.prog w base spare held m 5 (([v0, v1, v2].drop (1 * Try.prog.cellsOf 5)).take (Try.prog.cellsOf 5)) = some y1 := hel 1 (by omega)
      have h2 : DataW.trod enc Try.prog w base spare held m 5 (([v0, v1, v2].drop (2 * Try.prog.cellsOf 5)).take (Try.prog.cellsOf 5)) = some y2 := hel 2 (by omega)
      rw [cells_byte] at h0 h1 h2
      obtain ⟨n0, e0, -, w0⟩ := DataW.trod_int Try.underlying5 h0
      obtain ⟨n1, e1, -, w1⟩ := DataW.trod_int Try.underlying5 h1
      obtain ⟨n2, e2, -, w2⟩ := DataW.trod_int Try.underlying5 h2
      cases e0; cases e1; cases e2
      obtain ⟨x, rfl, hx⟩ := byte_nat w0
      obtain ⟨y, rfl, hy⟩ := byte_nat w1
      obtain ⟨z, rfl, hz⟩ := byte_nat w2
      exact ⟨x, y, z, rfl, hx, hy, hz⟩
end Go.Proofs.Ytldjodgpbnkleaa
