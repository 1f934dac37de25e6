/- An argument that is a list of explained eras, opened. -/
import Derived.Test.YtcgbnlhloopnfaaDoorOpenL
import Derived.Test.YtcgbnlhloopnfaaDoorAccA
namespace Go.Proofs.YtcgbnlhloopnfaaDoor
open Go.ChangeShapes Go.WideShapes Go.Deep Go.RowKit

section
variable {H : Type} {enc : TypeId × Value → H} {w : World} {base : Nat} {spare : Nat → Bool} {held : Bool} {n : Nat} {cs : List Value} {x : DataW H × List MemPlace}
/-- a list of numbers -/
theorem open_nums (h : DataW.trod enc Tryd.prog w base spare held n 34 cs = some x) : ∃ (l : List Int) (A : Option Addr) (c : Nat), cs = [.slice A l.length c] ∧ IntS w w.heap.size A l := by
  obtain ⟨l, A, c, h1, h2, -⟩ := open_rows icell (fun _ => True) Tryd.underlying34 (by kernel_rfl) (fun _ => rfl) (by decide) (fun n cs held x h => by
    obtain ⟨b, e, -⟩ := DataW.trod_int Tryd.underlying3 h
    cases e
    exact ⟨b, rfl, trivial⟩) h
  exact ⟨l, A, c, h1, h2⟩
theorem cells_wera : Tryd.prog.cellsOf 36 = 2 := by kernel_rfl
theorem cells_nums : Tryd.prog.cellsOf 34 = 1 := by kernel_rfl
theorem twoV {α : Type} {l : List α} (h : l.length = 2) : ∃ a b, l = [a, b] := by
  match l, h with
  | [a, b], _ => exact ⟨a, b, rfl⟩
set_option maxRecDepth 100000 in
/-- one explained era -/
theorem open_wera (h : DataW.trod enc Tryd.prog w base spare held n 36 cs = some x) : ∃ p : (Option Addr × Nat) × (List Int × Int), cs = rowW p ∧ IntS w w.heap.size p.1.1 p.2.1 := by
  obtain ⟨ys, m, -, -, hlen, hyl, hf⟩ := DataW.trod_struct Tryd.underlying36 h
  rw [cells_wera] at hlen
  obtain ⟨v0, v1, rfl⟩ := twoV hlen
  obtain ⟨y0, y1, rfl⟩ := twoV (show ys.length = 2 from hyl)
  have h0 : DataW.trod enc Tryd.prog w base spare held m 34 (([v0, v1].drop 0).take (Tryd.prog.cellsOf 34)) = some y0 := hf 0 _ rfl
  rw [cells_nums] at h0
  have h1 : DataW.trod enc Tryd.prog w base spare held m 3 (([v0, v1].drop 1).take (Tryd.prog.cellsOf 3)) = some y1 := hf 1 _ rfl
  rw [one_ev] at h1
  obtain ⟨l, A, c, e0, hl⟩ := open_nums h0
  obtain ⟨k, e1, -⟩ := DataW.trod_int Tryd.underlying3 h1
  simp at e0
  cases e1
  subst e0
  exact ⟨((A, c), (l, k)), rfl, hl⟩
/-- a list of explained eras -/
theorem open_weras (h : DataW.trod enc Tryd.prog w base spare held n 32 cs = some x) : ∃ (l : List (List Int × Int)) (A : Option Addr) (c : Nat), cs = [.slice A l.length c] ∧ WinS w w.heap.size A l := by
  obtain ⟨l, A, c, h1, h2, h3⟩ := open_rows (size := 2) rowW (fun p => IntS w w.heap.size p.1.1 p.2.1) Tryd.underlying32 (by kernel_rfl) (fun _ => rfl) (by decide) (fun n cs held x h => open_wera h) h
  have hz : (l.map Prod.fst).zip (l.map Prod.snd) = l := by
    clear h1 h2 h3
    induction l with
    | nil => rfl
    | cons a l ih => simp [ih]
  refine ⟨l.map Prod.snd, A, c, by simpa using h1, l.map Prod.fst, by simp, by rw [hz]; exact h2, fun i p y hp hy => ?_⟩
  rw [List.getElem?_map] at hp hy
  rcases hq : l[i]? with _ | q
  · rw [hq] at hp; cases hp
  · rw [hq] at hp hy
    simp at hp hy
    subst hp hy
    exact h3 q (List.mem_of_getElem? hq)
end
end Go.Proofs.YtcgbnlhloopnfaaDoor
