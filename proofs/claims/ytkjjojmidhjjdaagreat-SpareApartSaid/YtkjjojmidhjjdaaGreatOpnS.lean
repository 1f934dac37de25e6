/- Arguments of the laws of layer 22, opened: a number of 16 bits, a list of bytes, two ints, a request, a move, a list of moves. -/
import Derived.Test.YtkjjojmidhjjdaaGreatTwE
import Derived.Deep.Slices
import Derived.Deep.Fields
import Derived.ChangeSame
import Derived.OpenShut
import Derived.WideShapes
namespace Go.Proofs.YtkjjojmidhjjdaaGreat
open Go.ChangeShapes Go.WideShapes Go.Deep Go.RowKit

theorem word_nat {n : Int} (h : (Lit.int .u16 n).wf = true) : ∃ m : Nat, n = m ∧ m < 65536 := by
  rw [Lit.wf_int_iff, IntKind.min_u16, IntKind.max_u16] at h
  exact ⟨n.toNat, by omega, by omega⟩
/-- a place of two ints of 64 bits -/
def PlWfS (t : Plc) : Prop := (Lit.int .i64 t.disk).wf = true ∧ (Lit.int .i64 t.block).wf = true
def MvWfS (m : Mv) : Prop := (Lit.int .i64 m.g).wf = true ∧ (Lit.int .i64 m.p).wf = true ∧ PlWfS m.to
theorem cells_byteS : Tryz.prog.cellsOf 5 = 1 := by kernel_rfl
theorem cells_intS : Tryz.prog.cellsOf 3 = 1 := by kernel_rfl
theorem cells_wordS : Tryz.prog.cellsOf 22 = 1 := by kernel_rfl
theorem cells_pair : Tryz.prog.cellsOf 46 = 2 := by kernel_rfl
theorem cells_place : Tryz.prog.cellsOf 51 = 2 := by kernel_rfl
theorem cells_move : Tryz.prog.cellsOf 60 = 4 := by kernel_rfl
theorem twoS {α : Type} {l : List α} (h : l.length = 2) : ∃ a b, l = [a, b] := by
  match l, h with
  | [a, b], _ => exact ⟨a, b, rfl⟩
theorem threeS {α : Type} {l : List α} (h : l.length = 3) : ∃ a b c, l = [a, b, c] := by
  match l, h with
  | [a, b, c], _ => exact ⟨a, b, c, rfl⟩
theorem fourS {α : Type} {l : List α} (h : l.length = 4) : ∃ a b c d, l = [a, b, c, d] := by
  match l, h with
  | [a, b, c, d], _ => exact ⟨a, b, c, d, rfl⟩
/-- a list of bytes -/
theorem open_bytesS {H : Type} {enc : TypeId × Value → H} {w : World} {base : Nat} {spare : Nat → Bool} {held : Bool} {n : Nat} {cs : List Value} {x : DataW H × List MemPlace}
    (h : DataW.trod enc Tryz.prog w base spare held n 23 cs = some x) : ∃ (l : List Nat) (A : Option Addr) (c : Nat), cs = [.slice A l.length c] ∧ BytR w w.heap.size A l ∧ ∀ x ∈ l, x < 256 := by
  rcases open_slice Tryz.underlying23 h with ⟨hcs, -⟩ | ⟨a, len, cap, m, k, D, Pl, hcs, hb, hl, hm, hmm, hx, hi⟩
  · exact ⟨[], none, 0, hcs, RdS.nil _ _ _ _, by simp⟩
  · rw [cells_byteS] at hi
    have hle : len ≤ m := by rw [hmm]; split <;> omega
    have hE : ∀ i, ∃ e : Nat, i < len → (∀ j v, (bytC e)[j]? = some v → w.cell? (a.add (i * 1 + j)) = some v) ∧ e < 256 := fun i => by
      by_cases him : i < len
      · obtain ⟨cs', hc, ht⟩ := hi i (by omega)
        obtain ⟨n0, e0, -, w0⟩ := DataW.trod_int Tryz.underlying5 ht
        obtain ⟨x, rfl, hx⟩ := byte_nat w0
        subst e0
        obtain ⟨_, hcl, hat⟩ := World.cells?_some hc
        refine ⟨x, fun _ => ⟨fun j v hj => ?_, hx⟩⟩
        have hj6 : j < 1 := (List.getElem?_eq_some_iff.1 hj).1
        rw [← Go.Deep.add_add, hat j hj6, ← hj]
        rfl
      · exact ⟨0, fun h => absurd h him⟩
    obtain ⟨f, hf⟩ := Classical.axiomOfChoice hE
    refine ⟨(List.range len).map f, some a, cap, by simpa using hcs, ⟨by simp [bytC], fun h0 => ?_⟩, fun e he => ?_⟩
    · have h0' : 0 < len := by simpa using h0
      have hc0 := (hf 0 h0').1 0 _ rfl
      obtain ⟨b, off, spot⟩ := a
      have hspot : spot = none := by simpa [Addr.add] using World.cell?_spot hc0
      subst hspot
      refine ⟨b, off, rfl, by simpa [Addr.add] using block_lt_of_cell hc0, fun i r hr j v hj => ?_⟩
      have hil : i < len := by
        have := (List.getElem?_eq_some_iff.1 hr).1
        simpa using this
      have hrr : r = bytC (f i) := by
        rw [List.getElem?_map, List.getElem?_map, List.getElem?_range hil] at hr
        simpa using hr.symm
      subst hrr
      have := (hf i hil).1 j v hj
      rw [show (⟨b, off, none⟩ : Addr).add (i * 1 + j) = ⟨b, off + (i * 1 + j), none⟩ from Addr.add_lit _ _ _] at this
      rw [Nat.add_assoc]
      exact this
    · obtain ⟨i, hi', rfl⟩ := List.mem_map.1 he
      exact (hf i (List.mem_range.1 hi')).2
set_option maxRecDepth 100000 in
theorem okWide_arrayS {P : Program} {w : World} {r : Reach} {base : Nat} {t e : TypeId} {m : Nat} {v : Value} (ht : P.underlying t = some (.array m e)) (h : Value.okWide P w r base t v) : ∃ cs, v = .agg cs ∧ cs.size = P.cellsOf t := by
  simp only [Value.okWide, ht] at h
  obtain ⟨cs, h1, h2, _⟩ := h
  exact ⟨cs, h1, h2⟩
set_option maxRecDepth 100000 in
/-- two ints -/
theorem open_pairS {H : Type} {enc : TypeId × Value → H} {w : World} {r : Reach} {base b0 : Nat} {spare : Nat → Bool} {held : Bool} {v : Value} {d : DataW H} {p : List MemPlace}
    (hv : Value.okWide Tryz.prog w r b0 46 v) (h : DataW.Trod enc Tryz.prog w base spare held 46 v d p) : ∃ x y : Int, v = .agg #[.int .i64 x, .int .i64 y] ∧ (Lit.int .i64 x).wf = true ∧ (Lit.int .i64 y).wf = true := by
  obtain ⟨cs, rfl, hsz⟩ := okWide_arrayS Tryz.underlying46 hv
  rw [cells_pair] at hsz
  obtain ⟨fuel, hf⟩ := h
  obtain ⟨xs, m, -, -, -, hxl, hel⟩ := DataW.trod_array Tryz.underlying46 hf
  obtain ⟨cl⟩ := cs
  obtain ⟨v0, v1, rfl⟩ := twoS (show cl.length = 2 from hsz)
  obtain ⟨y0, y1, rfl⟩ := twoS (show xs.length = 2 from hxl)
  have h0 : DataW.trod enc Tryz.prog w base spare held m 3 (([v0, v1].drop (0 * Tryz.prog.cellsOf 3)).take (Tryz.prog.cellsOf 3)) = some y0 := hel 0 (by omega)
  have h1 : DataW.trod enc Tryz.prog w base spare held m 3 (([v0, v1].drop (1 * Tryz.prog.cellsOf 3)).take (Tryz.prog.cellsOf 3)) = some y1 := hel 1 (by omega)
  rw [cells_intS] at h0 h1
  obtain ⟨n0, e0, -, w0⟩ := DataW.trod_int Tryz.underlying3 h0
  obtain ⟨n1, e1, -, w1⟩ := DataW.trod_int Tryz.underlying3 h1
  cases e0; cases e1
  exact ⟨n0, n1, rfl, w0, w1⟩
set_option maxRecDepth 100000 in
theorem okWide_structS {P : Program} {w : World} {r : Reach} {base : Nat} {t : TypeId} {fs : Array Field} {v : Value} (ht : P.underlying t = some (.struct fs)) (h : Value.okWide P w r base t v) : ∃ cs, v = .agg cs ∧ cs.size = P.cellsOf t := by
  simp only [Value.okWide, ht] at h
  obtain ⟨cs, h1, h2, _⟩ := h
  exact ⟨cs, h1, h2⟩
theorem open_place1 {H : Type} {enc : TypeId × Value → H} {w : World} {base : Nat} {spare : Nat → Bool} {held : Bool} {n : Nat} {cs : List Value} {x : DataW H × List MemPlace}
    (h : DataW.trod enc Tryz.prog w base spare held n 51 cs = some x) : ∃ t : Plc, cs = [.int .i64 t.disk, .int .i64 t.block] ∧ PlWfS t := by
  obtain ⟨ys, m, -, -, hlen, hyl, hel⟩ := DataW.trod_struct Tryz.underlying51 h
  rw [cells_place] at hlen
  obtain ⟨v0, v1, rfl⟩ := twoS hlen
  obtain ⟨y0, y1, rfl⟩ := twoS (show ys.length = 2 from hyl)
  have h0 : DataW.trod enc Tryz.prog w base spare held m 3 (([v0, v1].drop 0).take (Tryz.prog.cellsOf 3)) = some y0 := hel 0 _ rfl
  have h1 : DataW.trod enc Tryz.prog w base spare held m 3 (([v0, v1].drop 1).take (Tryz.prog.cellsOf 3)) = some y1 := hel 1 _ rfl
  rw [cells_intS] at h0 h1
  obtain ⟨n0, e0, -, w0⟩ := DataW.trod_int Tryz.underlying3 h0
  obtain ⟨n1, e1, -, w1⟩ := DataW.trod_int Tryz.underlying3 h1
  cases e0; cases e1
  exact ⟨⟨n0, n1⟩, rfl, w0, w1⟩
theorem open_move1 {H : Type} {enc : TypeId × Value → H} {w : World} {base : Nat} {spare : Nat → Bool} {held : Bool} {n : Nat} {cs : List Value} {x : DataW H × List MemPlace}
    (h : DataW.trod enc Tryz.prog w base spare held n 60 cs = some x) : ∃ m : Mv, cs = m.cells ∧ MvWfS m := by
  obtain ⟨ys, m, -, -, hlen, hyl, hel⟩ := DataW.trod_struct Tryz.underlying60 h
  rw [cells_move] at hlen
  obtain ⟨v0, v1, v2, v3, rfl⟩ := fourS hlen
  obtain ⟨y0, y1, y2, rfl⟩ := threeS (show ys.length = 3 from hyl)
  have h0 : DataW.trod enc Tryz.prog w base spare held m 3 (([v0, v1, v2, v3].drop 0).take (Tryz.prog.cellsOf 3)) = some y0 := hel 0 _ rfl
  have h1 : DataW.trod enc Tryz.prog w base spare held m 3 (([v0, v1, v2, v3].drop 1).take (Tryz.prog.cellsOf 3)) = some y1 := hel 1 _ rfl
  rw [cells_intS] at h0 h1
  have h2 : DataW.trod enc Tryz.prog w base spare held m 51 (([v0, v1, v2, v3].drop 2).take (Tryz.prog.cellsOf 51)) = some y2 := hel 2 _ rfl
  rw [cells_place] at h2
  obtain ⟨n0, e0, -, w0⟩ := DataW.trod_int Tryz.underlying3 h0
  obtain ⟨n1, e1, -, w1⟩ := DataW.trod_int Tryz.underlying3 h1
  obtain ⟨t, e2, wt⟩ := open_place1 h2
  cases e0; cases e1; cases e2
  exact ⟨⟨n0, n1, t⟩, rfl, w0, w1, wt⟩
set_option maxRecDepth 100000 in
/-- a move -/
theorem open_moveS {H : Type} {enc : TypeId × Value → H} {w : World} {r : Reach} {base b0 : Nat} {spare : Nat → Bool} {held : Bool} {v : Value} {d : DataW H} {p : List MemPlace}
    (hv : Value.okWide Tryz.prog w r b0 60 v) (h : DataW.Trod enc Tryz.prog w base spare held 60 v d p) : ∃ m : Mv, v = m.agg ∧ MvWfS m := by
  obtain ⟨cs, rfl, hsz⟩ := okWide_structS Tryz.underlying60 hv
  obtain ⟨fuel, hf⟩ := h
  obtain ⟨cl⟩ := cs
  obtain ⟨m, rfl, hm⟩ := open_move1 (cs := cl) hf
  exact ⟨m, rfl, hm⟩
/-- a list of moves -/
theorem open_movesS {H : Type} {enc : TypeId × Value → H} {w : World} {base : Nat} {spare : Nat → Bool} {held : Bool} {n : Nat} {cs : List Value} {x : DataW H × List MemPlace}
    (h : DataW.trod enc Tryz.prog w base spare held n 31 cs = some x) : ∃ (l : List Mv) (A : Option Addr) (c : Nat), cs = [.slice A l.length c] ∧ MvS w w.heap.size A l ∧ ∀ m ∈ l, MvWfS m := by
  rcases open_slice Tryz.underlying31 h with ⟨hcs, -⟩ | ⟨a, len, cap, m, k, D, Pl, hcs, hb, hl, hm, hmm, hx, hi⟩
  · exact ⟨[], none, 0, hcs, RdS.nil _ _ _ _, by simp⟩
  · rw [cells_move] at hi
    have hle : len ≤ m := by rw [hmm]; split <;> omega
    have hE : ∀ i, ∃ e : Mv, i < len → (∀ j v, e.cells[j]? = some v → w.cell? (a.add (i * 4 + j)) = some v) ∧ MvWfS e := fun i => by
      by_cases him : i < len
      · obtain ⟨cs', hc, ht⟩ := hi i (by omega)
        obtain ⟨e, rfl, hw⟩ := open_move1 ht
        obtain ⟨_, hcl, hat⟩ := World.cells?_some hc
        refine ⟨e, fun _ => ⟨fun j v hj => ?_, hw⟩⟩
        have hj6 : j < 4 := (List.getElem?_eq_some_iff.1 hj).1
        rw [← Go.Deep.add_add, hat j hj6, hj]
      · exact ⟨⟨0, 0, ⟨0, 0⟩⟩, fun h => absurd h him⟩
    obtain ⟨f, hf⟩ := Classical.axiomOfChoice hE
    refine ⟨(List.range len).map f, some a, cap, by simpa using hcs, ⟨by simp [Mv.cells], fun h0 => ?_⟩, fun e he => ?_⟩
    · have h0' : 0 < len := by simpa using h0
      have hc0 := (hf 0 h0').1 0 _ rfl
      obtain ⟨b, off, spot⟩ := a
      have hspot : spot = none := by simpa [Addr.add] using World.cell?_spot hc0
      subst hspot
      refine ⟨b, off, rfl, by simpa [Addr.add] using block_lt_of_cell hc0, fun i r hr j v hj => ?_⟩
      have hil : i < len := by
        have := (List.getElem?_eq_some_iff.1 hr).1
        simpa using this
      have hrr : r = (f i).cells := by
        rw [List.getElem?_map, List.getElem?_map, List.getElem?_range hil] at hr
        simpa using hr.symm
      subst hrr
      have := (hf i hil).1 j v hj
      rw [show (⟨b, off, none⟩ : Addr).add (i * 4 + j) = ⟨b, off + (i * 4 + j), none⟩ from Addr.add_lit _ _ _] at this
      rw [Nat.add_assoc]
      exact this
    · obtain ⟨i, hi', rfl⟩ := List.mem_map.1 he
      exact (hf i (List.mem_range.1 hi')).2
end Go.Proofs.YtkjjojmidhjjdaaGreat
