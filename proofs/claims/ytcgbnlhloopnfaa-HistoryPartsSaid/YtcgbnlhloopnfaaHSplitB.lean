/- Memory laws for slices.DeleteFunc over events: a row that is overwritten, cells behind the rows, clear. -/
import Derived.Test.YtcgbnlhloopnfaaMem
import Derived.Laws.IdiomCopy
import Derived.Maps.Range
import Derived.Maps.AppendAt
import Derived.Lib.SliceRun
namespace Go.Proofs.Ytcgbnlhloopnfaa
open Go.RowKit

section
variable {w : World} {base size n cap g : Nat} {e : TypeId} {rows : List (List Value)}
theorem OwS.past (h : OwS w base e size (.slice (some ⟨g, 0, none⟩) n cap) rows) {j : Nat} (hj : rows.length * size ≤ j) (u : Value) : OwS (w.setCell ⟨g, j, none⟩ u) base e size (.slice (some ⟨g, 0, none⟩) n cap) rows := by
  refine ⟨h.1, h.2.1, ?_⟩
  rcases h.2.2 with ⟨hv, _⟩ | ⟨g', cap', cur, hv, hb, hh, hnc, hcm, hsz, ht⟩
  · cases hv
  · injection hv with h1 h2 h3
    injection h1 with h1
    injection h1 with h1
    subst h1 h2 h3
    refine .inr ⟨g, cap, cur.setIfInBounds j u, rfl, hb, heap_setCell_same _ _ _ _ _ _ hh, hnc, hcm, by simp [hsz], ?_⟩
    rw [Array.toList_setIfInBounds]
    rw [List.take_set_of_le (by omega)]
    exact ht
theorem OwS.pastAll (vs : List Value) : ∀ {w : World} (j : Nat), OwS w base e size (.slice (some ⟨g, 0, none⟩) n cap) rows → rows.length * size ≤ j → OwS (w.setCells g j vs) base e size (.slice (some ⟨g, 0, none⟩) n cap) rows := by
  induction vs with
  | nil => intro w j h _; exact h
  | cons v vs ih => intro w j h hj; exact ih (j + 1) (h.past hj v) (by omega)
theorem grownBy_setCells (b : Nat) (vs : List Value) : ∀ (w : World) (j : Nat), w.grownBy (w.setCells b j vs) (some b) := by
  induction vs with
  | nil => intro w j; exact World.grownBy.refl _ _
  | cons v vs ih => intro w j; exact (grownBy_setCell w ⟨b, j, none⟩ v).trans (ih _ _)
theorem flatten_head {rows : List (List Value)} (hs : ∀ r ∈ rows, r.length = size) (m : Nat) : (rows.take m).flatten = rows.flatten.take (m * size) := by
  induction rows generalizing m with
  | nil => simp
  | cons x xs ih =>
    cases m with
    | zero => simp
    | succ m =>
      have hx : x.length = size := hs x (by simp)
      simp only [List.take_succ_cons, List.flatten_cons]
      have h1 : x.take ((m + 1) * size) = x := List.take_of_length_le (by rw [hx, Nat.add_mul]; omega)
      rw [ih (fun r hr => hs r (by simp [hr])) m, List.take_append, hx, h1, show (m + 1) * size - size = m * size by rw [Nat.add_mul]; omega]
theorem OwS.head {A : Option Addr} {c : Nat} (h : OwS w base e size (.slice A n c) rows) {m : Nat} (hm : m ≤ rows.length) : OwS w base e size (.slice A m c) (rows.take m) := by
  have hall : ∀ r ∈ rows.take m, r.length = size := fun r hr => h.1 r (List.mem_of_mem_take hr)
  have hfl : (rows.take m).flatten.length = (rows.take m).length * size := flatten_length hall
  have hlen : (rows.take m).length = m := by rw [List.length_take]; omega
  refine ⟨hall, hfl, ?_⟩
  rcases h.2.2 with ⟨hv, h0⟩ | ⟨g, cap, cur, hv, hb, hh, hnc, hcm, hsz, ht⟩
  · injection hv with h1 h2 h3
    subst h1 h2 h3
    have : m = 0 := by omega
    subst this
    exact .inl ⟨rfl, by simp⟩
  · injection hv with h1 h2 h3
    subst h1 h2 h3
    refine .inr ⟨g, _, cur, by rw [hlen], hb, hh, by omega, hcm, hsz, ?_⟩
    have hmr : m * size ≤ rows.length * size := Nat.mul_le_mul_right _ hm
    rw [hlen, flatten_head h.1, ← ht, List.take_take, Nat.min_eq_left hmr]
end

def zeroE : Value := .agg #[.int .i64 0, .int .i64 0, .bool false, .int .i64 0, .int .i64 0, .bool false]
theorem zero_cells (n : Nat) : (Builtin.zeroCells zeroE.cells n).toList.length = n * 6 ∧ ∀ v ∈ (Builtin.zeroCells zeroE.cells n).toList, v.oneCell' = true := by
  constructor
  · simp [Builtin.zeroCells, zeroE, Value.cells]
  · intro v hv
    simp only [Builtin.zeroCells, Array.toList_map, List.mem_map] at hv
    obtain ⟨i, -, rfl⟩ := hv
    have h6 : i % zeroE.cells.size < 6 := Nat.mod_lt _ (by decide)
    generalize i % zeroE.cells.size = k at h6
    match k, h6 with
    | 0, _ => rfl
    | 1, _ => rfl
    | 2, _ => rfl
    | 3, _ => rfl
    | 4, _ => rfl
    | 5, _ => rfl
/-- clear of a slice's end -/
theorem clear_ev {w : World} {base n cap g : Nat} {rows : List (List Value)} (h : OwS w base 56 6 (.slice (some ⟨g, 0, none⟩) n cap) rows) {i : Nat} (hi : i < n) (c' : Nat) :
    ∃ w2, (∀ ty, (Builtin.clear_ #[22] ty #[.slice (some ⟨g, i * 6, none⟩) (n - i) c']).run Try.prog w = .ok (.tuple #[]) w2) ∧ OwS w2 base 56 6 (.slice (some ⟨g, 0, none⟩) i cap) (rows.take i) ∧ w.grownBy w2 (some g) := by
  have hn : n = rows.length := by
    rcases h.2.2 with ⟨h', _⟩ | ⟨g', cap', cur, h', _⟩
    · simp at h'
    · injection h'
  obtain ⟨z1, z2⟩ := zero_cells (n - i)
  have hcell : ∀ j, j < n * 6 → (w.cell? ⟨g, j, none⟩).isSome = true := by
    intro j hj
    rcases h.2.2 with ⟨h', _⟩ | ⟨g', cap', cur, h', hb, hh, hnc, hcm, hsz, ht⟩
    · simp at h'
    · injection h' with h1 h2 h3
      injection h1 with h1
      injection h1 with h1
      subst h1
      rw [cell_of_row _ _ _ _ _ _ hh, Array.getElem?_eq_getElem (by have := Nat.mul_le_mul_right 6 hnc; omega)]
      rfl
  have hst := run_storeCells_cells (P := Try.prog) g (i * 6) (Builtin.zeroCells zeroE.cells (n - i)).toList 0 w (fun j hj => hcell _ (by rw [z1] at hj; omega)) (fun j _ => h.frozen _) z2
  simp only [Nat.add_zero] at hst
  refine ⟨w.setCells g (i * 6) (Builtin.zeroCells zeroE.cells (n - i)).toList, fun ty => ?_, OwS.pastAll _ _ (h.head (by omega)) (by rw [List.length_take]; have := Nat.min_le_left i rows.length; omega), grownBy_setCells _ _ _ _⟩
  obtain ⟨m, hm⟩ : ∃ m, n - i = m + 1 := ⟨n - i - 1, by omega⟩
  rw [hm] at hst ⊢
  simp [Builtin.clear_, run_underlying Try.underlying22]
  change (Sem.run Try.prog (storeCells ⟨g, i * 6, none⟩ (Builtin.zeroCells zeroE.cells (m + 1)).toList) w).andThen _ = _
  rw [hst]
  rfl
/-- a row overwritten, cell by cell -/
theorem OwS.setEv {w : World} {base n cap g : Nat} {t : TypeId} {rows : List (List Value)} (h : OwS w base t 6 (.slice (some ⟨g, 0, none⟩) n cap) rows) {k : Nat} (hk : k < rows.length) (e : Ev) :
    OwS (w.setCells g (k * 6) e.cells) base t 6 (.slice (some ⟨g, 0, none⟩) n cap) (rows.set k e.cells) ∧ w.grownBy (w.setCells g (k * 6) e.cells) (some g) := by
  refine ⟨?_, grownBy_setCells _ _ _ _⟩
  obtain ⟨r, hr⟩ : ∃ r, rows[k]? = some r := ⟨_, List.getElem?_eq_getElem hk⟩
  have hl := h.1 r (List.mem_of_getElem? hr)
  obtain ⟨v0, v1, v2, v3, v4, v5, rfl⟩ : ∃ a b c d e f, r = [a, b, c, d, e, f] := by
    match r, hl with
    | [a, b, c, d, e, f], _ => exact ⟨a, b, c, d, e, f, rfl⟩
  have hs : ∀ x, (rows.set k x)[k]? = some x := fun x => by rw [List.getElem?_set_self hk]
  obtain ⟨h0, -⟩ := h.set hr (j := 0) (by omega) (.int .i64 e.kind)
  obtain ⟨h1, -⟩ := h0.set (hs _) (j := 1) (by omega) (.int .i64 e.op)
  obtain ⟨h2, -⟩ := h1.set (by rw [List.getElem?_set_self (by simpa using hk)]) (j := 2) (by omega) (.bool e.write)
  obtain ⟨h3, -⟩ := h2.set (by rw [List.getElem?_set_self (by simpa using hk)]) (j := 3) (by omega) (.int .i64 e.reg)
  obtain ⟨h4, -⟩ := h3.set (by rw [List.getElem?_set_self (by simpa using hk)]) (j := 4) (by omega) (.int .i64 e.val)
  obtain ⟨h5, -⟩ := h4.set (by rw [List.getElem?_set_self (by simpa using hk)]) (j := 5) (by omega) (.bool e.barrier)
  simp only [List.set_set] at h5
  exact h5
end Go.Proofs.Ytcgbnlhloopnfaa
