/- Words for the walk of tegularef47's Storage; the walk of its value. -/
import Derived.Test.YtldjodgpbnkleaaStoD
import Derived.Test.YtldjodgpbnkleaaByte
import Derived.Test.YtldjodgpbnkleaaLawA
import Derived.IntWalk
namespace Go.Proofs.Ytldjodgpbnkleaa
open Go.RowKit

def SOp.cells (s : SOp) : List Value := s.call.cells ++ [.bool s.ex, .bool s.dn, .int .i64 s.res, .int .i64 s.at_]
def chCells (c : Int × Int) : List Value := [.int .i64 c.1, .int .i64 c.2]
def ActN.cells (a : ActN) : List Value := [.int .u8 a.kind, .int .u8 a.reg, .int .u8 a.which]
theorem SOp.one (s : SOp) : ∀ u ∈ s.cells, u.oneCell' = true := by
  intro u hu
  simp [SOp.cells, Ev.cells] at hu
  rcases hu with rfl | rfl | rfl | rfl | rfl | rfl | rfl | rfl | rfl | rfl <;> rfl
theorem chOne (c : Int × Int) : ∀ u ∈ chCells c, u.oneCell' = true := by
  intro u hu
  simp [chCells] at hu
  rcases hu with rfl | rfl <;> rfl
theorem elemOpn : Elem Try.prog 89 94 10 72 := Elem.mk (z := .agg (SOp.cells ⟨⟨0, 0, false, 0, 0, false⟩, false, false, 0, 0⟩).toArray) Try.underlying89 (by kernel_rfl) (by decide) rfl
theorem elemCh : Elem Try.prog 90 96 2 16 := Elem.mk (z := .agg (chCells (0, 0)).toArray) Try.underlying90 (by kernel_rfl) (by decide) rfl
theorem flatten_take {size : Nat} {rows : List (List Value)} (hs : ∀ r ∈ rows, r.length = size) (m : Nat) : (rows.take m).flatten = rows.flatten.take (m * size) := by
  induction rows generalizing m with
  | nil => simp
  | cons x xs ih =>
    cases m with
    | zero => simp
    | succ m =>
      have hx : x.length = size := hs x (by simp)
      simp only [List.take_succ_cons, List.flatten_cons]
      have h1 : x.take ((m + 1) * size) = x := List.take_of_length_le (by rw [hx, Nat.add_mul]; omega)
      rw [ih (fun r hr => hs r (by simp [hr])) m, List.take_append, hx, h1, show (m + 1) * size - size = m * size by rw [Nat.add_mul]; omega]
theorem OwS.take {w : World} {base size n c : Nat} {e : TypeId} {A : Option Addr} {rows : List (List Value)} (h : OwS w base e size (.slice A n c) rows) {m : Nat} (hm : m ≤ rows.length) : OwS w base e size (.slice A m c) (rows.take m) := by
  have hall : ∀ r ∈ rows.take m, r.length = size := fun r hr => h.1 r (List.mem_of_mem_take hr)
  have hfl : (rows.take m).flatten.length = (rows.take m).length * size := flatten_length hall
  have hlen : (rows.take m).length = m := by rw [List.length_take]; omega
  refine ⟨hall, hfl, ?_⟩
  rcases h.2.2 with ⟨hv, h0⟩ | ⟨g, cap, cur, hv, hb, hh, hnc, hcm, hsz, ht⟩
  · injection hv with h1 h2 h3
    subst h1 h2 h3
    have : m = 0 := by omega
    subst this
    exact .inl ⟨rfl, by simp⟩
  · injection hv with h1 h2 h3
    subst h1 h2 h3
    refine .inr ⟨g, _, cur, by rw [hlen], hb, hh, by omega, hcm, hsz, ?_⟩
    have hmr : m * size ≤ rows.length * size := Nat.mul_le_mul_right _ hm
    rw [hlen, flatten_take h.1, ← ht, List.take_take, Nat.min_eq_left hmr]

set_option maxHeartbeats 1000000 in
set_option maxRecDepth 100000 in
theorem stval_any (l : List (Int × Int)) (A : Option Addr) (c B : Nat) (reg : Int) (w : World) (h : RdS w B 2 A (l.map chCells)) (hl : l.length ≤ 1000000) :
    Calls Try.prog 45 #[.slice A l.length c, .int .i64 reg] w fun e w' => e = .returned (.int .i64 (valC l reg)) ∧ w' = w := by
  go_enter Try.func45, Try.ntmps45
  go_wp2
  go_loop [5, 6] (fun v i => ∃ k : Nat, k ≤ l.length ∧ i = .int .i64 k ∧ v = .int .i64 (valC (l.take k) reg)) (fun _ i => l.length - (intOf i).toNat)
  case atStart => exact ⟨0, Nat.zero_le _, rfl, rfl⟩
  case round =>
    obtain ⟨k, hk, rfl, rfl⟩ := hrel
    by_cases hlt : k < l.length
    · obtain ⟨b, off, rfl, hb, hc⟩ := h.2 (by simp; omega)
      obtain ⟨x, hx⟩ : ∃ x, l[k]? = some x := ⟨l[k], List.getElem?_eq_getElem hlt⟩
      have hr : (l.map chCells)[k]? = some (chCells x) := by rw [List.getElem?_map, hx]; rfl
      have c0 := hc k _ hr 0 _ rfl
      have c1 := hc k _ hr 1 _ rfl
      have hsn : valC (l.take (k + 1)) reg = if x.1 = reg then x.2 else valC (l.take k) reg := by
        rw [List.take_add_one, hx]
        exact valC_snoc _ _ _
      simp only [Nat.add_zero] at c0 c1
      have hkl : (k : Int) < (l.length : Int) := by omega
      have HS := Lib.hid hsn
      clear hsn hx hr hc h
      obtain ⟨x1, x2⟩ := x
      simp only at c0 c1 HS
      by_cases hxr : x1 = reg
      · subst hxr
        have HV : Hid (valC (l.take (k + 1)) x1 = x2) := by unfold Hid; rw [HS.out]; simp
        clear HS
        go_wp2
        go_round
        case rel => exact ⟨k + 1, by omega, by go_num, by rw [HV.out]⟩
        case measure => simp [intOf]; omega
      · have e1 : (x1 == reg) = false := by simpa using hxr
        have HV : Hid (valC (l.take (k + 1)) reg = valC (l.take k) reg) := by unfold Hid; rw [HS.out, if_neg hxr]
        clear HS hxr
        go_wp2
        go_round
        case rel => exact ⟨k + 1, by omega, by go_num, by rw [HV.out]⟩
        case measure => simp [intOf]; omega
    · obtain rfl : k = l.length := by omega
      go_wp2
      go_ret
      exact ⟨rfl, rfl⟩
/-- the bounds of a storage's state behind k steps -/
structure SBd (k : Nat) (st : SSt) : Prop where
  l : st.l.length ≤ k
  ops : st.ops.length ≤ k
  ch : st.ch.length ≤ k
  n : st.n ≤ k
theorem SBd.step {k : Nat} {st : SSt} (h : SBd k st) (a : ActN) : SBd (k + 1) (stoStep st a) := by
  obtain ⟨h1, h2, h3, h4⟩ := h
  have up : SBd (k + 1) st := ⟨by omega, by omega, by omega, by omega⟩
  unfold stoStep
  split
  · exact ⟨by simp [stCall]; omega, by simp [stCall]; omega, by simp [stCall]; omega, by simp [stCall]; omega⟩
  · split
    · split
      · exact up
      · split
        · exact up
        · exact ⟨by simp [stEx]; omega, by simp [stEx]; omega, by simp only [stEx, chEx]; split <;> (try simp) <;> omega, by show st.n ≤ _; omega⟩
    · split
      · split
        · exact up
        · split
          · exact ⟨by simp [stDone]; omega, by simp [stDone]; omega, by show st.ch.length ≤ _; omega, by show st.n ≤ _; omega⟩
          · exact up
      · exact ⟨by show (st.l ++ [Ev.cut]).length ≤ _; simp; omega, Nat.zero_le _, by show (st.ch.take _).length ≤ _; rw [List.length_take]; omega, by show st.n ≤ _; omega⟩
theorem sbd_to (acts : List ActN) (k : Nat) (hk : k ≤ acts.length) : SBd k (stoTo acts k) := by
  induction k with
  | zero => constructor <;> simp [stoTo, sto0]
  | succ k ih =>
    rw [stoTo_succ (List.getElem?_eq_getElem (by omega))]
    exact (ih (by omega)).step _
theorem sok_safe {st : SSt} (h : SOK st) : st.safe ≤ st.ch.length := by
  obtain ⟨os, era, -, -, hch, -⟩ := h
  exact hch.sf
end Go.Proofs.Ytldjodgpbnkleaa
