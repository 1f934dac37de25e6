/- Walk of tegularef50.SameLeaf. -/
import Derived.Test.YtopoefcklipaeaaGreatDoorGRo
namespace Go.Proofs.YtopoefcklipaeaaGreatDoor
open Go.RowKit
def sameLf (a b : Leaf) : Bool := decide (a.vs = b.vs) && decide (a.ss = b.ss)
theorem sameLf_vs {a b : Leaf} (h : a.vs ≠ b.vs) : sameLf a b = false := by simp [sameLf, h]
theorem sameLf_ss {a b : Leaf} (h : a.ss ≠ b.ss) : sameLf a b = false := by simp [sameLf, h]
theorem sameLf_eq {a b : Leaf} (h : a.vs = b.vs) (h2 : a.ss = b.ss) : sameLf a b = true := by simp [sameLf, h, h2]
theorem sameLf_iff {a b : Leaf} : sameLf a b = true ↔ a = b := by
 cases a
 cases b
 simp [sameLf]
structure SlI (w wr : World) (L1 L2 : Array Value) : Prop where
 p : wr.heap[w.heap.size]? = some (.cells L1 58 (0, 0))
 q : wr.heap[w.heap.size + 1]? = some (.cells L2 58 (0, 0))
 bel : Below w.heap.size w wr
theorem SlI.cells {w wr : World} {x y z u : Value} (h : SlI w wr #[x, y] #[z, u]) : wr.cell? ⟨w.heap.size, 0, none⟩ = some x ∧ wr.cell? ⟨w.heap.size, 1, none⟩ = some y ∧ wr.cell? ⟨w.heap.size + 1, 0, none⟩ = some z ∧ wr.cell? ⟨w.heap.size + 1, 1, none⟩ = some u :=
 ⟨by rw [cell_of_row _ _ _ _ _ _ h.p]; rfl, by rw [cell_of_row _ _ _ _ _ _ h.p]; rfl, by rw [cell_of_row _ _ _ _ _ _ h.q]; rfl, by rw [cell_of_row _ _ _ _ _ _ h.q]; rfl⟩
theorem SlI.drewN {w wr : World} {L1 L2 : Array Value} (h : SlI w wr L1 L2) (n : Nat) : SlI w (wr.drewN n) L1 L2 := by
 have hb : Below wr.heap.size wr (wr.drewN n) := below_drewN (Below.refl _ _) _
 have h1 := (Array.getElem?_eq_some_iff.1 h.p).1
 have h2 := (Array.getElem?_eq_some_iff.1 h.q).1
 exact ⟨(hb.block _ h1).trans h.p, (hb.block _ h2).trans h.q, below_drewN h.bel n⟩
set_option maxHeartbeats 4000000 in
set_option maxRecDepth 100000 in
theorem r50sameLeaf {B : Nat} {va vb : Value} {a b : Leaf} (w : World) (ha : LfV w B va a) (hb : LfV w B vb b) (hB : B ≤ w.heap.size) (n1 : a.vs.length ≤ 1000000) (n2 : a.ss.length ≤ 1000000) (_n3 : b.vs.length ≤ 1000000) (_n4 : b.ss.length ≤ 1000000) :
  Calls Tryz.prog 14 #[va, vb] w fun r w' => r = .returned (.bool (sameLf a b)) ∧ Below w.heap.size w w' := by
 obtain ⟨A1, c1, A2, c2, rfl, ha0, ha1, -⟩ := ha
 obtain ⟨C1, e1, C2, e2, rfl, hb0, hb1, -⟩ := hb
 have HA0 := Lib.hid ha0
 have HA1 := Lib.hid ha1
 have HB0 := Lib.hid hb0
 have HB1 := Lib.hid hb1
 clear ha0 ha1 hb0 hb1
 by_cases hv : a.vs.length = b.vs.length
 ·by_cases hs : a.ss.length = b.ss.length
  ·have HVSL := Lib.hid hv
   have HSSL := Lib.hid hs
   rw [← hv, ← hs]
   have hvI : ((a.vs.length : Int) != (a.vs.length : Int)) = false := by simp
   have hsI : ((a.ss.length : Int) != (a.ss.length : Int)) = false := by simp
   clear hv hs
   go_enter Tryz.func14, Tryz.ntmps14
   go_upto_region 1 with (fail)
   obtain ⟨w1, hw1', hp, hq, hbl, hz⟩ := two_laid w (.cells #[.slice A1 a.vs.length c1, .slice A2 a.ss.length c2] 58) (.cells #[.slice C1 a.vs.length e1, .slice C2 a.ss.length e2] 58)
   rw [hw1']
   obtain ⟨L1, hL1⟩ : ∃ L1, (#[.slice A1 a.vs.length c1, .slice A2 a.ss.length c2] : Array Value) = L1 := ⟨_, rfl⟩
   obtain ⟨L2, hL2⟩ : ∃ L2, (#[.slice C1 a.vs.length e1, .slice C2 a.ss.length e2] : Array Value) = L2 := ⟨_, rfl⟩
   have HI1 : Hid (SlI w w1 #[.slice A1 a.vs.length c1, .slice A2 a.ss.length c2] #[.slice C1 a.vs.length e1, .slice C2 a.ss.length e2]) := ⟨hp, hq, hbl⟩
   clear hL1 hL2 L1 L2
   obtain ⟨l0, l1, m0, m1⟩ := HI1.out.cells
   clear hp hq hbl hz hw1'
   go_wp2
   clear l0 l1 m0 m1
   go_loopw [5] (fun s5 wr => ∃ k : Nat, k ≤ a.vs.length ∧ s5 = .int .i64 k ∧ (∀ j : Nat, j < k → a.vs[j]? = b.vs[j]?) ∧ SlI w wr #[.slice A1 a.vs.length c1, .slice A2 a.ss.length c2] #[.slice C1 a.vs.length e1, .slice C2 a.ss.length e2]) (fun s5 _ => a.vs.length - (intOf s5).toNat)
   case atStart => exact ⟨0, by omega, rfl, fun j hj => absurd hj (by omega), HI1.out⟩
   case round =>
    obtain ⟨k, hk, rfl, heq, hI⟩ := hrel
    have HEQ := Lib.hid heq
    have HI := Lib.hid hI
    obtain ⟨l0, l1, m0, m1⟩ := hI.cells
    clear heq
    by_cases hka : k < a.vs.length
    ·have hkI : (k : Int) < (a.vs.length : Int) := by omega
     have hk0 : ¬ (k : Int) < 0 := by omega
     obtain ⟨x, hx⟩ := at_some hka
     obtain ⟨y, hy⟩ := at_some (l := b.vs) (i := k) (by have := HVSL.out; omega)
     obtain ⟨b1, o1, rfl, -, x0⟩ := U64S.at_ (RdS.below' HA0.out hI.bel hB) hx
     obtain ⟨b2, o2, rfl, -, y0⟩ := U64S.at_ (RdS.below' HB0.out hI.bel hB) hy
     have HNE : Hid (x ≠ y → sameLf a b = false) := fun h => by
      refine sameLf_vs fun e => h ?_
      rw [e, hy] at hx
      exact (Option.some.inj hx).symm
     have HNX : Hid (x = y → ∀ j : Nat, j < k + 1 → a.vs[j]? = b.vs[j]?) := fun h j hj => by
      rcases Nat.lt_or_eq_of_le (Nat.le_of_lt_succ hj) with hj | rfl
      ·exact HEQ.out j hj
      ·rw [hx, hy, h]
     clear hx hy hI
     by_cases e1 : x = y
     ·have HR := Lib.hid (HNX.out e1)
      subst e1
      go_wp2_with fail
      go_quiet (fail)
      go_wp2
      go_roundw
      case rel => exact ⟨k + 1, by omega, by go_num, HR.out, HI.out.drewN _⟩
      case measure => simp [intOf] <;> omega
     ·have HR := Lib.hid (HNE.out e1)
      have f3 : ((x : Int) != (y : Int)) = true := by simp; omega
      have f4 : ((x : Int) == (y : Int)) = false := by simp; omega
      clear e1
      go_wp2_with fail
      go_quiet (fail)
      go_wp2
      go_ret
      exact ⟨ret_bool (by rw [HR.out]), below_drewN HI.out.bel _⟩
    ·have hkI : ¬ (k : Int) < (a.vs.length : Int) := by omega
     have HVSE : Hid (a.vs = b.vs) := by
      apply List.ext_getElem?
      intro j
      by_cases hj : j < k
      ·exact HEQ.out j hj
      ·rw [List.getElem?_eq_none (by omega), List.getElem?_eq_none (by have := HVSL.out; omega)]
     clear hI
     have HI9 := Lib.hid HI.out
     clear HI HEQ
     go_wp2
     clear l0 l1 m0 m1
     go_loopw [6] (fun s6 wr => ∃ k : Nat, k ≤ a.ss.length ∧ s6 = .int .i64 k ∧ (∀ j : Nat, j < k → a.ss[j]? = b.ss[j]?) ∧ SlI w wr #[.slice A1 a.vs.length c1, .slice A2 a.ss.length c2] #[.slice C1 a.vs.length e1, .slice C2 a.ss.length e2]) (fun s6 _ => a.ss.length - (intOf s6).toNat)
     case atStart => exact ⟨0, by omega, rfl, fun j hj => absurd hj (by omega), HI9.out⟩
     case round =>
      obtain ⟨k, hk, rfl, heq, hI⟩ := hrel
      have HEQ := Lib.hid heq
      have HI := Lib.hid hI
      obtain ⟨l0, l1, m0, m1⟩ := hI.cells
      clear heq
      by_cases hka : k < a.ss.length
      ·have hkI : (k : Int) < (a.ss.length : Int) := by omega
       have hk0 : ¬ (k : Int) < 0 := by omega
       obtain ⟨x, hx⟩ := at_some hka
       obtain ⟨y, hy⟩ := at_some (l := b.ss) (i := k) (by have := HSSL.out; omega)
       obtain ⟨b1, o1, rfl, -, x0⟩ := U64S.at_ (RdS.below' HA1.out hI.bel hB) hx
       obtain ⟨b2, o2, rfl, -, y0⟩ := U64S.at_ (RdS.below' HB1.out hI.bel hB) hy
       have HNE : Hid (x ≠ y → sameLf a b = false) := fun h => by
        refine sameLf_ss fun e => h ?_
        rw [e, hy] at hx
        exact (Option.some.inj hx).symm
       have HNX : Hid (x = y → ∀ j : Nat, j < k + 1 → a.ss[j]? = b.ss[j]?) := fun h j hj => by
        rcases Nat.lt_or_eq_of_le (Nat.le_of_lt_succ hj) with hj | rfl
        ·exact HEQ.out j hj
        ·rw [hx, hy, h]
       clear hx hy hI
       by_cases e1 : x = y
       ·have HR := Lib.hid (HNX.out e1)
        subst e1
        go_wp2_with fail
        go_quiet (fail)
        go_wp2
        go_roundw
        case rel => exact ⟨k + 1, by omega, by go_num, HR.out, HI.out.drewN _⟩
        case measure => simp [intOf] <;> omega
       ·have HR := Lib.hid (HNE.out e1)
        have f3 : ((x : Int) != (y : Int)) = true := by simp; omega
        have f4 : ((x : Int) == (y : Int)) = false := by simp; omega
        clear e1
        go_wp2_with fail
        go_quiet (fail)
        go_wp2
        go_ret
        exact ⟨ret_bool (by rw [HR.out]), below_drewN HI.out.bel _⟩
      ·have hkI : ¬ (k : Int) < (a.ss.length : Int) := by omega
       have HSSE : Hid (a.ss = b.ss) := by
        apply List.ext_getElem?
        intro j
        by_cases hj : j < k
        ·exact HEQ.out j hj
        ·rw [List.getElem?_eq_none (by omega), List.getElem?_eq_none (by have := HSSL.out; omega)]
       clear hI
       go_wp2
       go_ret
       exact ⟨ret_bool (by rw [sameLf_eq HVSE.out HSSE.out]), HI.out.bel⟩
  ·have hsI : ((a.ss.length : Int) != (b.ss.length : Int)) = true := by simp; omega
   have hsJ : ((a.ss.length : Int) == (b.ss.length : Int)) = false := by simp; omega
   have HR : Hid (sameLf a b = false) := sameLf_ss fun e => hs (by rw [e])
   rw [← hv]
   clear hv hs
   go_enter Tryz.func14, Tryz.ntmps14
   go_wp2
   go_ret
   exact ⟨ret_bool (by rw [HR.out]), (below_laid (w := w)).trans (below_laid.mono (by simp))⟩
 ·have hvI : ((a.vs.length : Int) != (b.vs.length : Int)) = true := by simp; omega
  have hvJ : ((a.vs.length : Int) == (b.vs.length : Int)) = false := by simp; omega
  have HR : Hid (sameLf a b = false) := sameLf_vs fun e => hv (by rw [e])
  clear hv
  go_enter Tryz.func14, Tryz.ntmps14
  go_wp2
  go_ret
  exact ⟨ret_bool (by rw [HR.out]), (below_laid (w := w)).trans (below_laid.mono (by simp))⟩
end Go.Proofs.YtopoefcklipaeaaGreatDoor
