/- Walks of tegularef47: read, precedes, source. -/
import Derived.Test.YtldjodgpbnkleaaDurSpec
import Derived.Test.YtldjodgpbnkleaaMem
import Derived.Test.YtldjodgpbnkleaaQuietTail
import Derived.BigQuiet
import Derived.Outline
namespace Go.Proofs.Ytldjodgpbnkleaa
open Go.RowKit

theorem OpS.cells {w : World} {B b off k : Nat} {l : List Opr} {e : Opr} (h : OpS w B (some ⟨b, off, none⟩) l) (hk : l[k]? = some e) :
    w.cell? ⟨b, off + k * 8, none⟩ = some (.int .i64 e.id) ∧ w.cell? ⟨b, off + k * 8 + 1, none⟩ = some (.int .i64 e.reg) ∧ w.cell? ⟨b, off + k * 8 + 2, none⟩ = some (.int .i64 e.val) ∧
    w.cell? ⟨b, off + k * 8 + 3, none⟩ = some (.bool e.write) ∧ w.cell? ⟨b, off + k * 8 + 4, none⟩ = some (.bool e.barrier) ∧ w.cell? ⟨b, off + k * 8 + 5, none⟩ = some (.int .i64 e.era) ∧
    w.cell? ⟨b, off + k * 8 + 6, none⟩ = some (.int .i64 e.call) ∧ w.cell? ⟨b, off + k * 8 + 7, none⟩ = some (.int .i64 e.done) := by
  obtain ⟨b', off', e', hA, _, he', h0⟩ := OpS.at_ h (List.getElem?_eq_some_iff.1 hk).1
  cases hA
  rw [hk] at he'
  cases he'
  exact h0
def idxN : Option Nat → Int
  | some i => i
  | none => -1
theorem idxN_stop {α : Type} {p : α → Bool} {l : List α} {k : Nat} {x : α} (hx : l[k]? = some x) (hp : p x = true) (hno : ∀ j y, j < k → l[j]? = some y → p y = false) : l.findIdx? p = some k := by
  rw [List.findIdx?_eq_some_iff_getElem]
  have hk : k < l.length := (List.getElem?_eq_some_iff.1 hx).1
  have hel : l[k] = x := by rw [List.getElem?_eq_getElem hk] at hx; exact Option.some.inj hx
  exact ⟨hk, by rw [hel]; exact hp, fun j hj => by rw [hno j l[j] hj (List.getElem?_eq_getElem (by omega))]; simp⟩
theorem idxN_none {α : Type} {p : α → Bool} {l : List α} (hno : ∀ j y, j < l.length → l[j]? = some y → p y = false) : l.findIdx? p = none := by
  rw [List.findIdx?_eq_none_iff]
  intro o ho
  obtain ⟨j, hj, rfl⟩ := List.getElem_of_mem ho
  exact hno j _ hj (List.getElem?_eq_getElem hj)
theorem any_stop {α : Type} {p : α → Bool} {l : List α} {k : Nat} {x : α} (hx : l[k]? = some x) (hp : p x = true) : l.any p = true := List.any_eq_true.2 ⟨x, List.mem_of_getElem? hx, hp⟩
theorem any_none {α : Type} {p : α → Bool} {l : List α} (hno : ∀ j y, j < l.length → l[j]? = some y → p y = false) : l.any p = false := by
  rw [List.any_eq_false]
  intro o ho
  obtain ⟨j, hj, rfl⟩ := List.getElem_of_mem ho
  rw [hno j _ hj (List.getElem?_eq_getElem hj)]
  simp
theorem no_succ {α : Type} {p : α → Bool} {l : List α} {k : Nat} {x : α} (hx : l[k]? = some x) (hp : p x = false) (hno : ∀ j y, j < k → l[j]? = some y → p y = false) : ∀ j y, j < k + 1 → l[j]? = some y → p y = false := by
  intro j y hj hy
  rcases Nat.lt_or_eq_of_le (Nat.le_of_lt_succ hj) with hj' | rfl
  · exact hno j y hj' hy
  · rw [hx] at hy; cases hy; exact hp

set_option maxHeartbeats 400000 in
theorem rread_any (o : Opr) (w : World) : Calls Try.prog 42 #[o.agg] w fun r w' => r = .returned (.bool (ansB o)) ∧ Below w.heap.size w w' := by
  unfold Opr.agg
  go_enter Try.func42, Try.ntmps42
  go_wp2
  all_goals
    go_ret
    exact ⟨ret_bool (by simp_all [ansB]), (Below.refl _ _).alloc (Nat.le_refl _) _⟩

set_option maxHeartbeats 400000 in
theorem rprec_any (a b : Opr) (w : World) : Calls Try.prog 65 #[a.agg, b.agg] w fun r w' => r = .returned (.bool (precB a b)) ∧ Below w.heap.size w w' := by
  unfold Opr.agg
  go_enter Try.func65, Try.ntmps65
  go_wp2
  all_goals
    go_ret
    exact ⟨ret_bool (by simp_all [precB]; try omega), ((Below.refl _ _).alloc (Nat.le_refl _) _).alloc (by simp) _⟩

set_option maxHeartbeats 2000000 in
set_option maxRecDepth 100000 in
theorem rsource_any (os : List Opr) (A : Option Addr) (c B : Nat) (r : Opr) (w : World) (h : OpS w B A os) (hB : B ≤ w.heap.size) (hlen : os.length ≤ 1000000) :
    Calls Try.prog 43 #[.slice A os.length c, r.agg] w fun e w' => e = .returned (.int .i64 (idxN (srcO os r.reg r.val))) ∧ Below w.heap.size w w' := by
  obtain ⟨rid, rreg, rval, rwr, rba, rera, rca, rdo⟩ := r
  unfold Opr.agg
  simp only
  go_enter Try.func43, Try.ntmps43
  go_wp2
  generalize hW : w.alloc _ = W
  have hbW : Below w.heap.size w W := by rw [← hW]; exact (Below.refl _ _).alloc (Nat.le_refl _) _
  have hxb : W.heap[w.heap.size]? = some (.cells (Opr.cells ⟨rid, rreg, rval, rwr, rba, rera, rca, rdo⟩).toArray 59) := by rw [← hW]; exact heap_alloc_new w _
  clear hW
  have HX := Lib.hid hxb
  have hWl : w.heap.size < W.heap.size := (Array.getElem?_eq_some_iff.1 hxb).1
  clear hxb
  go_loopw [5] (fun i wr => ∃ k : Nat, k ≤ os.length ∧ i = .int .i64 k ∧ (∀ j o, j < k → os[j]? = some o → isSrc rreg rval o = false) ∧ Below W.heap.size W wr) (fun i _ => os.length - (intOf i).toNat)
  case atStart => exact ⟨0, by omega, rfl, fun j _ hj => absurd hj (by omega), Below.refl _ _⟩
  case round =>
    obtain ⟨k, hk, rfl, hno, hb⟩ := hrel
    have HN := Lib.hid hno
    clear hno
    have hz := hb.size
    have hbw : Below w.heap.size w wr := hbW.trans (hb.mono hbW.size)
    by_cases hlt : k < os.length
    · obtain ⟨b, off, o, rfl, hbB, ho, c0, c1, c2, c3, c4, c5, c6, c7⟩ := OpS.at_ (h.below' hbw hB) hlt
      have hxb := (hb.block w.heap.size hWl).trans HX.out
      have q1 : wr.cell? ⟨w.heap.size, 1, none⟩ = some (.int .i64 rreg) := by rw [cell_of_row _ _ _ _ _ _ hxb]; rfl
      have q2 : wr.cell? ⟨w.heap.size, 2, none⟩ = some (.int .i64 rval) := by rw [cell_of_row _ _ _ _ _ _ hxb]; rfl
      have HO := Lib.hid ho
      clear ho hxb
      have hkl : (k : Int) < (os.length : Int) := by omega
      obtain ⟨oid, oreg, oval, owr, oba, oera, oca, odo⟩ := o
      simp only at c0 c1 c2 c3 c4 c5 c6 c7
      have HV : Hid (isSrc rreg rval ⟨oid, oreg, oval, owr, oba, oera, oca, odo⟩ = (owr && oreg == rreg && oval == rval)) := rfl
      cases owr
      · have HP : Hid (isSrc rreg rval ⟨oid, oreg, oval, false, oba, oera, oca, odo⟩ = false) := HV.out
        go_wp2_with fail
        go_quiet (fail)
        go_wp2
        go_roundw
        case rel => exact ⟨k + 1, by omega, by go_num, no_succ HO.out HP.out HN.out, below_drewN hb _⟩
        case measure => simp [intOf]; omega
      · by_cases hreg : oreg = rreg
        · subst hreg
          by_cases hval : oval = rval
          · subst hval
            have HP : Hid (isSrc oreg oval ⟨oid, oreg, oval, true, oba, oera, oca, odo⟩ = true) := by unfold Hid; rw [HV.out]; simp
            go_wp2_with fail
            go_quiet (fail)
            go_wp2
            go_ret
            exact ⟨ret_int (by unfold srcO; rw [idxN_stop HO.out HP.out HN.out]; rfl), below_drewN hbw _⟩
          · have hval' : (oval == rval) = false := by simp [hval]
            have HP : Hid (isSrc oreg rval ⟨oid, oreg, oval, true, oba, oera, oca, odo⟩ = false) := by unfold Hid; rw [HV.out, hval']; simp
            clear hval
            go_wp2_with fail
            go_quiet (fail)
            go_wp2
            go_roundw
            case rel => exact ⟨k + 1, by omega, by go_num, no_succ HO.out HP.out HN.out, below_drewN hb _⟩
            case measure => simp [intOf]; omega
        · have hreg' : (oreg == rreg) = false := by simp [hreg]
          have HP : Hid (isSrc rreg rval ⟨oid, oreg, oval, true, oba, oera, oca, odo⟩ = false) := by unfold Hid; rw [HV.out, hreg']; simp
          clear hreg
          go_wp2_with fail
          go_quiet (fail)
          go_wp2
          go_roundw
          case rel => exact ⟨k + 1, by omega, by go_num, no_succ HO.out HP.out HN.out, below_drewN hb _⟩
          case measure => simp [intOf]; omega
    · obtain rfl : k = os.length := by omega
      go_wp2
      go_ret
      exact ⟨ret_int (by unfold srcO; rw [idxN_none HN.out]; rfl), hbw⟩

end Go.Proofs.Ytldjodgpbnkleaa
