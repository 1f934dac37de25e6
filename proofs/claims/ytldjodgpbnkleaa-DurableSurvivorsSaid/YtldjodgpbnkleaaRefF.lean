/- Walk of tegularef47's survives. -/
import Derived.Test.YtldjodgpbnkleaaRefE
import Derived.Test.YtldjodgpbnkleaaDurB
namespace Go.Proofs.Ytldjodgpbnkleaa
open Go.RowKit

theorem boxR {w : World} {x : Nat} {o : Opr} (h : w.heap[x]? = some (.cells o.cells.toArray 59)) :
    w.cell? ⟨x, 0, none⟩ = some (.int .i64 o.id) ∧ w.cell? ⟨x, 1, none⟩ = some (.int .i64 o.reg) ∧ w.cell? ⟨x, 2, none⟩ = some (.int .i64 o.val) ∧ w.cell? ⟨x, 3, none⟩ = some (.bool o.write) ∧
    w.cell? ⟨x, 4, none⟩ = some (.bool o.barrier) ∧ w.cell? ⟨x, 5, none⟩ = some (.int .i64 o.era) ∧ w.cell? ⟨x, 6, none⟩ = some (.int .i64 o.call) ∧ w.cell? ⟨x, 7, none⟩ = some (.int .i64 o.done) := by
  refine ⟨?_, ?_, ?_, ?_, ?_, ?_, ?_, ?_⟩ <;> rw [cell_of_row _ _ _ _ _ _ h] <;> rfl
theorem zany_stop {α : Type} {p : α → Nat → Bool} {l : List α} {k : Nat} {x : α} (hx : l[k]? = some x) (hp : p x k = true) : (l.zipIdx.any fun q => p q.1 q.2) = true :=
  List.any_eq_true.2 ⟨(x, k), List.mem_of_getElem? (i := k) (by rw [List.getElem?_zipIdx, hx]; simp), hp⟩
theorem zany_none {α : Type} {p : α → Nat → Bool} {l : List α} (hno : ∀ j y, j < l.length → l[j]? = some y → p y j = false) : (l.zipIdx.any fun q => p q.1 q.2) = false := by
  rw [List.any_eq_false]
  intro o ho
  obtain ⟨j, hj, rfl⟩ := List.getElem_of_mem ho
  rw [List.length_zipIdx] at hj
  rw [List.getElem_zipIdx]
  rw [show p (l[j], 0 + j).1 (l[j], 0 + j).2 = false by simpa using hno j l[j] hj (List.getElem?_eq_getElem hj)]
  simp
theorem zno_succ {α : Type} {p : α → Nat → Bool} {l : List α} {k : Nat} {x : α} (hx : l[k]? = some x) (hp : p x k = false) (hno : ∀ j y, j < k → l[j]? = some y → p y j = false) : ∀ j y, j < k + 1 → l[j]? = some y → p y j = false := by
  intro j y hj hy
  rcases Nat.lt_or_eq_of_le (Nat.le_of_lt_succ hj) with hj' | rfl
  · exact hno j y hj' hy
  · rw [hx] at hy; cases hy; exact hp

def seenA (os : List Opr) (v : Nat) (era : Int) : Bool := os.any (seenB os v era)
def survI (os : List Opr) (v o : Opr) (k : Nat) : Bool := o.era == v.era && precB v o && ((o.barrier && decide (0 ≤ o.done)) || (o.write && seenA os k o.era))
def survR (os : List Opr) (v : Nat) (ov : Opr) : Bool := decide (0 ≤ ov.done) && (ov.barrier || seenA os v ov.era || os.zipIdx.any fun q => survI os ov q.1 q.2)

set_option maxHeartbeats 4000000 in
set_option maxRecDepth 100000 in
theorem survives_any (os : List Opr) (A : Option Addr) (c B : Nat) (v : Nat) (ov : Opr) (w : World) (h : OpS w B A os) (hB : B ≤ w.heap.size) (hlen : os.length ≤ 1000000) (hv : os[v]? = some ov) :
    Calls Try.prog 46 #[.slice A os.length c, .int .i64 v] w fun e w' => e = .returned (.bool (survR os v ov)) ∧ Below w.heap.size w w' := by
  have hvl : v < os.length := (List.getElem?_eq_some_iff.1 hv).1
  have HOV := Lib.hid hv
  have hvl' : (v : Int) < (os.length : Int) := by omega
  have HSV := Lib.hid (seen_any os A c B v ov w h hB hlen hv)
  obtain ⟨b, off, ov', rfl, hbB, hv', d0, d1, d2, d3, d4, d5, d6, d7⟩ := OpS.at_ h hvl
  obtain rfl : ov = ov' := by rw [hv] at hv'; exact Option.some.inj hv'
  clear hv hv'
  have HSR : Hid (survR os v ov = (decide (0 ≤ ov.done) && (ov.barrier || seenA os v ov.era || os.zipIdx.any fun q => survI os ov q.1 q.2))) := rfl
  have HSI : Hid (∀ o k, survI os ov o k = (o.era == ov.era && precB ov o && ((o.barrier && decide (0 ≤ o.done)) || (o.write && seenA os k o.era)))) := fun _ _ => rfl
  have HPR := Lib.hid (fun o w => rprec_any ov o w)
  generalize hsr : survR os v ov = sr at *
  generalize hsi : survI os ov = si at *
  generalize hpr : precB ov = pr at *
  clear hsr hsi hpr
  obtain ⟨vid, vreg, vval, vwr, vba, vera, vca, vdo⟩ := ov
  simp only [Opr.agg] at d0 d1 d2 d3 d4 d5 d6 d7 HSV HPR HSR HSI
  rw [show os.any (seenB os v vera) = seenA os v vera from rfl] at HSV
  generalize seenA os v vera = sv at *
  go_enter Try.func46, Try.ntmps46
  by_cases hdo : vdo < 0
  · have hd' : decide (vdo < 0) = true := by simpa using hdo
    have HR : Hid (sr = false) := by
      unfold Hid
      rw [HSR.out]
      simp
      intro hh
      omega
    go_wp2_with fail
    go_ret
    exact ⟨ret_bool HR.out.symm, Below.refl _ _⟩
  have hd' : decide (vdo < 0) = false := by simpa using hdo
  have hd2 : decide (0 ≤ vdo) = true := by simp; omega
  cases vba
  case true =>
    have HR : Hid (sr = true) := by unfold Hid; rw [HSR.out, hd2]; rfl
    go_wp2_with fail
    go_ret
    exact ⟨ret_bool HR.out.symm, Below.refl _ _⟩
  go_wp2_with fail
  refine HSV.out.mono ?_
  rintro r w1 ⟨rfl, hb1⟩
  cases sv
  case true =>
    have HR : Hid (sr = true) := by unfold Hid; rw [HSR.out, hd2]; rfl
    go_wp2_with fail
    go_ret
    exact ⟨ret_bool HR.out.symm, hb1⟩
  have HSR2 : Hid (sr = os.zipIdx.any fun q => si q.1 q.2) := by unfold Hid; rw [HSR.out, hd2]; simp
  clear HSR d0 d1 d2 d3 d4 d5 d6 d7 HSV hdo hd'
  have hz1 := hb1.size
  have h1 := h.below' hb1 hB
  go_wp2
  go_loopw [5] (fun i wr => ∃ k : Nat, k ≤ os.length ∧ i = .int .i64 k ∧ (∀ j o, j < k → os[j]? = some o → si o j = false) ∧ Below w1.heap.size w1 wr) (fun i _ => os.length - (intOf i).toNat)
  case atStart => exact ⟨0, by omega, rfl, fun j _ hj => absurd hj (by omega), Below.refl _ _⟩
  case round =>
    obtain ⟨k, hk, rfl, hno, hb⟩ := hrel
    have HN := Lib.hid hno
    clear hno
    have hz := hb.size
    by_cases hlt : k < os.length
    · have hops := h1.below' hb (by omega)
      obtain ⟨b', off', o, hA, hbB', ho, c0, c1, c2, c3, c4, c5, c6, c7⟩ := OpS.at_ hops hlt
      cases hA
      have hbl : b < wr.heap.size := by omega
      have HSK := Lib.hid (fun W (hW : Below wr.heap.size wr W) => seen_any os (some ⟨b, off, none⟩) c B k o W (hops.below' hW (by omega)) (by have := hW.size; omega) hlen ho)
      have HO := Lib.hid ho
      have HV := Lib.hid (HSI.out o k)
      have HOPS := Lib.hid (hops.more (show B ≤ wr.heap.size by omega))
      have HP := Lib.hid (fun W => HPR.out o W)
      have hkl : (k : Int) < (os.length : Int) := by omega
      clear ho hops
      obtain ⟨oid, oreg, oval, owr, oba, oera, oca, odo⟩ := o
      simp only at c0 c1 c2 c3 c4 c5 c6 c7 HV HP HSK
      rw [show os.any (seenB os k oera) = seenA os k oera from rfl] at HSK
      generalize pr ⟨oid, oreg, oval, owr, oba, oera, oca, odo⟩ = pb at *
      generalize seenA os k oera = sk at *
      go_wp2_with fail
      generalize hW : wr.alloc _ = W
      have hbW : Below wr.heap.size wr W := by rw [← hW]; exact (Below.refl _ _).alloc (Nat.le_refl _) _
      have hxb : W.heap[wr.heap.size]? = some (.cells (Opr.cells ⟨oid, oreg, oval, owr, oba, oera, oca, odo⟩).toArray 59) := by rw [← hW]; exact heap_alloc_new wr _
      have hWl : wr.heap.size < W.heap.size := (Array.getElem?_eq_some_iff.1 hxb).1
      clear hW c0 c1 c2 c3 c4 c5 c6 c7
      have R := fun d xs => OpS.cells (((HOPS.out.below hbW).more hbW.size).below (below_regrown W d xs)) HOV.out
      have X := fun d xs => (boxR (o := ⟨oid, oreg, oval, owr, oba, oera, oca, odo⟩) (heapBelow hxb (below_regrown W d xs)))
      simp only at R X
      by_cases hera : oera = vera
      case neg =>
        have hera1 : (oera == vera) = false := by simp [hera]
        have hera2 : (oera != vera) = true := by simp [hera]
        have HQ : Hid (si ⟨oid, oreg, oval, owr, oba, oera, oca, odo⟩ k = false) := by unfold Hid; rw [HV.out, hera1]; rfl
        clear hera
        refine quiet_below (by kernel_rfl) (by kernel_rfl) ?_
        repeat (go_big_quiet_step ((go_at_call 65; exact Calls.regrown_of (HP.out _))))
        refine wpQuiet_nil ?_
        intro W2 hb2
        clear R X hxb
        have hbr : Below w1.heap.size w1 W2 := hb.trans ((hbW.trans (hb2.mono hbW.size)).mono hz)
        go_wp2
        go_roundw
        case rel => exact ⟨k + 1, by omega, by go_num, zno_succ HO.out HQ.out HN.out, hbr⟩
        case measure => simp [intOf]; omega
      subst hera
      cases pb
      case false =>
        have HQ : Hid (si ⟨oid, oreg, oval, owr, oba, oera, oca, odo⟩ k = false) := by unfold Hid; rw [HV.out]; simp
        refine quiet_below (by kernel_rfl) (by kernel_rfl) ?_
        repeat (go_big_quiet_step ((go_at_call 65; exact Calls.regrown_of (HP.out _))))
        refine wpQuiet_nil ?_
        intro W2 hb2
        clear R X hxb
        have hbr : Below w1.heap.size w1 W2 := hb.trans ((hbW.trans (hb2.mono hbW.size)).mono hz)
        go_wp2
        go_roundw
        case rel => exact ⟨k + 1, by omega, by go_num, zno_succ HO.out HQ.out HN.out, hbr⟩
        case measure => simp [intOf]; omega
      refine quiet_below (by kernel_rfl) (by kernel_rfl) ?_
      repeat (go_big_quiet_step ((go_at_call 65; exact Calls.regrown_of (HP.out _))))
      refine wpQuiet_nil ?_
      intro W2 hb2
      have hbr0 := hbW.trans (hb2.mono hbW.size)
      have hbr : Below w1.heap.size w1 W2 := hb.trans (hbr0.mono hz)
      obtain ⟨q0, q1, q2, q3, q4, q5, q6, q7⟩ := boxR (heapBelow hxb hb2)
      simp only at q0 q1 q2 q3 q4 q5 q6 q7
      have hsz2 := hb2.size
      have hxl : wr.heap.size < W2.heap.size := by omega
      have HSW := Lib.hid (HSK.out W2 hbr0)
      have HV2 : Hid (si ⟨oid, oreg, oval, owr, oba, oera, oca, odo⟩ k = ((oba && decide (0 ≤ odo)) || (owr && sk))) := by unfold Hid; rw [HV.out]; simp
      clear R X HV HSK HP hbW hb2 hsz2
      by_cases hbd : (oba && decide (0 ≤ odo)) = true
      · obtain ⟨rfl, hod⟩ : oba = true ∧ 0 ≤ odo := by simpa using hbd
        have hod' : decide (0 ≤ odo) = true := by simpa using hod
        have HQ : Hid (si ⟨oid, oreg, oval, owr, true, oera, oca, odo⟩ k = true) := by unfold Hid; rw [HV2.out, hod']; rfl
        clear hbd HV2
        go_wp2_with fail
        go_ret
        exact ⟨ret_bool (by rw [HSR2.out, zany_stop HO.out HQ.out]), hb1.trans (hbr.mono hz1)⟩
      · have HV3 : Hid (si ⟨oid, oreg, oval, owr, oba, oera, oca, odo⟩ k = (owr && sk)) := by unfold Hid; rw [HV2.out]; simp only [hbd]; simp
        have hbc : oba = false ∨ (oba = true ∧ decide (0 ≤ odo) = false) := by cases oba <;> simp_all
        clear hbd HV2
        cases owr
        · have HQ : Hid (si ⟨oid, oreg, oval, false, oba, oera, oca, odo⟩ k = false) := HV3.out
          rcases hbc with rfl | ⟨rfl, hod'⟩
          all_goals
            go_wp2_with fail
            go_roundw
            case rel => exact ⟨k + 1, by omega, by go_num, zno_succ HO.out HQ.out HN.out, hbr⟩
            case measure => simp [intOf]; omega
        · cases sk
          · have HQ : Hid (si ⟨oid, oreg, oval, true, oba, oera, oca, odo⟩ k = false) := HV3.out
            rcases hbc with rfl | ⟨rfl, hod'⟩
            all_goals
              go_wp2_with fail
              refine HSW.out.mono ?_
              rintro r w3 ⟨rfl, hb3⟩
              clear q0 q1 q2 q3 q4 q5 q6 q7
              have hb3' : Below w1.heap.size w1 w3 := hbr.trans (hb3.mono hbr.size)
              go_wp2
              go_roundw
              case rel => exact ⟨k + 1, by omega, by go_num, zno_succ HO.out HQ.out HN.out, hb3'⟩
              case measure => simp [intOf]; omega
          · have HQ : Hid (si ⟨oid, oreg, oval, true, oba, oera, oca, odo⟩ k = true) := HV3.out
            rcases hbc with rfl | ⟨rfl, hod'⟩
            all_goals
              go_wp2_with fail
              refine HSW.out.mono ?_
              rintro r w3 ⟨rfl, hb3⟩
              clear q0 q1 q2 q3 q4 q5 q6 q7
              have hb3' : Below w1.heap.size w1 w3 := hbr.trans (hb3.mono hbr.size)
              go_wp2
              go_ret
              exact ⟨ret_bool (by rw [HSR2.out, zany_stop HO.out HQ.out]), hb1.trans (hb3'.mono hz1)⟩
    · obtain rfl : k = os.length := by omega
      go_wp2
      go_ret
      exact ⟨ret_bool (by rw [HSR2.out, zany_none HN.out]), hb1.trans (hb.mono hz1)⟩
end Go.Proofs.Ytldjodgpbnkleaa
