/- Walk of tegularef45.done. -/
import Derived.Test.YtcgbnlhloopnfaaHConv
import Derived.Test.YtcgbnlhloopnfaaRefA
import Derived.Test.YtcgbnlhloopnfaaLay
namespace Go.Proofs.Ytcgbnlhloopnfaa
open Go.RowKit

/-- tegularef45.done -/
def RDonePost (w : World) (d : List Ev × Int) (s : Ending) (w' : World) : Prop := ∃ v, s = .returned (.tuple #[v, .int .i64 d.2]) ∧ OwS w' w.heap.size 56 6 v (d.1.map Ev.cells) ∧ Below w.heap.size w w'
set_option maxHeartbeats 4000000 in
set_option maxRecDepth 100000 in
theorem refdone_any (l : List Ev) (A : Option Addr) (c B : Nat) (op val : Int) (w : World) (h : EvS w B A l) (hB : B ≤ w.heap.size) (hlen : l.length ≤ 100000) :
    Calls Try.prog 46 #[.slice A l.length c, .int .i64 op, .int .i64 val] w (RDonePost w (refDone l op val)) := by
  have hbd := findE_lt l 1 op l.length
  have HF1 := Lib.hid (fun W (hW : EvS W B A l) => find_any l A c B 1 op l.length W hW (Nat.le_refl _) (by omega))
  have HF2 := Lib.hid (fun W (hW : EvS W B A l) => find_any l A c B 2 op l.length W hW (Nat.le_refl _) (by omega))
  have HH := Lib.hid h
  by_cases h1 : findE l 1 op l.length < 0
  · have HX : Hid (refDone l op val = ([], 9)) := by unfold Hid refDone; rw [if_pos h1]
    clear h hbd
    generalize findE l 1 op l.length = k at *
    go_enter Try.func46, Try.ntmps46
    go_wp2_with fail
    refine (HF1.out _ HH.out).mono ?_
    rintro s w1 ⟨rfl, rfl⟩
    go_wp2
    go_ret2
    unfold RDonePost
    rw [HX.out]
    exact ⟨_, rfl, OwS.nil _ _ _ _, Below.refl _ _⟩
  · obtain ⟨i, hi⟩ : ∃ i : Nat, findE l 1 op l.length = i := ⟨(findE l 1 op l.length).toNat, by omega⟩
    have hil : i < l.length := by omega
    have HC := Lib.hid (fun W (hW : EvS W B A l) => cut_any l A c B i l.length W hW (by omega) (Nat.le_refl _) (by omega))
    have HX : Hid (refDone l op val = if 0 ≤ findE l 2 op l.length ∨ cutE l i l.length = true then (([] : List Ev), (8 : Int)) else match l[i]? with | some c => ([doneEv c val], 0) | none => ([], 8)) := by
      unfold Hid refDone; rw [if_neg h1, hi, Int.toNat_natCast]; rfl
    rw [hi] at HF1
    generalize findE l 2 op l.length = k2 at *
    generalize cutE l i l.length = cb at *
    have hlt : ¬ (i : Int) < 0 := by omega
    clear hbd h1 hi
    by_cases h2 : 0 ≤ k2
    · have h2' : decide (k2 ≥ 0) = true := by simpa using h2
      have HY : Hid (refDone l op val = ([], 8)) := by unfold Hid; rw [HX.out, if_pos (.inl h2)]
      clear h h2
      go_enter Try.func46, Try.ntmps46
      go_wp2_with fail
      refine (HF1.out _ HH.out).mono ?_
      rintro s w1 ⟨rfl, rfl⟩
      go_wp2_with fail
      refine (HF2.out _ HH.out).mono ?_
      rintro s w1 ⟨rfl, rfl⟩
      go_wp2
      go_ret2
      unfold RDonePost
      rw [HY.out]
      exact ⟨_, rfl, OwS.nil _ _ _ _, Below.refl _ _⟩
    · have h2' : decide (k2 ≥ 0) = false := by simpa using h2
      rcases cb with _ | _
      · obtain ⟨b, off, e, rfl, hbB, he, c0, c1, c2, c3, c4, c5⟩ := EvS.at_ h (k := i) hil
        have hbl : b < w.heap.size := by omega
        have HY : Hid (refDone l op val = ([doneEv e val], 0)) := by unfold Hid; rw [HX.out, if_neg (by simp; omega), he]
        have hii : (i : Int) < (l.length : Int) := by omega
        have hi0 : (0 : Int) ≤ (i : Int) := by omega
        have hi00 : 0 ≤ i := Nat.zero_le _
        obtain ⟨ek, eo, ew, er, ev, eb⟩ := e
        simp only at c0 c1 c2 c3 c4 c5
        clear h h2 he HX
        cases ew <;> cases eb
        all_goals
          first
            | rw [doneEv_read] at HY
            | rw [doneEv_flush] at HY
            | rw [doneEv_write] at HY
          go_enter Try.func46, Try.ntmps46
          go_wp2_with fail
          refine (HF1.out _ HH.out).mono ?_
          rintro s w1 ⟨rfl, rfl⟩
          go_wp2_with fail
          refine (HF2.out _ HH.out).mono ?_
          rintro s w1 ⟨rfl, rfl⟩
          go_wp2_with fail
          refine (HC.out _ HH.out).mono ?_
          rintro s w1 ⟨rfl, rfl⟩
          go_wp2
          go_ret2
          unfold RDonePost
          rw [HY.out]
          exact ⟨_, rfl, OwS.lit (by simp [Ev.cells]) (by rw [← World.size_alloc]; exact heap_alloc_new _ _) rfl rfl (by decide) (by omega), (below_laid.alloc (by simp) _)⟩
      · have HY : Hid (refDone l op val = ([], 8)) := by unfold Hid; rw [HX.out, if_pos (.inr rfl)]
        clear h h2
        go_enter Try.func46, Try.ntmps46
        go_wp2_with fail
        refine (HF1.out _ HH.out).mono ?_
        rintro s w1 ⟨rfl, rfl⟩
        go_wp2_with fail
        refine (HF2.out _ HH.out).mono ?_
        rintro s w1 ⟨rfl, rfl⟩
        go_wp2_with fail
        refine (HC.out _ HH.out).mono ?_
        rintro s w1 ⟨rfl, rfl⟩
        go_wp2
        go_ret2
        unfold RDonePost
        rw [HY.out]
        exact ⟨_, rfl, OwS.nil _ _ _ _, Below.refl _ _⟩
end Go.Proofs.Ytcgbnlhloopnfaa
