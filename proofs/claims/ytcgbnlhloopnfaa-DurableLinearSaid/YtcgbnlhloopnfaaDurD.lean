/- Walks of durable: final, certain. -/
import Derived.Test.YtcgbnlhloopnfaaDurC
namespace Go.Proofs.Ytcgbnlhloopnfaa
open Go.RowKit

def finV (fs : Lit → Bool) (wo r : Opr) : Bool := decide (0 ≤ wo.done) && decide (wo.done < r.call) && (wo.era == r.era || fs (.int .i64 wo.id))

set_option maxHeartbeats 1000000 in
set_option maxRecDepth 100000 in
theorem final_any {tb b off c wb n sb m : Nat} {os : List Opr} {fw : Lit → Option (Nat × Nat)} {fs : Lit → Bool} (wo r : Opr) (w : World) (h : TrW w tb b off c os wb fw n sb fs m) (hid : (Lit.int .i64 wo.id).wf = true) :
    Calls Try.prog 84 #[.pointer (some ⟨tb, 0, none⟩), wo.agg, r.agg] w fun e w' => e = .returned (.bool (finV fs wo r)) ∧ Below w.heap.size w w' := by
  have htl : tb < w.heap.size := heapLt h.blk
  have t2 : w.cell? ⟨tb, 2, none⟩ = some (.map (some sb)) := by rw [cell_of_row _ _ _ _ _ _ h.blk]; rfl
  have hlook := fun n => (((h.alloc (.cells #[.int .i64 wo.id, .int .i64 wo.reg, .int .i64 wo.val, .bool wo.write, .bool wo.barrier, .int .i64 wo.era, .int .i64 wo.call, .int .i64 wo.done] 39)).alloc
    (.cells #[.int .i64 r.id, .int .i64 r.reg, .int .i64 r.val, .bool r.write, .bool r.barrier, .int .i64 r.era, .int .i64 r.call, .int .i64 r.done] 39)).sm.drewN n).look keyedI Try.underlying63 (zeroBool _) (Maps.keyOf_int_mk Try.underlying3 hid) trivial
  change ∀ n, (Instr.lookup _ _ _ _).run _ _ = Result.ok (Value.bool (fs (.int .i64 wo.id))) _ at hlook
  have HV : Hid (finV fs wo r = (decide (0 ≤ wo.done) && decide (wo.done < r.call) && (wo.era == r.era || fs (.int .i64 wo.id)))) := rfl
  clear h hid
  generalize finV fs wo r = res at *
  generalize fs (.int .i64 wo.id) = fv at *
  unfold Opr.agg
  by_cases h1 : 0 ≤ wo.done
  · by_cases h2 : wo.done < r.call
    · by_cases h3 : wo.era = r.era
      · have h3' : (wo.era == r.era) = true := by simp [h3]
        have HR : Hid (res = true) := by unfold Hid; rw [HV.out, h3']; simp [h1, h2]
        clear h3
        go_enter Try.func84, Try.ntmps84
        go_wp2_with fail
        go_quiet (fail)
        go_wp2
        go_ret
        exact ⟨ret_bool HR.out.symm, below_drewN (below_two _ _ _) _⟩
      · have h3' : (wo.era == r.era) = false := by simp [h3]
        have HR : Hid (res = fv) := by unfold Hid; rw [HV.out, h3']; simp [h1, h2]
        clear h3
        go_enter Try.func84, Try.ntmps84
        go_wp2_with fail
        go_quiet (fail)
        go_wp2
        go_ret
        exact ⟨ret_bool HR.out.symm, below_drewN (below_two _ _ _) _⟩
    · have h2' : decide (wo.done < r.call) = false := by simpa using h2
      have HR : Hid (res = false) := by unfold Hid; rw [HV.out, h2']; simp
      go_enter Try.func84, Try.ntmps84
      go_wp2_with fail
      go_quiet (fail)
      go_wp2
      go_ret
      exact ⟨ret_bool HR.out.symm, below_drewN (below_two _ _ _) _⟩
  · have h1' : decide (0 ≤ wo.done) = false := by simpa using h1
    have HR : Hid (res = false) := by unfold Hid; rw [HV.out, h1']; simp
    go_enter Try.func84, Try.ntmps84
    go_wp2_with fail
    go_quiet (fail)
    go_wp2
    go_ret
    exact ⟨ret_bool HR.out.symm, below_drewN (below_two _ _ _) _⟩

def WfO (os : List Opr) : Prop := ∀ o ∈ os, (Lit.int .i64 o.reg).wf = true ∧ (Lit.int .i64 o.val).wf = true ∧ (Lit.int .i64 o.id).wf = true

set_option maxHeartbeats 2000000 in
set_option maxRecDepth 100000 in
theorem certain_any {tb b off c wb n sb m : Nat} {os : List Opr} {fw : Lit → Option (Nat × Nat)} {fs : Lit → Bool} (wo : Opr) (w : World) (h : TrW w tb b off c os wb fw n sb fs m) (hsrc : SrcOk fw b off os) (hwf : WfO os) (hlen : os.length ≤ 1000000) :
    Calls Try.prog 79 #[.pointer (some ⟨tb, 0, none⟩), wo.agg] w fun e w' => e = .returned (.bool (certB os wo)) ∧ Below w.heap.size w w' := by
  have hmf : ∀ (fn : Fn) (first cap : Array Value) (w : World), (Instr.makeFunc fn first cap).run Try.prog w = .ok (.func fn first cap) w := fun _ _ _ _ => rfl
  have htl : tb < w.heap.size := heapLt h.blk
  have t0 : w.cell? ⟨tb, 0, none⟩ = some (.slice (some ⟨b, off, none⟩) os.length c) := by rw [cell_of_row _ _ _ _ _ _ h.blk]; rfl
  obtain ⟨wid, wreg, wval, wwr, wba, wera, wca, wdo⟩ := wo
  have H := Lib.hid h
  have HS := Lib.hid hsrc
  have HW := Lib.hid hwf
  clear h hsrc hwf
  unfold Opr.agg
  simp only
  by_cases h1 : wdo < 0
  · have HR : Hid (certB os ⟨wid, wreg, wval, wwr, wba, wera, wca, wdo⟩ = false) := by unfold Hid certB; rw [if_pos h1]
    go_enter Try.func79, Try.ntmps79
    go_wp2
    go_ret
    exact ⟨ret_bool HR.out.symm, below_two _ _ _⟩
  cases wba
  · have HR : Hid (certB os ⟨wid, wreg, wval, wwr, false, wera, wca, wdo⟩ = (os.any (rule1 ⟨wid, wreg, wval, wwr, false, wera, wca, wdo⟩) || os.any (rule2 os ⟨wid, wreg, wval, wwr, false, wera, wca, wdo⟩))) := by unfold Hid certB; rw [if_neg h1]; rfl
    have i0 : ∀ W, (Instr.index 163 (.agg #[.func (.func 103) #[] #[.pointer (some ⟨w.heap.size + 1, 0, none⟩)],
        .func (.func 104) #[] #[.pointer (some ⟨w.heap.size, 0, none⟩), .pointer (some ⟨w.heap.size + 1, 0, none⟩)]]) (.int .i64 0)).run Try.prog W = .ok (.func (.func 103) #[] #[.pointer (some ⟨w.heap.size + 1, 0, none⟩)]) W := fun _ => by kernel_rfl
    have i1 : ∀ W, (Instr.index 163 (.agg #[.func (.func 103) #[] #[.pointer (some ⟨w.heap.size + 1, 0, none⟩)],
        .func (.func 104) #[] #[.pointer (some ⟨w.heap.size, 0, none⟩), .pointer (some ⟨w.heap.size + 1, 0, none⟩)]]) (.int .i64 1)).run Try.prog W = .ok (.func (.func 104) #[] #[.pointer (some ⟨w.heap.size, 0, none⟩), .pointer (some ⟨w.heap.size + 1, 0, none⟩)]) W := fun _ => by kernel_rfl
    go_enter Try.func79, Try.ntmps79
    go_wp2
    go_loopw [17] (fun i wr => ∃ k : Nat, i = .int .i64 k ∧ Below w.heap.size w wr ∧ wr.heap[w.heap.size]? = some (.cells #[.pointer (some ⟨tb, 0, none⟩)] 102) ∧
        wr.heap[w.heap.size + 1]? = some (.cells (Opr.cells ⟨wid, wreg, wval, wwr, false, wera, wca, wdo⟩).toArray 39) ∧
        (k = 0 ∨ (k = 1 ∧ os.any (rule1 ⟨wid, wreg, wval, wwr, false, wera, wca, wdo⟩) = false) ∨ (k = 2 ∧ (os.any (rule1 ⟨wid, wreg, wval, wwr, false, wera, wca, wdo⟩) || os.any (rule2 os ⟨wid, wreg, wval, wwr, false, wera, wca, wdo⟩)) = false))) (fun i _ => 2 - (intOf i).toNat)
    case atStart => exact ⟨0, rfl, ((below_two _ _ _).alloc (by simp; omega) _), (Below.heap_alloc _ _ _ (by simp; omega)).trans (heap_alloc2_old _ _ _), (Below.heap_alloc _ _ _ (by simp)).trans (heap_alloc2_new _ _ _), .inl rfl⟩
    case round =>
      obtain ⟨k, rfl, hb, hx0, hx1, hk⟩ := hrel
      have HX0 := Lib.hid hx0
      have HX1 := Lib.hid hx1
      have hs := hb.size
      have c0 : wr.cell? ⟨w.heap.size, 0, none⟩ = some (.pointer (some ⟨tb, 0, none⟩)) := by rw [cell_of_row _ _ _ _ _ _ hx0]; rfl
      have t0' : wr.cell? ⟨tb, 0, none⟩ = some (.slice (some ⟨b, off, none⟩) os.length c) := (hb.cell (by exact htl)).trans t0
      have hops : OpS wr w.heap.size (some ⟨b, off, none⟩) os := H.out.ops.below hb
      clear hx0 hx1
      rcases hk with rfl | ⟨rfl, ha⟩ | ⟨rfl, ha⟩
      · have HC := Lib.hid (contains_c1 (rule1 ⟨wid, wreg, wval, wwr, false, wera, wca, wdo⟩) (w.heap.size + 1) os (some ⟨b, off, none⟩) c w.heap.size wr hops hs hlen (fun o _ w' hb' => cert1_any o _ _ w' (heapBelow HX1.out hb')))
        rcases ha : os.any (rule1 ⟨wid, wreg, wval, wwr, false, wera, wca, wdo⟩) with _ | _
        · rw [ha] at HC
          have HA := Lib.hid ha
          clear ha
          go_wp2_with fail
          refine HC.out.mono ?_
          rintro r w1 ⟨rfl, hb1⟩
          go_wp2
          go_roundw
          case rel => exact ⟨1, rfl, hb.trans (hb1.mono hs), heapBelow HX0.out hb1, heapBelow HX1.out hb1, .inr (.inl ⟨rfl, by first | trivial | exact HA.out⟩)⟩
          case measure => simp [intOf]
        · rw [ha] at HC
          have HA := Lib.hid ha
          clear ha
          go_wp2_with fail
          refine HC.out.mono ?_
          rintro r w1 ⟨rfl, hb1⟩
          go_wp2
          go_ret
          exact ⟨ret_bool (by rw [HR.out, HA.out]; rfl), hb.trans (hb1.mono hs)⟩
      · have HC := Lib.hid (contains_c2 (rule2 os ⟨wid, wreg, wval, wwr, false, wera, wca, wdo⟩) w.heap.size (w.heap.size + 1) os (some ⟨b, off, none⟩) c w.heap.size wr hops hs hlen (fun o ho w' hb' => cert2_any o _ _ _ w' ((H.out.below hb).below hb') HS.out (HW.out o ho).1 (HW.out o ho).2.1 (heapBelow HX0.out hb') (heapBelow HX1.out hb')))
        have HA := Lib.hid ha
        clear ha
        rcases ha2 : os.any (rule2 os ⟨wid, wreg, wval, wwr, false, wera, wca, wdo⟩) with _ | _
        · rw [ha2] at HC
          have HA2 := Lib.hid ha2
          clear ha2
          go_wp2_with fail
          refine HC.out.mono ?_
          rintro r w1 ⟨rfl, hb1⟩
          go_wp2
          go_roundw
          case rel => exact ⟨2, rfl, hb.trans (hb1.mono hs), heapBelow HX0.out hb1, heapBelow HX1.out hb1, .inr (.inr ⟨rfl, by first | rfl | (rw [HA.out]; rfl) | (rw [HA.out, HA2.out]; rfl)⟩)⟩
          case measure => simp [intOf]
        · rw [ha2] at HC
          have HA2 := Lib.hid ha2
          clear ha2
          go_wp2_with fail
          refine HC.out.mono ?_
          rintro r w1 ⟨rfl, hb1⟩
          go_wp2
          go_ret
          exact ⟨ret_bool (by rw [HR.out, HA.out, HA2.out]; rfl), hb.trans (hb1.mono hs)⟩
      · have HA := Lib.hid ha
        clear ha
        go_wp2
        go_ret
        exact ⟨ret_bool (by rw [HR.out, HA.out]), hb⟩
  · have HR : Hid (certB os ⟨wid, wreg, wval, wwr, true, wera, wca, wdo⟩ = true) := by unfold Hid certB; rw [if_neg h1]; rfl
    go_enter Try.func79, Try.ntmps79
    go_wp2
    go_ret
    exact ⟨ret_bool HR.out.symm, (below_two _ _ _).alloc (by simp; omega) _⟩
end Go.Proofs.Ytcgbnlhloopnfaa
