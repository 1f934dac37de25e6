/- Walks of tegularef47's final and stale. -/
import Derived.Test.YtldjodgpbnkleaaRefF
namespace Go.Proofs.Ytldjodgpbnkleaa
open Go.RowKit

def finR (os : List Opr) (v : Nat) (ov r : Opr) : Bool := precB ov r && (ov.era == r.era || survR os v ov)

set_option maxHeartbeats 4000000 in
set_option maxRecDepth 100000 in
theorem rfinal_any (os : List Opr) (A : Option Addr) (c B : Nat) (v : Nat) (ov r : Opr) (w : World) (h : OpS w B A os) (hB : B ≤ w.heap.size) (hlen : os.length ≤ 1000000) (hv : os[v]? = some ov) :
    Calls Try.prog 64 #[.slice A os.length c, .int .i64 v, r.agg] w fun e w' => e = .returned (.bool (finR os v ov r)) ∧ Below w.heap.size w w' := by
  have hvl : v < os.length := (List.getElem?_eq_some_iff.1 hv).1
  have HOV := Lib.hid hv
  have hvl' : (v : Int) < (os.length : Int) := by omega
  obtain ⟨b, off, ov', rfl, hbB, -⟩ := OpS.at_ h hvl
  have HF : Hid (finR os v ov r = (precB ov r && (ov.era == r.era || survR os v ov))) := rfl
  have HP := Lib.hid (fun w => rprec_any ov r w)
  have HS := Lib.hid (fun W (hW : Below w.heap.size w W) => survives_any os (some ⟨b, off, none⟩) c B v ov W (h.below' hW hB) (by have := hW.size; omega) hlen hv)
  have HOPS := Lib.hid (h.more hB)
  clear hv h
  generalize finR os v ov r = res at *
  generalize precB ov r = pb at *
  generalize survR os v ov = sv at *
  obtain ⟨vid, vreg, vval, vwr, vba, vera, vca, vdo⟩ := ov
  obtain ⟨rid, rreg, rval, rwr, rba, rera, rca, rdo⟩ := r
  simp only [Opr.agg] at HP HF ⊢
  go_enter Try.func64, Try.ntmps64
  go_wp2_with fail
  generalize hW : w.alloc _ = W
  have hbW : Below w.heap.size w W := by rw [← hW]; exact (Below.refl _ _).alloc (Nat.le_refl _) _
  have hxb : W.heap[w.heap.size]? = some (.cells (Opr.cells ⟨rid, rreg, rval, rwr, rba, rera, rca, rdo⟩).toArray 59) := by rw [← hW]; exact heap_alloc_new w _
  have hWl : w.heap.size < W.heap.size := (Array.getElem?_eq_some_iff.1 hxb).1
  clear hW
  have R := fun d xs => OpS.cells (((HOPS.out.below hbW).more hbW.size).below (below_regrown W d xs)) HOV.out
  have X := fun d xs => (boxR (o := ⟨rid, rreg, rval, rwr, rba, rera, rca, rdo⟩) (heapBelow hxb (below_regrown W d xs)))
  have HSC := Lib.hid (fun d xs => HS.out (Sort.grow (redrawn W d) xs) (hbW.trans ((below_regrown W d xs).mono hbW.size)))
  simp only at R X
  have hend : ∀ (e : Ending) (W2 : World), Below W.heap.size W W2 → e = .returned (.bool res) → e = .returned (.bool res) ∧ Below w.heap.size w W2 := fun e W2 h2 he => ⟨he, hbW.trans (h2.mono hbW.size)⟩
  have HEND := Lib.hid hend
  clear hend hxb hbW
  cases pb
  case false =>
    have HR : Hid (res = false) := HF.out
    refine quiet_below (by kernel_rfl) (by kernel_rfl) ?_
    repeat (go_big_quiet_step ((go_at_call 65; exact Calls.regrown_of (HP.out _))))
    refine wpQuiet_nil ?_
    intro W2 hb2
    clear R X
    go_wp2
    go_ret
    exact HEND.out _ _ hb2 (ret_bool HR.out.symm)
  by_cases hera : vera = rera
  · subst hera
    have HR : Hid (res = true) := by unfold Hid; rw [HF.out]; simp
    refine quiet_below (by kernel_rfl) (by kernel_rfl) ?_
    repeat (go_big_quiet_step ((go_at_call 65; exact Calls.regrown_of (HP.out _))))
    refine wpQuiet_nil ?_
    intro W2 hb2
    clear R X
    go_wp2
    go_ret
    exact HEND.out _ _ hb2 (ret_bool HR.out.symm)
  · have hera1 : (vera == rera) = false := by simp [hera]
    clear hera
    have HR : Hid (res = sv) := by unfold Hid; rw [HF.out, hera1]; simp
    refine quiet_below (by kernel_rfl) (by kernel_rfl) ?_
    repeat (go_big_quiet_step (first | (go_at_call 65; exact Calls.regrown_of (HP.out _)) | (go_at_call 46; exact Calls.regrown_of (HSC.out _ _))))
    refine wpQuiet_nil ?_
    intro W2 hb2
    clear R X
    go_wp2
    go_ret
    exact HEND.out _ _ hb2 (ret_bool HR.out.symm)
end Go.Proofs.Ytldjodgpbnkleaa
