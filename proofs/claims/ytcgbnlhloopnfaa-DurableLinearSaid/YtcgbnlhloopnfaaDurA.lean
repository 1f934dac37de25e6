/- Walks of durable: answered, precedes, source, final, the closures, IndexFunc, ContainsFunc. -/
import Derived.Test.YtcgbnlhloopnfaaDurSpec
import Derived.Test.YtcgbnlhloopnfaaGMem
import Derived.Deep.QuietTactic
import Derived.BigQuiet
import Derived.DeepKeys4
import Derived.Outline
namespace Go.Proofs.Ytcgbnlhloopnfaa
open Go.RowKit

/-! ### the key (register, value) -/
theorem laidOut : laidOutB Try.prog = true := by kernel_rfl
theorem rowVal : (142 : TypeId) < Try.prog.types.size := of_decide_eq_true (by kernel_rfl)
theorem wideVal : (match Try.prog.underlying 142 with | some (.array _ _) | some (.struct _) => true | _ => false) = true := by rw [Try.underlying142]
set_option maxRecDepth 1000000 in
theorem lawVal : WideMaps.KeyLaw Try.prog 142 := deep_law_laid laidOut (m := 2) (by omega) rowVal (by kernel_rfl) wideVal
theorem keyedVal : Maps.Keyed Try.prog 142 := Maps.Keyed.of_law lawVal
theorem cellsVal : Try.prog.cellsOf 142 = 2 := by kernel_rfl
theorem cellsInt : Try.prog.cellsOf 3 = 1 := by kernel_rfl
def vKey (r v : Int) : Lit := .string (keyBytes [.int .i64 r, .int .i64 v])
theorem keyLits_val (d : Nat) (r v : Int) (hr : (Lit.int .i64 r).wf = true) (hv : (Lit.int .i64 v).wf = true) : Try.prog.keyLits (d + 2) 142 [.int .i64 r, .int .i64 v] = some [.int .i64 r, .int .i64 v] := by
  simp [Program.keyLits, Try.underlying142, Try.underlying3, cellsVal, cellsInt, hr, hv]
theorem keyOf_val (r v : Int) (hr : (Lit.int .i64 r).wf = true) (hv : (Lit.int .i64 v).wf = true) : keyOf Try.prog 142 (.agg #[.int .i64 r, .int .i64 v]) = some (vKey r v) := by
  have hs : ∃ d, Try.prog.types.size + 1 = d + 2 := ⟨Try.prog.types.size - 1, by have h : (142 : Nat) < Try.prog.types.size := rowVal; omega⟩
  obtain ⟨d, hs⟩ := hs
  have hk : Try.prog.keyType 142 = true := by kernel_rfl
  have hf : (Value.agg #[.int .i64 r, .int .i64 v]).formed Try.prog 142 = true := by simp [Value.formed, Try.underlying142, cellsVal]
  have hl := keyLits_val d r v hr hv
  unfold keyOf
  rw [Try.underlying142]
  simp only [hk, hf, Bool.and_self, if_true, hs]
  simp [Value.cells, hl, vKey]
theorem vKey_lit (r v : Int) : WideAt.IsKeyLit (vKey r v) := trivial
theorem vKey_inj {r v r' v' : Int} (hr : (Lit.int .i64 r).wf = true) (hv : (Lit.int .i64 v).wf = true) (hr' : (Lit.int .i64 r').wf = true) (hv' : (Lit.int .i64 v').wf = true) (h : vKey r v = vKey r' v') : r = r' ∧ v = v' := by
  have := lawVal.inj (keyOf_val r v hr hv) (by rw [h]; exact keyOf_val r' v' hr' hv')
  simpa using this

set_option maxHeartbeats 400000 in
theorem answered_any (o : Opr) (w : World) : Calls Try.prog 57 #[o.agg] w fun r w' => r = .returned (.bool (ansB o)) ∧ Below w.heap.size w w' := by
  unfold Opr.agg
  go_enter Try.func57, Try.ntmps57
  go_wp2
  all_goals
    go_ret
    exact ⟨ret_bool (by simp_all [ansB]), (Below.refl _ _).alloc (Nat.le_refl _) _⟩

set_option maxHeartbeats 400000 in
theorem dprecedes_any (a b : Opr) (w : World) : Calls Try.prog 83 #[a.agg, b.agg] w fun r w' => r = .returned (.bool (precB a b)) ∧ Below w.heap.size w w' := by
  unfold Opr.agg
  go_enter Try.func83, Try.ntmps83
  go_wp2
  all_goals
    go_ret
    exact ⟨ret_bool (by simp_all [precB]; try omega), ((Below.refl _ _).alloc (Nat.le_refl _) _).alloc (by simp) _⟩

theorem zeroBool (w : World) : (zeroValue 4).run Try.prog w = .ok (boolC.val boolC.zero) w := by kernel_rfl
theorem zeroPtr (w : World) : (zeroValue 64).run Try.prog w = .ok (ptrC.val ptrC.zero) w := by kernel_rfl
theorem keyedI : Maps.Keyed Try.prog 3 := Maps.int_keyed Try.underlying3

/-- a trace in memory: the operations, the sources by register and value, the survivors by number -/
structure TrW (w : World) (tb : Nat) (b off c : Nat) (os : List Opr) (wb : Nat) (fw : Lit → Option (Nat × Nat)) (n : Nat) (sb : Nat) (fs : Lit → Bool) (m : Nat) : Prop where
  blk : w.heap[tb]? = some (.cells #[.slice (some ⟨b, off, none⟩) os.length c, .map (some wb), .map (some sb)] 107)
  ops : OpS w w.heap.size (some ⟨b, off, none⟩) os
  wm : MapG ptrC w Try.prog 142 wb n fw
  sm : MapG boolC w Try.prog 3 sb m fs
section
variable {w w' : World} {tb b off c wb n sb m : Nat} {os : List Opr} {fw : Lit → Option (Nat × Nat)} {fs : Lit → Bool}
theorem TrW.below (h : TrW w tb b off c os wb fw n sb fs m) (hb : Below w.heap.size w w') : TrW w' tb b off c os wb fw n sb fs m :=
  ⟨(hb.block tb (Array.getElem?_eq_some_iff.1 h.blk).1).trans h.blk, (h.ops.below hb).more hb.size, h.wm.below hb, h.sm.below hb⟩
theorem TrW.alloc (h : TrW w tb b off c os wb fw n sb fs m) (o : Obj) : TrW (w.alloc o) tb b off c os wb fw n sb fs m := h.below ((Below.refl _ _).alloc (Nat.le_refl _) o)
end

set_option maxHeartbeats 400000 in
theorem source_any {tb b off c wb n sb m : Nat} {os : List Opr} {fw : Lit → Option (Nat × Nat)} {fs : Lit → Bool} (o : Opr) (w : World) (h : TrW w tb b off c os wb fw n sb fs m) (hr : (Lit.int .i64 o.reg).wf = true) (hv : (Lit.int .i64 o.val).wf = true) :
    Calls Try.prog 80 #[.pointer (some ⟨tb, 0, none⟩), o.agg] w fun r w' => r = .returned (ptrV (fw (vKey o.reg o.val))) ∧ Below w.heap.size w w' := by
  have htl : tb < w.heap.size := (Array.getElem?_eq_some_iff.1 h.blk).1
  have t1 : w.cell? ⟨tb, 1, none⟩ = some (.map (some wb)) := by rw [cell_of_row _ _ _ _ _ _ h.blk]; rfl
  have hlook := fun n => ((h.alloc (.cells #[.int .i64 o.id, .int .i64 o.reg, .int .i64 o.val, .bool o.write, .bool o.barrier, .int .i64 o.era, .int .i64 o.call, .int .i64 o.done] 39)).wm.drewN n).look keyedVal Try.underlying105 (zeroPtr _) (keyOf_val _ _ hr hv) (vKey_lit _ _)
  have H := Lib.hid h
  clear h hr hv
  change ∀ n, (Instr.lookup _ _ _ _).run _ _ = Result.ok (ptrV (fw (vKey o.reg o.val))) _ at hlook
  generalize ptrV (fw (vKey o.reg o.val)) = pv at *
  unfold Opr.agg
  go_enter Try.func80, Try.ntmps80
  go_wp2_with fail
  go_quiet (fail)
  go_wp2
  go_ret
  exact ⟨rfl, below_drewN ((Below.refl _ _).alloc (Nat.le_refl _) _) _⟩
end Go.Proofs.Ytcgbnlhloopnfaa
