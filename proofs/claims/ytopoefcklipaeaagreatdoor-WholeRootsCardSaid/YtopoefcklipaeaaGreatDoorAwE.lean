/- tegulatop.awake48 returns true. -/
import Derived.Test.YtopoefcklipaeaaGreatDoorAwB
import Derived.Test.YtopoefcklipaeaaGreatDoorAwC
import Derived.Test.YtopoefcklipaeaaGreatDoorAwD
namespace Go.Proofs.Aw
open Go Go.Ev Go.Proofs
set_option maxRecDepth 100000
theorem mixed : Tryz.prog.follows .mixedOrders = true := by kernel_rfl
theorem name37 : (Tryz.f37.name == "runtime.NumGoroutine") = false := by kernel_rfl
theorem name15 : (Tryz.f15.name == "runtime.NumGoroutine") = false := by kernel_rfl
theorem res37 : Tryz.f37.results = #[.tmp 0] := by kernel_rfl
theorem res15 : Tryz.f15.results = #[.tmp 0] := by kernel_rfl
theorem res4 : Tryz.f4.results = #[.tmp 0] := by kernel_rfl
theorem some37 : Tryz.f37.body.isSome = true := by kernel_rfl
theorem some15 : Tryz.f15.body.isSome = true := by kernel_rfl
theorem some4 : Tryz.f4.body.isSome = true := by kernel_rfl
theorem says {t : TypeId} {K : Nat → Option V} {n : Nat} {fn : Func} (hK : ∀ w, Known Tryz.prog (s0 t).at w K) (hf : Tryz.prog.funcs[n]? = some fn) (hb : fn.body.isSome = true) (hres : fn.results = #[.tmp 0])
    (hrun : isTrue ((callF Tryz.prog K 60 (.func n [] []) []).run (s0 t)) = true) : Says t n := by
  obtain ⟨c, hc⟩ := Option.isSome_iff_exists.1 hb
  obtain ⟨s', hs⟩ := isTrue_ok hrun
  exact fun w hw => eval_calls mixed hK hf hc hres hs rfl hw
theorem says_known {t : TypeId} {n : Nat} {fn : Func} (h : Says t n) (hf : Tryz.prog.funcs[n]? = some fn) (hb : fn.body.isSome = true) (hname : (fn.name == "runtime.NumGoroutine") = false) (w0 : World) :
    ∃ fn c, Tryz.prog.funcs[n]? = some fn ∧ (fn.name == "runtime.NumGoroutine") = false ∧ fn.body = some c ∧
    ∀ θ s w, Rel (s0 t).at w0 θ s w → Calls Tryz.prog n #[] w fun e w' => ∃ u, e = .returned u ∧ VR θ (.bool true) u ∧ RowKit.Below w.heap.size w w' := by
  obtain ⟨c, hc⟩ := Option.isSome_iff_exists.1 hb
  exact ⟨fn, c, hf, hname, hc, fun θ s w hr => h.known hr⟩
theorem says37 (t : TypeId) : Says t 37 := says (fun _ _ _ h => by cases h) Tryz.func37 some37 res37 (run25 t)
theorem K1_spec {n : Nat} {v : V} (h : K1 n = some v) : n = 37 ∧ v = .bool true := by
  unfold K1 at h
  cases hb : Nat.beq n 37 with
  | true => rw [hb] at h; cases h; exact ⟨by simpa using hb, rfl⟩
  | false => rw [hb] at h; cases h
theorem K2_spec {n : Nat} {v : V} (h : K2 n = some v) : (n = 15 ∨ n = 37) ∧ v = .bool true := by
  have h : sel (or (Nat.beq n 15) (Nat.beq n 37)) (some (V.bool true)) none = some v := h
  generalize hb : or (Nat.beq n 15) (Nat.beq n 37) = b at h
  cases b with
  | true =>
    cases h
    refine ⟨?_, rfl⟩
    rw [Bool.or_eq_true] at hb
    exact hb.imp (fun h => Nat.eq_of_beq_eq_true h) (fun h => Nat.eq_of_beq_eq_true h)
  | false => cases h
theorem says15 (t : TypeId) : Says t 15 := says (fun w n v h => by
  obtain ⟨rfl, rfl⟩ := K1_spec h
  exact says_known (says37 t) Tryz.func37 some37 name37 w) Tryz.func15 some15 res15 (run31 t)
theorem says4 (t : TypeId) : Says t 4 := says (fun w n v h => by
  have k := K2_spec h
  rw [k.2]
  clear h
  rcases k.1 with e | e <;> subst e
  · exact says_known (says15 t) Tryz.func15 some15 name15 w
  · exact says_known (says37 t) Tryz.func37 some37 name37 w) Tryz.func4 some4 res4 (run48 t)
/-- awake48 returns true -/
theorem awake48 {t : TypeId} {w : World} {fr : Nat × Nat} (hw : w.heap[0]? = some (.cells geoVals t fr)) (h : Clear fr 5) : Calls Tryz.prog 4 #[] w fun e w' => e = .returned (.bool true) ∧ RowKit.Below w.heap.size w w' :=
  says4 t w (holds_of hw h)
end Go.Proofs.Aw
