/- awake48: the world in which it runs. -/
import Derived.Test.YtopoefcklipaeaaGreatDoorEvB
import Derived.Test.YtopoefcklipaeaaGreatDoorRows
namespace Go.Proofs.Aw
open Go Go.Ev Go.Proofs

noncomputable def geo (t : TypeId) : O := .cells t [.int .i64 60, .int .i64 5, .int .i64 2, .int .i64 3, .int .i64 1]
noncomputable def s0 (t : TypeId) : St := ⟨1000, Tr.set 40 .nil 0 (some (geo t)), 0, 0⟩
def isTrue : Rs V → Bool
  | .ok (.bool b) _ => b
  | _ => false
theorem isTrue_ok {r : Rs V} (h : isTrue r = true) : ∃ s', r = .ok (.bool true) s' := by
  unfold isTrue at h
  split at h
  · subst h; exact ⟨_, rfl⟩
  · cases h
theorem s0_at {t : TypeId} {i : Nat} {o : O} (h : (s0 t).at i = some o) : i = 0 ∧ o = geo t := by
  unfold s0 St.at at h
  simp only [Tr.get_set 40 _ 0 _ (by decide)] at h
  by_cases hi : i = 0
  · rw [if_pos hi] at h; cases h; exact ⟨hi, rfl⟩
  · rw [if_neg hi] at h; simp [Tr.get_nil] at h
def geoVals : Array Value := #[.int .i64 60, .int .i64 5, .int .i64 2, .int .i64 3, .int .i64 1]
theorem geo_any {t : TypeId} {θ θ' : Th} {c c' : Nat × Nat} {obj : Obj} (h : OR θ c (geo t) obj) : OR θ' c' (geo t) obj := by
  obtain ⟨a, fr, rfl, h1, h2⟩ := h
  refine ⟨a, fr, rfl, ?_, h2⟩
  simpa [VRL, VR] using h1
theorem geo_of {t : TypeId} {θ : Th} {c : Nat × Nat} {fr : Nat × Nat} (h : Clear fr 5) : OR θ c (geo t) (.cells geoVals t fr) :=
  ⟨geoVals, fr, rfl, by simp [geoVals, VRL, VR], by simpa [geoVals] using h⟩
theorem holds_of {t : TypeId} {w : World} {fr : Nat × Nat} (hw : w.heap[0]? = some (.cells geoVals t fr)) (h : Clear fr 5) : Holds (s0 t) w := by
  intro i o ho
  obtain ⟨rfl, rfl⟩ := s0_at ho
  exact ⟨by decide, _, hw, fun _ _ => geo_of h⟩
theorem holds_rel {t : TypeId} {θ : Th} {w0 w : World} {s : St} (h : Rel (s0 t).at w0 θ s w) : Holds (s0 t) w :=
  h.holds fun i o ho => by
    obtain ⟨rfl, rfl⟩ := s0_at ho
    exact ⟨by decide, fun _ _ _ h _ _ => geo_any h⟩
noncomputable def K0 : Nat → Option V := fun _ => none
noncomputable def K1 : Nat → Option V := fun f => sel (Nat.beq f 37) (some (.bool true)) none
noncomputable def K2 : Nat → Option V := fun f => sel (or (Nat.beq f 15) (Nat.beq f 37)) (some (.bool true)) none
/-- true, as the evaluator says -/
def Says (t : TypeId) (n : Nat) : Prop := ∀ w, Holds (s0 t) w → Calls Tryz.prog n #[] w fun e w' => e = .returned (.bool true) ∧ RowKit.Below w.heap.size w w'
theorem Says.known {t : TypeId} {n : Nat} (h : Says t n) {w0 : World} {θ : Th} {s : St} {w : World} (hr : Rel (s0 t).at w0 θ s w) :
    Calls Tryz.prog n #[] w fun e w' => ∃ u, e = .returned u ∧ VR θ (.bool true) u ∧ RowKit.Below w.heap.size w w' := by
  intro cs
  obtain ⟨e, w', fr, ⟨h1, h2⟩, h3⟩ := h w (holds_rel hr) cs
  exact ⟨e, w', fr, ⟨_, h1, by simp [VR], h2⟩, h3⟩
end Go.Proofs.Aw
