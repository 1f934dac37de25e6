/- The histories of LinearLimit: overlapping writes that are not answered, perhaps a cut, a read; decided. Plain: no program is walked here.
Walk of tegulalaw46's same: the explanation for the reference. -/
import Derived.Test.YtcgbnlhloopnfaaDoorFrcA
import Derived.Test.YtcgbnlhloopnfaaDoorAccA
import Derived.Deep.RegionLaw
namespace Go.Proofs.YtcgbnlhloopnfaaDoor

def limC (k : Nat) : List Ev := (List.range k).map fun (i : Nat) => ⟨1, (i : Int), true, 0, (i : Int) + 1, false⟩
theorem limC_succ (k : Nat) : limC (k + 1) = limC k ++ [⟨1, (k : Int), true, 0, (k : Int) + 1, false⟩] := by simp [limC, List.range_succ]
theorem limC_len (k : Nat) : (limC k).length = k := by simp [limC]
def limK (k : Nat) (cuts : Bool) : List Ev := limC k ++ (if cuts then [Ev.cut] else [])
def limL (k : Nat) (cuts : Bool) (v : Nat) : List Ev := limK k cuts ++ r46 k v
def limW (k : Nat) (cuts : Bool) (v : Nat) : List (List Int × Int) :=
  if cuts then [if v = 0 then ([], 0) else ([(v : Int) - 1], 1), ([(k : Int)], 1)] else [if v = 0 then ([(k : Int)], 1) else ([(v : Int) - 1, (k : Int)], 2)]
def limB (k : Nat) (cuts : Bool) : Bool := decide (16 < if cuts then k else k + 1)
def limT (k : Nat) (cuts : Bool) (v : Nat) : Bool := oneL (limL k cuts v) && (anyBig (rawOps (limL k cuts v)) (cutsL (limL k cuts v)) == limB k cuts) && (limB k cuts || ((limW k cuts v).length == cutsL (limL k cuts v) + 1 && accI (rawOps (limL k cuts v)) (cutsL (limL k cuts v)) 0 0 (limW k cuts v)))
theorem lim0 : ∀ k, k < 21 → ∀ v, v < 21 → v ≤ k → limT k false v = true := by decide +kernel
theorem lim1 : ∀ k, k < 21 → ∀ v, v < 21 → v ≤ k → limT k true v = true := by decide +kernel
theorem lim_ok {k v : Nat} {cuts : Bool} (hk : k ≤ 20) (hv : v ≤ k) : FindOk (limL k cuts v) ∧ anyBig (rawOps (limL k cuts v)) (cutsL (limL k cuts v)) = limB k cuts ∧ (limB k cuts = false → ExpL (limL k cuts v)) := by
  have ht : limT k cuts v = true := by
    cases cuts
    · exact lim0 k (by omega) v (by omega) hv
    · exact lim1 k (by omega) v (by omega) hv
  unfold limT at ht
  rw [Bool.and_eq_true, Bool.and_eq_true, Bool.or_eq_true] at ht
  obtain ⟨⟨h1, h2⟩, h3⟩ := ht
  have hsm : ∀ e ∈ limL k cuts v, SmE e := by
    intro e he
    unfold limL limK at he
    rcases List.mem_append.1 he with he | he
    · rcases List.mem_append.1 he with he | he
      · obtain ⟨i, hi, rfl⟩ := List.mem_map.1 he
        have : i < k := by simpa using hi
        refine ⟨?_, by simp, ?_⟩
        · show ((i : Int)).natAbs ≤ 100000
          omega
        · show ((i : Int) + 1).natAbs ≤ 100000
          omega
      · cases cuts
        · simp at he
        · simp at he
          subst he
          exact cut_sm
    · simp only [r46, List.mem_cons, List.not_mem_nil, or_false] at he
      rcases he with rfl | rfl <;> (unfold SmE; simp; try omega)
  obtain ⟨w1, w2, w3⟩ := smL_wf hsm
  refine ⟨⟨h1, ?_, w1, w2, w3⟩, by simpa using h2, fun hb => ?_⟩
  · unfold limL limK
    rw [List.length_append, List.length_append, limC_len]
    cases cuts <;> simp [r46] <;> omega
  · rw [hb] at h3
    simp only [Bool.false_eq_true, false_or, Bool.and_eq_true, beq_iff_eq] at h3
    exact ⟨limW k cuts v, by omega, h3.2⟩
theorem limL_len (k v : Nat) (cuts : Bool) : (limL k cuts v).length ≤ k + 3 := by
  unfold limL limK
  rw [List.length_append, List.length_append, limC_len]
  cases cuts <;> simp [r46]
end Go.Proofs.YtcgbnlhloopnfaaDoor
namespace Go.Proofs.YtcgbnlhloopnfaaDoor
open Go.RowKit

theorem elemWera : Elem Tryd.prog 32 36 2 32 := Elem.mk (z := .agg #[.slice none 0 0, .int .i64 0]) Tryd.underlying32 (by kernel_rfl) (by decide) rfl
def slcOf : Value → Option Addr × Nat
  | .slice A _ c => (A, c)
  | _ => (none, 0)
theorem out_win {w w' : World} {Ax : Option Addr} {es : List (Value × (List Int × Int))} (h : ∀ x ∈ es, OrdV w x.1 x.2.1) (hb : Below w.heap.size w w') (hr : RdS w' w'.heap.size 2 Ax (es.map eraRow)) : WinS w' w'.heap.size Ax (es.map Prod.snd) := by
  have hz : ((es.map fun x => slcOf x.1).zip (es.map Prod.snd)).map (fun p => [Value.slice p.1.1 p.2.1.length p.1.2, .int .i64 p.2.2]) = es.map eraRow := by
    clear hr
    induction es with
    | nil => rfl
    | cons x es ih =>
      obtain ⟨⟨A, c, hx⟩, -⟩ := h x (by simp)
      simp only [List.map_cons, List.zip_cons_cons]
      rw [ih fun y hy => h y (by simp [hy])]
      congr 1
      unfold eraRow slcOf
      rw [hx]
  refine ⟨es.map fun x => slcOf x.1, by simp, by rw [hz]; exact hr, fun i p y hp hy => ?_⟩
  rw [List.getElem?_map] at hp hy
  rcases hq : es[i]? with _ | q
  · rw [hq] at hp; cases hp
  · rw [hq] at hp hy
    simp at hp hy
    subst hp hy
    obtain ⟨⟨A, c, hx⟩, ho⟩ := h q (List.mem_of_getElem? hq)
    rw [hx] at ho ⊢
    exact (ho.reads.below hb).more hb.size
set_option maxHeartbeats 4000000 in
set_option maxRecDepth 100000 in
theorem sameW_any (wl : List (List Int × Int)) (A : Option Addr) (c b : Nat) (w : World) (h : @OutS ⟨b⟩ w (.slice A wl.length c) wl) (hl : wl.length ≤ 100000) :
    Calls Tryd.prog 18 #[.slice A wl.length c] w fun r w' => (∃ A' c', r = .returned (.slice A' wl.length c') ∧ WinS w' w'.heap.size A' wl) ∧ Below w.heap.size w w' := by
  obtain ⟨es, h1, h2, h3⟩ := h
  have hel : es.length = wl.length := by rw [← h1, List.length_map]
  have HEL := Lib.hid hel
  have HES := Lib.hid h1
  have HOS : Hid (OwS w b 37 2 (.slice A wl.length c) (es.map eraRow)) := h2
  have HOR := Lib.hid h3
  have HSL : Hid (∀ x ∈ es, ∃ Ai ci, x.1 = .slice Ai x.2.1.length ci) := fun x hx => (h3 x hx).1
  clear h1 h2 h3 hel
  generalize hn : wl.length = n at *
  clear hn
  go_enter Tryd.func18, Tryd.ntmps18
  go_wp2
  go_loopw [3, 4] (fun s i wr => ∃ k : Nat, k ≤ n ∧ i = .int .i64 k ∧ OwS wr w.heap.size 36 2 s ((es.take k).map eraRow) ∧ Below w.heap.size w wr) (fun _ i _ => n - (intOf i).toNat)
  case atStart => exact ⟨0, by omega, rfl, by simpa using OwS.nil _ _ _ _, Below.refl _ _⟩
  case round =>
    obtain ⟨k, hk, rfl, hown, hb⟩ := hrel
    have HOW := Lib.hid hown
    have HB := Lib.hid hb
    have hz := hb.size
    clear hown
    by_cases hlt : k < n
    · have hkn : (k : Int) < (n : Int) := by omega
      obtain ⟨x, hx⟩ : ∃ x, es[k]? = some x := ⟨_, List.getElem?_eq_getElem (show k < es.length by rw [HEL.out]; exact hlt)⟩
      have oe := HOS.out.below hb
      obtain ⟨g, c', hvv, -, hg⟩ := oe.pos (by rw [List.length_map, HEL.out]; omega)
      injection hvv with hv1 hv2 hv3
      subst hv1
      clear hv2 hv3
      have hrow : (es.map eraRow)[k]? = some (eraRow x) := by rw [List.getElem?_map, hx]; rfl
      obtain ⟨Ai, ci, hxs⟩ := HSL.out x (List.mem_of_getElem? hx)
      have HXK := Lib.hid hx
      obtain ⟨xv, xo, xk⟩ := x
      simp only at hxs
      subst hxs
      have d0 := oe.cell hrow (j := 0) rfl
      have d1 := oe.cell hrow (j := 1) rfl
      rw [Nat.add_zero] at d0
      have htl : ((es.take k).map eraRow).length = k := by rw [List.length_map, List.length_take, HEL.out]; omega
      have HTL := Lib.hid htl
      clear htl oe hrow hx hb
      go_upto_region 5 with (fail)
      go_region_law (refine step_ap1 (by rfl) (.tmp 11) (.tmp 23) _ (by rfl) elemWera (by rfl) (HOW.out.drewN 1) (eraRow (.slice Ai xo.length ci, (xo, xk))) _ (by rfl) wr.heap.size (by rfl) (by simp) (by intro u hu; simp [eraRow] at hu; rcases hu with rfl | rfl <;> rfl) (by rw [HTL.out]; simp [maxLen]; omega) (by rw [HTL.out]; omega) (by simpa using hz) ?_; intro v6 w6 hown6 hg6 hv6)
      all_goals
        have HO6 : Hid (OwS w6 w.heap.size 36 2 v6 ((es.take (k + 1)).map eraRow)) := by
          unfold Hid
          rw [List.take_add_one, HXK.out]
          simpa using hown6
        have HB6 := Lib.hid (HB.out.grown (grow_drewN (grow_alloc hg6)) hz (fun q hq => (HOW.out.lt hq).1))
        clear hown6 hg6 hv6 d0 d1
        go_wp2
        go_roundw
        case rel => exact ⟨k + 1, by omega, by go_num, HO6.out, HB6.out⟩
        case measure => simp [intOf]; omega
    · obtain rfl : k = n := by omega
      have hown := HOW.out
      rw [List.take_of_length_le (by rw [HEL.out]; exact Nat.le_refl _)] at hown
      obtain ⟨Ax, cx, rfl, -, -⟩ := hown.form
      rw [List.length_map, HEL.out] at hown ⊢
      have hw := out_win HOR.out hb hown.reads
      rw [HES.out] at hw
      have HWX := Lib.hid hw
      clear hown hw hb
      go_wp2
      go_ret
      exact ⟨⟨Ax, cx, rfl, HWX.out⟩, HB.out⟩
end Go.Proofs.YtcgbnlhloopnfaaDoor
