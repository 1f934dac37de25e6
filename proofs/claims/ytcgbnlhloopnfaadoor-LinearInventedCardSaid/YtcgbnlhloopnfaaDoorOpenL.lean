/- Arguments of law46's functions, opened: lists of bools, of small numbers, of steps, of explained eras, of events; two bytes; the package variable 'cut'. -/
import Derived.Test.YtcgbnlhloopnfaaDoorGMem
import Derived.Test.YtcgbnlhloopnfaaDoorAwkB
import Derived.Deep.Slices
import Derived.Deep.Fields
import Derived.ChangeSame
import Derived.OpenShut
import Derived.WideShapes
import Derived.LaidMore
import Derived.Stop.Joined
namespace Go.Proofs.YtcgbnlhloopnfaaDoor
open Go.ChangeShapes Go.WideShapes Go.Deep Go.RowKit

/-- a list whose elements are opened one by one -/
theorem open_rows {α : Type} [Inhabited α] {t e : TypeId} {size : Nat} (F : α → List Value) (Q : α → Prop) (ht : Tryd.prog.underlying t = some (.slice e)) (hce : Tryd.prog.cellsOf e = size) (hF : ∀ x, (F x).length = size) (hp : 0 < size)
    {H : Type} {enc : TypeId × Value → H} {w : World} {base : Nat} {spare : Nat → Bool} {held : Bool} {n : Nat} {cs : List Value} {x : DataW H × List MemPlace}
    (hone : ∀ (n : Nat) (cs : List Value) (held : Bool) (x : DataW H × List MemPlace), DataW.trod enc Tryd.prog w base spare held n e cs = some x → ∃ a, cs = F a ∧ Q a)
    (h : DataW.trod enc Tryd.prog w base spare held n t cs = some x) : ∃ (l : List α) (A : Option Addr) (c : Nat), cs = [.slice A l.length c] ∧ RdS w w.heap.size size A (l.map F) ∧ ∀ a ∈ l, Q a := by
  rcases open_slice ht h with ⟨hcs, -⟩ | ⟨a, len, cap, m, k, D, Pl, hcs, hb, hl, hm, hmm, hx, hi⟩
  · exact ⟨[], none, 0, hcs, RdS.nil _ _ _ _, by simp⟩
  · rw [hce] at hi
    have hle : len ≤ m := by rw [hmm]; split <;> omega
    have hE : ∀ i, ∃ e : α, i < len → (∀ j v, (F e)[j]? = some v → w.cell? (a.add (i * size + j)) = some v) ∧ Q e := fun i => by
      by_cases him : i < len
      · obtain ⟨cs', hc, hti⟩ := hi i (by omega)
        obtain ⟨e, rfl, hw⟩ := hone _ _ _ _ hti
        obtain ⟨_, hcl, hat⟩ := World.cells?_some hc
        refine ⟨e, fun _ => ⟨fun j v hj => ?_, hw⟩⟩
        have hj6 : j < size := by have := (List.getElem?_eq_some_iff.1 hj).1; rwa [hF] at this
        rw [← Go.Deep.add_add, hat j hj6, hj]
      · exact ⟨default, fun h => absurd h him⟩
    obtain ⟨f, hf⟩ := Classical.axiomOfChoice hE
    refine ⟨(List.range len).map f, some a, cap, by simpa using hcs, ⟨fun r hr => ?_, fun h0 => ?_⟩, fun e he => ?_⟩
    · obtain ⟨x, -, rfl⟩ := List.mem_map.1 hr
      exact hF x
    · have h0' : 0 < len := by simpa using h0
      obtain ⟨v0, hv0⟩ : ∃ v0, (F (f 0))[0]? = some v0 := ⟨_, List.getElem?_eq_getElem (by rw [hF]; exact hp)⟩
      have hc0 := (hf 0 h0').1 0 _ hv0
      obtain ⟨b, off, spot⟩ := a
      have hspot : spot = none := by simpa [Addr.add] using World.cell?_spot hc0
      subst hspot
      refine ⟨b, off, rfl, by simpa [Addr.add] using block_lt_of_cell hc0, fun i r hr j v hj => ?_⟩
      have hil : i < len := by
        have := (List.getElem?_eq_some_iff.1 hr).1
        simpa using this
      have hrr : r = F (f i) := by
        rw [List.getElem?_map, List.getElem?_map, List.getElem?_range hil] at hr
        simpa using hr.symm
      subst hrr
      have := (hf i hil).1 j v hj
      rw [show (⟨b, off, none⟩ : Addr).add (i * size + j) = ⟨b, off + (i * size + j), none⟩ from Addr.add_lit _ _ _] at this
      rw [Nat.add_assoc]
      exact this
    · obtain ⟨i, hi', rfl⟩ := List.mem_map.1 he
      exact (hf i (by simpa using hi')).2
section
variable {H : Type} {enc : TypeId × Value → H} {w : World} {base : Nat} {spare : Nat → Bool} {held : Bool} {n : Nat} {cs : List Value} {x : DataW H × List MemPlace}
/-- a list of bools -/
theorem open_flags (h : DataW.trod enc Tryd.prog w base spare held n 52 cs = some x) : ∃ (l : List Bool) (A : Option Addr) (c : Nat), cs = [.slice A l.length c] ∧ RdS w w.heap.size 1 A (l.map fun b => [.bool b]) := by
  obtain ⟨l, A, c, h1, h2, -⟩ := open_rows (fun b : Bool => [Value.bool b]) (fun _ => True) Tryd.underlying52 (by kernel_rfl) (fun _ => rfl) (by decide) (fun n cs held x h => by
    obtain ⟨b, e, -⟩ := DataW.trod_bool Tryd.underlying4 h
    cases e
    exact ⟨b, rfl, trivial⟩) h
  exact ⟨l, A, c, h1, h2⟩
/-- a list of small numbers -/
theorem open_smalls (h : DataW.trod enc Tryd.prog w base spare held n 47 cs = some x) : ∃ (l : List Int) (A : Option Addr) (c : Nat), cs = [.slice A l.length c] ∧ RdS w w.heap.size 1 A (l.map fun b => [.int .i8 b]) ∧ ∀ b ∈ l, -128 ≤ b ∧ b ≤ 127 :=
  open_rows (fun b : Int => [Value.int .i8 b]) _ Tryd.underlying47 (by kernel_rfl) (fun _ => rfl) (by decide) (fun n cs held x h => by
    obtain ⟨b, e, -, hw⟩ := DataW.trod_int Tryd.underlying48 h
    cases e
    rw [Lit.wf_int_iff, IntKind.min_i8, IntKind.max_i8] at hw
    exact ⟨b, rfl, hw⟩) h
end
/-- a list of events, whose capacity is known -/
theorem open_evc {H : Type} {enc : TypeId × Value → H} {w : World} {base : Nat} {spare : Nat → Bool} {held : Bool} {n : Nat} {cs : List Value} {x : DataW H × List MemPlace}
    (h : DataW.trod enc Tryd.prog w base spare held n 22 cs = some x) : ∃ (l : List Ev) (A : Option Addr) (c : Nat), cs = [.slice A l.length c] ∧ EvS w w.heap.size A l ∧ WfV l ∧ l.length ≤ c := by
  obtain ⟨l, A, c, h1, h2, h3⟩ := open_evs h
  refine ⟨l, A, c, h1, h2, h3, ?_⟩
  rcases open_slice Tryd.underlying22 h with ⟨hcs, -⟩ | ⟨a, len, cap, m, k, D, Pl, hcs, hb, hl, -⟩
  · rw [h1] at hcs
    simp at hcs
    rw [hcs.2.1]
    simp
  · rw [h1] at hcs
    simp at hcs
    omega
set_option maxRecDepth 100000 in
theorem okWide_arr {P : Program} {w : World} {r : Reach} {base : Nat} {t e : TypeId} {m : Nat} {v : Value} (ht : P.underlying t = some (.array m e)) (h : Value.okWide P w r base t v) : ∃ cs, v = .agg cs ∧ cs.size = P.cellsOf t := by
  simp only [Value.okWide, ht] at h
  obtain ⟨cs, h1, h2, _⟩ := h
  exact ⟨cs, h1, h2⟩
theorem cells_pair : Tryd.prog.cellsOf 55 = 2 := by kernel_rfl
theorem cells_byte1 : Tryd.prog.cellsOf 5 = 1 := by kernel_rfl
set_option maxRecDepth 100000 in
/-- an array of two bytes -/
theorem open_pair {H : Type} {enc : TypeId × Value → H} {w : World} {r : Reach} {base b0 : Nat} {spare : Nat → Bool} {held : Bool} {v : Value} {d : DataW H} {p : List MemPlace}
    (hv : Value.okWide Tryd.prog w r b0 55 v) (h : DataW.Trod enc Tryd.prog w base spare held 55 v d p) : ∃ x y : Nat, v = .agg #[.int .u8 x, .int .u8 y] ∧ x < 256 ∧ y < 256 := by
  obtain ⟨cs, rfl, hsz⟩ := okWide_arr Tryd.underlying55 hv
  rw [cells_pair] at hsz
  obtain ⟨fuel, hf⟩ := h
  obtain ⟨xs, m, -, -, -, hxl, hel⟩ := DataW.trod_array Tryd.underlying55 hf
  obtain ⟨cl⟩ := cs
  match cl, hsz with
  | [v0, v1], _ =>
    match xs, hxl with
    | [y0, y1], _ =>
      have h0 : DataW.trod enc Tryd.prog w base spare held m 5 (([v0, v1].drop (0 * Tryd.prog.cellsOf 5)).take (Tryd.prog.cellsOf 5)) = some y0 := hel 0 (by omega)
      have h1 : DataW.trod enc Tryd.prog w base spare held m 5 (([v0, v1].drop (1 * Tryd.prog.cellsOf 5)).take (Tryd.prog.cellsOf 5)) = some y1 := hel 1 (by omega)
      rw [cells_byte1] at h0 h1
      obtain ⟨n0, e0, -, w0⟩ := DataW.trod_int Tryd.underlying5 h0
      obtain ⟨n1, e1, -, w1⟩ := DataW.trod_int Tryd.underlying5 h1
      cases e0; cases e1
      obtain ⟨x, rfl, hx⟩ := byte_nat w0
      obtain ⟨y, rfl, hy⟩ := byte_nat w1
      exact ⟨x, y, rfl, hx, hy⟩

/-! ### the package variable -/
theorem gCut : Tryd.prog.globalNamed "tegula/tegulalaw46.cut" = some 0 := by kernel_rfl
theorem gCutType : (Tryd.prog.globals[0]?).map (·.type) = some 45 := by kernel_rfl
theorem cut_of_laid {W : World} (h : laidMetH Tryd.prog [("tegula/tegulalaw46.cut", Rows.laid_tegula_tegulalaw46_cut)] W) : CutG W := by
  rw [MakeChecks.laidMetH_plain _ _ _ (by kernel_rfl)] at h
  obtain ⟨ps, ⟨g0, t0, cs0, f0, p0, q0, hg0, ht0, hv0, hd0, -⟩, -, -⟩ := h
  obtain rfl := Option.some.inj (gCut.symm.trans hg0)
  obtain rfl := Option.some.inj (gCutType.symm.trans ht0)
  obtain ⟨ys, m, -, hx, hlen, hyl, hf⟩ := DataW.trod_struct Tryd.underlying45 hd0
  rw [cells_ev] at hlen
  obtain ⟨cl⟩ := cs0
  obtain ⟨v0, v1, v2, v3, v4, v5, rfl⟩ := sixV (show cl.length = 6 from hlen)
  obtain ⟨y0, y1, y2, y3, y4, y5, rfl⟩ := sixV (show ys.length = 6 from hyl)
  have h0 : DataW.trod _ Tryd.prog W 0 _ false m 3 (([v0, v1, v2, v3, v4, v5].drop 0).take (Tryd.prog.cellsOf 3)) = some y0 := hf 0 _ rfl
  rw [one_ev] at h0
  have h1 : DataW.trod _ Tryd.prog W 0 _ false m 3 (([v0, v1, v2, v3, v4, v5].drop 1).take (Tryd.prog.cellsOf 3)) = some y1 := hf 1 _ rfl
  rw [one_ev] at h1
  have h2 : DataW.trod _ Tryd.prog W 0 _ false m 4 (([v0, v1, v2, v3, v4, v5].drop 2).take (Tryd.prog.cellsOf 4)) = some y2 := hf 2 _ rfl
  rw [one_fl] at h2
  have h3 : DataW.trod _ Tryd.prog W 0 _ false m 3 (([v0, v1, v2, v3, v4, v5].drop 3).take (Tryd.prog.cellsOf 3)) = some y3 := hf 3 _ rfl
  rw [one_ev] at h3
  have h4 : DataW.trod _ Tryd.prog W 0 _ false m 3 (([v0, v1, v2, v3, v4, v5].drop 4).take (Tryd.prog.cellsOf 3)) = some y4 := hf 4 _ rfl
  rw [one_ev] at h4
  have h5 : DataW.trod _ Tryd.prog W 0 _ false m 4 (([v0, v1, v2, v3, v4, v5].drop 5).take (Tryd.prog.cellsOf 4)) = some y5 := hf 5 _ rfl
  rw [one_fl] at h5
  obtain ⟨n0, e0, f0, -⟩ := DataW.trod_int Tryd.underlying3 h0
  obtain ⟨n1, e1, f1, -⟩ := DataW.trod_int Tryd.underlying3 h1
  obtain ⟨n2, e2, f2⟩ := DataW.trod_bool Tryd.underlying4 h2
  obtain ⟨n3, e3, f3, -⟩ := DataW.trod_int Tryd.underlying3 h3
  obtain ⟨n4, e4, f4, -⟩ := DataW.trod_int Tryd.underlying3 h4
  obtain ⟨n5, e5, f5⟩ := DataW.trod_bool Tryd.underlying4 h5
  cases e0; cases e1; cases e2; cases e3; cases e4; cases e5
  subst f0; subst f1; subst f2; subst f3; subst f4; subst f5
  simp only [Prod.mk.injEq] at hx
  have hx1 := hx.1
  unfold Rows.laid_tegula_tegulalaw46_cut at hx1
  simp at hx1
  obtain ⟨rfl, rfl, rfl, rfl, rfl, rfl⟩ := hx1
  exact ⟨World.var?_cell hg0 hv0 0, World.var?_cell hg0 hv0 1, World.var?_cell hg0 hv0 2, World.var?_cell hg0 hv0 3, World.var?_cell hg0 hv0 4, World.var?_cell hg0 hv0 5⟩
end Go.Proofs.YtcgbnlhloopnfaaDoor
