/- Walks of tegularef46's find and durable.
Walk of tegularef46.order. -/
import Derived.Test.YtcgbnlhloopnfaaDoorGLnD
import Derived.Test.YtcgbnlhloopnfaaDoorGRef
import Derived.Test.YtcgbnlhloopnfaaDoorGMst
import Derived.BigQuiet
namespace Go.Proofs.YtcgbnlhloopnfaaDoor
open Go.RowKit

theorem idx_stop {X : List Opr} {id : Int} {k : Nat} {o : Opr} (ho : X[k]? = some o) (he : o.id = id) (hno : ∀ j o', j < k → X[j]? = some o' → o'.id ≠ id) : X.findIdx? (fun o => o.id == id) = some k := by
  rw [List.findIdx?_eq_some_iff_getElem]
  obtain ⟨hk, hh⟩ := List.getElem?_eq_some_iff.1 ho
  refine ⟨hk, by rw [hh]; simp [he], fun j hj => ?_⟩
  have := hno j X[j] hj (List.getElem?_eq_getElem (by omega))
  simp [this]
theorem idx_none {X : List Opr} {id : Int} (hno : ∀ j o', j < X.length → X[j]? = some o' → o'.id ≠ id) : X.findIdx? (fun o => o.id == id) = none := by
  rw [List.findIdx?_eq_none_iff]
  intro x hx
  obtain ⟨j, hj, rfl⟩ := List.getElem_of_mem hx
  simpa using hno j _ hj (List.getElem?_eq_getElem hj)
set_option maxHeartbeats 1000000 in
theorem rfind_any (X : List Opr) (A : Option Addr) (c B : Nat) (id : Int) (w : World) (h : OpS w B A X) (hlen : X.length ≤ 1000000) :
    Calls Tryd.prog 73 #[.slice A X.length c, .int .i64 id] w fun r w' => r = .returned (.int .i64 (idxI (X.findIdx? fun o => o.id == id))) ∧ Below w.heap.size w w' := by
  have HE := Lib.hid h
  clear h
  go_enter Tryd.func73, Tryd.ntmps73
  go_wp2
  go_loopw [5] (fun i wr => ∃ k : Nat, k ≤ X.length ∧ i = .int .i64 k ∧ (∀ j o', j < k → X[j]? = some o' → o'.id ≠ id) ∧ wr = w) (fun i _ => X.length - (intOf i).toNat)
  case atStart => exact ⟨0, by omega, rfl, fun j o' hj => absurd hj (by omega), rfl⟩
  case round =>
    obtain ⟨k, hk, rfl, hno, rfl⟩ := hrel
    have HN := Lib.hid hno
    clear hno
    by_cases hlt : k < X.length
    · have hkl : (k : Int) < (X.length : Int) := by omega
      obtain ⟨bb, off, o, rfl, -, ho, e0, -⟩ := OpS.at_ HE.out hlt
      have HO := Lib.hid ho
      clear ho
      obtain ⟨o0, o1, o2, o3, o4, o5, o6, o7⟩ := o
      simp only at e0
      by_cases he : o0 = id
      · have he' : (o0 == id) = true := by simpa using he
        have HI : Hid (X.findIdx? (fun o => o.id == id) = some k) := idx_stop HO.out he HN.out
        clear he
        go_wp2
        go_ret
        exact ⟨by rw [HI.out]; rfl, Below.refl _ _⟩
      · have he' : (o0 == id) = false := by simpa using he
        have HE2 := Lib.hid he
        clear he
        go_wp2
        go_roundw
        case rel => exact ⟨k + 1, by omega, by go_num, fun j o' hj ho' => by
          rcases Nat.lt_or_eq_of_le (Nat.le_of_lt_succ hj) with h | rfl
          · exact HN.out j o' h ho'
          · have := HO.out.symm.trans ho'
            cases this
            exact HE2.out, trivial⟩
        case measure => simp [intOf]; omega
    · obtain rfl : k = X.length := by omega
      have HI : Hid (X.findIdx? (fun o => o.id == id) = none) := idx_none HN.out
      go_wp2
      go_ret
      exact ⟨by rw [HI.out]; rfl, Below.refl _ _⟩

def durT (o b : Opr) : Bool := b.barrier && decide (0 ≤ b.done) && decide (o.done < b.call)
set_option maxHeartbeats 4000000 in
set_option maxRecDepth 100000 in
theorem rdur_any (X : List Opr) (o : Opr) (A : Option Addr) (c B : Nat) (w : World) (h : OpS w B A X) (hB : B ≤ w.heap.size) (hlen : X.length ≤ 1000000) :
    Calls Tryd.prog 54 #[.slice A X.length c, o.agg] w fun r w' => r = .returned (.bool (durR X o)) ∧ Below w.heap.size w w' := by
  have HE := Lib.hid h
  clear h
  have HD : Hid (durR X o = (decide (0 ≤ o.done) && ((o.write && o.barrier) || X.any (durT o)))) := rfl
  obtain ⟨o0, o1, o2, o3, o4, o5, o6, o7⟩ := o
  simp only at HD
  unfold Opr.agg
  by_cases h7 : o7 < 0
  · have h7' : decide (o7 < 0) = true := by simpa using h7
    go_enter Tryd.func54, Tryd.ntmps54
    go_wp2
    go_ret
    exact ⟨ret_bool (by rw [HD.out]; simp; omega), below_laid⟩
  · have h7' : decide (o7 < 0) = false := by simpa using h7
    by_cases h34 : o3 = true ∧ o4 = true
    · obtain ⟨rfl, rfl⟩ := h34
      go_enter Tryd.func54, Tryd.ntmps54
      go_wp2
      go_ret
      exact ⟨ret_bool (by rw [HD.out]; simp; omega), below_laid⟩
    · have HD2 : Hid (durR X ⟨o0, o1, o2, o3, o4, o5, o6, o7⟩ = X.any (durT ⟨o0, o1, o2, o3, o4, o5, o6, o7⟩)) := by
        unfold Hid
        rw [HD.out, show decide (0 ≤ o7) = true by simp; omega]
        cases o3 <;> cases o4 <;> simp at h34 ⊢
      have hc34 : o3 = false ∨ (o3 = true ∧ o4 = false) := by cases o3 <;> cases o4 <;> simp at h34 ⊢
      clear HD h34
      go_enter Tryd.func54, Tryd.ntmps54
      go_upto_region 1 with (fail)
      have hb1 := below_laid (w := w) (o := .cells (Opr.cells ⟨o0, o1, o2, o3, o4, o5, o6, o7⟩).toArray 64)
      have hx1 : (w.alloc (.cells (Opr.cells ⟨o0, o1, o2, o3, o4, o5, o6, o7⟩).toArray 64)).heap[w.heap.size]? = some (.cells (Opr.cells ⟨o0, o1, o2, o3, o4, o5, o6, o7⟩).toArray 64) := heap_new_at _ _ rfl
      have hWe : w.alloc (.cells (Opr.cells ⟨o0, o1, o2, o3, o4, o5, o6, o7⟩).toArray 64) = w.alloc (.cells #[.int .i64 o0, .int .i64 o1, .int .i64 o2, .bool o3, .bool o4, .int .i64 o5, .int .i64 o6, .int .i64 o7] 64) := rfl
      rw [hWe] at hb1 hx1
      clear hWe
      generalize w.alloc (.cells #[.int .i64 o0, .int .i64 o1, .int .i64 o2, .bool o3, .bool o4, .int .i64 o5, .int .i64 o6, .int .i64 o7] 64) = w1 at *
      have p3 : w1.cell? ⟨w.heap.size, 3, none⟩ = some (.bool o3) := by rw [cell_of_row _ _ _ _ _ _ hx1]; rfl
      have p4 : w1.cell? ⟨w.heap.size, 4, none⟩ = some (.bool o4) := by rw [cell_of_row _ _ _ _ _ _ hx1]; rfl
      have p7 : w1.cell? ⟨w.heap.size, 7, none⟩ = some (.int .i64 o7) := by rw [cell_of_row _ _ _ _ _ _ hx1]; rfl
      have HX1 := Lib.hid hx1
      have HB1 := Lib.hid hb1
      have hz1 := hb1.size
      clear hx1 hb1
      go_upto_region 3 with (fail)
      go_cut [14] (fun s14 wx => s14 = .bool false ∧ wx = w1)
      case first =>
        rcases hc34 with rfl | ⟨rfl, rfl⟩
        all_goals
          go_wp2_with fail
          go_meet
          exact ⟨rfl, rfl⟩
      obtain ⟨rfl, rfl⟩ := hcut
      clear p3 p4 p7
      go_wp2
      go_loopw [5] (fun i wr => ∃ k : Nat, k ≤ X.length ∧ i = .int .i64 k ∧ (∀ j b, j < k → X[j]? = some b → durT ⟨o0, o1, o2, o3, o4, o5, o6, o7⟩ b = false) ∧ Below wc.heap.size wc wr) (fun i _ => X.length - (intOf i).toNat)
      case atStart => exact ⟨0, by omega, rfl, fun j b hj => absurd hj (by omega), Below.refl _ _⟩
      case round =>
        obtain ⟨k, hk, rfl, hno, hb⟩ := hrel
        have HN := Lib.hid hno
        have HB := Lib.hid hb
        clear hno
        by_cases hlt : k < X.length
        · have hkl : (k : Int) < (X.length : Int) := by omega
          obtain ⟨bb, off, b, rfl, -, hbo, -, -, -, -, e4, -, e6, e7⟩ := OpS.at_ (HE.out.below' (HB1.out.trans (hb.mono hz1)) hB) hlt
          have hxr := keptB HX1.out hb
          have p7 : wr.cell? ⟨w.heap.size, 7, none⟩ = some (.int .i64 o7) := by rw [cell_of_row _ _ _ _ _ _ hxr]; rfl
          have HBO := Lib.hid hbo
          obtain ⟨b0, b1, b2, b3, b4, b5, b6, b7⟩ := b
          simp only at e4 e6 e7
          have HT : Hid (durT ⟨o0, o1, o2, o3, o4, o5, o6, o7⟩ ⟨b0, b1, b2, b3, b4, b5, b6, b7⟩ = (b4 && decide (0 ≤ b7) && decide (o7 < b6))) := rfl
          clear hbo hxr hb
          have hnext : durT ⟨o0, o1, o2, o3, o4, o5, o6, o7⟩ ⟨b0, b1, b2, b3, b4, b5, b6, b7⟩ = false → ∀ j b, j < k + 1 → X[j]? = some b → durT ⟨o0, o1, o2, o3, o4, o5, o6, o7⟩ b = false := fun hf j b hj hjb => by
            rcases Nat.lt_or_eq_of_le (Nat.le_of_lt_succ hj) with h | rfl
            · exact HN.out j b h hjb
            · have := HBO.out.symm.trans hjb
              cases this
              exact hf
          have HNX := Lib.hid hnext
          have hfound : durT ⟨o0, o1, o2, o3, o4, o5, o6, o7⟩ ⟨b0, b1, b2, b3, b4, b5, b6, b7⟩ = true → X.any (durT ⟨o0, o1, o2, o3, o4, o5, o6, o7⟩) = true := fun hf => List.any_eq_true.2 ⟨_, List.mem_of_getElem? HBO.out, hf⟩
          have HFD := Lib.hid hfound
          clear hnext hfound
          cases b4
          · have HF : Hid (durT ⟨o0, o1, o2, o3, o4, o5, o6, o7⟩ ⟨b0, b1, b2, b3, false, b5, b6, b7⟩ = false) := by unfold Hid; rw [HT.out]; rfl
            go_wp2_with fail
            go_quiet (fail)
            clear e4 e6 e7 p7
            go_wp2
            go_roundw
            case rel => exact ⟨k + 1, by omega, by go_num, HNX.out HF.out, below_drewN HB.out _⟩
            case measure => simp [intOf]; omega
          · by_cases g7 : 0 ≤ b7
            · have g7' : decide (b7 ≥ 0) = true := by simpa using g7
              have g7q : decide (0 ≤ b7) = true := by simpa using g7
              by_cases g6 : o7 < b6
              · have g6' : decide (o7 < b6) = true := by simpa using g6
                have HF : Hid (X.any (durT ⟨o0, o1, o2, o3, o4, o5, o6, o7⟩) = true) := HFD.out (by rw [HT.out, g7q, g6']; rfl)
                clear g7 g6
                go_wp2_with fail
                go_quiet (fail)
                clear e4 e6 e7 p7
                go_wp2
                go_ret
                exact ⟨ret_bool (by rw [HD2.out, HF.out]), HB1.out.trans ((below_drewN HB.out _).mono hz1)⟩
              · have g6' : decide (o7 < b6) = false := by simpa using g6
                have HF : Hid (durT ⟨o0, o1, o2, o3, o4, o5, o6, o7⟩ ⟨b0, b1, b2, b3, true, b5, b6, b7⟩ = false) := by unfold Hid; rw [HT.out, g6']; simp
                clear g7 g6
                go_wp2_with fail
                go_quiet (fail)
                clear e4 e6 e7 p7
                go_wp2
                go_roundw
                case rel => exact ⟨k + 1, by omega, by go_num, HNX.out HF.out, below_drewN HB.out _⟩
                case measure => simp [intOf]; omega
            · have g7' : decide (b7 ≥ 0) = false := by simpa using g7
              have HF : Hid (durT ⟨o0, o1, o2, o3, o4, o5, o6, o7⟩ ⟨b0, b1, b2, b3, true, b5, b6, b7⟩ = false) := by unfold Hid; rw [HT.out, show decide (0 ≤ b7) = false by simpa using g7]; simp
              clear g7
              go_wp2_with fail
              go_quiet (fail)
              clear e4 e6 e7 p7
              go_wp2
              go_roundw
              case rel => exact ⟨k + 1, by omega, by go_num, HNX.out HF.out, below_drewN HB.out _⟩
              case measure => simp [intOf]; omega
        · obtain rfl : k = X.length := by omega
          have HF : Hid (X.any (durT ⟨o0, o1, o2, o3, o4, o5, o6, o7⟩) = false) := by
            unfold Hid
            rw [List.any_eq_false]
            intro b hb
            obtain ⟨j, hj, rfl⟩ := List.getElem_of_mem hb
            rw [HN.out j _ hj (List.getElem?_eq_getElem hj)]
            simp
          clear hb
          go_wp2
          go_ret
          exact ⟨ret_bool (by rw [HD2.out, HF.out]), HB1.out.trans (HB.out.mono hz1)⟩
end Go.Proofs.YtcgbnlhloopnfaaDoor
namespace Go.Proofs.YtcgbnlhloopnfaaDoor
open Go.RowKit

/-- which operations were seen, in memory -/
def SeenM (w : World) (sb : Nat) (X : List Opr) (dn : List Int) : Prop := ∃ cur, w.heap[sb]? = some (.cells cur 4 (0, 0)) ∧ ∀ k, k < X.length → cur[k]? = some (.bool (doneQ X dn k))
theorem SeenM.cell {w : World} {sb : Nat} {X : List Opr} {dn : List Int} (h : SeenM w sb X dn) {k : Nat} (hk : k < X.length) : w.cell? ⟨sb, k, none⟩ = some (.bool (doneQ X dn k)) ∧ w.frozen? ⟨sb, k, none⟩ = false := by
  obtain ⟨cur, h2, h3⟩ := h
  exact ⟨by rw [cell_of_row _ _ _ _ _ _ h2]; exact h3 k hk, frozen_of_row _ _ _ _ _ h2⟩
theorem SeenM.lt {w : World} {sb : Nat} {X : List Opr} {dn : List Int} (h : SeenM w sb X dn) : sb < w.heap.size := by obtain ⟨cur, h2, -⟩ := h; exact (Array.getElem?_eq_some_iff.1 h2).1
theorem SeenM.below {w w' : World} {sb : Nat} {X : List Opr} {dn : List Int} (h : SeenM w sb X dn) (hb : Below w.heap.size w w') : SeenM w' sb X dn := by
  obtain ⟨cur, h2, h3⟩ := h
  exact ⟨cur, keptB h2 hb, h3⟩
theorem SeenM.mark {w : World} {sb : Nat} {X : List Opr} {dn : List Int} (hids : (X.map (·.id)).Nodup) (h : SeenM w sb X dn) {k : Nat} (hk : k < X.length) : SeenM (w.setCell ⟨sb, k, none⟩ (.bool true)) sb X (dn ++ [(opAt X k).id]) := by
  obtain ⟨cur, h2, h3⟩ := h
  refine ⟨_, by rw [heap_setCell_same _ _ _ _ _ _ h2], fun j hj => ?_⟩
  by_cases hjk : j = k
  · subst hjk
    rw [Array.getElem?_setIfInBounds_self_of_lt (Array.getElem?_eq_some_iff.1 (h3 j hj)).1]
    simp [doneQ]
  · rw [Array.getElem?_setIfInBounds_ne (by omega), h3 j hj]
    unfold doneQ
    rw [List.contains_append]
    simp
    intro e
    exact absurd (id_inj hids hj hk e) hjk
theorem SeenM.grown {w w' : World} {sb base size : Nat} {e : TypeId} {v : Value} {rows : List (List Value)} {X : List Opr} {dn : List Int} (h : SeenM w sb X dn) (ho : OwS w base e size v rows) (hne : e ≠ 4) (hg : w.grownBy w' v.ownBlock) : SeenM w' sb X dn := by
  obtain ⟨cur, h2, h3⟩ := h
  exact ⟨cur, (hg.block sb (Array.getElem?_eq_some_iff.1 h2).1 (ho.notRow h2 (Ne.symm hne))).trans h2, h3⟩
theorem findO_idx {X : List Opr} {id : Int} {k : Nat} (h : X.findIdx? (fun o => o.id == id) = some k) : k < X.length ∧ findO X id = some (opAt X k) ∧ (opAt X k).id = id := by
  obtain ⟨hk, h1, h2⟩ := List.findIdx?_eq_some_iff_getElem.1 h
  have he : opAt X k = X[k] := opAt_of (List.getElem?_eq_getElem hk)
  refine ⟨hk, ?_, by rw [he]; simpa using h1⟩
  unfold findO
  rw [List.find?_eq_some_iff_getElem]
  exact ⟨by rw [he]; simpa using h1, k, hk, he.symm, fun j hj => by simpa using h2 j hj⟩
theorem findO_no {X : List Opr} {id : Int} (h : X.findIdx? (fun o => o.id == id) = none) : findO X id = none := by
  unfold findO
  rw [List.find?_eq_none]
  intro o ho
  have := List.findIdx?_eq_none_iff.1 h o ho
  simpa using this
/-- an order that goes wrong at an operation -/
def badO (X : List Opr) (dn : List Int) (k : Nat) : Bool := doneQ X dn k || !effB (opAt X k) || (!(opAt X k).write && decide ((opAt X k).done < 0))
theorem ord_bad {X : List Opr} {dn : List Int} {id : Int} {r : List Int} {k : Nat} (h : X.findIdx? (fun o => o.id == id) = some k) (hb : badO X dn k = true) : orderR X dn (id :: r) = none := by
  obtain ⟨h1, h2, h3⟩ := findO_idx h
  rw [orderR, h2]
  simp only
  rw [if_pos]
  unfold badO doneQ at hb
  rw [h3] at hb
  exact hb
theorem ord_good {X : List Opr} {dn : List Int} {id : Int} {r : List Int} {k : Nat} (h : X.findIdx? (fun o => o.id == id) = some k) (hb : badO X dn k = false) : orderR X dn (id :: r) = (orderR X (dn ++ [id]) r).map (opAt X k :: ·) := by
  obtain ⟨h1, h2, h3⟩ := findO_idx h
  rw [orderR, h2]
  simp only
  rw [if_neg]
  unfold badO doneQ at hb
  rw [h3] at hb
  rw [hb]
  simp
theorem ord_none {X : List Opr} {dn : List Int} {id : Int} {r : List Int} (h : X.findIdx? (fun o => o.id == id) = none) : orderR X dn (id :: r) = none := by rw [orderR, findO_no h]
def endO (X : List Opr) (dn : List Int) (k : Nat) : Bool := !effB (opAt X k) || decide ((opAt X k).done < 0) || doneQ X dn k
theorem ord_end {X : List Opr} {dn : List Int} (h : ∀ k, k < X.length → endO X dn k = true) : orderR X dn [] = some [] := by
  rw [orderR, if_pos]
  rw [List.all_eq_true]
  intro o ho
  obtain ⟨k, hk, rfl⟩ := List.getElem_of_mem ho
  have := h k hk
  unfold endO doneQ at this
  rwa [opAt_of (List.getElem?_eq_getElem hk)] at this
theorem ord_miss {X : List Opr} {dn : List Int} {k : Nat} (hk : k < X.length) (h : endO X dn k = false) : orderR X dn [] = none := by
  rw [orderR, if_neg]
  intro ha
  have := List.all_eq_true.1 ha _ (opAt_mem hk)
  unfold endO doneQ at h
  rw [h] at this
  cases this
theorem map_app {o : Option (List Opr)} {xs : List Opr} {a : Opr} : (o.map (a :: ·)).map (xs ++ ·) = o.map ((xs ++ [a]) ++ ·) := by cases o <;> simp
/-- what order leaves -/
def OrdP (X : List Opr) (ids : List Int) (w : World) (r : Ending) (w' : World) : Prop := Below w.heap.size w w' ∧ (match orderR X [] ids with
  | none => r = .returned (.tuple #[.slice none 0 0, .bool false])
  | some xs => ∃ v, r = .returned (.tuple #[v, .bool true]) ∧ OwS w' w.heap.size 64 8 v (xs.map Opr.cells))
theorem OrdP.no {X : List Opr} {ids : List Int} {w w' : World} (h : orderR X [] ids = none) (hb : Below w.heap.size w w') : OrdP X ids w (.returned (.tuple #[.slice none 0 0, .bool false])) w' := by
  unfold OrdP
  rw [h]
  exact ⟨hb, rfl⟩
theorem OrdP.yes {X : List Opr} {ids : List Int} {xs : List Opr} {w w' : World} {v : Value} (h : orderR X [] ids = some xs) (hb : Below w.heap.size w w') (ho : OwS w' w.heap.size 64 8 v (xs.map Opr.cells)) : OrdP X ids w (.returned (.tuple #[v, .bool true])) w' := by
  unfold OrdP
  rw [h]
  exact ⟨hb, v, rfl, ho⟩
set_option maxHeartbeats 8000000 in
set_option maxRecDepth 100000 in
theorem order_any {X : List Opr} (hids : (X.map (·.id)).Nodup) (ids : List Int) (A Ai : Option Addr) (c ci B : Nat) (w : World) (hX : OpS w B A X) (hI : IntS w B Ai ids) (hB : B ≤ w.heap.size) (hlX : X.length ≤ 100000) (hlI : ids.length ≤ 100000) :
    Calls Tryd.prog 53 #[.slice A X.length c, .slice Ai ids.length ci] w (OrdP X ids w) := by
  have HX := Lib.hid hX
  have HI := Lib.hid hI
  have HN := Lib.hid hids
  have HMK := Lib.hid (fun W => make_bools W X.length (by omega))
  clear hX hI hids
  have hmk := fun W => HMK.out W
  go_enter Tryd.func53, Tryd.ntmps53
  go_upto_region 2 with (fail)
  clear hmk
  have hb1 := below_laid (w := w) (o := .cells (madeCells #[.bool false] X.length) 4)
  have hsm : SeenM (w.alloc (.cells (madeCells #[.bool false] X.length) 4)) w.heap.size X [] := by
    refine ⟨_, heap_new_at _ _ rfl, fun k hk => ?_⟩
    unfold madeCells
    rw [Array.getElem?_map, Array.getElem?_range, if_pos hk]
    simp [doneQ, Nat.mod_one]
  generalize w.alloc (.cells (madeCells #[.bool false] X.length) 4) = w1 at *
  have HB1 := Lib.hid hb1
  have HS1 := Lib.hid hsm
  clear hb1 hsm
  go_wp2
  go_loopw [7, 8, 9] (fun s i kk wr => ∃ (j : Nat) (xs : List Opr), j ≤ ids.length ∧ i = .int .i64 j ∧ xs.length = j ∧ orderR X [] ids = (orderR X (ids.take j) (ids.drop j)).map (xs ++ ·) ∧ SeenM wr w.heap.size X (ids.take j) ∧ OwS wr w.heap.size 64 8 s (xs.map Opr.cells) ∧ Below w.heap.size w wr) (fun _ i _ _ => ids.length - (intOf i).toNat)
  case atStart => exact ⟨0, [], by omega, rfl, rfl, by simp, HS1.out, OwS.nil _ _ _ _, HB1.out⟩
  case round =>
    obtain ⟨j, xs, hj, rfl, hxl, hord, hsm, hown, hb⟩ := hrel
    have HO := Lib.hid hord
    have HSM := Lib.hid hsm
    have HOW := Lib.hid hown
    have HB := Lib.hid hb
    have HXL := Lib.hid hxl
    have hz := hb.size
    clear hord hsm hown hxl
    by_cases hlt : j < ids.length
    · have hjl : (j : Int) < (ids.length : Int) := by omega
      obtain ⟨bb, off, id, rfl, -, hid, e0⟩ := IntS.at_ (HI.out.below' hb hB) hlt
      have HDR : Hid (ids.drop j = id :: ids.drop (j + 1)) := by unfold Hid; rw [List.drop_eq_getElem_cons hlt]; congr 1; exact Option.some.inj ((List.getElem?_eq_getElem hlt).symm.trans hid)
      have HTK : Hid (ids.take (j + 1) = ids.take j ++ [id]) := by unfold Hid; rw [List.take_add_one, hid]; rfl
      have HRF := Lib.hid (fun W (hW : Below w.heap.size w W) => rfind_any X A c B id W (HX.out.below' hW hB) (by omega))
      clear hid hb
      rcases hix : X.findIdx? (fun o => o.id == id) with _ | k
      · rw [hix] at HRF
        have HF : Hid (orderR X [] ids = none) := by unfold Hid; rw [HO.out, HDR.out, ord_none hix]; rfl
        clear hix
        simp only [idxI] at HRF
        go_wp2_with fail
        refine (HRF.out _ HB.out).mono ?_
        rintro r w2 ⟨rfl, hb2⟩
        go_wp2
        go_ret2
        exact OrdP.no HF.out (HB.out.trans (hb2.mono hz))
      · rw [hix] at HRF
        simp only [idxI] at HRF
        obtain ⟨hkX, hfo, hki⟩ := findO_idx hix
        have HIX := Lib.hid hix
        have HKI := Lib.hid hki
        clear hix hfo hki
        go_wp2_with fail
        refine (HRF.out _ HB.out).mono ?_
        rintro r w2 ⟨rfl, hb2⟩
        have HB2 := Lib.hid (HB.out.trans (hb2.mono hz))
        have HSM2 := Lib.hid (HSM.out.below (hb2.mono (Nat.le_refl _)))
        have HOW2 := Lib.hid (HOW.out.below (hb2.mono (Nat.le_refl _)))
        have hz2 := HB2.out.size
        clear hb2 e0
        have hkl : (k : Int) < (X.length : Int) := by omega
        have hkn : decide ((k : Int) < 0) = false := by simp
        obtain ⟨bo, oo, o, rfl, -, ho, d0, d1, d2, d3, d4, d5, d6, d7⟩ := OpS.at_ (HX.out.below' HB2.out hB) hkX
        have hoe : opAt X k = o := opAt_of ho
        have HOC : Hid (∀ W, Below w.heap.size w W → W.cell? ⟨bo, oo + k * 8, none⟩ = some (.int .i64 o.id) ∧ W.cell? ⟨bo, oo + k * 8 + 1, none⟩ = some (.int .i64 o.reg) ∧ W.cell? ⟨bo, oo + k * 8 + 2, none⟩ = some (.int .i64 o.val) ∧ W.cell? ⟨bo, oo + k * 8 + 3, none⟩ = some (.bool o.write) ∧ W.cell? ⟨bo, oo + k * 8 + 4, none⟩ = some (.bool o.barrier) ∧ W.cell? ⟨bo, oo + k * 8 + 5, none⟩ = some (.int .i64 o.era) ∧ W.cell? ⟨bo, oo + k * 8 + 6, none⟩ = some (.int .i64 o.call) ∧ W.cell? ⟨bo, oo + k * 8 + 7, none⟩ = some (.int .i64 o.done)) := fun W hW => by
          obtain ⟨b', o', q, h1, -, h3, h4⟩ := OpS.at_ (HX.out.below' hW hB) hkX
          cases h1
          have := ho.symm.trans h3
          cases this
          exact h4
        have s0 := (HSM2.out.cell hkX).1
        have HBD : Hid (badO X (ids.take j) k = (doneQ X (ids.take j) k || !effB o || (!o.write && decide (o.done < 0)))) := by unfold Hid badO; rw [hoe]
        have HEF := Lib.hid (fun W => effect_any o W)
        have HOE := Lib.hid hoe
        have hbad : badO X (ids.take j) k = true → orderR X [] ids = none := fun hb => by rw [HO.out, HDR.out, ord_bad HIX.out hb]; rfl
        have HBAD := Lib.hid hbad
        clear ho hoe hbad
        obtain ⟨o0, o1, o2, o3, o4, o5, o6, o7⟩ := o
        simp only at d0 d1 d2 d3 d4 d5 d6 d7 HBD HEF HOC
        unfold Opr.agg at HEF
        simp only at HEF
        generalize doneQ X (ids.take j) k = sq at *
        cases sq
        case true =>
          have HF : Hid (orderR X [] ids = none) := HBAD.out (by rw [HBD.out]; simp)
          clear HEF
          go_wp2
          go_ret2
          exact OrdP.no HF.out HB2.out
        case false =>
          have HCASE : (o3 = false ∧ o4 = true) ∨ (o3 = false ∧ o4 = false ∧ o7 < 0) ∨ (o3 = false ∧ o4 = false ∧ 0 ≤ o7) ∨ o3 = true := by
            cases o3
            · cases o4
              · by_cases h : o7 < 0
                · exact .inr (.inl ⟨rfl, rfl, h⟩)
                · exact .inr (.inr (.inl ⟨rfl, rfl, by omega⟩))
              · exact .inl ⟨rfl, rfl⟩
            · exact .inr (.inr (.inr rfl))
          rcases HCASE with ⟨rfl, rfl⟩ | ⟨rfl, rfl, h7⟩ | ⟨rfl, rfl, h7⟩ | rfl
          · have HF : Hid (orderR X [] ids = none) := HBAD.out (by rw [HBD.out]; simp [effB])
            go_wp2_with fail
            refine (HEF.out _).mono ?_
            rintro r w3 ⟨rfl, hb3⟩
            have HB3 := Lib.hid (HB2.out.trans (hb3.mono hz2))
            clear hb3 d0 d1 d2 d3 d4 d5 d6 d7 s0
            simp only [effB]
            go_wp2
            go_ret2
            exact OrdP.no HF.out HB3.out
          · go_wp2_with fail
            refine (HEF.out _).mono ?_
            rintro r w3 ⟨rfl, hb3⟩
            have HB3 := Lib.hid (HB2.out.trans (hb3.mono hz2))
            have hz3 := HB3.out.size
            have HSM3 := Lib.hid (HSM2.out.below hb3)
            have HOW3 := Lib.hid (HOW2.out.below hb3)
            clear hb3 d0 d1 d2 d3 d4 d5 d6 d7 s0
            obtain ⟨d0, d1, d2, d3, d4, d5, d6, d7⟩ := HOC.out _ HB3.out
            simp only [effB]
            have h7' : decide (o7 < 0) = true := by simpa using h7
            have HF : Hid (orderR X [] ids = none) := HBAD.out (by rw [HBD.out, h7']; simp)
            clear h7
            go_wp2
            go_ret2
            exact OrdP.no HF.out HB3.out
          · have h7' : decide (o7 < 0) = false := by simpa using h7
            have HGD : Hid (badO X (ids.take j) k = false) := by unfold Hid; rw [HBD.out, h7']; simp [effB]
            clear h7
            go_wp2_with fail
            refine (HEF.out _).mono ?_
            rintro r w3 ⟨rfl, hb3⟩
            have HB3 := Lib.hid (HB2.out.trans (hb3.mono hz2))
            have hz3 := HB3.out.size
            have HSM3 := Lib.hid (HSM2.out.below hb3)
            have HOW3 := Lib.hid (HOW2.out.below hb3)
            clear hb3 d0 d1 d2 d3 d4 d5 d6 d7 s0
            obtain ⟨d0, d1, d2, d3, d4, d5, d6, d7⟩ := HOC.out _ HB3.out
            obtain ⟨s0, s1⟩ := HSM3.out.cell hkX
            simp only [effB]
            go_upto_region 10 with (fail)
            have hb4 : Below w.heap.size w (w3.setCell ⟨w.heap.size, k, none⟩ (.bool true)) := HB3.out.setCell (p := ⟨w.heap.size, k, none⟩) (Nat.le_refl _) _
            have hsm4 : SeenM (w3.setCell ⟨w.heap.size, k, none⟩ (.bool true)) w.heap.size X (ids.take (j + 1)) := by
              rw [HTK.out, ← HKI.out]
              exact HSM3.out.mark HN.out hkX
            have how4 := HOW3.out.far (p := ⟨w.heap.size, k, none⟩) (by
              obtain ⟨cur, hcur, -⟩ := HSM3.out
              exact (HOW3.out.notRow hcur (by decide)).symm) (.bool true)
            clear d0 d1 d2 d3 d4 d5 d6 d7 s0 s1
            generalize w3.setCell ⟨w.heap.size, k, none⟩ (.bool true) = w4 at *
            obtain ⟨d0, d1, d2, d3, d4, d5, d6, d7⟩ := HOC.out _ hb4
            have hz4 := hb4.size
            have hxl := HXL.out
            go_wp2_with (at_builtin; refine wpList_ap1 rfl (.tmp 61) (.tmp 66) _ rfl elemROp rfl how4 (Opr.cells ⟨o0, o1, o2, _, _, o5, o6, o7⟩) _ (by rfl) w4.heap.size (by rfl) (by simp) (Opr.one _) (by simp [maxLen]; omega) (by simp; omega) hz4 ?_)
            intro v5 w5 hown5 hg5 _
            have hb5 : Below w.heap.size w w5 := (hb4.alloc hz4 _).grown hg5 (by simp; omega) (fun g hg => (how4.lt hg).1)
            have hsm5 : SeenM w5 w.heap.size X (ids.take (j + 1)) := SeenM.grown (hsm4.below ((Below.refl _ _).alloc (Nat.le_refl _) _)) (how4.alloc _) (by decide) hg5
            have HS5 := Lib.hid hsm5
            have HOW5 := Lib.hid hown5
            clear hg5 hsm4 how4 hsm5 hown5 d0 d1 d2 d3 d4 d5 d6 d7
            go_wp2
            go_roundw
            case rel => exact ⟨j + 1, xs ++ [opAt X k], by omega, by go_num, by simp [HXL.out], by rw [HO.out, HDR.out, ord_good HIX.out HGD.out, HTK.out]; exact map_app, HS5.out, by rw [HOE.out]; simpa using HOW5.out, hb5⟩
            case measure => simp [intOf]; omega
          · have HGD : Hid (badO X (ids.take j) k = false) := by unfold Hid; rw [HBD.out]; simp [effB]
            go_wp2_with fail
            refine (HEF.out _).mono ?_
            rintro r w3 ⟨rfl, hb3⟩
            have HB3 := Lib.hid (HB2.out.trans (hb3.mono hz2))
            have hz3 := HB3.out.size
            have HSM3 := Lib.hid (HSM2.out.below hb3)
            have HOW3 := Lib.hid (HOW2.out.below hb3)
            clear hb3 d0 d1 d2 d3 d4 d5 d6 d7 s0
            obtain ⟨d0, d1, d2, d3, d4, d5, d6, d7⟩ := HOC.out _ HB3.out
            obtain ⟨s0, s1⟩ := HSM3.out.cell hkX
            simp only [effB]
            go_upto_region 10 with (fail)
            have hb4 : Below w.heap.size w (w3.setCell ⟨w.heap.size, k, none⟩ (.bool true)) := HB3.out.setCell (p := ⟨w.heap.size, k, none⟩) (Nat.le_refl _) _
            have hsm4 : SeenM (w3.setCell ⟨w.heap.size, k, none⟩ (.bool true)) w.heap.size X (ids.take (j + 1)) := by
              rw [HTK.out, ← HKI.out]
              exact HSM3.out.mark HN.out hkX
            have how4 := HOW3.out.far (p := ⟨w.heap.size, k, none⟩) (by
              obtain ⟨cur, hcur, -⟩ := HSM3.out
              exact (HOW3.out.notRow hcur (by decide)).symm) (.bool true)
            clear d0 d1 d2 d3 d4 d5 d6 d7 s0 s1
            generalize w3.setCell ⟨w.heap.size, k, none⟩ (.bool true) = w4 at *
            obtain ⟨d0, d1, d2, d3, d4, d5, d6, d7⟩ := HOC.out _ hb4
            have hz4 := hb4.size
            have hxl := HXL.out
            go_wp2_with (at_builtin; refine wpList_ap1 rfl (.tmp 61) (.tmp 66) _ rfl elemROp rfl how4 (Opr.cells ⟨o0, o1, o2, _, _, o5, o6, o7⟩) _ (by rfl) w4.heap.size (by rfl) (by simp) (Opr.one _) (by simp [maxLen]; omega) (by simp; omega) hz4 ?_)
            intro v5 w5 hown5 hg5 _
            have hb5 : Below w.heap.size w w5 := (hb4.alloc hz4 _).grown hg5 (by simp; omega) (fun g hg => (how4.lt hg).1)
            have hsm5 : SeenM w5 w.heap.size X (ids.take (j + 1)) := SeenM.grown (hsm4.below ((Below.refl _ _).alloc (Nat.le_refl _) _)) (how4.alloc _) (by decide) hg5
            have HS5 := Lib.hid hsm5
            have HOW5 := Lib.hid hown5
            clear hg5 hsm4 how4 hsm5 hown5 d0 d1 d2 d3 d4 d5 d6 d7
            go_wp2
            go_roundw
            case rel => exact ⟨j + 1, xs ++ [opAt X k], by omega, by go_num, by simp [HXL.out], by rw [HO.out, HDR.out, ord_good HIX.out HGD.out, HTK.out]; exact map_app, HS5.out, by rw [HOE.out]; simpa using HOW5.out, hb5⟩
            case measure => simp [intOf]; omega
    · obtain rfl : j = ids.length := by omega
      rw [List.take_length] at HSM
      have HOR : Hid (orderR X [] ids = (orderR X ids []).map (xs ++ ·)) := by unfold Hid; rw [HO.out, List.take_length, List.drop_length]
      clear hb
      generalize wr = wo at *
      go_wp2
      go_loopw [10] (fun i wr => ∃ k : Nat, k ≤ X.length ∧ i = .int .i64 k ∧ (∀ m, m < k → endO X ids m = true) ∧ Below wo.heap.size wo wr) (fun i _ => X.length - (intOf i).toNat)
      case atStart => exact ⟨0, by omega, rfl, fun m hm => absurd hm (by omega), Below.refl _ _⟩
      case round =>
        obtain ⟨k, hk, rfl, hno, hb⟩ := hrel
        have HNO := Lib.hid hno
        have HBW := Lib.hid (HB.out.trans (hb.mono hz))
        have HBO := Lib.hid hb
        have hzr := hb.size
        clear hno
        by_cases hlk : k < X.length
        · have hkl : (k : Int) < (X.length : Int) := by omega
          obtain ⟨bo, oo, o, rfl, -, ho, d0, d1, d2, d3, d4, d5, d6, d7⟩ := OpS.at_ (HX.out.below' HBW.out hB) hlk
          have hoe : opAt X k = o := opAt_of ho
          have s0 := ((HSM.out.below hb).cell hlk).1
          have HED : Hid (endO X ids k = (!effB o || decide (o.done < 0) || doneQ X ids k)) := by unfold Hid endO; rw [hoe]
          have HEF := Lib.hid (fun W => effect_any o W)
          have HOC : Hid (∀ W, Below w.heap.size w W → W.cell? ⟨bo, oo + k * 8 + 7, none⟩ = some (.int .i64 o.done)) := fun W hW => by
            obtain ⟨b', o', q, h1, -, h3, -, -, -, -, -, -, -, h4⟩ := OpS.at_ (HX.out.below' hW hB) hlk
            cases h1
            have := ho.symm.trans h3
            cases this
            exact h4
          have hstep : endO X ids k = true → ∀ m, m < k + 1 → endO X ids m = true := fun he m hm => by
            rcases Nat.lt_or_eq_of_le (Nat.le_of_lt_succ hm) with h | rfl
            · exact HNO.out m h
            · exact he
          have HST := Lib.hid hstep
          have hmiss : endO X ids k = false → orderR X [] ids = none := fun he => by rw [HOR.out, ord_miss hlk he]; rfl
          have HMS := Lib.hid hmiss
          clear ho hoe hstep hmiss hb
          obtain ⟨o0, o1, o2, o3, o4, o5, o6, o7⟩ := o
          simp only at d0 d1 d2 d3 d4 d5 d6 d7 HED HEF HOC
          unfold Opr.agg at HEF
          simp only at HEF
          generalize doneQ X ids k = sq at *
          cases sq
          case true =>
            have HF : Hid (endO X ids k = true) := by unfold Hid; rw [HED.out]; simp
            clear HEF
            go_wp2
            go_roundw
            case rel => exact ⟨k + 1, by omega, by go_num, HST.out HF.out, HBO.out⟩
            case measure => simp [intOf]; omega
          case false =>
            obtain ⟨ef, hef⟩ : ∃ ef, effB ⟨o0, o1, o2, o3, o4, o5, o6, o7⟩ = ef := ⟨_, rfl⟩
            rw [hef] at HEF HED
            clear hef
            go_wp2_with fail
            refine (HEF.out _).mono ?_
            rintro r w3 ⟨rfl, hb3⟩
            have HB3 := Lib.hid (HBO.out.trans (hb3.mono hzr))
            have e7 := HOC.out w3 (HBW.out.trans (hb3.mono HBW.out.size))
            clear hb3 d0 d1 d2 d3 d4 d5 d6 d7 s0
            cases ef
            · have HF : Hid (endO X ids k = true) := by unfold Hid; rw [HED.out]; simp
              go_wp2
              go_roundw
              case rel => exact ⟨k + 1, by omega, by go_num, HST.out HF.out, HB3.out⟩
              case measure => simp [intOf]; omega
            · by_cases h7 : o7 < 0
              · have h7' : decide (o7 ≥ 0) = false := by simp; omega
                have HF : Hid (endO X ids k = true) := by unfold Hid; rw [HED.out]; simp [h7]
                clear h7
                go_wp2
                go_roundw
                case rel => exact ⟨k + 1, by omega, by go_num, HST.out HF.out, HB3.out⟩
                case measure => simp [intOf]; omega
              · have h7' : decide (o7 ≥ 0) = true := by simp; omega
                have HF : Hid (orderR X [] ids = none) := HMS.out (by rw [HED.out]; simp; omega)
                clear h7
                go_wp2
                go_ret2
                exact OrdP.no HF.out (HB.out.trans (HB3.out.mono hz))
        · obtain rfl : k = X.length := by omega
          have HF : Hid (orderR X [] ids = some xs) := by unfold Hid; rw [HOR.out, ord_end HNO.out]; simp
          have HOX := Lib.hid (HOW.out.below hb)
          clear hb
          go_wp2
          go_ret2
          exact OrdP.yes HF.out HBW.out HOX.out
end Go.Proofs.YtcgbnlhloopnfaaDoor
