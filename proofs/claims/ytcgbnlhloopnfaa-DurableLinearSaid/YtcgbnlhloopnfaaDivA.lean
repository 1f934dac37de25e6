/- The eras of a history: what divide lays. Plain, and memory; nothing of the program is walked here. -/
import Derived.Test.YtcgbnlhloopnfaaGFnI
import Derived.Test.YtcgbnlhloopnfaaGHv
import Derived.Test.YtcgbnlhloopnfaaGPln
namespace Go.Proofs.Ytcgbnlhloopnfaa
open Go.RowKit

theorem era_bd {l : List Ev} (hv : validL l = true) : ∀ o ∈ rawOps l, ∃ k : Nat, o.era = (k : Int) ∧ k ≤ cutsL l := by
  intro o ho
  have h := (hist_to l l.length (Nat.le_refl _)).2 hv
  obtain ⟨-, -, -, i, -, hi, he⟩ := h.op o.id o (findO_of (nd_ids hv) ho)
  refine ⟨(l.take i).countP (fun e => e.kind == 3), by rw [he]; rfl, ?_⟩
  exact (List.take_sublist i l).countP_le
theorem raw_wf {l : List Ev} (h : ∀ e ∈ l, (Lit.int .i64 e.val).wf = true) : ∀ k, ∀ o ∈ (rawTo l k).1, (Lit.int .i64 o.val).wf = true := by
  intro k
  induction k with
  | zero => intro o ho; cases ho
  | succ k ih =>
    intro o ho
    rw [rawTo] at ho
    rcases he : l[k]? with _ | e
    · rw [he] at ho; exact ih o ho
    · rw [he] at ho
      have hw := h e (List.mem_of_getElem? he)
      simp only [rawStep] at ho
      split at ho
      · exact ih o ho
      · split at ho
        · rcases List.mem_append.1 ho with ho | ho
          · exact ih o ho
          · simp at ho; subst ho; exact hw
        · obtain ⟨o', ho', rfl⟩ := List.mem_map.1 ho
          unfold Opr.fin
          split
          · exact hw
          · exact ih o' ho'
theorem valsO_wf {l : List Ev} (h : ∀ e ∈ l, (Lit.int .i64 e.val).wf = true) : ∀ v ∈ valsO (rawOps l), (Lit.int .i64 v).wf = true := by
  intro v hv
  rcases List.mem_cons.1 hv with rfl | hv
  · rfl
  · obtain ⟨o, ho, rfl⟩ := List.mem_map.1 hv
    exact raw_wf h _ o ho
def updN {α : Type} (f : Nat → α) (k : Nat) (a : α) : Nat → α := fun x => if x = k then a else f x
/-- the operations ahead of place j, by era -/
def roJ (os : List Opr) (j k : Nat) : List Opr := eraX (os.take j) k
theorem roJ_succ {os : List Opr} {j : Nat} {o : Opr} (ho : os[j]? = some o) (k : Nat) : roJ os (j + 1) k = if effB o && (o.era == (k : Int)) then roJ os j k ++ [o] else roJ os j k := by
  unfold roJ eraX eraO
  rw [List.take_add_one, ho]
  simp only [Option.toList_some, List.filter_append, List.filter_cons, List.filter_nil]
  cases h1 : (o.era == (k : Int)) <;> cases h2 : effB o <;> simp [h2]

def sepV (a b : Value) : Prop := a.ownBlock = none ∨ a.ownBlock ≠ b.ownBlock
/-- the eras while they are filled: the rows of each -/
def DivM (w : World) (B eb cuts : Nat) (ro : Nat → List Opr) (rs : Nat → List Bool) : Prop := ∃ (cur : Array Value) (vo vs : Nat → Value), w.heap[eb]? = some (.cells cur 95 (0, 0)) ∧ ∀ k, k ≤ cuts → cur[3 * k]? = some (vo k) ∧ cur[3 * k + 1]? = some (vs k) ∧ cur[3 * k + 2]? = some (.bool (k == cuts)) ∧
  OwS w B 39 8 (vo k) ((ro k).map Opr.cells) ∧ OwS w B 4 1 (vs k) ((rs k).map fun x => [.bool x]) ∧ ∀ k', k' ≤ cuts → k' ≠ k → sepV (vo k) (vo k') ∧ sepV (vs k) (vs k')
section
variable {w w' : World} {B eb cuts : Nat} {ro : Nat → List Opr} {rs : Nat → List Bool}
theorem DivM.below (h : DivM w B eb cuts ro rs) (hb : Below w.heap.size w w') : DivM w' B eb cuts ro rs := by
  obtain ⟨cur, vo, vs, h1, h2⟩ := h
  refine ⟨cur, vo, vs, keptB h1 hb, fun k hk => ?_⟩
  obtain ⟨g1, g2, g3, g4, g5, g6⟩ := h2 k hk
  exact ⟨g1, g2, g3, g4.below hb, g5.below hb, g6⟩
theorem DivM.lt (h : DivM w B eb cuts ro rs) : eb < w.heap.size := by obtain ⟨cur, vo, vs, h1, h2⟩ := h; exact (Array.getElem?_eq_some_iff.1 h1).1
theorem sep_kept {base size : Nat} {e : TypeId} {v u : Value} {rows : List (List Value)} (h : OwS w base e size v rows) (hs : sepV v u) (hg : w.grownBy w' u.ownBlock) : OwS w' base e size v rows := h.kept hg hs
theorem sep_new {base size : Nat} {e : TypeId} {u u' v : Value} {rows : List (List Value)} (h : OwS w base e size v rows) (hs : sepV v u) (hu : u'.ownBlock = u.ownBlock ∨ ∃ q, u'.ownBlock = some q ∧ w.heap.size ≤ q) : sepV v u' := by
  rcases hu with hu | ⟨q, hu, hq⟩
  · unfold sepV; rw [hu]; exact hs
  · rcases hv : v.ownBlock with _ | b
    · exact .inl hv
    · refine .inr ?_
      rw [hv, hu]
      intro he
      injection he with he
      have := (h.lt hv).2
      omega
theorem sepV.symm {a b : Value} (h : sepV a b) : sepV b a := by
  unfold sepV at *
  rcases h with h | h
  · rcases hb : b.ownBlock with _ | q
    · exact .inl rfl
    · exact .inr (by rw [h]; simp)
  · exact .inr h.symm
/-- the operations of an era are opened for an append -/
theorem DivM.openO (h : DivM w B eb cuts ro rs) {k0 : Nat} (hk : k0 ≤ cuts) : ∃ v, w.cell? ⟨eb, 3 * k0, none⟩ = some v ∧ OwS w B 39 8 v ((ro k0).map Opr.cells) ∧
    ∀ v' w' (rows : List Opr), w.grownBy w' v.ownBlock → OwS w' B 39 8 v' (rows.map Opr.cells) → (v'.ownBlock = v.ownBlock ∨ ∃ q, v'.ownBlock = some q ∧ w.heap.size ≤ q) →
      DivM (w'.setCell ⟨eb, 3 * k0, none⟩ v') B eb cuts (updN ro k0 rows) rs ∧ w'.cell? ⟨eb, 3 * k0, none⟩ = some v ∧ w'.frozen? ⟨eb, 3 * k0, none⟩ = false := by
  obtain ⟨cur, vo, vs, h1, h2⟩ := h
  obtain ⟨g1, g2, g3, g4, g5, g6⟩ := h2 k0 hk
  refine ⟨vo k0, by rw [cell_of_row _ _ _ _ _ _ h1]; exact g1, g4, fun v' w' rows hg hO hl => ?_⟩
  have hne : some eb ≠ (vo k0).ownBlock := g4.notRow h1 (by decide)
  have hb : w'.heap[eb]? = some (.cells cur 95 (0, 0)) := (hg.block eb (Array.getElem?_eq_some_iff.1 h1).1 hne).trans h1
  refine ⟨⟨cur.setIfInBounds (3 * k0) v', updN vo k0 v', vs, by rw [heap_setCell_same _ _ _ _ _ _ hb], fun k hk' => ?_⟩, by rw [cell_of_row _ _ _ _ _ _ hb]; exact g1, frozen_of_row _ _ _ _ _ hb⟩
  obtain ⟨a1, a2, a3, a4, a5, a6⟩ := h2 k hk'
  have hne' : v'.ownBlock ≠ some eb := (hO.notRow hb (by decide)).symm
  have hset : ∀ i, i ≠ 3 * k0 → (cur.setIfInBounds (3 * k0) v')[i]? = cur[i]? := fun i hi => by rw [Array.getElem?_setIfInBounds_ne (by omega)]
  have a5' : OwS (w'.setCell ⟨eb, 3 * k0, none⟩ v') B 4 1 (vs k) ((rs k).map fun x => [.bool x]) := by
    have hk1 : OwS w' B 4 1 (vs k) ((rs k).map fun x => [.bool x]) := by
      refine a5.kept hg ?_
      rcases hq : (vs k).ownBlock with _ | q
      · exact .inl rfl
      · refine .inr fun he => ?_
        obtain ⟨c1, f1, e1⟩ := a5.rowType q hq
        obtain ⟨c2, f2, e2⟩ := g4.rowType q he.symm
        rw [e1] at e2
        injection e2 with e2
        injection e2 with _ e2 _
        exact absurd e2 (by decide)
    exact hk1.far (hk1.notRow hb (by decide)).symm _
  by_cases hkk : k = k0
  · subst hkk
    refine ⟨?_, by rw [hset _ (by omega)]; exact a2, by rw [hset _ (by omega)]; exact a3, ?_, a5', fun k' hk'' hn => ?_⟩
    · rw [Array.getElem?_setIfInBounds_self_of_lt (Array.getElem?_eq_some_iff.1 a1).1]; simp [updN]
    · simp only [updN, if_true]; exact hO.far hne' _
    · simp only [updN, if_true, if_neg hn]
      obtain ⟨b1, b2, b3, b4, b5, b6⟩ := h2 k' hk''
      exact ⟨(sep_new b4 (b6 k hk' (Ne.symm hn)).1 hl).symm, (a6 k' hk'' hn).2⟩
  · refine ⟨by rw [hset _ (by omega)]; simp only [updN, if_neg hkk]; exact a1, by rw [hset _ (by omega)]; exact a2, by rw [hset _ (by omega)]; exact a3, ?_, a5', fun k' hk'' hn => ?_⟩
    · simp only [updN, if_neg hkk]
      have hk1 := sep_kept a4 (a6 k0 hk (Ne.symm hkk)).1 hg
      exact hk1.far (hk1.notRow hb (by decide)).symm _
    · simp only [updN, if_neg hkk]
      by_cases h0 : k' = k0
      · subst h0
        simp only [if_true]
        exact ⟨sep_new a4 (a6 k' hk'' hn).1 hl, (a6 k' hk'' hn).2⟩
      · simp only [if_neg h0]
        exact a6 k' hk'' hn
theorem DivM.openS (h : DivM w B eb cuts ro rs) {k0 : Nat} (hk : k0 ≤ cuts) : ∃ v, w.cell? ⟨eb, 3 * k0 + 1, none⟩ = some v ∧ OwS w B 4 1 v ((rs k0).map fun x => [.bool x]) ∧
    ∀ v' w' (rows : List Bool), w.grownBy w' v.ownBlock → OwS w' B 4 1 v' (rows.map fun x => [.bool x]) → (v'.ownBlock = v.ownBlock ∨ ∃ q, v'.ownBlock = some q ∧ w.heap.size ≤ q) →
      DivM (w'.setCell ⟨eb, 3 * k0 + 1, none⟩ v') B eb cuts ro (updN rs k0 rows) ∧ w'.cell? ⟨eb, 3 * k0 + 1, none⟩ = some v ∧ w'.frozen? ⟨eb, 3 * k0 + 1, none⟩ = false := by
  obtain ⟨cur, vo, vs, h1, h2⟩ := h
  obtain ⟨g1, g2, g3, g4, g5, g6⟩ := h2 k0 hk
  refine ⟨vs k0, by rw [cell_of_row _ _ _ _ _ _ h1]; exact g2, g5, fun v' w' rows hg hO hl => ?_⟩
  have hne : some eb ≠ (vs k0).ownBlock := g5.notRow h1 (by decide)
  have hb : w'.heap[eb]? = some (.cells cur 95 (0, 0)) := (hg.block eb (Array.getElem?_eq_some_iff.1 h1).1 hne).trans h1
  refine ⟨⟨cur.setIfInBounds (3 * k0 + 1) v', vo, updN vs k0 v', by rw [heap_setCell_same _ _ _ _ _ _ hb], fun k hk' => ?_⟩, by rw [cell_of_row _ _ _ _ _ _ hb]; exact g2, frozen_of_row _ _ _ _ _ hb⟩
  obtain ⟨a1, a2, a3, a4, a5, a6⟩ := h2 k hk'
  have hne' : v'.ownBlock ≠ some eb := (hO.notRow hb (by decide)).symm
  have hset : ∀ i, i ≠ 3 * k0 + 1 → (cur.setIfInBounds (3 * k0 + 1) v')[i]? = cur[i]? := fun i hi => by rw [Array.getElem?_setIfInBounds_ne (by omega)]
  have a4' : OwS (w'.setCell ⟨eb, 3 * k0 + 1, none⟩ v') B 39 8 (vo k) ((ro k).map Opr.cells) := by
    have hk1 : OwS w' B 39 8 (vo k) ((ro k).map Opr.cells) := by
      refine a4.kept hg ?_
      rcases hq : (vo k).ownBlock with _ | q
      · exact .inl rfl
      · refine .inr fun he => ?_
        obtain ⟨c1, f1, e1⟩ := a4.rowType q hq
        obtain ⟨c2, f2, e2⟩ := g5.rowType q he.symm
        rw [e1] at e2
        injection e2 with e2
        injection e2 with _ e2 _
        exact absurd e2 (by decide)
    exact hk1.far (hk1.notRow hb (by decide)).symm _
  by_cases hkk : k = k0
  · subst hkk
    refine ⟨by rw [hset _ (by omega)]; exact a1, ?_, by rw [hset _ (by omega)]; exact a3, a4', ?_, fun k' hk'' hn => ?_⟩
    · rw [Array.getElem?_setIfInBounds_self_of_lt (Array.getElem?_eq_some_iff.1 a2).1]; simp [updN]
    · simp only [updN, if_true]; exact hO.far hne' _
    · simp only [updN, if_true, if_neg hn]
      obtain ⟨b1, b2, b3, b4, b5, b6⟩ := h2 k' hk''
      exact ⟨(a6 k' hk'' hn).1, (sep_new b5 (b6 k hk' (Ne.symm hn)).2 hl).symm⟩
  · refine ⟨by rw [hset _ (by omega)]; exact a1, by rw [hset _ (by omega)]; simp only [updN, if_neg hkk]; exact a2, by rw [hset _ (by omega)]; exact a3, a4', ?_, fun k' hk'' hn => ?_⟩
    · simp only [updN, if_neg hkk]
      have hk1 := sep_kept a5 (a6 k0 hk (Ne.symm hkk)).2 hg
      exact hk1.far (hk1.notRow hb (by decide)).symm _
    · simp only [updN, if_neg hkk]
      by_cases h0 : k' = k0
      · subst h0
        simp only [if_true]
        exact ⟨(a6 k' hk'' hn).1, sep_new a5 (a6 k' hk'' hn).2 hl⟩
      · simp only [if_neg h0]
        exact a6 k' hk'' hn
theorem DivM.openS' (h : DivM w B eb cuts ro rs) {k0 : Nat} (hk : k0 ≤ cuts) : ∃ v, (∃ A n c, v = .slice A n c) ∧ ∀ W, Below w.heap.size w W → W.cell? ⟨eb, 3 * k0 + 1, none⟩ = some v ∧ OwS W B 4 1 v ((rs k0).map fun x => [.bool x]) ∧
    ∀ v' w' (rows : List Bool), W.grownBy w' v.ownBlock → OwS w' B 4 1 v' (rows.map fun x => [.bool x]) → (v'.ownBlock = v.ownBlock ∨ ∃ q, v'.ownBlock = some q ∧ W.heap.size ≤ q) →
      DivM (w'.setCell ⟨eb, 3 * k0 + 1, none⟩ v') B eb cuts ro (updN rs k0 rows) ∧ w'.cell? ⟨eb, 3 * k0 + 1, none⟩ = some v ∧ w'.frozen? ⟨eb, 3 * k0 + 1, none⟩ = false := by
  obtain ⟨v, hc, ho, -⟩ := h.openS hk
  refine ⟨v, ho.isSlice, fun W hW => ?_⟩
  have hcW := (hW.cell (p := ⟨eb, 3 * k0 + 1, none⟩) h.lt).trans hc
  obtain ⟨v2, hc2, ho2, hk2⟩ := (h.below hW).openS hk
  obtain rfl : v = v2 := Option.some.inj (hcW.symm.trans hc2)
  exact ⟨hcW, ho2, hk2⟩
theorem DivM.eras {os : List Opr} (h : DivM w B eb cuts (fun k => eraX os k) (fun k => sfX os k)) : ErasM w os cuts eb := by
  obtain ⟨cur, vo, vs, h1, h2⟩ := h
  refine ⟨cur, h1, fun k hk => ?_⟩
  obtain ⟨g1, g2, g3, g4, g5, g6⟩ := h2 k hk
  obtain ⟨A, c, e1, -, -⟩ := g4.form
  obtain ⟨A', c', e2, -, -⟩ := g5.form
  simp only [sfX, List.length_map] at e1 e2
  rw [e1] at g1 g4
  rw [e2] at g2 g5
  exact ⟨A, c, A', c', g1, g2, g3, g4.mono (Nat.zero_le _), g5.mono (Nat.zero_le _)⟩
theorem made_last (cuts : Nat) : (madeCells #[.slice none 0 0, .slice none 0 0, .bool false] ((cuts + 1) * 3))[cuts * 3 + 2]? = some (Value.bool false) := by
  unfold madeCells
  rw [Array.getElem?_map, Array.getElem?_range, if_pos (by omega)]
  simp only [Option.map_some]
  rw [show (#[Value.slice none 0 0, Value.slice none 0 0, Value.bool false] : Array Value).size = 3 from rfl, show (cuts * 3 + 2) % 3 = 2 by omega]
  rfl
theorem DivM.made (w : World) (B cuts : Nat) : DivM (w.alloc (.cells ((madeCells #[.slice none 0 0, .slice none 0 0, .bool false] ((cuts + 1) * 3)).setIfInBounds (cuts * 3 + 2) (.bool true)) 95)) B w.heap.size cuts (fun _ => []) (fun _ => []) := by
  have hg : ∀ i, i < (cuts + 1) * 3 → (madeCells #[.slice none 0 0, .slice none 0 0, .bool false] ((cuts + 1) * 3))[i]? = some (#[Value.slice none 0 0, Value.slice none 0 0, Value.bool false][i % 3]!) := fun i hi => by
    unfold madeCells
    rw [Array.getElem?_map, Array.getElem?_range, if_pos hi]
    rfl
  refine ⟨_, fun _ => .slice none 0 0, fun _ => .slice none 0 0, heap_alloc_new w _, fun k hk => ⟨?_, ?_, ?_, OwS.nil _ _ _ _, OwS.nil _ _ _ _, fun _ _ _ => ⟨.inl rfl, .inl rfl⟩⟩⟩
  · rw [Array.getElem?_setIfInBounds_ne (by omega), hg _ (by omega), show 3 * k % 3 = 0 by omega]; rfl
  · rw [Array.getElem?_setIfInBounds_ne (by omega), hg _ (by omega), show (3 * k + 1) % 3 = 1 by omega]; rfl
  · by_cases hkc : k = cuts
    · subst hkc
      rw [Nat.mul_comm 3 k, Array.getElem?_setIfInBounds_self_of_lt (by rw [size_madeCells]; omega)]; simp
    · rw [Array.getElem?_setIfInBounds_ne (by omega), hg _ (by omega), show (3 * k + 2) % 3 = 2 by omega, show (k == cuts) = false by simpa using hkc]; rfl
end
theorem elemOpH : Elem Try.prog 34 39 8 56 := Elem.mk (z := Opr.agg ⟨0, 0, 0, false, false, 0, 0, 0⟩) Try.underlying34 (by kernel_rfl) (by decide) rfl
theorem elemEraI : Elem Try.prog 89 95 3 56 := Elem.mk (z := .agg #[.slice none 0 0, .slice none 0 0, .bool false]) Try.underlying89 (by kernel_rfl) (by decide) rfl
theorem make_eras (w : World) (n : Nat) (h : n ≤ 1000000) : (Instr.makeSlice 89 (.int .i64 (n : Int)) (.int .i64 (n : Int))).run Try.prog w = .ok (.slice (some ⟨w.heap.size, 0, none⟩) n n) (w.alloc (.cells (madeCells #[.slice none 0 0, .slice none 0 0, .bool false] (n * 3)) 95)) := by
  obtain ⟨i, hi, h1, h2, h3⟩ := info_parts (P := Try.prog) (e := 95) (z := .agg #[.slice none 0 0, .slice none 0 0, .bool false]) (size := 3) (bytes := 56) (by kernel_rfl)
  have hr := run_make (P := Try.prog) w 89 95 i _ Try.underlying89 hi h1 .i64 .i64 n n (by omega) (Int.le_refl _) (by rw [h3]; omega) (by omega)
  simp only [Int.toNat_natCast, h2] at hr
  exact hr
end Go.Proofs.Ytcgbnlhloopnfaa
