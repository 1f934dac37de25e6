/- Laws on slices of rows: append, store, separation. Nothing of the program is walked here. -/
import Derived.Test.YtcgbnlhloopnfaaWords
import Derived.Maps.AppendAt
import Derived.StillTail
namespace Go.Proofs.Ytcgbnlhloopnfaa
open Go.RowKit

/-- What is asked of a slice type and its element type. -/
def Elem (P : Program) (t e : TypeId) (size bytes : Nat) : Prop :=
  P.underlying t = some (.slice e) ∧ 0 < size ∧ ∃ i z, P.info? e = some i ∧ i.zero = some z ∧ i.size = size ∧ i.bytes = bytes ∧ z.cells.size = size
theorem Elem.mk {P : Program} {t e : TypeId} {size bytes : Nat} {z : Value} (ht : P.underlying t = some (.slice e)) (h : (P.info? e).map (fun i => (i.zero, i.size, i.bytes)) = some (some z, size, bytes)) (hs : 0 < size) (hz : z.cells.size = size) : Elem P t e size bytes := by
  obtain ⟨i, hi, h1, h2, h3⟩ := info_parts h
  exact ⟨ht, hs, i, z, hi, h1, h2, h3, hz⟩

section
variable {P : Program} {w w' : World} {base size bytes : Nat} {t e : TypeId} {v : Value} {rows : List (List Value)}

theorem OwS.lt (h : OwS w base e size v rows) {k : Nat} (hk : v.ownBlock = some k) : base ≤ k ∧ k < w.heap.size := h.2.lt k hk
theorem OwS.ne {base' : Nat} {e' : TypeId} {size' : Nat} {v' : Value} {rows' : List (List Value)} (h : OwS w base e size v rows) (h' : OwS w base' e' size' v' rows') (hne : e ≠ e') : v.ownBlock = none ∨ v.ownBlock ≠ v'.ownBlock := by
  rcases h.2.2 with ⟨rfl, _⟩ | ⟨g, cap, cur, rfl, _, hg, _⟩
  · exact .inl rfl
  · rcases h'.2.2 with ⟨rfl, _⟩ | ⟨g', cap', cur', rfl, _, hg', _⟩
    · right; simp [Value.ownBlock]
    · right
      simp only [Value.ownBlock]
      rintro hgg
      injection hgg with hgg
      subst hgg
      rw [hg] at hg'
      injection hg' with hg'
      injection hg' with _ he
      exact hne he

theorem OwS.pos (h : OwS w base e size v rows) (hn : 0 < rows.length) : ∃ g cap, v = .slice (some ⟨g, 0, none⟩) rows.length cap ∧ base ≤ g ∧ g < w.heap.size := by
  rcases h.2.2 with ⟨_, h0⟩ | ⟨g, cap, cur, hv, hb, hh, _⟩
  · omega
  · exact ⟨g, cap, hv, hb, (Array.getElem?_eq_some_iff.1 hh).1⟩
theorem OwS.drewN (h : OwS w base e size v rows) (n : Nat) : OwS (w.drewN n) base e size v rows := h
theorem OwS.drew (h : OwS w base e size v rows) : OwS w.drew base e size v rows := h
theorem OwS.blk_ne {g : Nat} {cs : Array Value} {t : TypeId} {fr : Nat × Nat} (h : OwS w base e size v rows) (hb : w.heap[g]? = some (.cells cs t fr)) (hne : e ≠ t) : v.ownBlock ≠ some g := by
  rcases h.2.2 with ⟨rfl, _⟩ | ⟨g', cap, cur, rfl, _, hg, _⟩
  · simp [Value.ownBlock]
  · simp only [Value.ownBlock]
    rintro hgg
    injection hgg with hgg
    subst hgg
    rw [hg] at hb
    injection hb with hb
    injection hb with _ he
    exact hne he

theorem OwS.mono {base' : Nat} (h : OwS w base e size v rows) (hb : base' ≤ base) : OwS w base' e size v rows := by
  refine ⟨h.1, h.2.1, ?_⟩
  rcases h.2.2 with h0 | ⟨g, cap, cur, hv, hg, r⟩
  · exact .inl h0
  · exact .inr ⟨g, cap, cur, hv, by omega, r⟩

/-- append of a slice that reads as rows -/
theorem wpList_apS {ops : Array Oper} {rest : List Oper} {o : Oper} {a : Act} {Q : Exit → Act → World → Prop} (hgd : o.guard = none) (s x : Operand) (t : TypeId)
    (ho : o.op = .call { callee := .builtin .append, args := #[s, x], argTypes := #[t, t] }) (E : Elem P t e size bytes)
    (hs : a.eval s = v) (hown : OwS w base e size v rows) (B : Nat) (A : Option Addr) (m c : Nat) (news : List (List Value)) (hx : a.eval x = .slice A m c) (hr : RdS w B size A news) (hm : m = news.length)
    (h1 : ∀ r ∈ news, ∀ u ∈ r, u.oneCell' = true) (h63 : rows.length + news.length ≤ maxLen) (hbytes : (rows.length + news.length) * bytes ≤ 140737488355328) (hbase : base ≤ w.heap.size)
    (h : ∀ v' w', OwS w' base e size v' (rows ++ news) → w.grownBy w' v.ownBlock → (v'.ownBlock = v.ownBlock ∨ v'.ownBlock = some w.heap.size) → wpList P ops Q rest (a.put o.dst v') w') : wpList P ops Q (o :: rest) a w := by
  obtain ⟨ht, hsz, i, z, hi, hz, hsize, hby, hzs⟩ := E
  have hone : ∀ u ∈ news.flatten, u.oneCell' = true := by
    intro u hu
    obtain ⟨r, hr, hu⟩ := List.mem_flatten.1 hu
    exact h1 r hr u hu
  have hfl : news.flatten.length = news.length * size := flatten_length hr.1
  have hall : ∀ r ∈ rows ++ news, r.length = size := by
    intro r hrr
    rcases List.mem_append.1 hrr with hrr | hrr
    · exact hown.1 r hrr
    · exact hr.1 r hrr
  by_cases h0 : news.length = 0
  · have hn : news = [] := List.eq_nil_of_length_eq_zero h0
    subst hn
    simp only [List.length_nil] at hm
    subst hm
    have hrun : (Builtin.append_ #[t, t] o.type #[v, .slice A 0 c]).run P w = .ok v w := by
      rcases A with _ | ad
      · rcases hown.2.2 with ⟨rfl, _⟩ | ⟨g, cap, cur, rfl, _, _, hnc, _⟩
        · simp [Builtin.append_, run_underlying ht, sizeOf, typeInfo, hi, Builtin.lenOf, Builtin.firstCells]
        · simp [Builtin.append_, run_underlying ht, sizeOf, typeInfo, hi, Builtin.lenOf, Builtin.firstCells, hnc, storeCells]
      · rcases hown.2.2 with ⟨rfl, hz0⟩ | ⟨g, cap, cur, rfl, _, _, hnc, _⟩
        · simp [Builtin.append_, run_underlying ht, sizeOf, typeInfo, hi, Builtin.lenOf, Builtin.firstCells, loadCells, loadCellsFrom]
        · simp [Builtin.append_, run_underlying ht, sizeOf, typeInfo, hi, Builtin.lenOf, Builtin.firstCells, hnc, storeCells, loadCells, loadCellsFrom]
    refine wpList_plain hgd fun K hK => ?_
    unfold Oper.wp execOp
    simp only [ho, resolve, invoke, builtin, Sem.run_bind, Sem.run_pure, Result.andThen_ok, List.map_toArray, List.map_cons, List.map_nil, hs, hx, hrun]
    exact hK _ _ (h v w (by simpa using hown) (World.grownBy.refl w _) (.inl rfl))
  · obtain ⟨b, off, rfl, hbB, hc⟩ := hr.2 (by omega)
    have hcells : ∀ j u, news.flatten[j]? = some u → w.cell? ((⟨b, off, none⟩ : Addr).add j) = some u := by
      intro j u hu
      have hj : j < news.length * size := by rw [← hfl]; exact (List.getElem?_eq_some_iff.1 hu).1
      have hq : j / size < news.length := Nat.div_lt_of_lt_mul (by rw [Nat.mul_comm]; exact hj)
      have hmod : j % size < size := Nat.mod_lt _ hsz
      have hrr := List.getElem?_eq_getElem hq
      have hl : (news[j / size]).length = size := hr.1 _ (List.getElem_mem hq)
      have hvv : (news[j / size])[j % size]? = some ((news[j / size])[j % size]'(by omega)) := List.getElem?_eq_getElem (by omega)
      have h2 := hc _ _ hrr _ _ hvv
      have h3 := flatten_get hr.1 _ _ hrr _ _ hvv
      have hdm : j / size * size + j % size = j := by rw [Nat.mul_comm]; exact Nat.div_add_mod j size
      rw [hdm] at h3
      rw [h3] at hu
      cases hu
      rw [Nat.add_assoc, hdm] at h2
      rw [show (⟨b, off, none⟩ : Addr).add j = ⟨b, off + j, none⟩ from Addr.add_lit _ _ _]
      exact h2
    obtain ⟨v', w', hrun, h2, h3, _, h5⟩ := run_append_own_at (P := P) w base t o.type e i z size bytes ht hi hz hsize hby hzs hsz v rows.length rows.flatten hown.2 ⟨b, off, none⟩ news.length c news.flatten hfl hcells hone h63 hbytes hbase
    refine wpList_plain hgd fun K hK => ?_
    unfold Oper.wp execOp
    rw [hm] at hx
    simp only [ho, resolve, invoke, builtin, Sem.run_bind, Sem.run_pure, Result.andThen_ok, List.map_toArray, List.map_cons, List.map_nil, hs, hx, hrun]
    exact hK _ _ (h v' w' ⟨hall, by simpa using h2⟩ h3 h5)

/-- append of one row that lies in the newest block -/
theorem wpList_ap1 {ops : Array Oper} {rest : List Oper} {o : Oper} {a : Act} {Q : Exit → Act → World → Prop} (hgd : o.guard = none) (s x : Operand) (t : TypeId)
    (ho : o.op = .call { callee := .builtin .append, args := #[s, x], argTypes := #[t, t] }) (E : Elem P t e size bytes)
    (hs : a.eval s = v) (hown : OwS w base e size v rows) (cs : List Value) (e' : TypeId) (hcs : cs.length = size) (g : Nat) (hx : a.eval x = .slice (some ⟨g, 0, none⟩) 1 1) (hg : g = w.heap.size)
    (h1 : ∀ u ∈ cs, u.oneCell' = true) (h63 : rows.length + 1 ≤ maxLen) (hbytes : (rows.length + 1) * bytes ≤ 140737488355328) (hbase : base ≤ w.heap.size)
    (h : ∀ v' w', OwS w' base e size v' (rows ++ [cs]) → (w.alloc (.cells cs.toArray e')).grownBy w' v.ownBlock → (v'.ownBlock = v.ownBlock ∨ v'.ownBlock = some (w.heap.size + 1)) → wpList P ops Q rest (a.put o.dst v') w') :
    wpList P ops Q (o :: rest) a (w.alloc (.cells cs.toArray e')) := by
  subst hg
  refine wpList_apS hgd s x t ho E hs (hown.alloc _) (w.heap.size + 1) _ 1 1 [cs] hx ⟨by simp [hcs], fun _ => ⟨w.heap.size, 0, rfl, by omega, ?_⟩⟩ rfl (by simpa using h1) (by simpa using h63) (by simpa using hbytes) (by simp; omega) ?_
  · intro i r hi j u hj
    match i, hi with
    | 0, hi =>
      simp at hi
      subst hi
      rw [cell_of_row _ w.heap.size _ cs.toArray e' (0, 0) (heap_alloc_new w _)]
      simpa using hj
  · intro v' w' h2 h3 h4
    exact h v' w' h2 h3 (by simpa using h4)

theorem flatten_set {rows : List (List Value)} (hs : ∀ r ∈ rows, r.length = size) : ∀ (i : Nat) (r : List Value), rows[i]? = some r → ∀ (j : Nat) (u : Value), j < size → rows.flatten.set (i * size + j) u = (rows.set i (r.set j u)).flatten := by
  induction rows with
  | nil => intro i r hr; simp at hr
  | cons x xs ih =>
    intro i r hr j u hj
    have hx : x.length = size := hs x (by simp)
    have hxs : ∀ r ∈ xs, r.length = size := fun r hr => hs r (by simp [hr])
    cases i with
    | zero =>
      simp at hr
      subst hr
      simp only [List.flatten_cons, Nat.zero_mul, Nat.zero_add, List.set_cons_zero]
      rw [List.set_append_left _ _ (by omega)]
    | succ i =>
      simp at hr
      have := ih hxs i r hr j u hj
      simp only [List.flatten_cons, List.set_cons_succ]
      rw [List.set_append_right _ _ (by rw [hx, Nat.add_mul]; omega)]
      rw [show (i + 1) * size + j - x.length = i * size + j by rw [hx, Nat.add_mul]; omega, this]

theorem OwS.cell {g cap n : Nat} (h : OwS w base e size (.slice (some ⟨g, 0, none⟩) n cap) rows) {k j : Nat} {r : List Value} {u : Value} (hr : rows[k]? = some r) (hj : r[j]? = some u) : w.cell? ⟨g, k * size + j, none⟩ = some u := by
  obtain ⟨b, off, hb, _, hc⟩ := h.reads.2 (by have := (List.getElem?_eq_some_iff.1 hr).1; omega)
  cases hb
  simpa using hc k r hr j u hj
theorem OwS.frozen {g cap n : Nat} (h : OwS w base e size (.slice (some ⟨g, 0, none⟩) n cap) rows) (j : Nat) : w.frozen? ⟨g, j, none⟩ = false := by
  have hn : n = rows.length := by
    rcases h.2.2 with ⟨h', _⟩ | ⟨g', cap', cur, h', _⟩
    · simp at h'
    · injection h'
  subst hn
  exact h.2.frozenAt j
theorem OwS.set {g cap n : Nat} (h : OwS w base e size (.slice (some ⟨g, 0, none⟩) n cap) rows) {k j : Nat} {r : List Value} (hr : rows[k]? = some r) (hj : j < size) (u : Value) :
    OwS (w.setCell ⟨g, k * size + j, none⟩ u) base e size (.slice (some ⟨g, 0, none⟩) n cap) (rows.set k (r.set j u)) ∧ w.grownBy (w.setCell ⟨g, k * size + j, none⟩ u) (some g) := by
  have hn : n = rows.length := by
    rcases h.2.2 with ⟨h', _⟩ | ⟨g', cap', cur, h', _⟩
    · simp at h'
    · injection h'
  subst hn
  obtain ⟨h1, h2⟩ := h.2.stored (k * size + j) u
  rw [flatten_set h.1 k r hr j u hj] at h1
  have hall : ∀ r' ∈ rows.set k (r.set j u), r'.length = size := by
    intro r' hr'
    rcases List.mem_or_eq_of_mem_set hr' with h' | rfl
    · exact h.1 _ h'
    · rw [List.length_set]; exact h.1 _ (List.mem_of_getElem? hr)
  exact ⟨⟨hall, by simpa using h1⟩, h2⟩
end
theorem grownBy_setCell (w : World) (p : Addr) (u : Value) : w.grownBy (w.setCell p u) (some p.block) :=
  ⟨rfl, rfl, rfl, by simp [World.setCell], fun k _ hk => heap_setCell_other w p k u (fun e => hk (by rw [e]))⟩
theorem OwS.far {w : World} {base size : Nat} {e : TypeId} {v : Value} {rows : List (List Value)} (h : OwS w base e size v rows) {p : Addr} (hp : v.ownBlock ≠ some p.block) (u : Value) : OwS (w.setCell p u) base e size v rows :=
  h.kept (grownBy_setCell w p u) (.inr hp)
/-- a region that draws: reads, then a tail in one order; the world behind the draw under its name -/
theorem still_tail_drew {P : Program} {w : World} {id : Nat} {Q : Exit → Act → World → Prop} {a : Act} {l : List Oper} (n : Nat) (hm : P.follows .mixedOrders = true) (hB : Region.lexTailB .any l.toArray n = true)
    (h : wpStill P l.toArray w.drew (fun a' => wpList P l.toArray Q (l.drop n) a' w.drew) (l.take n) a) : (Code.region id l.toArray true).wp P Q a w :=
  wp_region_still_tail n hm hB h
/-- the world relation of a call that only makes memory, behind a step that grows one of its own rows -/
theorem below_grown {B : Nat} {a w w' : World} {row : Option Nat} (h : Below B a w) (hg : w.grownBy w' row) (hB : B ≤ w.heap.size) (hr : ∀ k, row = some k → B ≤ k) : Below B a w' := h.grown hg hB hr
theorem OwS.oneEv {l : List Ev} : ∀ r ∈ l.map Ev.cells, ∀ u ∈ r, u.oneCell' = true := by
  intro r hr u hu
  obtain ⟨e, _, rfl⟩ := List.mem_map.1 hr
  simp [Ev.cells] at hu
  rcases hu with rfl | rfl | rfl | rfl | rfl | rfl <;> rfl
theorem Ev.one (e : Ev) : ∀ u ∈ e.cells, u.oneCell' = true := by
  intro u hu
  simp [Ev.cells] at hu
  rcases hu with rfl | rfl | rfl | rfl | rfl | rfl <;> rfl
theorem Opr.one (e : Opr) : ∀ u ∈ e.cells, u.oneCell' = true := by
  intro u hu
  simp [Opr.cells] at hu
  rcases hu with rfl | rfl | rfl | rfl | rfl | rfl | rfl | rfl <;> rfl

theorem elemEv : Elem Try.prog 22 56 6 48 := Elem.mk (z := (Ev.agg ⟨0, 0, false, 0, 0, false⟩)) Try.underlying22 (by kernel_rfl) (by decide) rfl
end Go.Proofs.Ytcgbnlhloopnfaa
