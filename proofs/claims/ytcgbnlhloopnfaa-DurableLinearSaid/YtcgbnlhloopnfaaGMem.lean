/- Laws on slices of rows: append, store, separation. Nothing of the program is walked here.
Maps of the call's own, by what they answer: pointers and bools as elements. Nothing of the program is walked here.
A region that draws its order: a head that only reads and calls (the callees may make memory), then a tail in one order. The ordering lemmas are the kit's (StillTail, Quiet); the class of worlds is 'below'.
append as one step of a region that draws its order.
What a call that lays a list of events answers; slices that a literal lays. Nothing of the program is walked here.
Frames over which some blocks may turn: the blocks of a list, and all rows of one element type. Nothing of the program is walked here.
Maps of bools whose keys lie on a list; keys that are pairs of ints: linear's state, and [2]int. No function of the program is walked here.
The recorder of histories: what it holds, and the walks of New, call, Read, Write, Flush, Done, Cut, Events.
Walk of the recorder's call.
Walks of the recorder's Read, Write, Flush, Done, Cut, Events. -/
import Derived.Test.YtcgbnlhloopnfaaGPln
import Derived.Maps.AppendAt
import Derived.StillTail
import Derived.Maps.Own
import Derived.Maps.OwnOps
import Derived.Maps.OwnSet
import Derived.Lib.QuietBelow
import Derived.Deep.RegionLaw
import Derived.DeepKeys4
import Derived.Outline
import Derived.RegionTactic
import Derived.BigRegion
import Derived.BigQuiet
import Derived.Deep.DeepCutAuto
namespace Go.Proofs.Ytcgbnlhloopnfaa
open Go.RowKit

/-- What is asked of a slice type and its element type. -/
def Elem (P : Program) (t e : TypeId) (size bytes : Nat) : Prop :=
  P.underlying t = some (.slice e) ∧ 0 < size ∧ ∃ i z, P.info? e = some i ∧ i.zero = some z ∧ i.size = size ∧ i.bytes = bytes ∧ z.cells.size = size
theorem Elem.mk {P : Program} {t e : TypeId} {size bytes : Nat} {z : Value} (ht : P.underlying t = some (.slice e)) (h : (P.info? e).map (fun i => (i.zero, i.size, i.bytes)) = some (some z, size, bytes)) (hs : 0 < size) (hz : z.cells.size = size) : Elem P t e size bytes := by
  obtain ⟨i, hi, h1, h2, h3⟩ := info_parts h
  exact ⟨ht, hs, i, z, hi, h1, h2, h3, hz⟩

section
variable {P : Program} {w w' : World} {base size bytes : Nat} {t e : TypeId} {v : Value} {rows : List (List Value)}

theorem OwS.lt (h : OwS w base e size v rows) {k : Nat} (hk : v.ownBlock = some k) : base ≤ k ∧ k < w.heap.size := h.2.lt k hk
theorem OwS.ne {base' : Nat} {e' : TypeId} {size' : Nat} {v' : Value} {rows' : List (List Value)} (h : OwS w base e size v rows) (h' : OwS w base' e' size' v' rows') (hne : e ≠ e') : v.ownBlock = none ∨ v.ownBlock ≠ v'.ownBlock := by
  rcases h.2.2 with ⟨rfl, _⟩ | ⟨g, cap, cur, rfl, _, hg, _⟩
  · exact .inl rfl
  · rcases h'.2.2 with ⟨rfl, _⟩ | ⟨g', cap', cur', rfl, _, hg', _⟩
    · right; simp [Value.ownBlock]
    · right
      simp only [Value.ownBlock]
      rintro hgg
      injection hgg with hgg
      subst hgg
      rw [hg] at hg'
      injection hg' with hg'
      injection hg' with _ he
      exact hne he

theorem OwS.pos (h : OwS w base e size v rows) (hn : 0 < rows.length) : ∃ g cap, v = .slice (some ⟨g, 0, none⟩) rows.length cap ∧ base ≤ g ∧ g < w.heap.size := by
  rcases h.2.2 with ⟨_, h0⟩ | ⟨g, cap, cur, hv, hb, hh, _⟩
  · omega
  · exact ⟨g, cap, hv, hb, (Array.getElem?_eq_some_iff.1 hh).1⟩
theorem OwS.drewN (h : OwS w base e size v rows) (n : Nat) : OwS (w.drewN n) base e size v rows := h
theorem OwS.drew (h : OwS w base e size v rows) : OwS w.drew base e size v rows := h
theorem OwS.blk_ne {g : Nat} {cs : Array Value} {t : TypeId} {fr : Nat × Nat} (h : OwS w base e size v rows) (hb : w.heap[g]? = some (.cells cs t fr)) (hne : e ≠ t) : v.ownBlock ≠ some g := by
  rcases h.2.2 with ⟨rfl, _⟩ | ⟨g', cap, cur, rfl, _, hg, _⟩
  · simp [Value.ownBlock]
  · simp only [Value.ownBlock]
    rintro hgg
    injection hgg with hgg
    subst hgg
    rw [hg] at hb
    injection hb with hb
    injection hb with _ he
    exact hne he

theorem OwS.mono {base' : Nat} (h : OwS w base e size v rows) (hb : base' ≤ base) : OwS w base' e size v rows := by
  refine ⟨h.1, h.2.1, ?_⟩
  rcases h.2.2 with h0 | ⟨g, cap, cur, hv, hg, r⟩
  · exact .inl h0
  · exact .inr ⟨g, cap, cur, hv, by omega, r⟩

/-- append of a slice that reads as rows -/
theorem wpList_apS {ops : Array Oper} {rest : List Oper} {o : Oper} {a : Act} {Q : Exit → Act → World → Prop} (hgd : o.guard = none) (s x : Operand) (t : TypeId)
    (ho : o.op = .call { callee := .builtin .append, args := #[s, x], argTypes := #[t, t] }) (E : Elem P t e size bytes)
    (hs : a.eval s = v) (hown : OwS w base e size v rows) (B : Nat) (A : Option Addr) (m c : Nat) (news : List (List Value)) (hx : a.eval x = .slice A m c) (hr : RdS w B size A news) (hm : m = news.length)
    (h1 : ∀ r ∈ news, ∀ u ∈ r, u.oneCell' = true) (h63 : rows.length + news.length ≤ maxLen) (hbytes : (rows.length + news.length) * bytes ≤ 140737488355328) (hbase : base ≤ w.heap.size)
    (h : ∀ v' w', OwS w' base e size v' (rows ++ news) → w.grownBy w' v.ownBlock → (v'.ownBlock = v.ownBlock ∨ v'.ownBlock = some w.heap.size) → wpList P ops Q rest (a.put o.dst v') w') : wpList P ops Q (o :: rest) a w := by
  obtain ⟨ht, hsz, i, z, hi, hz, hsize, hby, hzs⟩ := E
  have hone : ∀ u ∈ news.flatten, u.oneCell' = true := by
    intro u hu
    obtain ⟨r, hr, hu⟩ := List.mem_flatten.1 hu
    exact h1 r hr u hu
  have hfl : news.flatten.length = news.length * size := flatten_length hr.1
  have hall : ∀ r ∈ rows ++ news, r.length = size := by
    intro r hrr
    rcases List.mem_append.1 hrr with hrr | hrr
    · exact hown.1 r hrr
    · exact hr.1 r hrr
  by_cases h0 : news.length = 0
  · have hn : news = [] := List.eq_nil_of_length_eq_zero h0
    subst hn
    simp only [List.length_nil] at hm
    subst hm
    have hrun : (Builtin.append_ #[t, t] o.type #[v, .slice A 0 c]).run P w = .ok v w := by
      rcases A with _ | ad
      · rcases hown.2.2 with ⟨rfl, _⟩ | ⟨g, cap, cur, rfl, _, _, hnc, _⟩
        · simp [Builtin.append_, run_underlying ht, sizeOf, typeInfo, hi, Builtin.lenOf, Builtin.firstCells]
        · simp [Builtin.append_, run_underlying ht, sizeOf, typeInfo, hi, Builtin.lenOf, Builtin.firstCells, hnc, storeCells]
      · rcases hown.2.2 with ⟨rfl, hz0⟩ | ⟨g, cap, cur, rfl, _, _, hnc, _⟩
        · simp [Builtin.append_, run_underlying ht, sizeOf, typeInfo, hi, Builtin.lenOf, Builtin.firstCells, loadCells, loadCellsFrom]
        · simp [Builtin.append_, run_underlying ht, sizeOf, typeInfo, hi, Builtin.lenOf, Builtin.firstCells, hnc, storeCells, loadCells, loadCellsFrom]
    refine wpList_plain hgd fun K hK => ?_
    unfold Oper.wp execOp
    simp only [ho, resolve, invoke, builtin, Sem.run_bind, Sem.run_pure, Result.andThen_ok, List.map_toArray, List.map_cons, List.map_nil, hs, hx, hrun]
    exact hK _ _ (h v w (by simpa using hown) (World.grownBy.refl w _) (.inl rfl))
  · obtain ⟨b, off, rfl, hbB, hc⟩ := hr.2 (by omega)
    have hcells : ∀ j u, news.flatten[j]? = some u → w.cell? ((⟨b, off, none⟩ : Addr).add j) = some u := by
      intro j u hu
      have hj : j < news.length * size := by rw [← hfl]; exact (List.getElem?_eq_some_iff.1 hu).1
      have hq : j / size < news.length := Nat.div_lt_of_lt_mul (by rw [Nat.mul_comm]; exact hj)
      have hmod : j % size < size := Nat.mod_lt _ hsz
      have hrr := List.getElem?_eq_getElem hq
      have hl : (news[j / size]).length = size := hr.1 _ (List.getElem_mem hq)
      have hvv : (news[j / size])[j % size]? = some ((news[j / size])[j % size]'(by omega)) := List.getElem?_eq_getElem (by omega)
      have h2 := hc _ _ hrr _ _ hvv
      have h3 := flatten_get hr.1 _ _ hrr _ _ hvv
      have hdm : j / size * size + j % size = j := by rw [Nat.mul_comm]; exact Nat.div_add_mod j size
      rw [hdm] at h3
      rw [h3] at hu
      cases hu
      rw [Nat.add_assoc, hdm] at h2
      rw [show (⟨b, off, none⟩ : Addr).add j = ⟨b, off + j, none⟩ from Addr.add_lit _ _ _]
      exact h2
    obtain ⟨v', w', hrun, h2, h3, _, h5⟩ := run_append_own_at (P := P) w base t o.type e i z size bytes ht hi hz hsize hby hzs hsz v rows.length rows.flatten hown.2 ⟨b, off, none⟩ news.length c news.flatten hfl hcells hone h63 hbytes hbase
    refine wpList_plain hgd fun K hK => ?_
    unfold Oper.wp execOp
    rw [hm] at hx
    simp only [ho, resolve, invoke, builtin, Sem.run_bind, Sem.run_pure, Result.andThen_ok, List.map_toArray, List.map_cons, List.map_nil, hs, hx, hrun]
    exact hK _ _ (h v' w' ⟨hall, by simpa using h2⟩ h3 h5)

/-- append of one row that lies in the newest block -/
theorem wpList_ap1 {ops : Array Oper} {rest : List Oper} {o : Oper} {a : Act} {Q : Exit → Act → World → Prop} (hgd : o.guard = none) (s x : Operand) (t : TypeId)
    (ho : o.op = .call { callee := .builtin .append, args := #[s, x], argTypes := #[t, t] }) (E : Elem P t e size bytes)
    (hs : a.eval s = v) (hown : OwS w base e size v rows) (cs : List Value) (e' : TypeId) (hcs : cs.length = size) (g : Nat) (hx : a.eval x = .slice (some ⟨g, 0, none⟩) 1 1) (hg : g = w.heap.size)
    (h1 : ∀ u ∈ cs, u.oneCell' = true) (h63 : rows.length + 1 ≤ maxLen) (hbytes : (rows.length + 1) * bytes ≤ 140737488355328) (hbase : base ≤ w.heap.size)
    (h : ∀ v' w', OwS w' base e size v' (rows ++ [cs]) → (w.alloc (.cells cs.toArray e')).grownBy w' v.ownBlock → (v'.ownBlock = v.ownBlock ∨ v'.ownBlock = some (w.heap.size + 1)) → wpList P ops Q rest (a.put o.dst v') w') :
    wpList P ops Q (o :: rest) a (w.alloc (.cells cs.toArray e')) := by
  subst hg
  refine wpList_apS hgd s x t ho E hs (hown.alloc _) (w.heap.size + 1) _ 1 1 [cs] hx ⟨by simp [hcs], fun _ => ⟨w.heap.size, 0, rfl, by omega, ?_⟩⟩ rfl (by simpa using h1) (by simpa using h63) (by simpa using hbytes) (by simp; omega) ?_
  · intro i r hi j u hj
    match i, hi with
    | 0, hi =>
      simp at hi
      subst hi
      rw [cell_of_row _ w.heap.size _ cs.toArray e' (0, 0) (heap_alloc_new w _)]
      simpa using hj
  · intro v' w' h2 h3 h4
    exact h v' w' h2 h3 (by simpa using h4)

theorem flatten_set {rows : List (List Value)} (hs : ∀ r ∈ rows, r.length = size) : ∀ (i : Nat) (r : List Value), rows[i]? = some r → ∀ (j : Nat) (u : Value), j < size → rows.flatten.set (i * size + j) u = (rows.set i (r.set j u)).flatten := by
  induction rows with
  | nil => intro i r hr; simp at hr
  | cons x xs ih =>
    intro i r hr j u hj
    have hx : x.length = size := hs x (by simp)
    have hxs : ∀ r ∈ xs, r.length = size := fun r hr => hs r (by simp [hr])
    cases i with
    | zero =>
      simp at hr
      subst hr
      simp only [List.flatten_cons, Nat.zero_mul, Nat.zero_add, List.set_cons_zero]
      rw [List.set_append_left _ _ (by omega)]
    | succ i =>
      simp at hr
      have := ih hxs i r hr j u hj
      simp only [List.flatten_cons, List.set_cons_succ]
      rw [List.set_append_right _ _ (by rw [hx, Nat.add_mul]; omega)]
      rw [show (i + 1) * size + j - x.length = i * size + j by rw [hx, Nat.add_mul]; omega, this]

theorem OwS.cell {g cap n : Nat} (h : OwS w base e size (.slice (some ⟨g, 0, none⟩) n cap) rows) {k j : Nat} {r : List Value} {u : Value} (hr : rows[k]? = some r) (hj : r[j]? = some u) : w.cell? ⟨g, k * size + j, none⟩ = some u := by
  obtain ⟨b, off, hb, _, hc⟩ := h.reads.2 (by have := (List.getElem?_eq_some_iff.1 hr).1; omega)
  cases hb
  simpa using hc k r hr j u hj
theorem OwS.frozen {g cap n : Nat} (h : OwS w base e size (.slice (some ⟨g, 0, none⟩) n cap) rows) (j : Nat) : w.frozen? ⟨g, j, none⟩ = false := by
  have hn : n = rows.length := by
    rcases h.2.2 with ⟨h', _⟩ | ⟨g', cap', cur, h', _⟩
    · simp at h'
    · injection h'
  subst hn
  exact h.2.frozenAt j
theorem OwS.set {g cap n : Nat} (h : OwS w base e size (.slice (some ⟨g, 0, none⟩) n cap) rows) {k j : Nat} {r : List Value} (hr : rows[k]? = some r) (hj : j < size) (u : Value) :
    OwS (w.setCell ⟨g, k * size + j, none⟩ u) base e size (.slice (some ⟨g, 0, none⟩) n cap) (rows.set k (r.set j u)) ∧ w.grownBy (w.setCell ⟨g, k * size + j, none⟩ u) (some g) := by
  have hn : n = rows.length := by
    rcases h.2.2 with ⟨h', _⟩ | ⟨g', cap', cur, h', _⟩
    · simp at h'
    · injection h'
  subst hn
  obtain ⟨h1, h2⟩ := h.2.stored (k * size + j) u
  rw [flatten_set h.1 k r hr j u hj] at h1
  have hall : ∀ r' ∈ rows.set k (r.set j u), r'.length = size := by
    intro r' hr'
    rcases List.mem_or_eq_of_mem_set hr' with h' | rfl
    · exact h.1 _ h'
    · rw [List.length_set]; exact h.1 _ (List.mem_of_getElem? hr)
  exact ⟨⟨hall, by simpa using h1⟩, h2⟩
end
theorem grownBy_setCell (w : World) (p : Addr) (u : Value) : w.grownBy (w.setCell p u) (some p.block) :=
  ⟨rfl, rfl, rfl, by simp [World.setCell], fun k _ hk => heap_setCell_other w p k u (fun e => hk (by rw [e]))⟩
theorem OwS.far {w : World} {base size : Nat} {e : TypeId} {v : Value} {rows : List (List Value)} (h : OwS w base e size v rows) {p : Addr} (hp : v.ownBlock ≠ some p.block) (u : Value) : OwS (w.setCell p u) base e size v rows :=
  h.kept (grownBy_setCell w p u) (.inr hp)
/-- a region that draws: reads, then a tail in one order; the world behind the draw under its name -/
theorem still_tail_drew {P : Program} {w : World} {id : Nat} {Q : Exit → Act → World → Prop} {a : Act} {l : List Oper} (n : Nat) (hm : P.follows .mixedOrders = true) (hB : Region.lexTailB .any l.toArray n = true)
    (h : wpStill P l.toArray w.drew (fun a' => wpList P l.toArray Q (l.drop n) a' w.drew) (l.take n) a) : (Code.region id l.toArray true).wp P Q a w :=
  wp_region_still_tail n hm hB h
/-- the world relation of a call that only makes memory, behind a step that grows one of its own rows -/
theorem below_grown {B : Nat} {a w w' : World} {row : Option Nat} (h : Below B a w) (hg : w.grownBy w' row) (hB : B ≤ w.heap.size) (hr : ∀ k, row = some k → B ≤ k) : Below B a w' := h.grown hg hB hr
theorem OwS.oneEv {l : List Ev} : ∀ r ∈ l.map Ev.cells, ∀ u ∈ r, u.oneCell' = true := by
  intro r hr u hu
  obtain ⟨e, _, rfl⟩ := List.mem_map.1 hr
  simp [Ev.cells] at hu
  rcases hu with rfl | rfl | rfl | rfl | rfl | rfl <;> rfl
theorem Ev.one (e : Ev) : ∀ u ∈ e.cells, u.oneCell' = true := by
  intro u hu
  simp [Ev.cells] at hu
  rcases hu with rfl | rfl | rfl | rfl | rfl | rfl <;> rfl
theorem Opr.one (e : Opr) : ∀ u ∈ e.cells, u.oneCell' = true := by
  intro u hu
  simp [Opr.cells] at hu
  rcases hu with rfl | rfl | rfl | rfl | rfl | rfl | rfl | rfl <;> rfl

theorem elemEv : Elem Try.prog 22 56 6 48 := Elem.mk (z := (Ev.agg ⟨0, 0, false, 0, 0, false⟩)) Try.underlying22 (by kernel_rfl) (by decide) rfl
end Go.Proofs.Ytcgbnlhloopnfaa
namespace Go.Proofs.Ytcgbnlhloopnfaa
open Go.RowKit
open Go.Maps (Keyed)

structure Codec (α : Type) where
  R : Value → Option (DataW Unit × List MemPlace)
  val : α → Value
  dat : α → DataW Unit
  zero : α
  rval : ∀ a, R (val a) = some (dat a, [])
  inv : ∀ v a ps, R v = some (dat a, ps) → v = val a

def ptrV : Option (Nat × Nat) → Value
  | none => .pointer none
  | some (b, o) => .pointer (some ⟨b, o, none⟩)
def ptrD : Option (Nat × Nat) → DataW Unit
  | none => .nil
  | some (b, o) => .agg [.lit (.int .i64 b), .lit (.int .i64 o)]
def ptrR : Value → Option (DataW Unit × List MemPlace)
  | .pointer none => some (.nil, [])
  | .pointer (some ⟨b, o, none⟩) => some (.agg [.lit (.int .i64 b), .lit (.int .i64 o)], [])
  | _ => none
def ptrC : Codec (Option (Nat × Nat)) where
  R := ptrR
  val := ptrV
  dat := ptrD
  zero := none
  rval a := by rcases a with _ | ⟨b, o⟩ <;> rfl
  inv v a ps h := by
    unfold ptrR at h
    split at h
    · rcases a with _ | ⟨b, o⟩
      · rfl
      · simp [ptrD] at h
    · rcases a with _ | ⟨b', o'⟩
      · simp [ptrD] at h
      · simp [ptrD] at h
        obtain ⟨⟨h1, h2⟩, _⟩ := h
        obtain rfl := Int.ofNat_inj.1 h1
        obtain rfl := Int.ofNat_inj.1 h2
        rfl
    · cases h
def boolR : Value → Option (DataW Unit × List MemPlace)
  | .bool x => some (.lit (.bool x), [])
  | _ => none
def boolC : Codec Bool where
  R := boolR
  val := .bool
  dat x := .lit (.bool x)
  zero := false
  rval a := rfl
  inv v a ps h := by
    unfold boolR at h
    split at h
    · simp at h; rw [h.1]
    · cases h

section
variable {α : Type} {C : Codec α} {P : Program} {k : TypeId} {w w' : World} {b n : Nat} {f : Lit → α}

def updK (f : Lit → α) (kl : Lit) (a : α) : Lit → α := fun x => if x.sameKey kl then a else f x

def MapG (C : Codec α) (w : World) (P : Program) (k : TypeId) (b n : Nat) (f : Lit → α) : Prop :=
  ∃ D, w.ownsMap P k C.R b n D ∧ Maps.IsMap D ∧ ∀ kl, WideAt.IsKeyLit kl → D.atKey kl (C.dat C.zero) = C.dat (f kl)

theorem MapG.made (w : World) (P : Program) (k : TypeId) : MapG C (w.alloc (.map #[] 0)) P k w.heap.size 0 (fun _ => C.zero) :=
  ⟨.map [], World.ownsMap_made w P k C.R, Maps.isMap_empty, fun _ _ => rfl⟩
theorem MapG.lt (h : MapG C w P k b n f) : b < w.heap.size := by obtain ⟨D, h1, _⟩ := h; exact h1.lt
theorem MapG.kept (h : MapG C w P k b n f) {row : Option Nat} (hg : w.grownBy w' row) (hne : some b ≠ row) : MapG C w' P k b n f := by
  obtain ⟨D, h1, h2⟩ := h; exact ⟨D, h1.kept hg hne, h2⟩
theorem MapG.alloc (h : MapG C w P k b n f) (o : Obj) : MapG C (w.alloc o) P k b n f := by
  obtain ⟨D, h1, h2⟩ := h; exact ⟨D, h1.alloc o, h2⟩
theorem MapG.drewN (h : MapG C w P k b n f) (m : Nat) : MapG C (w.drewN m) P k b n f := h
theorem MapG.below (h : MapG C w P k b n f) (hb : Below w.heap.size w w') : MapG C w' P k b n f :=
  h.kept (row := none) ⟨hb.os, hb.tape, hb.output, hb.size, fun k hk _ => hb.block k hk⟩ (by simp)
theorem MapG.block (h : MapG C w P k b n f) (hb : w'.heap[b]? = w.heap[b]?) : MapG C w' P k b n f := by
  obtain ⟨D, ⟨es, clock, h0, h1⟩, h2⟩ := h
  exact ⟨D, ⟨es, clock, hb.trans h0, h1⟩, h2⟩
theorem MapG.look (h : MapG C w P k b n f) {t e : TypeId} (K : Keyed P k) (ht : P.underlying t = some (.map k e)) (hz : (zeroValue e).run P w = .ok (C.val C.zero) w)
    {key : Value} {kl : Lit} (hkey : keyOf P k key = some kl) (hk : WideAt.IsKeyLit kl) : (Instr.lookup t (.map (some b)) key false).run P w = .ok (C.val (f kl)) w := by
  obtain ⟨D, h1, _, h3⟩ := h
  obtain ⟨v, ps, hrun, hv⟩ := h1.lookup K ht hz (C.rval C.zero) hkey
  rw [h3 kl hk] at hv
  rw [hrun, C.inv v (f kl) ps hv]
theorem MapG.put {D : DataW Unit} {kl : Lit} {a : α} (hkl : WideAt.IsKeyLit kl) (h1 : w.ownsMap P k C.R b n (D.put kl (C.dat a))) (h2 : Maps.IsMap D) (h3 : ∀ kl, WideAt.IsKeyLit kl → D.atKey kl (C.dat C.zero) = C.dat (f kl)) :
    MapG C w P k b n (updK f kl a) := by
  refine ⟨_, h1, h2.put _ _, fun x hx => ?_⟩
  by_cases hxk : x = kl
  · subst hxk
    rw [Maps.atKey_put_same h2 hx, updK, WideAt.sameKey_self hx]
    rfl
  · rw [Maps.atKey_put_other hxk, h3 x hx, updK, Maps.sameKey_ne hxk]
    rfl
theorem wpList_lookG {ops : Array Oper} {rest : List Oper} {o : Oper} {a : Act} {Q : Exit → Act → World → Prop} (hg : o.guard = none) (m x : Operand) (t : TypeId) (hop : o.op = Op.lookup t m x false)
    {e : TypeId} (K : Keyed P k) (ht : P.underlying t = some (.map k e)) (hz : (zeroValue e).run P w = .ok (C.val C.zero) w) (hm : a.eval m = .map (some b)) (h : MapG C w P k b n f)
    (key : Value) (kl : Lit) (hx : a.eval x = key) (hkey : keyOf P k key = some kl) (hk : WideAt.IsKeyLit kl)
    (hK : wpList P ops Q rest (a.put o.dst (C.val (f kl))) w) : wpList P ops Q (o :: rest) a w := by
  refine wpList_plain hg fun K' hK' => ?_
  have hrun := h.look K ht hz hkey hk
  unfold Oper.wp
  simp [execOp, hop, hm, hx, hrun, Result.andThen]
  exact hK' _ _ hK
theorem wpList_putG {ops : Array Oper} {rest : List Oper} {o : Oper} {a : Act} {Q : Exit → Act → World → Prop} (hg : o.guard = none) (m x v : Operand) (t : TypeId) (hop : o.op = Op.mapUpdate t m x v)
    {e : TypeId} (K : Keyed P k) (ht : P.underlying t = some (.map k e)) (hm : a.eval m = .map (some b)) (h : MapG C w P k b n f) (hn : n < maxLen) (key : Value) (kl : Lit) (hx : a.eval x = key) (hkey : keyOf P k key = some kl) (hkl : WideAt.IsKeyLit kl)
    (y : α) (hv : a.eval v = C.val y)
    (hK : ∀ w', MapG C w' P k b (n + 1) (updK f kl y) → w.grownBy w' (some b) → wpList P ops Q rest (a.put o.dst undef) w') : wpList P ops Q (o :: rest) a w := by
  obtain ⟨D, h1, h2, h3⟩ := h
  exact wpList_mapUpdate_own w hg m x v t hop k e K ht C.R b n D hm h1 hn key _ kl hx hv hkey (C.dat y) [] (C.rval y) fun w' h1' hg' => hK w' (MapG.put hkl h1' h2 h3) hg'
end
end Go.Proofs.Ytcgbnlhloopnfaa
namespace Go.Proofs.Ytcgbnlhloopnfaa
open Go.RowKit

section
variable {P : Program} {ops : Array Oper} {md : Region.Mode} {C : World → Prop}

def headQ (P : Program) (md : Region.Mode) (ops : Array Oper) (C : World → Prop) (n : Nat) (L : Array Bool → Act → Prop) : Nat → Array Bool → Act → Prop
  | 0, listed, a => L listed a
  | f + 1, listed, a => Region.ready md ops listed ≠ [] ∧ ∀ i ∈ Region.ready md ops listed, i < n ∧ qOp P ops C i (headQ P md ops C n L f (listed.setIfInBounds i true)) a

theorem any_of_headQ {n g : Nat} {L : Array Bool → Act → Prop} {Q' : Exit → Act → World → Prop} (hL : ∀ listed a w, C w → L listed a → wpAny P md ops Q' g listed a w) :
    ∀ (f : Nat) (listed : Array Bool) (a : Act) (w : World), C w → headQ P md ops C n L f listed a → wpAny P md ops Q' (f + g) listed a w
  | 0, listed, a, w, hw, h => by rw [Nat.zero_add]; exact hL _ _ _ hw h
  | f + 1, listed, a, w, hw, h => by
    rw [show f + 1 + g = (f + g) + 1 by omega]
    exact ⟨fun h0 => absurd h0 h.1, fun i hi => wpOp_of_qOp hw (fun a' w' hw' h' => any_of_headQ hL f _ a' w' hw' h') (h.2 i hi).2⟩

theorem headQ_first {n i : Nat} {oi : Oper} {v : Value} {L : Array Bool → Act → Prop} (hi : ops[i]? = some oi) (hsel : ∀ (j : Nat) (o : Oper) cs b, ops[j]? = some o → o.op ≠ .select cs b)
    (hs : Region.sinkB md ops n = true) (hc : Region.chainB md ops n = true) (hn : n < ops.size) (hin : i < n)
    (hdone : ∀ listed a, L listed a → ∀ j ∈ Region.ready md ops listed, n ≤ j) :
    ∀ (f : Nat) (listed : Array Bool) (a : Act), HeadInv md ops n listed →
      (∀ j oj, ops[j]? = some oj → j ≠ i → listed.getD j true = false → (∀ e ∈ oj.after, Region.binds md e = true → e.on ≠ i) → oi.apart ops oj = true) →
      i ∈ Region.ready md ops listed → YieldsIn P ops C oi v a →
      headQ P md ops C n L f (listed.setIfInBounds i true) (a.put oi.dst v) → headQ P md ops C n L (f + 1) listed a := by
  intro f
  induction f with
  | zero =>
    intro listed a inv _ hr hy H
    have hun := (mem_ready.1 hr).1
    refine ⟨fun h => (by rw [h] at hr; cases hr), fun j hj => ?_⟩
    have hjn : j < n := by
      rcases Nat.lt_or_ge j n with h | h
      · exact h
      · exact absurd hj (tail_waits hs hc hn inv _ i rfl hin hun j h)
    refine ⟨hjn, ?_⟩
    by_cases hji : j = i
    · subst hji; exact hy.qOp hi H
    · have := hdone _ _ H j (ready_mono hj hji)
      omega
  | succ f ih =>
    intro listed a inv hfree hr hy H
    have hun := (mem_ready.1 hr).1
    refine ⟨fun h => (by rw [h] at hr; cases hr), fun j hj => ?_⟩
    have hjn : j < n := by
      rcases Nat.lt_or_ge j n with h | h
      · exact h
      · exact absurd hj (tail_waits hs hc hn inv _ i rfl hin hun j h)
    refine ⟨hjn, ?_⟩
    by_cases hji : j = i
    · subst hji; exact hy.qOp hi H
    · have h1 := (H.2 j (ready_mono hj hji)).2
      obtain ⟨hjun, oj, hoj, hall⟩ := mem_ready.1 hj
      have hnot : ∀ e ∈ oj.after, Region.binds md e = true → e.on ≠ i := fun e he hb heq => by
        have h1 := hall e he hb
        rw [heq, getD_both hun] at h1
        cases h1
      have h2 := qOp_put hoj (hfree j oj hoj hji hjun hnot) (fun cs b => hsel i oi cs b hi) (fun cs b => hsel j oj cs b hoj) hy h1
      have hfree' : ∀ k ok, ops[k]? = some ok → k ≠ i → (listed.setIfInBounds j true).getD k true = false →
          (∀ e ∈ ok.after, Region.binds md e = true → e.on ≠ i) → oi.apart ops ok = true := fun k ok hk hki hun hno => by
        refine hfree k ok hk hki ?_ hno
        by_cases hjk : j = k
        · subst hjk; exact hjun
        · rw [getD_set_ne true hjk] at hun; exact hun
      refine qOp_mono (fun a' h3 => ih (listed.setIfInBounds j true) a' (inv.set hj hjn) hfree' (ready_mono hr (Ne.symm hji)) h3.1 ?_) h2
      rw [Array.setIfInBounds_comm _ _ hji]
      exact h3.2

theorem headQ_lex {n g : Nat} {Lq : Act → Prop} (hsel : Region.noSelect ops = true) (hs : Region.sinkB md ops n = true) (hc : Region.chainB md ops n = true) (hn : n < ops.size) :
    ∀ (l : List Oper) (k : Nat) (listed : Array Bool) (a : Act), (∀ j, j < l.length → l[j]? = ops[k + j]?) → k + l.length = n → HeadInv md ops n listed →
    Region.lexHead md ops g l.length k listed = true → wpQuiet P ops C Lq l a →
    headQ P md ops C n (fun listed' a' => Region.seqB md ops g n listed' = true ∧ Lq a') l.length listed a
  | [], k, listed, a, _, hk, _, hB, h => by
    have : k = n := by simpa using hk
    subst this
    exact ⟨by simpa [Region.lexHead] using hB, h⟩
  | o :: l, k, listed, a, hl, hk, inv, hB, h => by
    have h0 : ops[k]? = some o := by simpa using (hl 0 (by simp)).symm
    simp only [List.length_cons, Region.lexHead, Bool.and_eq_true] at hB
    obtain ⟨⟨hr, hf⟩, hB'⟩ := hB
    have hkn : k < n := by simp only [List.length_cons] at hk; omega
    have hr' : k ∈ Region.ready md ops listed := by simpa using hr
    have hst : qOp P ops C k (wpQuiet P ops C Lq l) a := by unfold qOp; simp only [h0]; exact h
    obtain ⟨v, hy, hK⟩ := yieldsIn_of_qOp h0 hst
    exact headQ_first h0 (Region.noSelect_spec hsel) hs hc hn hkn (fun listed' a' hL => seqB_ready hL.1) l.length listed a inv (Region.free_spec h0 hf) hr' hy
      (headQ_lex hsel hs hc hn l (k + 1) _ _ (fun j hj => by have := hl (j + 1) (by simp; omega); simpa [Nat.add_assoc, Nat.add_comm 1 j] using this) (by simp only [List.length_cons] at hk; omega) (inv.set hr' hkn) hB' hK)

theorem quiet_tail_any {id : Nat} {Q : Exit → Act → World → Prop} {a : Act} {w : World} {l : List Oper} (n : Nat) (hm : P.follows .mixedOrders = true) (hB : Region.lexTailB .any l.toArray n = true) (hC : C { w with drawn := w.drawn + 1 })
    (h : wpQuiet P l.toArray C (fun a' => ∀ w', C w' → wpList P l.toArray Q (l.drop n) a' w') (l.take n) a) : (Code.region id l.toArray true).wp P Q a w := by
  simp only [Region.lexTailB, Bool.and_eq_true, decide_eq_true_eq] at hB
  obtain ⟨⟨⟨⟨hsel, hn⟩, hs⟩, hc⟩, hlex⟩ := hB
  have hn' : n < l.length := by simpa using hn
  have htl : (l.take n).length = n := by simp; omega
  have hdl : (l.drop n).length = l.toArray.size - n := by simp
  have inv0 : HeadInv .any l.toArray n (Array.replicate l.toArray.size false) :=
    ⟨by simp, fun j oj _ hl => (by rw [getD_replicate_false] at hl; cases hl), fun t _ ht => getD_in (by simpa using ht) (getD_replicate_false _ _)⟩
  have H := headQ_lex (md := .any) (g := l.toArray.size - n) hsel hs hc hn (l.take n) 0 _ a (fun j hj => by
    have hj' : j < n := by rw [htl] at hj; exact hj
    simp [hj']) (by simpa using htl) inv0 (by rw [htl]; exact hlex) h
  refine wp_region_any hm ?_
  have := any_of_headQ (Q' := Q) (g := l.toArray.size - n) (fun listed a' w' hw' hL => by
    have := wpAny_of_seq (md := .any) (Q' := Q) (l.drop n) n listed a' w' (fun j => by simp [List.getElem?_drop]) (by rw [hdl]; exact hL.1) (hL.2 w' hw')
    rwa [hdl] at this) _ _ _ _ hC H
  rw [htl, show n + (l.toArray.size - n) = l.toArray.size by omega] at this
  exact this
end

/-- .. the class: of what was there nothing has turned, blocks may have been laid. -/
theorem quiet_tail {P : Program} {id : Nat} {Q : Exit → Act → World → Prop} {a : Act} {w : World} {l : List Oper} (n : Nat) (hm : P.follows .mixedOrders = true) (hB : Region.lexTailB .any l.toArray n = true)
    (h : wpQuiet P l.toArray (fun w' => ∃ p : Regrown, w' = Sort.grow (redrawn w p.d) p.os) (fun a' => ∀ w', Below w.heap.size w w' → wpList P l.toArray Q (l.drop n) a' w') (l.take n) a) : (Code.region id l.toArray true).wp P Q a w := by
  refine quiet_tail_any (C := fun w' => ∃ p : Regrown, w' = Sort.grow (redrawn w p.d) p.os) n hm hB ⟨⟨w.drawn + 1, #[]⟩, by rw [Sort.grow_empty]; rfl⟩ ?_
  refine cast (congrArg (fun F => wpQuiet P l.toArray (fun w' => ∃ p : Regrown, w' = Sort.grow (redrawn w p.d) p.os) F (l.take n) a) ?_) h
  funext a'
  refine propext ⟨fun h w' ⟨p, hp⟩ => h w' (by rw [hp]; exact below_regrown w p.d p.os), fun h w' hb => h w' (regrown_of_below hb)⟩
/-- the same class, the whole region reads and calls -/
theorem quiet_below {P : Program} {id : Nat} {Q : Exit → Act → World → Prop} {a : Act} {w : World} {l : List Oper} (hm : P.follows .mixedOrders = true) (hB : Region.lexB .any l.toArray = true)
    (h : wpQuiet P l.toArray (fun w' => ∃ p : Regrown, w' = Sort.grow (redrawn w p.d) p.os) (fun a' => ∀ w', Below w.heap.size w w' → Q .normal a' w') l a) : (Code.region id l.toArray true).wp P Q a w := by
  refine wp_region_quiet_below hm hB ?_
  refine cast (congrArg (fun F => wpQuiet P l.toArray (fun w' => ∃ p : Regrown, w' = Sort.grow (redrawn w p.d) p.os) F l a) ?_) h
  funext a'
  refine propext ⟨fun h w' ⟨p, hp⟩ => h w' (by rw [hp]; exact below_regrown w p.d p.os), fun h w' hb => h w' (regrown_of_below hb)⟩
end Go.Proofs.Ytcgbnlhloopnfaa
namespace Go.Proofs.Ytcgbnlhloopnfaa
open Go.RowKit
variable {P : Program} {w w' : World} {base size bytes : Nat} {t e : TypeId} {v : Value} {rows : List (List Value)}
/-- append of a slice that reads as rows, as one step -/
theorem oper_apS {o : Oper} {a : Act} {K : Act → World → Prop} {Q : Exit → Act → World → Prop} (s x : Operand) (t : TypeId)
    (ho : o.op = .call { callee := .builtin .append, args := #[s, x], argTypes := #[t, t] }) (E : Elem P t e size bytes)
    (hs : a.eval s = v) (hown : OwS w base e size v rows) (B : Nat) (A : Option Addr) (m c : Nat) (news : List (List Value)) (hx : a.eval x = .slice A m c) (hr : RdS w B size A news) (hm : m = news.length)
    (h1 : ∀ r ∈ news, ∀ u ∈ r, u.oneCell' = true) (h63 : rows.length + news.length ≤ maxLen) (hbytes : (rows.length + news.length) * bytes ≤ 140737488355328) (hbase : base ≤ w.heap.size)
    (h : ∀ v' w', OwS w' base e size v' (rows ++ news) → w.grownBy w' v.ownBlock → (v'.ownBlock = v.ownBlock ∨ v'.ownBlock = some w.heap.size) → K (a.put o.dst v') w') : Oper.wp P o a w K Q := by
  obtain ⟨ht, hsz, i, z, hi, hz, hsize, hby, hzs⟩ := E
  have hone : ∀ u ∈ news.flatten, u.oneCell' = true := by
    intro u hu
    obtain ⟨r, hr, hu⟩ := List.mem_flatten.1 hu
    exact h1 r hr u hu
  have hfl : news.flatten.length = news.length * size := flatten_length hr.1
  have hall : ∀ r ∈ rows ++ news, r.length = size := by
    intro r hrr
    rcases List.mem_append.1 hrr with hrr | hrr
    · exact hown.1 r hrr
    · exact hr.1 r hrr
  by_cases h0 : news.length = 0
  · have hn : news = [] := List.eq_nil_of_length_eq_zero h0
    subst hn
    simp only [List.length_nil] at hm
    subst hm
    have hrun : (Builtin.append_ #[t, t] o.type #[v, .slice A 0 c]).run P w = .ok v w := by
      rcases A with _ | ad
      · rcases hown.2.2 with ⟨rfl, _⟩ | ⟨g, cap, cur, rfl, _, _, hnc, _⟩
        · simp [Builtin.append_, run_underlying ht, sizeOf, typeInfo, hi, Builtin.lenOf, Builtin.firstCells]
        · simp [Builtin.append_, run_underlying ht, sizeOf, typeInfo, hi, Builtin.lenOf, Builtin.firstCells, hnc, storeCells]
      · rcases hown.2.2 with ⟨rfl, hz0⟩ | ⟨g, cap, cur, rfl, _, _, hnc, _⟩
        · simp [Builtin.append_, run_underlying ht, sizeOf, typeInfo, hi, Builtin.lenOf, Builtin.firstCells, loadCells, loadCellsFrom]
        · simp [Builtin.append_, run_underlying ht, sizeOf, typeInfo, hi, Builtin.lenOf, Builtin.firstCells, hnc, storeCells, loadCells, loadCellsFrom]
    unfold Oper.wp execOp
    simp only [ho, resolve, invoke, builtin, Sem.run_bind, Sem.run_pure, Result.andThen_ok, List.map_toArray, List.map_cons, List.map_nil, hs, hx, hrun]
    exact h v w (by simpa using hown) (World.grownBy.refl w _) (.inl rfl)
  · obtain ⟨b, off, rfl, hbB, hc⟩ := hr.2 (by omega)
    have hcells : ∀ j u, news.flatten[j]? = some u → w.cell? ((⟨b, off, none⟩ : Addr).add j) = some u := by
      intro j u hu
      have hj : j < news.length * size := by rw [← hfl]; exact (List.getElem?_eq_some_iff.1 hu).1
      have hq : j / size < news.length := Nat.div_lt_of_lt_mul (by rw [Nat.mul_comm]; exact hj)
      have hmod : j % size < size := Nat.mod_lt _ hsz
      have hrr := List.getElem?_eq_getElem hq
      have hl : (news[j / size]).length = size := hr.1 _ (List.getElem_mem hq)
      have hvv : (news[j / size])[j % size]? = some ((news[j / size])[j % size]'(by omega)) := List.getElem?_eq_getElem (by omega)
      have h2 := hc _ _ hrr _ _ hvv
      have h3 := flatten_get hr.1 _ _ hrr _ _ hvv
      have hdm : j / size * size + j % size = j := by rw [Nat.mul_comm]; exact Nat.div_add_mod j size
      rw [hdm] at h3
      rw [h3] at hu
      cases hu
      rw [Nat.add_assoc, hdm] at h2
      rw [show (⟨b, off, none⟩ : Addr).add j = ⟨b, off + j, none⟩ from Addr.add_lit _ _ _]
      exact h2
    obtain ⟨v', w', hrun, h2, h3, _, h5⟩ := run_append_own_at (P := P) w base t o.type e i z size bytes ht hi hz hsize hby hzs hsz v rows.length rows.flatten hown.2 ⟨b, off, none⟩ news.length c news.flatten hfl hcells hone h63 hbytes hbase
    unfold Oper.wp execOp
    rw [hm] at hx
    simp only [ho, resolve, invoke, builtin, Sem.run_bind, Sem.run_pure, Result.andThen_ok, List.map_toArray, List.map_cons, List.map_nil, hs, hx, hrun]
    exact h v' w' ⟨hall, by simpa using h2⟩ h3 h5

/-- append of a slice that reads as rows, as one step of a region -/
theorem step_apS {ops : Array Oper} {o : Oper} {a : Act} {K : Act → World → Prop} {Q : Exit → Act → World → Prop} {E' : Prop} (hgd : o.guard = none) (s x : Operand) (t : TypeId)
    (ho : o.op = .call { callee := .builtin .append, args := #[s, x], argTypes := #[t, t] }) (E : Elem P t e size bytes)
    (hs : a.eval s = v) (hown : OwS w base e size v rows) (B : Nat) (A : Option Addr) (m c : Nat) (news : List (List Value)) (hx : a.eval x = .slice A m c) (hr : RdS w B size A news) (hm : m = news.length)
    (h1 : ∀ r ∈ news, ∀ u ∈ r, u.oneCell' = true) (h63 : rows.length + news.length ≤ maxLen) (hbytes : (rows.length + news.length) * bytes ≤ 140737488355328) (hbase : base ≤ w.heap.size)
    (h : ∀ v' w', OwS w' base e size v' (rows ++ news) → w.grownBy w' v.ownBlock → (v'.ownBlock = v.ownBlock ∨ v'.ownBlock = some w.heap.size) → K (a.put o.dst v') w') :
    if Region.wanted o (yielded ops a.tmps) = true then Oper.wp P o a w K Q else E' := by
  have hw : Region.wanted o (yielded ops a.tmps) = true := by simp [Region.wanted, hgd]
  rw [if_pos hw]
  exact oper_apS s x t ho E hs hown B A m c news hx hr hm h1 h63 hbytes hbase h

/-- append of one row that lies in the newest block -/
theorem step_ap1 {ops : Array Oper} {o : Oper} {a : Act} {K : Act → World → Prop} {Q : Exit → Act → World → Prop} {E' : Prop} (hgd : o.guard = none) (s x : Operand) (t : TypeId)
    (ho : o.op = .call { callee := .builtin .append, args := #[s, x], argTypes := #[t, t] }) (E : Elem P t e size bytes)
    (hs : a.eval s = v) (hown : OwS w base e size v rows) (cs : List Value) (e' : TypeId) (hcs : cs.length = size) (g : Nat) (hx : a.eval x = .slice (some ⟨g, 0, none⟩) 1 1) (hg : g = w.heap.size)
    (h1 : ∀ u ∈ cs, u.oneCell' = true) (h63 : rows.length + 1 ≤ maxLen) (hbytes : (rows.length + 1) * bytes ≤ 140737488355328) (hbase : base ≤ w.heap.size)
    (h : ∀ v' w', OwS w' base e size v' (rows ++ [cs]) → (w.alloc (.cells cs.toArray e')).grownBy w' v.ownBlock → (v'.ownBlock = v.ownBlock ∨ v'.ownBlock = some (w.heap.size + 1)) → K (a.put o.dst v') w') :
    if Region.wanted o (yielded ops a.tmps) = true then Oper.wp P o a (w.alloc (.cells cs.toArray e')) K Q else E' := by
  have hw : Region.wanted o (yielded ops a.tmps) = true := by simp [Region.wanted, hgd]
  rw [if_pos hw]
  subst hg
  refine oper_apS s x t ho E hs (hown.alloc _) (w.heap.size + 1) _ 1 1 [cs] hx ⟨by simp [hcs], fun _ => ⟨w.heap.size, 0, rfl, by omega, ?_⟩⟩ rfl (by simpa using h1) (by simpa using h63) (by simpa using hbytes) (by simp; omega) ?_
  · intro i r hi j u hj
    match i, hi with
    | 0, hi =>
      simp at hi
      subst hi
      rw [cell_of_row _ w.heap.size _ cs.toArray e' (0, 0) (heap_alloc_new w _)]
      simpa using hj
  · intro v' w' h2 h3 h4
    exact h v' w' h2 h3 (by simpa using h4)
end Go.Proofs.Ytcgbnlhloopnfaa
namespace Go.Proofs.Ytcgbnlhloopnfaa
open Go.RowKit

theorem OwS.lit {w : World} {base size g n : Nat} {e : TypeId} {rows : List (List Value)} {cs : Array Value} (hs : ∀ r ∈ rows, r.length = size) (hh : w.heap[g]? = some (.cells cs e)) (hcs : cs.toList = rows.flatten) (hn : n = rows.length) (hm : n ≤ maxLen) (hb : base ≤ g) :
    OwS w base e size (.slice (some ⟨g, 0, none⟩) n n) rows := by
  subst hn
  have hl : rows.flatten.length = rows.length * size := flatten_length hs
  refine ⟨hs, hl, .inr ⟨g, rows.length, cs, rfl, hb, hh, Nat.le_refl _, hm, by rw [← Array.length_toList, hcs, hl], ?_⟩⟩
  rw [hcs, ← hl, List.take_length]

/-- what a helper that lays events answers -/
def LayE (w : World) (l : List Ev) (e : Ending) (w' : World) : Prop := ∃ v, e = .returned v ∧ OwS w' w.heap.size 56 6 v (l.map Ev.cells) ∧ Below w.heap.size w w'

theorem below_laid {w : World} {o : Obj} : Below w.heap.size w (w.alloc o) := (Below.refl _ _).alloc (Nat.le_refl _) _

theorem heap_third (w : World) (A B C : Obj) : (((w.alloc A).alloc B).alloc C).heap[w.heap.size + 1 + 1]? = some C := by
  have := heap_alloc_new ((w.alloc A).alloc B) C
  simpa using this
end Go.Proofs.Ytcgbnlhloopnfaa
namespace Go.Proofs.Ytcgbnlhloopnfaa
open Go.RowKit

/-- a bound below which no row of explained eras turns -/
class BaseW where
  b : Nat
def bE [BaseW] (e : TypeId) : Nat := if e = 138 then BaseW.b else 0
theorem bE_int [BaseW] : bE 3 = 0 := by unfold bE; rw [if_neg (by decide)]
theorem bE_era [BaseW] : bE 138 = BaseW.b := by unfold bE; rw [if_pos rfl]
/-- Of the blocks that were there none has turned, but those of T and the rows of type e (of explained eras: from the bound on). -/
structure FrE [BaseW] (T : List Nat) (e : TypeId) (w w' : World) : Prop where
  os : w'.os = w.os
  tape : w'.tape = w.tape
  output : w'.output = w.output
  size : w.heap.size ≤ w'.heap.size
  block : ∀ k, k < w.heap.size → k ∉ T → (∀ cur f, w.heap[k]? = some (.cells cur e f) → k < bE e) → w'.heap[k]? = w.heap[k]?
section
variable [BaseW]
variable {T T' : List Nat} {e e' : TypeId} {a w w' : World} {C : Nat}
theorem FrE.refl (T : List Nat) (e : TypeId) (w : World) : FrE T e w w := ⟨rfl, rfl, rfl, Nat.le_refl _, fun _ _ _ _ => rfl⟩
theorem FrE.of (h : Below w.heap.size w w') : FrE T e w w' := ⟨h.os, h.tape, h.output, h.size, fun k hk _ _ => h.block k hk⟩
theorem FrE.trans' (h : FrE T e a w) (h' : FrE T' e w w') (hT : ∀ k ∈ T', k ∈ T ∨ a.heap.size ≤ k) : FrE T e a w' :=
  ⟨h'.os.trans h.os, h'.tape.trans h.tape, h'.output.trans h.output, Nat.le_trans h.size h'.size, fun k hk hkT hne => by
    have h1 := h.block k hk hkT hne
    rw [h'.block k (Nat.lt_of_lt_of_le hk h.size) (fun hm => (hT k hm).elim hkT (fun h => by omega)) (fun cur f hc => hne cur f (by rw [← h1]; exact hc)), h1]⟩
theorem FrE.trans (h : FrE T e a w) (h' : FrE T e w w') : FrE T e a w' := h.trans' h' fun _ hk => .inl hk
theorem FrE.alloc (h : FrE T e a w) (o : Obj) : FrE T e a (w.alloc o) := h.trans (.of ((Below.refl _ _).alloc (Nat.le_refl _) o))
theorem FrE.drew (h : FrE T e a w) : FrE T e a w.drew := ⟨h.os, h.tape, h.output, h.size, h.block⟩
theorem FrE.drewN (h : FrE T e a w) (n : Nat) : FrE T e a (w.drewN n) := ⟨h.os, h.tape, h.output, h.size, h.block⟩
theorem FrE.setCell {p : Addr} (h : FrE T e a w) (hp : p.block ∈ T ∨ a.heap.size ≤ p.block) (u : Value) : FrE T e a (w.setCell p u) :=
  h.trans' (T' := [p.block]) ⟨rfl, rfl, rfl, by simp [World.setCell], fun k hk hkT _ => Below.heap_setCell _ _ _ _ (by simpa using hkT)⟩ (by simpa using hp)
theorem FrE.grown {row : Option Nat} (h : FrE T e a w) (hg : w.grownBy w' row) (hr : ∀ g, row = some g → g ∈ T ∨ a.heap.size ≤ g ∨ ∃ cur f, w.heap[g]? = some (.cells cur e f) ∧ bE e ≤ g) : FrE T e a w' :=
  ⟨hg.os.trans h.os, hg.tape.trans h.tape, hg.output.trans h.output, Nat.le_trans h.size hg.size, fun k hk hkT hne => by
    have h1 := h.block k hk hkT hne
    rw [hg.block k (Nat.lt_of_lt_of_le hk h.size) (fun hkr => by
      rcases hr k hkr.symm with h | h | ⟨cur, f, h, hb⟩
      · exact hkT h
      · omega
      · rw [h1] at h
        have := hne cur f h
        omega), h1]⟩
theorem FrE.keep {k : Nat} {o : Obj} (h : FrE T e w w') (ho : w.heap[k]? = some o) (hk : k ∉ T) (hne : ∀ cur f, o ≠ .cells cur e f) : w'.heap[k]? = some o := by
  rw [h.block k (Array.getElem?_eq_some_iff.1 ho).1 hk (fun cur f hc => by rw [ho] at hc; injection hc with hc; exact absurd hc (hne cur f)), ho]
theorem FrE.cells_keep {k : Nat} {cs : Array Value} {fz : Nat × Nat} (h : FrE T e w w') (ho : w.heap[k]? = some (.cells cs e' fz)) (hk : k ∉ T) (hne : e' ≠ e) : w'.heap[k]? = some (.cells cs e' fz) :=
  h.keep ho hk fun cur f hc => by injection hc with _ h2 _; exact hne h2
theorem FrE.cell_keep {k : Nat} {cs : Array Value} {fz : Nat × Nat} (h : FrE T e w w') (ho : w.heap[k]? = some (.cells cs e' fz)) (hk : k ∉ T) (hne : e' ≠ e) (p : Addr) (hp : p.block = k) : w'.cell? p = w.cell? p := by
  have h1 := h.cells_keep ho hk hne
  subst hp
  exact World.cell?_of_block (h1.trans ho.symm)
theorem OwS.fr {base size : Nat} {v : Value} {rows : List (List Value)} (h : OwS w base e' size v rows) (hf : FrE T e w w') (hne : e' ≠ e) (hT : ∀ k ∈ T, ∀ cur f, w.heap[k]? ≠ some (.cells cur e' f)) : OwS w' base e' size v rows := by
  obtain ⟨h1, h2, h3⟩ := h
  refine ⟨h1, h2, ?_⟩
  rcases h3 with h3 | ⟨g, cap, cur, hv, hb, hh, hr⟩
  · exact .inl h3
  · exact .inr ⟨g, cap, cur, hv, hb, hf.cells_keep hh (fun hm => hT g hm cur (0, 0) hh) hne, hr⟩
theorem MapG.fr {α : Type} {Cd : Codec α} {P : Program} {k : TypeId} {b n : Nat} {f : Lit → α} (h : MapG Cd w P k b n f) (hf : FrE T e w w') (hT : b ∉ T) : MapG Cd w' P k b n f := by
  have hb := h.block (w' := w') (by
    obtain ⟨D, ⟨es, clock, h0, h1⟩, h2⟩ := h
    rw [hf.keep h0 hT (fun cur f hc => by cases hc), h0])
  exact hb
theorem FrE.toBelow (h : FrE T 138 w w') (hT : ∀ k ∈ T, BaseW.b ≤ k) (hb : BaseW.b ≤ w.heap.size) : Below BaseW.b w w' :=
  ⟨h.os, h.tape, h.output, h.size, fun k hk => h.block k (by omega) (fun hm => by have := hT k hm; omega) (fun _ _ _ => by rw [bE_era]; exact hk)⟩
end
section
variable {w : World}
theorem MapG.isMap {α : Type} {Cd : Codec α} {P : Program} {k : TypeId} {b n : Nat} {f : Lit → α} (h : MapG Cd w P k b n f) : ∀ cur e' fz, w.heap[b]? ≠ some (.cells cur e' fz) := by
  obtain ⟨D, ⟨es, clock, h0, h1⟩, h2⟩ := h
  intro cur e' fz hc
  rw [h0] at hc
  cases hc
end
end Go.Proofs.Ytcgbnlhloopnfaa
namespace Go.Proofs.Ytcgbnlhloopnfaa
open Go.RowKit
open Go.Maps (Keyed)

theorem length_le_of_sub {α : Type} [DecidableEq α] : ∀ (l L : List α), l.Nodup → (∀ x ∈ l, x ∈ L) → l.length ≤ L.length := by
  intro l
  induction l with
  | nil => intro L _ _; simp
  | cons a l ih =>
    intro L hn h
    obtain ⟨h1, h2⟩ := List.nodup_cons.1 hn
    have := ih (L.erase a) h2 fun x hx => (List.mem_erase_of_ne (fun e => h1 (by rw [← e]; exact hx))).2 (h x (by simp [hx]))
    rw [List.length_erase_of_mem (h a (by simp))] at this
    have hp : 0 < L.length := List.length_pos_of_mem (h a (by simp))
    simp
    omega

section
variable {P : Program} {k : TypeId} {w w' : World} {b : Nat} {L : List Lit} {f : Lit → Bool}
/-- a map of bools, by what it answers; its keys lie on a list -/
def MapS (w : World) (P : Program) (k : TypeId) (b : Nat) (L : List Lit) (f : Lit → Bool) : Prop :=
  ∃ D, w.ownsMap P k boolC.R b L.length D ∧ Maps.IsMap D ∧ (∀ kl, WideAt.IsKeyLit kl → D.atKey kl (boolC.dat boolC.zero) = boolC.dat (f kl)) ∧ ∀ es, D = .map es → ∀ p ∈ es, p.1 ∈ L
theorem MapS.made (w : World) (P : Program) (k : TypeId) (L : List Lit) : MapS (w.alloc (.map #[] 0)) P k w.heap.size L (fun _ => false) :=
  ⟨.map [], (World.ownsMap_made w P k boolC.R).mono (Nat.zero_le _), Maps.isMap_empty, fun _ _ => rfl, fun es he p hp => by cases he; cases hp⟩
theorem MapS.lt (h : MapS w P k b L f) : b < w.heap.size := by obtain ⟨D, h1, _⟩ := h; exact h1.lt
theorem MapS.g (h : MapS w P k b L f) : MapG boolC w P k b L.length f := by obtain ⟨D, h1, h2, h3, -⟩ := h; exact ⟨D, h1, h2, h3⟩
theorem MapS.block (h : MapS w P k b L f) (hb : w'.heap[b]? = w.heap[b]?) : MapS w' P k b L f := by
  obtain ⟨D, ⟨es, clock, h0, h1⟩, h2⟩ := h
  exact ⟨D, ⟨es, clock, hb.trans h0, h1⟩, h2⟩
theorem MapS.alloc (h : MapS w P k b L f) (o : Obj) : MapS (w.alloc o) P k b L f := h.block (Below.heap_alloc _ _ _ h.lt)
theorem MapS.drewN (h : MapS w P k b L f) (m : Nat) : MapS (w.drewN m) P k b L f := h
theorem MapS.below (h : MapS w P k b L f) (hb : Below w.heap.size w w') : MapS w' P k b L f := h.block (hb.block b h.lt)
theorem MapS.isMap (h : MapS w P k b L f) : ∀ cur e' fz, w.heap[b]? ≠ some (.cells cur e' fz) := h.g.isMap
theorem MapS.at_ (h : MapS w P k b L f) : ∃ o, w.heap[b]? = some o ∧ ∀ cur e fz, o ≠ .cells cur e fz := by
  obtain ⟨D, ⟨es, clock, h0, h1⟩, h2⟩ := h
  exact ⟨_, h0, fun _ _ _ h => by cases h⟩
theorem MapS.fr [BaseW] {T : List Nat} {e : TypeId} (h : MapS w P k b L f) (hf : FrE T e w w') (hT : b ∉ T) : MapS w' P k b L f := by
  obtain ⟨o, h0, h1⟩ := h.at_
  exact h.block ((hf.keep h0 hT fun cur f => h1 cur e f).trans h0.symm)
theorem MapS.lookOk (h : MapS w P k b L f) {t e : TypeId} (K : Keyed P k) (ht : P.underlying t = some (.map k e)) (hz : ∀ w, (zeroValue e).run P w = .ok (.bool false) w)
    {key : Value} {kl : Lit} (hkey : keyOf P k key = some kl) (hk : WideAt.IsKeyLit kl) : ∃ hs, (hs = false → f kl = false) ∧ ∀ n, (Instr.lookup t (.map (some b)) key true).run P (w.drewN n) = .ok (.tuple #[.bool (f kl), .bool hs]) (w.drewN n) := by
  obtain ⟨D, h1, _, h3, -⟩ := h
  refine ⟨Maps.has D kl, fun hn => ?_, fun n => ?_⟩
  · have := h3 kl hk
    rw [Maps.atKey_of_not_has hn] at this
    simp [boolC] at this
    exact this
  · obtain ⟨v, ps, hrun, hv⟩ := World.ownsMap.look_ok (w := w.drewN n) h1 K ht (hz _) (boolC.rval false) hkey
    rw [show boolC.dat false = boolC.dat boolC.zero from rfl, h3 kl hk] at hv
    rw [hrun, boolC.inv v (f kl) ps hv]
    rfl
theorem keys_put {D : DataW Unit} {es : List (Lit × DataW Unit)} (he : D = .map es) {kl : Lit} {d : DataW Unit} (hk : kl ∈ L) (h : ∀ p ∈ es, p.1 ∈ L) : ∀ es', D.put kl d = .map es' → ∀ p ∈ es', p.1 ∈ L := by
  subst he
  intro es' he' p hp
  simp only [DataW.put, DataW.map.injEq] at he'
  subst he'
  rcases Go.ChangeMaps.mem_insert_iff.1 hp with rfl | hp
  · exact hk
  · exact h p (List.mem_filter.1 hp).1
theorem MapS.put {D : DataW Unit} {es : List (Lit × DataW Unit)} {kl : Lit} {a : Bool} (K : Keyed P k) (hkl : WideAt.IsKeyLit kl) (hkL : kl ∈ L) (h1 : w.ownsMap P k boolC.R b (L.length + 1) (D.put kl (boolC.dat a))) (h2 : D = .map es)
    (h3 : ∀ kl, WideAt.IsKeyLit kl → D.atKey kl (boolC.dat boolC.zero) = boolC.dat (f kl)) (h4 : ∀ p ∈ es, p.1 ∈ L) : MapS w P k b L (updK f kl a) := by
  have hT := h1.tidy K
  have hk := keys_put (D := D) (d := boolC.dat a) h2 hkL h4
  have hM : Maps.IsMap D := ⟨es, h2⟩
  refine ⟨_, ?_, hM.put _ _, fun x hx => ?_, hk⟩
  · obtain ⟨m, clock, g1, g2, g3, g4⟩ := h1
    refine ⟨m, clock, g1, g2, ?_, g4⟩
    obtain ⟨es', e1, e2⟩ := hT
    have e3 : es'.length = m.size := by
      rw [e1] at g4
      injection g4 with g4
      rw [g4, length_read]
    rw [← e3, ← List.length_map (f := Prod.fst)]
    haveI : DecidableEq Lit := fun a b => Classical.propDecidable (a = b)
    refine length_le_of_sub _ _ (List.pairwise_map.2 e2) fun x hx => ?_
    obtain ⟨p, hp, rfl⟩ := List.mem_map.1 hx
    exact hk es' e1 p hp
  · by_cases hxk : x = kl
    · subst hxk
      rw [Maps.atKey_put_same hM hx, updK, WideAt.sameKey_self hx]
      rfl
    · rw [Maps.atKey_put_other hxk, h3 x hx, updK, Maps.sameKey_ne hxk]
      rfl
theorem wpList_putS {ops : Array Oper} {rest : List Oper} {o : Oper} {a : Act} {Q : Exit → Act → World → Prop} (hg : o.guard = none) (m x v : Operand) (t : TypeId) (hop : o.op = Op.mapUpdate t m x v)
    {e : TypeId} (K : Keyed P k) (ht : P.underlying t = some (.map k e)) (hm : a.eval m = .map (some b)) (h : MapS w P k b L f) (hn : L.length < maxLen) (key : Value) (kl : Lit) (hx : a.eval x = key) (hkey : keyOf P k key = some kl) (hkl : WideAt.IsKeyLit kl) (hkL : kl ∈ L)
    (y : Bool) (hv : a.eval v = .bool y)
    (hK : ∀ w', MapS w' P k b L (updK f kl y) → w.grownBy w' (some b) → wpList P ops Q rest (a.put o.dst undef) w') : wpList P ops Q (o :: rest) a w := by
  obtain ⟨D, h1, ⟨es, h2⟩, h3, h4⟩ := h
  exact wpList_mapUpdate_own w hg m x v t hop k e K ht boolC.R b L.length D hm h1 hn key _ kl hx hv hkey (boolC.dat y) [] (boolC.rval y) fun w' h1' hg' => hK w' (MapS.put K hkl hkL h1' h2 h3 (h4 es h2)) hg'
end

/-! ### the keys -/
theorem laidOutK : laidOutB Try.prog = true := by kernel_rfl
theorem zeroBoolK (w : World) : (zeroValue 4).run Try.prog w = .ok (.bool false) w := by kernel_rfl
def pKey (r v : Int) : Lit := .string (keyBytes [.int .i64 r, .int .i64 v])
theorem pKey_lit (r v : Int) : WideAt.IsKeyLit (pKey r v) := trivial
theorem cellsIntK : Try.prog.cellsOf 3 = 1 := by kernel_rfl

theorem rowSt : (132 : TypeId) < Try.prog.types.size := of_decide_eq_true (by kernel_rfl)
theorem wideSt : (match Try.prog.underlying 132 with | some (.array _ _) | some (.struct _) => true | _ => false) = true := by rw [Try.underlying132]
set_option maxRecDepth 1000000 in
theorem lawSt : WideMaps.KeyLaw Try.prog 132 := deep_law_laid laidOutK (m := 2) (by omega) rowSt (by kernel_rfl) wideSt
theorem keyedSt : Maps.Keyed Try.prog 132 := Maps.Keyed.of_law lawSt
theorem cellsSt : Try.prog.cellsOf 132 = 2 := by kernel_rfl
theorem keyLits_st (d : Nat) (r v : Int) (hr : (Lit.int .i64 r).wf = true) (hv : (Lit.int .i64 v).wf = true) : Try.prog.keyLits (d + 2) 132 [.int .i64 r, .int .i64 v] = some [.int .i64 r, .int .i64 v] := by
  simp [Program.keyLits, Try.underlying132, Try.underlying3, cellsSt, cellsIntK, hr, hv]
theorem keyOf_st (r v : Int) (hr : (Lit.int .i64 r).wf = true) (hv : (Lit.int .i64 v).wf = true) : keyOf Try.prog 132 (.agg #[.int .i64 r, .int .i64 v]) = some (pKey r v) := by
  have hs : ∃ d, Try.prog.types.size + 1 = d + 2 := ⟨Try.prog.types.size - 1, by have h : (132 : Nat) < Try.prog.types.size := rowSt; omega⟩
  obtain ⟨d, hs⟩ := hs
  have hk : Try.prog.keyType 132 = true := by kernel_rfl
  have hf : (Value.agg #[.int .i64 r, .int .i64 v]).formed Try.prog 132 = true := by simp [Value.formed, Try.underlying132, cellsSt]
  have hl := keyLits_st d r v hr hv
  unfold keyOf
  rw [Try.underlying132]
  simp only [hk, hf, Bool.and_self, if_true, hs]
  simp [Value.cells, hl, pKey]
theorem pKey_inj {r v r' v' : Int} (hr : (Lit.int .i64 r).wf = true) (hv : (Lit.int .i64 v).wf = true) (hr' : (Lit.int .i64 r').wf = true) (hv' : (Lit.int .i64 v').wf = true) (h : pKey r v = pKey r' v') : r = r' ∧ v = v' := by
  have := lawSt.inj (keyOf_st r v hr hv) (by rw [h]; exact keyOf_st r' v' hr' hv')
  simpa using this

theorem rowPr : (125 : TypeId) < Try.prog.types.size := of_decide_eq_true (by kernel_rfl)
theorem widePr : (match Try.prog.underlying 125 with | some (.array _ _) | some (.struct _) => true | _ => false) = true := by rw [Try.underlying125]
set_option maxRecDepth 1000000 in
theorem lawPr : WideMaps.KeyLaw Try.prog 125 := deep_law_laid laidOutK (m := 2) (by omega) rowPr (by kernel_rfl) widePr
theorem keyedPr : Maps.Keyed Try.prog 125 := Maps.Keyed.of_law lawPr
theorem cellsPr : Try.prog.cellsOf 125 = 2 := by kernel_rfl
theorem keyLits_pr (d : Nat) (r v : Int) (hr : (Lit.int .i64 r).wf = true) (hv : (Lit.int .i64 v).wf = true) : Try.prog.keyLits (d + 2) 125 [.int .i64 r, .int .i64 v] = some [.int .i64 r, .int .i64 v] := by
  simp only [Program.keyLits, Try.underlying125, cellsIntK]
  rw [show List.range 2 = [0, 1] from rfl]
  simp [Try.underlying3, cellsPr, hr, hv]
theorem keyOf_pr (r v : Int) (hr : (Lit.int .i64 r).wf = true) (hv : (Lit.int .i64 v).wf = true) : keyOf Try.prog 125 (.agg #[.int .i64 r, .int .i64 v]) = some (pKey r v) := by
  have hs : ∃ d, Try.prog.types.size + 1 = d + 2 := ⟨Try.prog.types.size - 1, by have h : (125 : Nat) < Try.prog.types.size := rowPr; omega⟩
  obtain ⟨d, hs⟩ := hs
  have hk : Try.prog.keyType 125 = true := by kernel_rfl
  have hf : (Value.agg #[.int .i64 r, .int .i64 v]).formed Try.prog 125 = true := by simp [Value.formed, Try.underlying125, cellsPr]
  have hl := keyLits_pr d r v hr hv
  unfold keyOf
  rw [Try.underlying125]
  simp only [hk, hf, Bool.and_self, if_true, hs]
  simp [Value.cells, hl, pKey]
end Go.Proofs.Ytcgbnlhloopnfaa
namespace Go.Proofs.Ytcgbnlhloopnfaa
open Go.RowKit

structure Rcd where
  evs : List Ev
  calls : List Ev
  opn : List Bool
def flCell (b : Bool) : List Value := [.bool b]
theorem flCell_one (b : Bool) : ∀ u ∈ flCell b, u.oneCell' = true := by
  intro u hu
  simp [flCell] at hu
  subst hu
  rfl
theorem elemBool : Elem Try.prog 93 4 1 1 := Elem.mk (z := .bool false) Try.underlying93 (by kernel_rfl) (by decide) rfl

theorem OwS.isSlice {w : World} {base size : Nat} {e : TypeId} {v : Value} {rows : List (List Value)} (h : OwS w base e size v rows) : ∃ A n c, v = .slice A n c := by
  obtain ⟨A, c, hv, -, -⟩ := h.form
  exact ⟨A, _, c, hv⟩
/-- nothing below a bound has turned, but for one block -/
structure BelR (base rb : Nat) (w w' : World) : Prop where
  os : w'.os = w.os
  tape : w'.tape = w.tape
  output : w'.output = w.output
  size : w.heap.size ≤ w'.heap.size
  block : ∀ k, k < base → k ≠ rb → w'.heap[k]? = w.heap[k]?
section
variable {base rb : Nat} {a w w' : World}
theorem BelR.refl (base rb : Nat) (w : World) : BelR base rb w w := ⟨rfl, rfl, rfl, Nat.le_refl _, fun _ _ _ => rfl⟩
theorem BelR.of {B : Nat} (h : Below B w w') (hB : base ≤ B) : BelR base rb w w' := ⟨h.os, h.tape, h.output, h.size, fun k hk _ => h.block k (by omega)⟩
theorem BelR.below (h : BelR base rb w w') (hr : base ≤ rb) : Below base w w' := ⟨h.os, h.tape, h.output, h.size, fun k hk => h.block k hk (by omega)⟩
theorem BelR.trans (h : BelR base rb a w) (h' : BelR base rb w w') : BelR base rb a w' :=
  ⟨h'.os.trans h.os, h'.tape.trans h.tape, h'.output.trans h.output, Nat.le_trans h.size h'.size, fun k hk hr => (h'.block k hk hr).trans (h.block k hk hr)⟩
theorem BelR.alloc (h : BelR base rb a w) (hB : base ≤ w.heap.size) (o : Obj) : BelR base rb a (w.alloc o) := h.trans (BelR.of ((Below.refl _ _).alloc (Nat.le_refl _) o) hB)
theorem BelR.drew (h : BelR base rb a w) : BelR base rb a w.drew := ⟨h.os, h.tape, h.output, h.size, h.block⟩
theorem BelR.drewN (h : BelR base rb a w) (n : Nat) : BelR base rb a (w.drewN n) := ⟨h.os, h.tape, h.output, h.size, h.block⟩
theorem BelR.grown {row : Option Nat} (h : BelR base rb a w) (hg : w.grownBy w' row) (hB : base ≤ w.heap.size) (hr : ∀ k, row = some k → base ≤ k) : BelR base rb a w' :=
  h.trans ⟨hg.os, hg.tape, hg.output, hg.size, fun k hk _ => hg.block k (by omega) (fun e => by have := hr k e.symm; omega)⟩
theorem BelR.setCell (h : BelR base rb a w) {p : Addr} (hp : base ≤ p.block ∨ p.block = rb) (u : Value) : BelR base rb a (w.setCell p u) :=
  h.trans ⟨rfl, rfl, rfl, by simp [World.setCell], fun k hk hr => Below.heap_setCell _ _ _ _ (by omega)⟩
end
/-- a recorder in memory -/
structure RecV (w : World) (base rb : Nat) (r : Rcd) (ve vc vo : Value) : Prop where
  blk : w.heap[rb]? = some (.cells #[ve, vc, vo] 112 (0, 0))
  evs : OwS w base 56 6 ve (r.evs.map Ev.cells)
  calls : OwS w base 56 6 vc (r.calls.map Ev.cells)
  opn : OwS w base 4 1 vo (r.opn.map flCell)
  apart : ve.ownBlock = none ∨ ve.ownBlock ≠ vc.ownBlock
def RecOk (w : World) (base rb : Nat) (r : Rcd) : Prop := ∃ ve vc vo, RecV w base rb r ve vc vo

section
variable {w w' : World} {base rb : Nat} {r : Rcd} {ve vc vo : Value}
theorem RecV.lt (h : RecV w base rb r ve vc vo) : rb < w.heap.size := (Array.getElem?_eq_some_iff.1 h.blk).1
theorem RecV.below (h : RecV w base rb r ve vc vo) (hb : Below w.heap.size w w') : RecV w' base rb r ve vc vo :=
  ⟨(hb.block _ h.lt).trans h.blk, h.evs.below hb, h.calls.below hb, h.opn.below hb, h.apart⟩
theorem RecOk.below (h : RecOk w base rb r) (hb : Below w.heap.size w w') : RecOk w' base rb r := by
  obtain ⟨ve, vc, vo, h⟩ := h
  exact ⟨ve, vc, vo, h.below hb⟩
theorem RecOk.lt (h : RecOk w base rb r) : rb < w.heap.size := by
  obtain ⟨ve, vc, vo, h⟩ := h
  exact h.lt
theorem RecV.cells (h : RecV w base rb r ve vc vo) : w.cell? ⟨rb, 0, none⟩ = some ve ∧ w.cell? ⟨rb, 1, none⟩ = some vc ∧ w.cell? ⟨rb, 2, none⟩ = some vo ∧ w.frozen? ⟨rb, 0, none⟩ = false ∧ w.frozen? ⟨rb, 1, none⟩ = false ∧ w.frozen? ⟨rb, 2, none⟩ = false := by
  refine ⟨?_, ?_, ?_, frozen_of_row _ _ _ _ _ h.blk, frozen_of_row _ _ _ _ _ h.blk, frozen_of_row _ _ _ _ _ h.blk⟩ <;> rw [cell_of_row _ _ _ _ _ _ h.blk] <;> rfl
end

theorem grow_alloc {w w3 : World} {o : Obj} {row : Option Nat} (h : (w.alloc o).grownBy w3 row) : w.grownBy w3 row :=
  ⟨h.os, h.tape, h.output, by have := h.size; simp at this; omega, fun k hk hne => (h.block k (by simp; omega) hne).trans (Below.heap_alloc _ _ _ hk)⟩
theorem grow_drew {w w3 : World} {row : Option Nat} (h : w.drew.grownBy w3 row) : w.grownBy w3 row := ⟨h.os, h.tape, h.output, h.size, h.block⟩
theorem grow_drewN {w w3 : World} {n : Nat} {row : Option Nat} (h : (w.drewN n).grownBy w3 row) : w.grownBy w3 row := ⟨h.os, h.tape, h.output, h.size, h.block⟩

section
variable {w w3 : World} {base rb : Nat} {r : Rcd} {ve vc vo v3 : Value}
theorem apart_symm {a b : Option Nat} (h : a = none ∨ a ≠ b) : b = none ∨ b ≠ a := by
  rcases h with rfl | h
  · cases b <;> simp
  · exact .inr fun e => h e.symm
theorem apart_new {a b v : Option Nat} {n : Nat} (h : a = none ∨ a ≠ b) (hb : ∀ k, b = some k → k < n) (hv : v = a ∨ ∃ k, v = some k ∧ n ≤ k) : v = none ∨ v ≠ b := by
  rcases hv with rfl | ⟨k, rfl, hk⟩
  · exact h
  · refine .inr fun e => ?_
    have := hb k e.symm
    omega
theorem RecV.blk0 (h : RecV w base rb r ve vc vo) (hg : w.grownBy w3 ve.ownBlock) : w3.heap[rb]? = some (.cells #[ve, vc, vo] 112 (0, 0)) :=
  (hg.block rb h.lt (fun e => h.evs.blk_ne h.blk (by decide) e.symm)).trans h.blk
theorem RecV.blk1 (h : RecV w base rb r ve vc vo) (hg : w.grownBy w3 vc.ownBlock) : w3.heap[rb]? = some (.cells #[ve, vc, vo] 112 (0, 0)) :=
  (hg.block rb h.lt (fun e => h.calls.blk_ne h.blk (by decide) e.symm)).trans h.blk
theorem RecV.blk2 (h : RecV w base rb r ve vc vo) (hg : w.grownBy w3 vo.ownBlock) : w3.heap[rb]? = some (.cells #[ve, vc, vo] 112 (0, 0)) :=
  (hg.block rb h.lt (fun e => h.opn.blk_ne h.blk (by decide) e.symm)).trans h.blk
theorem RecV.put0 (h : RecV w base rb r ve vc vo) (hg : w.grownBy w3 ve.ownBlock) {es : List Ev} (ho : OwS w3 base 56 6 v3 (es.map Ev.cells)) (hv : v3.ownBlock = ve.ownBlock ∨ ∃ k, v3.ownBlock = some k ∧ w.heap.size ≤ k) :
    RecV (w3.setCell ⟨rb, 0, none⟩ v3) base rb ⟨es, r.calls, r.opn⟩ v3 vc vo := by
  have hb := h.blk0 hg
  exact ⟨heap_setCell_same _ _ _ _ _ _ hb, ho.far (ho.blk_ne hb (by decide)) _, (h.calls.kept hg (apart_symm h.apart)).far (h.calls.blk_ne h.blk (by decide)) _, (h.opn.kept hg (h.opn.ne h.evs (by decide))).far (h.opn.blk_ne h.blk (by decide)) _,
    apart_new h.apart (fun k e => (h.calls.lt e).2) hv⟩
theorem RecV.put1 (h : RecV w base rb r ve vc vo) (hg : w.grownBy w3 vc.ownBlock) {es : List Ev} (ho : OwS w3 base 56 6 v3 (es.map Ev.cells)) (hv : v3.ownBlock = vc.ownBlock ∨ ∃ k, v3.ownBlock = some k ∧ w.heap.size ≤ k) :
    RecV (w3.setCell ⟨rb, 1, none⟩ v3) base rb ⟨r.evs, es, r.opn⟩ ve v3 vo := by
  have hb := h.blk1 hg
  exact ⟨heap_setCell_same _ _ _ _ _ _ hb, (h.evs.kept hg h.apart).far (h.evs.blk_ne h.blk (by decide)) _, ho.far (ho.blk_ne hb (by decide)) _, (h.opn.kept hg (h.opn.ne h.calls (by decide))).far (h.opn.blk_ne h.blk (by decide)) _,
    apart_symm (apart_new (apart_symm h.apart) (fun k e => (h.evs.lt e).2) hv)⟩
theorem RecV.put2 (h : RecV w base rb r ve vc vo) (hg : w.grownBy w3 vo.ownBlock) {os : List Bool} (ho : OwS w3 base 4 1 v3 (os.map flCell)) :
    RecV (w3.setCell ⟨rb, 2, none⟩ v3) base rb ⟨r.evs, r.calls, os⟩ ve vc v3 := by
  have hb := h.blk2 hg
  exact ⟨heap_setCell_same _ _ _ _ _ _ hb, (h.evs.kept hg (h.evs.ne h.opn (by decide))).far (h.evs.blk_ne h.blk (by decide)) _, (h.calls.kept hg (h.calls.ne h.opn (by decide))).far (h.calls.blk_ne h.blk (by decide)) _, ho.far (ho.blk_ne hb (by decide)) _, h.apart⟩
end

/-- New -/
theorem hnew_any (w : World) : Calls Try.prog 26 #[] w fun e w' => e = .returned (.pointer (some ⟨w.heap.size, 0, none⟩)) ∧ (∀ base, RecOk w' base w.heap.size ⟨[], [], []⟩) ∧ Below w.heap.size w w' := by
  go_enter Try.func26, Try.ntmps26
  go_wp2
  go_ret
  exact ⟨rfl, fun _ => ⟨.slice none 0 0, .slice none 0 0, .slice none 0 0, heap_alloc_new w _, OwS.nil _ _ _ _, OwS.nil _ _ _ _, OwS.nil _ _ _ _, .inl rfl⟩, (Below.refl _ _).alloc (Nat.le_refl _) _⟩

/-- what a call does -/
def recEv (r : Rcd) (e : Ev) : Ev := { e with kind := 1, op := r.calls.length }
def recCall (r : Rcd) (e : Ev) : Rcd := ⟨r.evs ++ [recEv r e], r.calls ++ [recEv r e], r.opn ++ [true]⟩
end Go.Proofs.Ytcgbnlhloopnfaa
namespace Go.Proofs.Ytcgbnlhloopnfaa
open Go.RowKit

/-- the block of the event that is recorded -/
def EvBlk (w : World) (g : Nat) (e : Ev) : Prop := w.heap[g]? = some (.cells e.cells.toArray 56 (0, 0))
theorem EvBlk.mk {w : World} (k o : Int) (wr : Bool) (r v : Int) (b : Bool) : EvBlk (w.alloc (.cells #[.int .i64 k, .int .i64 o, .bool wr, .int .i64 r, .int .i64 v, .bool b] 56)) w.heap.size ⟨k, o, wr, r, v, b⟩ := heap_alloc_new w _
theorem EvBlk.cells {w : World} {g : Nat} {e : Ev} (h : EvBlk w g e) : w.cell? ⟨g, 0, none⟩ = some (.int .i64 e.kind) ∧ w.cell? ⟨g, 1, none⟩ = some (.int .i64 e.op) ∧ w.cell? ⟨g, 2, none⟩ = some (.bool e.write) ∧ w.cell? ⟨g, 3, none⟩ = some (.int .i64 e.reg) ∧ w.cell? ⟨g, 4, none⟩ = some (.int .i64 e.val) ∧ w.cell? ⟨g, 5, none⟩ = some (.bool e.barrier) := by
  refine ⟨?_, ?_, ?_, ?_, ?_, ?_⟩ <;> rw [cell_of_row _ _ _ _ _ _ h] <;> rfl
theorem EvBlk.lt {w : World} {g : Nat} {e : Ev} (h : EvBlk w g e) : g < w.heap.size := (Array.getElem?_eq_some_iff.1 h).1

theorem EvBlk.kept {w w3 : World} {g : Nat} {e : Ev} (h : EvBlk w g e) {row : Option Nat} (hg : w.grownBy w3 row) (hne : ∀ k, row = some k → k < g) {rb i : Nat} (hr : rb ≠ g) (u : Value) : EvBlk (w3.setCell ⟨rb, i, none⟩ u) g e := by
  unfold EvBlk
  rw [heap_setCell_other _ _ _ _ (fun e => hr e.symm)]
  exact (hg.block g h.lt (fun e => by have := hne g e.symm; omega)).trans h
theorem below_put {B rb : Nat} {w0 w w3 : World} {row : Option Nat} (h : BelR B rb w0 w) (hg : w.grownBy w3 row) (hB : B ≤ w.heap.size) (hr : ∀ k, row = some k → B ≤ k) {i : Nat} (u : Value) : BelR B rb w0 (w3.setCell ⟨rb, i, none⟩ u) :=
  (h.grown hg hB hr).setCell (.inr rfl) u

set_option maxHeartbeats 4000000 in
set_option maxRecDepth 100000 in
theorem hcall_yes (e : Ev) (base rb : Nat) (r : Rcd) (w : World) (h : RecOk w base rb r) (hB : base ≤ w.heap.size) (hn : r.evs.length ≤ 100000) (hc : r.calls.length ≤ 100000) (ho : r.opn.length ≤ 100000) (h3 : 0 ≤ e.reg) (h4 : 0 ≤ e.val) :
    Calls Try.prog 59 #[.pointer (some ⟨rb, 0, none⟩), e.agg] w fun s w' => s = .returned (.int .i64 r.calls.length) ∧ RecOk w' base rb (recCall r e) ∧ BelR base rb w w' := by
  obtain ⟨ve, vc, vo, h⟩ := h
  have hlt := h.lt
  obtain ⟨c0, c1, c2, z0, z1, z2⟩ := h.cells
  obtain ⟨Ac, cc, hvc, -, -⟩ := h.calls.form
  rw [List.length_map] at hvc
  subst hvc
  have H := Lib.hid h
  clear h
  obtain ⟨ek, eo, ew, er, ev, eb⟩ := e
  simp only at h3 h4
  unfold Ev.agg
  have hne : rb ≠ w.heap.size := by omega
  go_enter Try.func59, Try.ntmps59
  go_upto_region 3 with (fail)
  go_cut [4] (fun s4 wx => s4 = .int .i64 0 ∧ RecV wx base rb r ve (.slice Ac r.calls.length cc) vo ∧ EvBlk wx w.heap.size ⟨1, r.calls.length, ew, er, ev, eb⟩ ∧ BelR base rb w wx)
  case first =>
    go_region
    all_goals
      go_wp2_with fail
      go_meet
      exact ⟨rfl, H.out.below ((Below.refl _ _).alloc (Nat.le_refl _) _).drew, EvBlk.mk _ _ _ _ _ _, ((BelR.refl _ _ _).alloc hB _).drew⟩
  case rest =>
    obtain ⟨rfl, H1, hE1, hb1⟩ := hcut
    have hsz1 := hE1.lt
    obtain ⟨c0, c1, c2, z0, z1, z2⟩ := H1.cells
    obtain ⟨e0, e1, e2, e3, e4, e5⟩ := hE1.cells
    simp only at e0 e1 e2 e3 e4 e5
    have HB1 := hb1.size
    have HB0 : base ≤ wc.heap.size := by omega
    have hlt1 := H1.lt
    go_upto_region 4 with (fail)
    go_cut [4] (fun s4 wx => s4 = .int .i64 0 ∧ (∃ A n c, RecV wx base rb ⟨r.evs ++ [⟨1, r.calls.length, ew, er, ev, eb⟩], r.calls, r.opn⟩ (.slice A n c) (.slice Ac r.calls.length cc) vo) ∧ EvBlk wx w.heap.size ⟨1, r.calls.length, ew, er, ev, eb⟩ ∧ BelR base rb w wx)
    case first =>
      go_region_law (refine step_ap1 (by rfl) (.tmp 28) (.tmp 30) _ (by rfl) elemEv (by rfl) (H1.evs.drewN 1) (Ev.cells ⟨1, (r.calls.length : Int), ew, er, ev, eb⟩) _ (by rfl) wc.heap.size (by rfl) (by simp) (Ev.one _) (by simp [maxLen]; omega) (by simp; omega) (by simp; omega) ?_; intro v3 w3 hown3 hg3 hv3; obtain ⟨A3, n3, c3, rfl⟩ := hown3.isSlice; have hg3' := grow_drewN (grow_alloc hg3); have hb3 := H1.blk0 hg3'; have d0 := (cell_of_row w3 rb 0 _ _ _ hb3).trans (show _ = some ve from rfl); have y0 := frozen_of_row w3 rb 0 _ _ hb3)
      all_goals
        go_wp2_with fail
        go_meet
        exact ⟨rfl, ⟨A3, n3, c3, H1.put0 hg3' (by simpa using hown3) (hv3.imp id fun h => ⟨_, h, by simp⟩)⟩, hE1.kept hg3' (fun k h => (H.out.evs.lt h).2) hne _, below_put hb1 hg3' HB0 (fun k h => (H1.evs.lt h).1) _⟩
    case rest =>
      obtain ⟨rfl, ⟨A1, n1, k1, H2⟩, hE2, hb2⟩ := hcut
      have hsz2 := hE2.lt
      obtain ⟨c0, c1, c2, z0, z1, z2⟩ := H2.cells
      obtain ⟨e0, e1, e2, e3, e4, e5⟩ := hE2.cells
      simp only at e0 e1 e2 e3 e4 e5
      have HB2 : base ≤ wc.heap.size := by omega
      have hlt2 := H2.lt
      clear H1 hE1 hb1 HB0 HB1 hlt1 hsz1
      go_upto_region 5 with (fail)
      go_cut [4] (fun s4 wx => s4 = .int .i64 0 ∧ (∃ A n c, RecV wx base rb ⟨r.evs ++ [⟨1, r.calls.length, ew, er, ev, eb⟩], r.calls ++ [⟨1, r.calls.length, ew, er, ev, eb⟩], r.opn⟩ (.slice A1 n1 k1) (.slice A n c) vo) ∧ EvBlk wx w.heap.size ⟨1, r.calls.length, ew, er, ev, eb⟩ ∧ BelR base rb w wx)
      case first =>
        go_region_law (refine step_ap1 (by rfl) (.tmp 38) (.tmp 40) _ (by rfl) elemEv (by rfl) (H2.calls.drewN 1) (Ev.cells ⟨1, (r.calls.length : Int), ew, er, ev, eb⟩) _ (by rfl) wc.heap.size (by rfl) (by simp) (Ev.one _) (by simp [maxLen]; omega) (by simp; omega) (by simp; omega) ?_; intro v3 w3 hown3 hg3 hv3; obtain ⟨A3, n3, c3, rfl⟩ := hown3.isSlice; have hg3' := grow_drewN (grow_alloc hg3); have hb3 := H2.blk1 hg3'; have d0 := (cell_of_row w3 rb 1 _ _ _ hb3).trans (show _ = some (.slice Ac r.calls.length cc) from rfl); have y0 := frozen_of_row w3 rb 1 _ _ hb3)
        all_goals
          go_wp2_with fail
          go_meet
          exact ⟨rfl, ⟨A3, n3, c3, H2.put1 hg3' (by simpa using hown3) (hv3.imp id fun h => ⟨_, h, by simp⟩)⟩, hE2.kept hg3' (fun k h => (H.out.calls.lt h).2) hne _, below_put hb2 hg3' HB2 (fun k h => (H2.calls.lt h).1) _⟩
      case rest =>
        obtain ⟨rfl, ⟨A2, n2, k2, H3⟩, hE3, hb3⟩ := hcut
        have hsz3 := hE3.lt
        obtain ⟨c0, c1, c2, z0, z1, z2⟩ := H3.cells
        have HB3 : base ≤ wc.heap.size := by omega
        have hlt3 := H3.lt
        clear H2 hE2 hb2 HB2 hlt2 hsz2
        go_wp2_with (at_builtin; refine wpList_ap1 rfl (.tmp 48) (.tmp 49) _ rfl elemBool rfl H3.opn (flCell true) _ rfl _ rfl (by simp) (flCell_one _) (by simp [maxLen]; omega) (by simp; omega) HB3 ?_)
        intro v3 w3 hown3 hg3 hv3
        obtain ⟨A3, n3, c3, rfl⟩ := hown3.isSlice
        have hg3' := grow_alloc hg3
        have hbk := H3.blk2 hg3'
        have d2 := (cell_of_row w3 rb 2 _ _ _ hbk).trans (show _ = some vo from rfl)
        have y2 := frozen_of_row w3 rb 2 _ _ hbk
        have HF := Lib.hid (H3.put2 hg3' (show OwS w3 base 4 1 _ ((r.opn ++ [true]).map flCell) by simpa using hown3))
        have HBF := Lib.hid (below_put (i := 2) (rb := rb) hb3 hg3' HB3 (fun k h => (H3.opn.lt h).1) (.slice A3 n3 c3))
        have g1 : w3.cell? ⟨w.heap.size, 1, none⟩ = some (.int .i64 r.calls.length) := by
          have hx : w3.heap[w.heap.size]? = wc.heap[w.heap.size]? := hg3'.block _ hsz3 (fun e => H3.opn.blk_ne hE3 (by decide) e.symm)
          rw [cell_of_row _ _ _ _ _ _ (hx.trans hE3)]
          rfl
        clear hown3 hg3 hg3' hbk hv3
        go_wp2
        go_ret
        exact ⟨rfl, ⟨_, _, _, HF.out⟩, HBF.out⟩

set_option maxHeartbeats 1000000 in
theorem hcall_no (e : Ev) (rb : Nat) (w : World) (h : e.reg < 0 ∨ e.val < 0) :
    Calls Try.prog 59 #[.pointer (some ⟨rb, 0, none⟩), e.agg] w fun s w' => s = .returned (.int .i64 (-1)) ∧ Below w.heap.size w w' := by
  obtain ⟨ek, eo, ew, er, ev, eb⟩ := e
  simp only at h
  unfold Ev.agg
  by_cases h1 : er < 0
  · go_enter Try.func59, Try.ntmps59
    go_wp2
    go_ret
    exact ⟨rfl, (Below.refl _ _).alloc (Nat.le_refl _) _⟩
  · have h2 : ev < 0 := by omega
    go_enter Try.func59, Try.ntmps59
    go_wp2
    go_ret
    exact ⟨rfl, (Below.refl _ _).alloc (Nat.le_refl _) _⟩
set_option maxHeartbeats 1000000 in
theorem hcall_nil (e : Ev) (w : World) :
    Calls Try.prog 59 #[.pointer none, e.agg] w fun s w' => s = .returned (.int .i64 (-1)) ∧ Below w.heap.size w w' := by
  obtain ⟨ek, eo, ew, er, ev, eb⟩ := e
  unfold Ev.agg
  go_enter Try.func59, Try.ntmps59
  go_wp2
  go_ret
  exact ⟨rfl, (Below.refl _ _).alloc (Nat.le_refl _) _⟩
end Go.Proofs.Ytcgbnlhloopnfaa
namespace Go.Proofs.Ytcgbnlhloopnfaa
open Go.RowKit

/-- what a call answers and leaves -/
def recCallN (r : Rcd) (e : Ev) : Int × Rcd := if e.reg < 0 ∨ e.val < 0 then (-1, r) else ((r.calls.length : Int), recCall r e)
def RecPost (base rb : Nat) (w : World) (p : Int × Rcd) (s : Ending) (w' : World) : Prop := s = .returned (.int .i64 p.1) ∧ RecOk w' base rb p.2 ∧ BelR base rb w w'
def RcdLe (r : Rcd) (n : Nat) : Prop := r.evs.length ≤ n ∧ r.calls.length ≤ n ∧ r.opn.length = r.calls.length

theorem hcall_any (e : Ev) (base rb : Nat) (r : Rcd) (w : World) (h : RecOk w base rb r) (hB : base ≤ w.heap.size) (hn : RcdLe r 100000) :
    Calls Try.prog 59 #[.pointer (some ⟨rb, 0, none⟩), e.agg] w (RecPost base rb w (recCallN r e)) := by
  by_cases h0 : e.reg < 0 ∨ e.val < 0
  · refine (hcall_no e rb w h0).mono ?_
    rintro s w' ⟨rfl, hb⟩
    unfold RecPost recCallN
    rw [if_pos h0]
    exact ⟨rfl, h.below hb, BelR.of hb hB⟩
  · refine (hcall_yes e base rb r w h hB hn.1 hn.2.1 (by rw [hn.2.2]; exact hn.2.1) (by omega) (by omega)).mono ?_
    rintro s w' ⟨rfl, hr, hb⟩
    unfold RecPost recCallN
    rw [if_neg h0]
    exact ⟨rfl, hr, hb⟩

set_option maxHeartbeats 1000000 in
theorem hread_any (reg : Int) (base rb : Nat) (r : Rcd) (w : World) (h : RecOk w base rb r) (hB : base ≤ w.heap.size) (hn : RcdLe r 100000) :
    Calls Try.prog 28 #[.pointer (some ⟨rb, 0, none⟩), .int .i64 reg] w (RecPost base rb w (recCallN r ⟨0, 0, false, reg, 0, false⟩)) := by
  have HC := Lib.hid (hcall_any ⟨0, 0, false, reg, 0, false⟩ base rb r w h hB hn)
  clear h
  go_enter Try.func28, Try.ntmps28
  go_wp2_with fail
  refine HC.out.mono ?_
  rintro s w1 ⟨rfl, hr, hb1⟩
  go_wp2
  go_ret
  exact ⟨rfl, hr, hb1⟩
set_option maxHeartbeats 1000000 in
theorem hwrite_any (reg val : Int) (force : Bool) (base rb : Nat) (r : Rcd) (w : World) (h : RecOk w base rb r) (hB : base ≤ w.heap.size) (hn : RcdLe r 100000) :
    Calls Try.prog 27 #[.pointer (some ⟨rb, 0, none⟩), .int .i64 reg, .int .i64 val, .bool force] w (RecPost base rb w (recCallN r ⟨0, 0, true, reg, val, force⟩)) := by
  have HC := Lib.hid (hcall_any ⟨0, 0, true, reg, val, force⟩ base rb r w h hB hn)
  clear h
  go_enter Try.func27, Try.ntmps27
  go_wp2_with fail
  refine HC.out.mono ?_
  rintro s w1 ⟨rfl, hr, hb1⟩
  go_wp2
  go_ret
  exact ⟨rfl, hr, hb1⟩
set_option maxHeartbeats 1000000 in
theorem hflush_any (base rb : Nat) (r : Rcd) (w : World) (h : RecOk w base rb r) (hB : base ≤ w.heap.size) (hn : RcdLe r 100000) :
    Calls Try.prog 30 #[.pointer (some ⟨rb, 0, none⟩)] w (RecPost base rb w (recCallN r ⟨0, 0, false, 0, 0, true⟩)) := by
  have HC := Lib.hid (hcall_any ⟨0, 0, false, 0, 0, true⟩ base rb r w h hB hn)
  clear h
  go_enter Try.func30, Try.ntmps30
  go_wp2_with fail
  refine HC.out.mono ?_
  rintro s w1 ⟨rfl, hr, hb1⟩
  go_wp2
  go_ret
  exact ⟨rfl, hr, hb1⟩

/-- the methods of a nil recorder -/
def NilPost (w : World) (x : Int) (s : Ending) (w' : World) : Prop := s = .returned (.int .i64 x) ∧ Below w.heap.size w w'
set_option maxHeartbeats 1000000 in
theorem hread_nil (reg : Int) (w : World) : Calls Try.prog 28 #[.pointer none, .int .i64 reg] w (NilPost w (-1)) := by
  have HC := Lib.hid (hcall_nil ⟨0, 0, false, reg, 0, false⟩ w)
  go_enter Try.func28, Try.ntmps28
  go_wp2_with fail
  refine HC.out.mono ?_
  rintro s w1 ⟨rfl, hb1⟩
  go_wp2
  go_ret
  exact ⟨rfl, hb1⟩
set_option maxHeartbeats 1000000 in
theorem hwrite_nil (reg val : Int) (force : Bool) (w : World) : Calls Try.prog 27 #[.pointer none, .int .i64 reg, .int .i64 val, .bool force] w (NilPost w (-1)) := by
  have HC := Lib.hid (hcall_nil ⟨0, 0, true, reg, val, force⟩ w)
  go_enter Try.func27, Try.ntmps27
  go_wp2_with fail
  refine HC.out.mono ?_
  rintro s w1 ⟨rfl, hb1⟩
  go_wp2
  go_ret
  exact ⟨rfl, hb1⟩
set_option maxHeartbeats 1000000 in
theorem hflush_nil (w : World) : Calls Try.prog 30 #[.pointer none] w (NilPost w (-1)) := by
  have HC := Lib.hid (hcall_nil ⟨0, 0, false, 0, 0, true⟩ w)
  go_enter Try.func30, Try.ntmps30
  go_wp2_with fail
  refine HC.out.mono ?_
  rintro s w1 ⟨rfl, hb1⟩
  go_wp2
  go_ret
  exact ⟨rfl, hb1⟩
set_option maxHeartbeats 1000000 in
theorem hdone_nil (op val : Int) (w : World) : Calls Try.prog 29 #[.pointer none, .int .i64 op, .int .i64 val] w (NilPost w 8) := by
  go_enter Try.func29, Try.ntmps29
  go_wp2
  go_ret
  exact ⟨rfl, Below.refl _ _⟩
set_option maxHeartbeats 1000000 in
theorem hcut_nil (w : World) : Calls Try.prog 31 #[.pointer none] w fun s w' => s = .returned (.tuple #[]) ∧ Below w.heap.size w w' := by
  go_enter Try.func31, Try.ntmps31
  go_wp2
  exact bodyPost_ret (results_none rfl _ _ _) rfl ⟨rfl, Below.refl _ _⟩
set_option maxHeartbeats 1000000 in
theorem hevents_nil (w : World) : Calls Try.prog 32 #[.pointer none] w fun s w' => s = .returned (.slice none 0 0) ∧ Below w.heap.size w w' := by
  go_enter Try.func32, Try.ntmps32
  go_wp2
  go_ret
  exact ⟨rfl, Below.refl _ _⟩

/-- Clone, Events -/
theorem OwS.cases {w : World} {base size : Nat} {e : TypeId} {v : Value} {rows : List (List Value)} (h : OwS w base e size v rows) : (v = .slice none 0 0 ∧ rows = []) ∨ ∃ g c, v = .slice (some ⟨g, 0, none⟩) rows.length c ∧ base ≤ g ∧ g < w.heap.size := by
  rcases h.2.2 with ⟨hv, h0⟩ | ⟨g, cap, cur, hv, hb, hh, _⟩
  · exact .inl ⟨hv, List.eq_nil_of_length_eq_zero h0⟩
  · exact .inr ⟨g, cap, hv, hb, (Array.getElem?_eq_some_iff.1 hh).1⟩
set_option maxHeartbeats 1000000 in
set_option maxRecDepth 100000 in
theorem clone_any (l : List Ev) (v : Value) (base : Nat) (w : World) (h : OwS w base 56 6 v (l.map Ev.cells)) (hn : l.length ≤ 100000) :
    Calls Try.prog 34 #[v] w (LayE w l) := by
  rcases h.cases with ⟨rfl, h0⟩ | ⟨g, c, rfl, hg, hgl⟩
  · have hl : l = [] := by cases l with | nil => rfl | cons => simp at h0
    subst hl
    clear h h0
    have he : ∀ w : World, (binOp .eql 22 (.slice none 0 0) (.slice none 0 0)).run Try.prog w = .ok (.bool true) w := fun _ => rfl
    go_enter Try.func34, Try.ntmps34
    go_wp2
    go_ret
    exact ⟨_, rfl, OwS.nil _ _ _ _, Below.refl _ _⟩
  · have H := Lib.hid h.reads
    rw [List.length_map]
    clear h
    have he : ∀ w : World, (binOp .eql 22 (.slice (some ⟨g, 0, none⟩) l.length c) (.slice none 0 0)).run Try.prog w = .ok (.bool false) w := fun _ => rfl
    go_enter Try.func34, Try.ntmps34
    have hz : OwS (w.alloc (.cells #[] 56)) w.heap.size 56 6 (.slice (some ⟨w.heap.size, 0, none⟩) 0 0) [] := OwS.lit (by simp) (heap_alloc_new w _) rfl rfl (by decide) (Nat.le_refl _)
    have hrr : EvS (w.alloc (.cells #[] 56)) w.heap.size (some ⟨g, 0, none⟩) l := H.out.below below_laid
    go_wp2_with (at_builtin; refine wpList_apS rfl (.tmp 5) (.tmp 6) _ rfl elemEv rfl hz w.heap.size _ _ c (l.map Ev.cells) rfl hrr (by simp) OwS.oneEv (by simp [maxLen]; omega) (by simp; omega) (by simp) ?_)
    intro v3 w3 hown3 hg3 _
    have hb3 : Below w.heap.size w w3 := ((Below.refl w.heap.size w).alloc (Nat.le_refl _) _).grown hg3 (by simp) (fun k h => (hz.lt h).1)
    clear hg3 hz
    go_wp2
    go_ret
    exact ⟨_, rfl, by simpa using hown3, hb3⟩

set_option maxHeartbeats 1000000 in
theorem hevents_any (base rb : Nat) (r : Rcd) (w : World) (h : RecOk w base rb r) (hn : r.evs.length ≤ 100000) :
    Calls Try.prog 32 #[.pointer (some ⟨rb, 0, none⟩)] w (LayE w r.evs) := by
  obtain ⟨ve, vc, vo, h⟩ := h
  have hlt := h.lt
  obtain ⟨c0, -, -, -, -, -⟩ := h.cells
  have HC := Lib.hid (clone_any r.evs ve base w h.evs hn)
  clear h
  go_enter Try.func32, Try.ntmps32
  go_wp2_with fail
  refine HC.out.mono ?_
  rintro s w1 ⟨v, rfl, hown, hb⟩
  go_wp2
  go_ret
  exact ⟨_, rfl, hown, hb⟩

/-- a cut -/
def recCut (r : Rcd) : Rcd := ⟨r.evs ++ [Ev.cut], r.calls, r.opn.map fun _ => false⟩
def offTo (l : List Bool) (k : Nat) : List Bool := (l.take k).map (fun _ => false) ++ l.drop k
theorem offTo_len (l : List Bool) (k : Nat) : (offTo l k).length = l.length := by simp [offTo]; omega
theorem offTo_zero (l : List Bool) : offTo l 0 = l := by simp [offTo]
theorem offTo_all (l : List Bool) : offTo l l.length = l.map fun _ => false := by simp [offTo]
theorem offTo_succ {l : List Bool} {k : Nat} (h : k < l.length) : offTo l (k + 1) = (offTo l k).set k false := by
  unfold offTo
  rw [List.set_append_right _ _ (by simp; omega)]
  rw [List.take_add_one, List.getElem?_eq_getElem h, List.drop_eq_getElem_cons h, List.length_map, List.length_take, Nat.min_eq_left (Nat.le_of_lt h), Nat.sub_self, List.set_cons_zero, Option.toList_some, List.map_append, List.append_assoc]
  rfl
theorem RecV.flip {w : World} {base rb g n c : Nat} {r : Rcd} {ve vc : Value} (h : RecV w base rb r ve vc (.slice (some ⟨g, 0, none⟩) n c)) {k : Nat} (hk : k < r.opn.length) (b : Bool) :
    RecV (w.setCell ⟨g, k, none⟩ (.bool b)) base rb ⟨r.evs, r.calls, r.opn.set k b⟩ ve vc (.slice (some ⟨g, 0, none⟩) n c) := by
  have hr : (r.opn.map flCell)[k]? = some (flCell r.opn[k]) := by rw [List.getElem?_map, List.getElem?_eq_getElem hk]; rfl
  have hs := (h.opn.set hr (j := 0) (by decide) (.bool b)).1
  have e : (r.opn.map flCell).set k ((flCell r.opn[k]).set 0 (.bool b)) = (r.opn.set k b).map flCell := by rw [List.map_set]; rfl
  rw [e, Nat.mul_one, Nat.add_zero] at hs
  have hgr : g ≠ rb := fun e => h.opn.blk_ne h.blk (by decide) (by rw [e]; rfl)
  refine ⟨?_, h.evs.far ?_ _, h.calls.far ?_ _, hs, h.apart⟩
  · rw [heap_setCell_other _ _ _ _ (fun e => hgr e.symm)]; exact h.blk
  · rcases h.evs.ne h.opn (by decide) with h1 | h1
    · rw [h1]; simp
    · exact h1
  · rcases h.calls.ne h.opn (by decide) with h1 | h1
    · rw [h1]; simp
    · exact h1
theorem RecV.opn_cell {w : World} {base rb : Nat} {r : Rcd} {ve vc vo : Value} (h : RecV w base rb r ve vc vo) {k : Nat} (hk : k < r.opn.length) :
    ∃ g c, vo = .slice (some ⟨g, 0, none⟩) r.opn.length c ∧ base ≤ g ∧ g < w.heap.size ∧ w.cell? ⟨g, k, none⟩ = some (.bool r.opn[k]) ∧ w.frozen? ⟨g, k, none⟩ = false ∧ g ≠ rb := by
  obtain ⟨g, c, hv, hg, hgl⟩ := h.opn.pos (by rw [List.length_map]; omega)
  rw [List.length_map] at hv
  subst hv
  have hr : (r.opn.map flCell)[k]? = some (flCell r.opn[k]) := by rw [List.getElem?_map, List.getElem?_eq_getElem hk]; rfl
  have h1 := h.opn.cell hr (j := 0) rfl
  rw [Nat.mul_one, Nat.add_zero] at h1
  exact ⟨g, c, rfl, hg, hgl, h1, h.opn.frozen k, fun e => h.opn.blk_ne h.blk (by decide) (by rw [e]; rfl)⟩

set_option maxHeartbeats 2000000 in
set_option maxRecDepth 100000 in
theorem hcut_any (base rb : Nat) (r : Rcd) (w : World) (h : RecOk w base rb r) (hB : base ≤ w.heap.size) (hn : RcdLe r 100000) :
    Calls Try.prog 31 #[.pointer (some ⟨rb, 0, none⟩)] w fun s w' => s = .returned (.tuple #[]) ∧ RecOk w' base rb (recCut r) ∧ BelR base rb w w' := by
  obtain ⟨ve, vc, vo, h⟩ := h
  have hlt := h.lt
  obtain ⟨c0, c1, c2, z0, z1, z2⟩ := h.cells
  obtain ⟨Ao, co, hvo, -, -⟩ := h.opn.form
  rw [List.length_map] at hvo
  subst hvo
  have H := Lib.hid h
  have hon : r.opn.length ≤ 100000 := by have := hn.2.1; have := hn.2.2; omega
  have hen := hn.1
  clear h hn
  go_enter Try.func31, Try.ntmps31
  go_wp2_with (at_builtin; refine wpList_ap1 rfl (.tmp 9) (.tmp 11) _ rfl elemEv rfl H.out.evs Ev.cut.cells _ rfl _ rfl (by simp) (Ev.one _) (by simp [maxLen]; omega) (by simp; omega) hB ?_)
  intro v3 w3 hown3 hg3 hv3
  obtain ⟨A3, n3, c3, rfl⟩ := hown3.isSlice
  have hg3' := grow_alloc hg3
  have hbk := H.out.blk0 hg3'
  have d0 := (cell_of_row w3 rb 0 _ _ _ hbk).trans (show _ = some ve from rfl)
  have d2 := (cell_of_row w3 rb 2 _ _ _ hbk).trans (show _ = some (.slice Ao r.opn.length co) from rfl)
  have y0 := frozen_of_row w3 rb 0 _ _ hbk
  have HF := Lib.hid (H.out.put0 hg3' (show OwS w3 base 56 6 _ ((r.evs ++ [Ev.cut]).map Ev.cells) by simpa using hown3) (hv3.imp id fun h => ⟨_, h, by simp⟩))
  have HBF := Lib.hid (below_put (i := 0) (rb := rb) (BelR.refl base rb w) hg3' hB (fun k h => (H.out.evs.lt h).1) (.slice A3 n3 c3))
  clear hown3 hg3 hg3' hbk hv3
  go_wp2
  go_loopw [20] (fun i wr => ∃ k : Nat, k ≤ r.opn.length ∧ i = .int .i64 k ∧ RecV wr base rb ⟨r.evs ++ [Ev.cut], r.calls, offTo r.opn k⟩ (.slice A3 n3 c3) vc (.slice Ao r.opn.length co) ∧ BelR base rb w wr) (fun i _ => r.opn.length - (intOf i).toNat)
  case atStart => exact ⟨0, by omega, rfl, by rw [offTo_zero]; exact HF.out, HBF.out⟩
  case round =>
    obtain ⟨k, hk, rfl, hr, hb⟩ := hrel
    by_cases hk2 : k < r.opn.length
    · have HOL := Lib.hid (offTo_len r.opn k)
      obtain ⟨g, c, hv, hg, hgl, gc, gz, hgr⟩ := hr.opn_cell (k := k) (by simp only; rw [HOL.out]; exact hk2)
      injection hv with hv1 hv2 hv3
      subst hv1
      clear hv2 hv3
      have hrl := hr.lt
      obtain ⟨-, -, d2, -, -, -⟩ := hr.cells
      have HN := Lib.hid (hr.flip (k := k) (by simp only; rw [HOL.out]; exact hk2) false)
      have HS := Lib.hid (offTo_succ hk2)
      have hki : (k : Int) < (r.opn.length : Int) := by omega
      have hki0 : (0 : Int) ≤ (k : Int) := by omega
      clear hr
      go_wp2
      go_roundw
      case rel => exact ⟨k + 1, by omega, by go_num, by rw [HS.out]; exact HN.out, hb.setCell (.inl (show base ≤ g from hg)) _⟩
      case measure => simp [intOf]; omega
    · obtain rfl : k = r.opn.length := by omega
      rw [offTo_all] at hr
      go_wp2
      go_end0
      exact ⟨rfl, ⟨_, _, _, hr⟩, hb⟩
end Go.Proofs.Ytcgbnlhloopnfaa
