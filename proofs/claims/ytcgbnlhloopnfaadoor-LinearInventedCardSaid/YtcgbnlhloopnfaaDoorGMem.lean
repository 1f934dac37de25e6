/- Laws on slices of rows: append, store, separation. Nothing of the program is walked here.
Maps of the call's own, by what they answer: pointers and bools as elements. Nothing of the program is walked here.
A region that draws its order: a head that only reads and calls (the callees may make memory), then a tail in one order. The ordering lemmas are the kit's (StillTail, Quiet); the class of worlds is 'below'.
append as one step of a region that draws its order.
What a call that lays a list of events answers; slices that a literal lays. Nothing of the program is walked here.
Frames over which some blocks may turn: the blocks of a list, and all rows of one element type. Nothing of the program is walked here.
Maps of bools whose keys lie on a list; keys that are pairs of ints: linear's state, and [2]int. No function of the program is walked here.
The recorder of histories: what it holds, and the walks of New, call, Read, Write, Flush, Done, Cut, Events.
Walk of the recorder's call.
Walks of the recorder's Read, Write, Flush, Done, Cut, Events.
Bytes as small numbers: their range, their conversion to int, the range of small ints.
An argument that is a list of events, opened (without the texts of durable). -/
import Derived.Test.YtcgbnlhloopnfaaDoorGPln
import Derived.Maps.AppendAt
import Derived.StillTail
import Derived.Maps.Own
import Derived.Maps.OwnOps
import Derived.Maps.OwnSet
import Derived.Lib.QuietBelow
import Derived.Deep.RegionLaw
import Derived.DeepKeys4
import Derived.Outline
import Derived.RegionTactic
import Derived.BigRegion
import Derived.BigQuiet
import Derived.Deep.DeepCutAuto
import Derived.DataShut
import Derived.Deep.Slices
import Derived.Deep.Fields
import Derived.ChangeSame
namespace Go.Proofs.YtcgbnlhloopnfaaDoor
open Go.RowKit

/-- What is asked of a slice type and its element type. -/
def Elem (P : Program) (t e : TypeId) (size bytes : Nat) : Prop :=
  P.underlying t = some (.slice e) ∧ 0 < size ∧ ∃ i z, P.info? e = some i ∧ i.zero = some z ∧ i.size = size ∧ i.bytes = bytes ∧ z.cells.size = size
theorem Elem.mk {P : Program} {t e : TypeId} {size bytes : Nat} {z : Value} (ht : P.underlying t = some (.slice e)) (h : (P.info? e).map (fun i => (i.zero, i.size, i.bytes)) = some (some z, size, bytes)) (hs : 0 < size) (hz : z.cells.size = size) : Elem P t e size bytes := by
  obtain ⟨i, hi, h1, h2, h3⟩ := info_parts h
  exact ⟨ht, hs, i, z, hi, h1, h2, h3, hz⟩

section
variable {P : Program} {w w' : World} {base size bytes : Nat} {t e : TypeId} {v : Value} {rows : List (List Value)}

theorem OwS.lt (h : OwS w base e size v rows) {k : Nat} (hk : v.ownBlock = some k) : base ≤ k ∧ k < w.heap.size := h.2.lt k hk
theorem OwS.ne {base' : Nat} {e' : TypeId} {size' : Nat} {v' : Value} {rows' : List (List Value)} (h : OwS w base e size v rows) (h' : OwS w base' e' size' v' rows') (hne : e ≠ e') : v.ownBlock = none ∨ v.ownBlock ≠ v'.ownBlock := by
  rcases h.2.2 with ⟨rfl, _⟩ | ⟨g, cap, cur, rfl, _, hg, _⟩
  · exact .inl rfl
  · rcases h'.2.2 with ⟨rfl, _⟩ | ⟨g', cap', cur', rfl, _, hg', _⟩
    · right; simp [Value.ownBlock]
    · right
      simp only [Value.ownBlock]
      rintro hgg
      injection hgg with hgg
      subst hgg
      rw [hg] at hg'
      injection hg' with hg'
      injection hg' with _ he
      exact hne he

theorem OwS.pos (h : OwS w base e size v rows) (hn : 0 < rows.length) : ∃ g cap, v = .slice (some ⟨g, 0, none⟩) rows.length cap ∧ base ≤ g ∧ g < w.heap.size := by
  rcases h.2.2 with ⟨_, h0⟩ | ⟨g, cap, cur, hv, hb, hh, _⟩
  · omega
  · exact ⟨g, cap, hv, hb, (Array.getElem?_eq_some_iff.1 hh).1⟩
theorem OwS.drewN (h : OwS w base e size v rows) (n : Nat) : OwS (w.drewN n) base e size v rows := h
theorem OwS.drew (h : OwS w base e size v rows) : OwS w.drew base e size v rows := h
theorem OwS.blk_ne {g : Nat} {cs : Array Value} {t : TypeId} {fr : Nat × Nat} (h : OwS w base e size v rows) (hb : w.heap[g]? = some (.cells cs t fr)) (hne : e ≠ t) : v.ownBlock ≠ some g := by
  rcases h.2.2 with ⟨rfl, _⟩ | ⟨g', cap, cur, rfl, _, hg, _⟩
  · simp [Value.ownBlock]
  · simp only [Value.ownBlock]
    rintro hgg
    injection hgg with hgg
    subst hgg
    rw [hg] at hb
    injection hb with hb
    injection hb with _ he
    exact hne he

theorem OwS.mono {base' : Nat} (h : OwS w base e size v rows) (hb : base' ≤ base) : OwS w base' e size v rows := by
  refine ⟨h.1, h.2.1, ?_⟩
  rcases h.2.2 with h0 | ⟨g, cap, cur, hv, hg, r⟩
  · exact .inl h0
  · exact .inr ⟨g, cap, cur, hv, by omega, r⟩

/-- append of a slice that reads as rows -/
theorem wpList_apS {ops : Array Oper} {rest : List Oper} {o : Oper} {a : Act} {Q : Exit → Act → World → Prop} (hgd : o.guard = none) (s x : Operand) (t : TypeId)
    (ho : o.op = .call { callee := .builtin .append, args := #[s, x], argTypes := #[t, t] }) (E : Elem P t e size bytes)
    (hs : a.eval s = v) (hown : OwS w base e size v rows) (B : Nat) (A : Option Addr) (m c : Nat) (news : List (List Value)) (hx : a.eval x = .slice A m c) (hr : RdS w B size A news) (hm : m = news.length)
    (h1 : ∀ r ∈ news, ∀ u ∈ r, u.oneCell' = true) (h63 : rows.length + news.length ≤ maxLen) (hbytes : (rows.length + news.length) * bytes ≤ 140737488355328) (hbase : base ≤ w.heap.size)
    (h : ∀ v' w', OwS w' base e size v' (rows ++ news) → w.grownBy w' v.ownBlock → (v'.ownBlock = v.ownBlock ∨ v'.ownBlock = some w.heap.size) → wpList P ops Q rest (a.put o.dst v') w') : wpList P ops Q (o :: rest) a w := by
  obtain ⟨ht, hsz, i, z, hi, hz, hsize, hby, hzs⟩ := E
  have hone : ∀ u ∈ news.flatten, u.oneCell' = true := by
    intro u hu
    obtain ⟨r, hr, hu⟩ := List.mem_flatten.1 hu
    exact h1 r hr u hu
  have hfl : news.flatten.length = news.length * size := flatten_length hr.1
  have hall : ∀ r ∈ rows ++ news, r.length = size := by
    intro r hrr
    rcases List.mem_append.1 hrr with hrr | hrr
    · exact hown.1 r hrr
    · exact hr.1 r hrr
  by_cases h0 : news.length = 0
  · have hn : news = [] := List.eq_nil_of_length_eq_zero h0
    subst hn
    simp only [List.length_nil] at hm
    subst hm
    have hrun : (Builtin.append_ #[t, t] o.type #[v, .slice A 0 c]).run P w = .ok v w := by
      rcases A with _ | ad
      · rcases hown.2.2 with ⟨rfl, _⟩ | ⟨g, cap, cur, rfl, _, _, hnc, _⟩
        · simp [Builtin.append_, run_underlying ht, sizeOf, typeInfo, hi, Builtin.lenOf, Builtin.firstCells]
        · simp [Builtin.append_, run_underlying ht, sizeOf, typeInfo, hi, Builtin.lenOf, Builtin.firstCells, hnc, storeCells]
      · rcases hown.2.2 with ⟨rfl, hz0⟩ | ⟨g, cap, cur, rfl, _, _, hnc, _⟩
        · simp [Builtin.append_, run_underlying ht, sizeOf, typeInfo, hi, Builtin.lenOf, Builtin.firstCells, loadCells, loadCellsFrom]
        · simp [Builtin.append_, run_underlying ht, sizeOf, typeInfo, hi, Builtin.lenOf, Builtin.firstCells, hnc, storeCells, loadCells, loadCellsFrom]
    refine wpList_plain hgd fun K hK => ?_
    unfold Oper.wp execOp
    simp only [ho, resolve, invoke, builtin, Sem.run_bind, Sem.run_pure, Result.andThen_ok, List.map_toArray, List.map_cons, List.map_nil, hs, hx, hrun]
    exact hK _ _ (h v w (by simpa using hown) (World.grownBy.refl w _) (.inl rfl))
  · obtain ⟨b, off, rfl, hbB, hc⟩ := hr.2 (by omega)
    have hcells : ∀ j u, news.flatten[j]? = some u → w.cell? ((⟨b, off, none⟩ : Addr).add j) = some u := by
      intro j u hu
      have hj : j < news.length * size := by rw [← hfl]; exact (List.getElem?_eq_some_iff.1 hu).1
      have hq : j / size < news.length := Nat.div_lt_of_lt_mul (by rw [Nat.mul_comm]; exact hj)
      have hmod : j % size < size := Nat.mod_lt _ hsz
      have hrr := List.getElem?_eq_getElem hq
      have hl : (news[j / size]).length = size := hr.1 _ (List.getElem_mem hq)
      have hvv : (news[j / size])[j % size]? = some ((news[j / size])[j % size]'(by omega)) := List.getElem?_eq_getElem (by omega)
      have h2 := hc _ _ hrr _ _ hvv
      have h3 := flatten_get hr.1 _ _ hrr _ _ hvv
      have hdm : j / size * size + j % size = j := by rw [Nat.mul_comm]; exact Nat.div_add_mod j size
      rw [hdm] at h3
      rw [h3] at hu
      cases hu
      rw [Nat.add_assoc, hdm] at h2
      rw [show (⟨b, off, none⟩ : Addr).add j = ⟨b, off + j, none⟩ from Addr.add_lit _ _ _]
      exact h2
    obtain ⟨v', w', hrun, h2, h3, _, h5⟩ := run_append_own_at (P := P) w base t o.type e i z size bytes ht hi hz hsize hby hzs hsz v rows.length rows.flatten hown.2 ⟨b, off, none⟩ news.length c news.flatten hfl hcells hone h63 hbytes hbase
    refine wpList_plain hgd fun K hK => ?_
    unfold Oper.wp execOp
    rw [hm] at hx
    simp only [ho, resolve, invoke, builtin, Sem.run_bind, Sem.run_pure, Result.andThen_ok, List.map_toArray, List.map_cons, List.map_nil, hs, hx, hrun]
    exact hK _ _ (h v' w' ⟨hall, by simpa using h2⟩ h3 h5)

/-- append of one row that lies in the newest block -/
theorem wpList_ap1 {ops : Array Oper} {rest : List Oper} {o : Oper} {a : Act} {Q : Exit → Act → World → Prop} (hgd : o.guard = none) (s x : Operand) (t : TypeId)
    (ho : o.op = .call { callee := .builtin .append, args := #[s, x], argTypes := #[t, t] }) (E : Elem P t e size bytes)
    (hs : a.eval s = v) (hown : OwS w base e size v rows) (cs : List Value) (e' : TypeId) (hcs : cs.length = size) (g : Nat) (hx : a.eval x = .slice (some ⟨g, 0, none⟩) 1 1) (hg : g = w.heap.size)
    (h1 : ∀ u ∈ cs, u.oneCell' = true) (h63 : rows.length + 1 ≤ maxLen) (hbytes : (rows.length + 1) * bytes ≤ 140737488355328) (hbase : base ≤ w.heap.size)
    (h : ∀ v' w', OwS w' base e size v' (rows ++ [cs]) → (w.alloc (.cells cs.toArray e')).grownBy w' v.ownBlock → (v'.ownBlock = v.ownBlock ∨ v'.ownBlock = some (w.heap.size + 1)) → wpList P ops Q rest (a.put o.dst v') w') :
    wpList P ops Q (o :: rest) a (w.alloc (.cells cs.toArray e')) := by
  subst hg
  refine wpList_apS hgd s x t ho E hs (hown.alloc _) (w.heap.size + 1) _ 1 1 [cs] hx ⟨by simp [hcs], fun _ => ⟨w.heap.size, 0, rfl, by omega, ?_⟩⟩ rfl (by simpa using h1) (by simpa using h63) (by simpa using hbytes) (by simp; omega) ?_
  · intro i r hi j u hj
    match i, hi with
    | 0, hi =>
      simp at hi
      subst hi
      rw [cell_of_row _ w.heap.size _ cs.toArray e' (0, 0) (heap_alloc_new w _)]
      simpa using hj
  · intro v' w' h2 h3 h4
    exact h v' w' h2 h3 (by simpa using h4)

theorem flatten_set {rows : List (List Value)} (hs : ∀ r ∈ rows, r.length = size) : ∀ (i : Nat) (r : List Value), rows[i]? = some r → ∀ (j : Nat) (u : Value), j < size → rows.flatten.set (i * size + j) u = (rows.set i (r.set j u)).flatten := by
  induction rows with
  | nil => intro i r hr; simp at hr
  | cons x xs ih =>
    intro i r hr j u hj
    have hx : x.length = size := hs x (by simp)
    have hxs : ∀ r ∈ xs, r.length = size := fun r hr => hs r (by simp [hr])
    cases i with
    | zero =>
      simp at hr
      subst hr
      simp only [List.flatten_cons, Nat.zero_mul, Nat.zero_add, List.set_cons_zero]
      rw [List.set_append_left _ _ (by omega)]
    | succ i =>
      simp at hr
      have := ih hxs i r hr j u hj
      simp only [List.flatten_cons, List.set_cons_succ]
      rw [List.set_append_right _ _ (by rw [hx, Nat.add_mul]; omega)]
      rw [show (i + 1) * size + j - x.length = i * size + j by rw [hx, Nat.add_mul]; omega, this]

theorem OwS.cell {g cap n : Nat} (h : OwS w base e size (.slice (some ⟨g, 0, none⟩) n cap) rows) {k j : Nat} {r : List Value} {u : Value} (hr : rows[k]? = some r) (hj : r[j]? = some u) : w.cell? ⟨g, k * size + j, none⟩ = some u := by
  obtain ⟨b, off, hb, _, hc⟩ := h.reads.2 (by have := (List.getElem?_eq_some_iff.1 hr).1; omega)
  cases hb
  simpa using hc k r hr j u hj
theorem OwS.frozen {g cap n : Nat} (h : OwS w base e size (.slice (some ⟨g, 0, none⟩) n cap) rows) (j : Nat) : w.frozen? ⟨g, j, none⟩ = false := by
  have hn : n = rows.length := by
    rcases h.2.2 with ⟨h', _⟩ | ⟨g', cap', cur, h', _⟩
    · simp at h'
    · injection h'
  subst hn
  exact h.2.frozenAt j
theorem OwS.set {g cap n : Nat} (h : OwS w base e size (.slice (some ⟨g, 0, none⟩) n cap) rows) {k j : Nat} {r : List Value} (hr : rows[k]? = some r) (hj : j < size) (u : Value) :
    OwS (w.setCell ⟨g, k * size + j, none⟩ u) base e size (.slice (some ⟨g, 0, none⟩) n cap) (rows.set k (r.set j u)) ∧ w.grownBy (w.setCell ⟨g, k * size + j, none⟩ u) (some g) := by
  have hn : n = rows.length := by
    rcases h.2.2 with ⟨h', _⟩ | ⟨g', cap', cur, h', _⟩
    · simp at h'
    · injection h'
  subst hn
  obtain ⟨h1, h2⟩ := h.2.stored (k * size + j) u
  rw [flatten_set h.1 k r hr j u hj] at h1
  have hall : ∀ r' ∈ rows.set k (r.set j u), r'.length = size := by
    intro r' hr'
    rcases List.mem_or_eq_of_mem_set hr' with h' | rfl
    · exact h.1 _ h'
    · rw [List.length_set]; exact h.1 _ (List.mem_of_getElem? hr)
  exact ⟨⟨hall, by simpa using h1⟩, h2⟩
end
theorem grownBy_setCell (w : World) (p : Addr) (u : Value) : w.grownBy (w.setCell p u) (some p.block) :=
  ⟨rfl, rfl, rfl, by simp [World.setCell], fun k _ hk => heap_setCell_other w p k u (fun e => hk (by rw [e]))⟩
theorem OwS.far {w : World} {base size : Nat} {e : TypeId} {v : Value} {rows : List (List Value)} (h : OwS w base e size v rows) {p : Addr} (hp : v.ownBlock ≠ some p.block) (u : Value) : OwS (w.setCell p u) base e size v rows :=
  h.kept (grownBy_setCell w p u) (.inr hp)
/-- a region that draws: reads, then a tail in one order; the world behind the draw under its name -/
theorem still_tail_drew {P : Program} {w : World} {id : Nat} {Q : Exit → Act → World → Prop} {a : Act} {l : List Oper} (n : Nat) (hm : P.follows .mixedOrders = true) (hB : Region.lexTailB .any l.toArray n = true)
    (h : wpStill P l.toArray w.drew (fun a' => wpList P l.toArray Q (l.drop n) a' w.drew) (l.take n) a) : (Code.region id l.toArray true).wp P Q a w :=
  wp_region_still_tail n hm hB h
/-- the world relation of a call that only makes memory, behind a step that grows one of its own rows -/
theorem below_grown {B : Nat} {a w w' : World} {row : Option Nat} (h : Below B a w) (hg : w.grownBy w' row) (hB : B ≤ w.heap.size) (hr : ∀ k, row = some k → B ≤ k) : Below B a w' := h.grown hg hB hr
theorem OwS.oneEv {l : List Ev} : ∀ r ∈ l.map Ev.cells, ∀ u ∈ r, u.oneCell' = true := by
  intro r hr u hu
  obtain ⟨e, _, rfl⟩ := List.mem_map.1 hr
  simp [Ev.cells] at hu
  rcases hu with rfl | rfl | rfl | rfl | rfl | rfl <;> rfl
theorem Ev.one (e : Ev) : ∀ u ∈ e.cells, u.oneCell' = true := by
  intro u hu
  simp [Ev.cells] at hu
  rcases hu with rfl | rfl | rfl | rfl | rfl | rfl <;> rfl
theorem Opr.one (e : Opr) : ∀ u ∈ e.cells, u.oneCell' = true := by
  intro u hu
  simp [Opr.cells] at hu
  rcases hu with rfl | rfl | rfl | rfl | rfl | rfl | rfl | rfl <;> rfl

theorem elemEv : Elem Tryd.prog 22 45 6 48 := Elem.mk (z := (Ev.agg ⟨0, 0, false, 0, 0, false⟩)) Tryd.underlying22 (by kernel_rfl) (by decide) rfl
end Go.Proofs.YtcgbnlhloopnfaaDoor
namespace Go.Proofs.YtcgbnlhloopnfaaDoor
open Go.RowKit
open Go.Maps (Keyed)

structure Codec (α : Type) where
  R : Value → Option (DataW Unit × List MemPlace)
  val : α → Value
  dat : α → DataW Unit
  zero : α
  rval : ∀ a, R (val a) = some (dat a, [])
  inv : ∀ v a ps, R v = some (dat a, ps) → v = val a

def ptrV : Option (Nat × Nat) → Value
  | none => .pointer none
  | some (b, o) => .pointer (some ⟨b, o, none⟩)
def ptrD : Option (Nat × Nat) → DataW Unit
  | none => .nil
  | some (b, o) => .agg [.lit (.int .i64 b), .lit (.int .i64 o)]
def ptrR : Value → Option (DataW Unit × List MemPlace)
  | .pointer none => some (.nil, [])
  | .pointer (some ⟨b, o, none⟩) => some (.agg [.lit (.int .i64 b), .lit (.int .i64 o)], [])
  | _ => none
def ptrC : Codec (Option (Nat × Nat)) where
  R := ptrR
  val := ptrV
  dat := ptrD
  zero := none
  rval a := by rcases a with _ | ⟨b, o⟩ <;> rfl
  inv v a ps h := by
    unfold ptrR at h
    split at h
    · rcases a with _ | ⟨b, o⟩
      · rfl
      · simp [ptrD] at h
    · rcases a with _ | ⟨b', o'⟩
      · simp [ptrD] at h
      · simp [ptrD] at h
        obtain ⟨⟨h1, h2⟩, _⟩ := h
        obtain rfl := Int.ofNat_inj.1 h1
        obtain rfl := Int.ofNat_inj.1 h2
        rfl
    · cases h
def boolR : Value → Option (DataW Unit × List MemPlace)
  | .bool x => some (.lit (.bool x), [])
  | _ => none
def boolC : Codec Bool where
  R := boolR
  val := .bool
  dat x := .lit (.bool x)
  zero := false
  rval a := rfl
  inv v a ps h := by
    unfold boolR at h
    split at h
    · simp at h; rw [h.1]
    · cases h

section
variable {α : Type} {C : Codec α} {P : Program} {k : TypeId} {w w' : World} {b n : Nat} {f : Lit → α}

def updK (f : Lit → α) (kl : Lit) (a : α) : Lit → α := fun x => if x.sameKey kl then a else f x

def MapG (C : Codec α) (w : World) (P : Program) (k : TypeId) (b n : Nat) (f : Lit → α) : Prop :=
  ∃ D, w.ownsMap P k C.R b n D ∧ Maps.IsMap D ∧ ∀ kl, WideAt.IsKeyLit kl → D.atKey kl (C.dat C.zero) = C.dat (f kl)

theorem MapG.made (w : World) (P : Program) (k : TypeId) : MapG C (w.alloc (.map #[] 0)) P k w.heap.size 0 (fun _ => C.zero) :=
  ⟨.map [], World.ownsMap_made w P k C.R, Maps.isMap_empty, fun _ _ => rfl⟩
theorem MapG.lt (h : MapG C w P k b n f) : b < w.heap.size := by obtain ⟨D, h1, _⟩ := h; exact h1.lt
theorem MapG.kept (h : MapG C w P k b n f) {row : Option Nat} (hg : w.grownBy w' row) (hne : some b ≠ row) : MapG C w' P k b n f := by
  obtain ⟨D, h1, h2⟩ := h; exact ⟨D, h1.kept hg hne, h2⟩
theorem MapG.alloc (h : MapG C w P k b n f) (o : Obj) : MapG C (w.alloc o) P k b n f := by
  obtain ⟨D, h1, h2⟩ := h; exact ⟨D, h1.alloc o, h2⟩
theorem MapG.drewN (h : MapG C w P k b n f) (m : Nat) : MapG C (w.drewN m) P k b n f := h
theorem MapG.below (h : MapG C w P k b n f) (hb : Below w.heap.size w w') : MapG C w' P k b n f :=
  h.kept (row := none) ⟨hb.os, hb.tape, hb.output, hb.size, fun k hk _ => hb.block k hk⟩ (by simp)
theorem MapG.block (h : MapG C w P k b n f) (hb : w'.heap[b]? = w.heap[b]?) : MapG C w' P k b n f := by
  obtain ⟨D, ⟨es, clock, h0, h1⟩, h2⟩ := h
  exact ⟨D, ⟨es, clock, hb.trans h0, h1⟩, h2⟩
theorem MapG.look (h : MapG C w P k b n f) {t e : TypeId} (K : Keyed P k) (ht : P.underlying t = some (.map k e)) (hz : (zeroValue e).run P w = .ok (C.val C.zero) w)
    {key : Value} {kl : Lit} (hkey : keyOf P k key = some kl) (hk : WideAt.IsKeyLit kl) : (Instr.lookup t (.map (some b)) key false).run P w = .ok (C.val (f kl)) w := by
  obtain ⟨D, h1, _, h3⟩ := h
  obtain ⟨v, ps, hrun, hv⟩ := h1.lookup K ht hz (C.rval C.zero) hkey
  rw [h3 kl hk] at hv
  rw [hrun, C.inv v (f kl) ps hv]
theorem MapG.put {D : DataW Unit} {kl : Lit} {a : α} (hkl : WideAt.IsKeyLit kl) (h1 : w.ownsMap P k C.R b n (D.put kl (C.dat a))) (h2 : Maps.IsMap D) (h3 : ∀ kl, WideAt.IsKeyLit kl → D.atKey kl (C.dat C.zero) = C.dat (f kl)) :
    MapG C w P k b n (updK f kl a) := by
  refine ⟨_, h1, h2.put _ _, fun x hx => ?_⟩
  by_cases hxk : x = kl
  · subst hxk
    rw [Maps.atKey_put_same h2 hx, updK, WideAt.sameKey_self hx]
    rfl
  · rw [Maps.atKey_put_other hxk, h3 x hx, updK, Maps.sameKey_ne hxk]
    rfl
theorem wpList_lookG {ops : Array Oper} {rest : List Oper} {o : Oper} {a : Act} {Q : Exit → Act → World → Prop} (hg : o.guard = none) (m x : Operand) (t : TypeId) (hop : o.op = Op.lookup t m x false)
    {e : TypeId} (K : Keyed P k) (ht : P.underlying t = some (.map k e)) (hz : (zeroValue e).run P w = .ok (C.val C.zero) w) (hm : a.eval m = .map (some b)) (h : MapG C w P k b n f)
    (key : Value) (kl : Lit) (hx : a.eval x = key) (hkey : keyOf P k key = some kl) (hk : WideAt.IsKeyLit kl)
    (hK : wpList P ops Q rest (a.put o.dst (C.val (f kl))) w) : wpList P ops Q (o :: rest) a w := by
  refine wpList_plain hg fun K' hK' => ?_
  have hrun := h.look K ht hz hkey hk
  unfold Oper.wp
  simp [execOp, hop, hm, hx, hrun, Result.andThen]
  exact hK' _ _ hK
theorem wpList_putG {ops : Array Oper} {rest : List Oper} {o : Oper} {a : Act} {Q : Exit → Act → World → Prop} (hg : o.guard = none) (m x v : Operand) (t : TypeId) (hop : o.op = Op.mapUpdate t m x v)
    {e : TypeId} (K : Keyed P k) (ht : P.underlying t = some (.map k e)) (hm : a.eval m = .map (some b)) (h : MapG C w P k b n f) (hn : n < maxLen) (key : Value) (kl : Lit) (hx : a.eval x = key) (hkey : keyOf P k key = some kl) (hkl : WideAt.IsKeyLit kl)
    (y : α) (hv : a.eval v = C.val y)
    (hK : ∀ w', MapG C w' P k b (n + 1) (updK f kl y) → w.grownBy w' (some b) → wpList P ops Q rest (a.put o.dst undef) w') : wpList P ops Q (o :: rest) a w := by
  obtain ⟨D, h1, h2, h3⟩ := h
  exact wpList_mapUpdate_own w hg m x v t hop k e K ht C.R b n D hm h1 hn key _ kl hx hv hkey (C.dat y) [] (C.rval y) fun w' h1' hg' => hK w' (MapG.put hkl h1' h2 h3) hg'
end
end Go.Proofs.YtcgbnlhloopnfaaDoor
namespace Go.Proofs.YtcgbnlhloopnfaaDoor
open Go.RowKit

section
variable {P : Program} {ops : Array Oper} {md : Region.Mode} {C : World → Prop}

def headQ (P : Program) (md : Region.Mode) (ops : Array Oper) (C : World → Prop) (n : Nat) (L : Array Bool → Act → Prop) : Nat → Array Bool → Act → Prop
  | 0, listed, a => L listed a
  | f + 1, listed, a => Region.ready md ops listed ≠ [] ∧ ∀ i ∈ Region.ready md ops listed, i < n ∧ qOp P ops C i (headQ P md ops C n L f (listed.setIfInBounds i true)) a

theorem any_of_headQ {n g : Nat} {L : Array Bool → Act → Prop} {Q' : Exit → Act → World → Prop} (hL : ∀ listed a w, C w → L listed a → wpAny P md ops Q' g listed a w) :
    ∀ (f : Nat) (listed : Array Bool) (a : Act) (w : World), C w → headQ P md ops C n L f listed a → wpAny P md ops Q' (f + g) listed a w
  | 0, listed, a, w, hw, h => by rw [Nat.zero_add]; exact hL _ _ _ hw h
  | f + 1, listed, a, w, hw, h => by
    rw [show f + 1 + g = (f + g) + 1 by omega]
    exact ⟨fun h0 => absurd h0 h.1, fun i hi => wpOp_of_qOp hw (fun a' w' hw' h' => any_of_headQ hL f _ a' w' hw' h') (h.2 i hi).2⟩

theorem headQ_first {n i : Nat} {oi : Oper} {v : Value} {L : Array Bool → Act → Prop} (hi : ops[i]? = some oi) (hsel : ∀ (j : Nat) (o : Oper) cs b, ops[j]? = some o → o.op ≠ .select cs b)
    (hs : Region.sinkB md ops n = true) (hc : Region.chainB md ops n = true) (hn : n < ops.size) (hin : i < n)
    (hdone : ∀ listed a, L listed a → ∀ j ∈ Region.ready md ops listed, n ≤ j) :
    ∀ (f : Nat) (listed : Array Bool) (a : Act), HeadInv md ops n listed →
      (∀ j oj, ops[j]? = some oj → j ≠ i → listed.getD j true = false → (∀ e ∈ oj.after, Region.binds md e = true → e.on ≠ i) → oi.apart ops oj = true) →
      i ∈ Region.ready md ops listed → YieldsIn P ops C oi v a →
      headQ P md ops C n L f (listed.setIfInBounds i true) (a.put oi.dst v) → headQ P md ops C n L (f + 1) listed a := by
  intro f
  induction f with
  | zero =>
    intro listed a inv _ hr hy H
    have hun := (mem_ready.1 hr).1
    refine ⟨fun h => (by rw [h] at hr; cases hr), fun j hj => ?_⟩
    have hjn : j < n := by
      rcases Nat.lt_or_ge j n with h | h
      · exact h
      · exact absurd hj (tail_waits hs hc hn inv _ i rfl hin hun j h)
    refine ⟨hjn, ?_⟩
    by_cases hji : j = i
    · subst hji; exact hy.qOp hi H
    · have := hdone _ _ H j (ready_mono hj hji)
      omega
  | succ f ih =>
    intro listed a inv hfree hr hy H
    have hun := (mem_ready.1 hr).1
    refine ⟨fun h => (by rw [h] at hr; cases hr), fun j hj => ?_⟩
    have hjn : j < n := by
      rcases Nat.lt_or_ge j n with h | h
      · exact h
      · exact absurd hj (tail_waits hs hc hn inv _ i rfl hin hun j h)
    refine ⟨hjn, ?_⟩
    by_cases hji : j = i
    · subst hji; exact hy.qOp hi H
    · have h1 := (H.2 j (ready_mono hj hji)).2
      obtain ⟨hjun, oj, hoj, hall⟩ := mem_ready.1 hj
      have hnot : ∀ e ∈ oj.after, Region.binds md e = true → e.on ≠ i := fun e he hb heq => by
        have h1 := hall e he hb
        rw [heq, getD_both hun] at h1
        cases h1
      have h2 := qOp_put hoj (hfree j oj hoj hji hjun hnot) (fun cs b => hsel i oi cs b hi) (fun cs b => hsel j oj cs b hoj) hy h1
      have hfree' : ∀ k ok, ops[k]? = some ok → k ≠ i → (listed.setIfInBounds j true).getD k true = false →
          (∀ e ∈ ok.after, Region.binds md e = true → e.on ≠ i) → oi.apart ops ok = true := fun k ok hk hki hun hno => by
        refine hfree k ok hk hki ?_ hno
        by_cases hjk : j = k
        · subst hjk; exact hjun
        · rw [getD_set_ne true hjk] at hun; exact hun
      refine qOp_mono (fun a' h3 => ih (listed.setIfInBounds j true) a' (inv.set hj hjn) hfree' (ready_mono hr (Ne.symm hji)) h3.1 ?_) h2
      rw [Array.setIfInBounds_comm _ _ hji]
      exact h3.2

theorem headQ_lex {n g : Nat} {Lq : Act → Prop} (hsel : Region.noSelect ops = true) (hs : Region.sinkB md ops n = true) (hc : Region.chainB md ops n = true) (hn : n < ops.size) :
    ∀ (l : List Oper) (k : Nat) (listed : Array Bool) (a : Act), (∀ j, j < l.length → l[j]? = ops[k + j]?) → k + l.length = n → HeadInv md ops n listed →
    Region.lexHead md ops g l.length k listed = true → wpQuiet P ops C Lq l a →
    headQ P md ops C n (fun listed' a' => Region.seqB md ops g n listed' = true ∧ Lq a') l.length listed a
  | [], k, listed, a, _, hk, _, hB, h => by
    have : k = n := by simpa using hk
    subst this
    exact ⟨by simpa [Region.lexHead] using hB, h⟩
  | o :: l, k, listed, a, hl, hk, inv, hB, h => by
    have h0 : ops[k]? = some o := by simpa using (hl 0 (by simp)).symm
    simp only [List.length_cons, Region.lexHead, Bool.and_eq_true] at hB
    obtain ⟨⟨hr, hf⟩, hB'⟩ := hB
    have hkn : k < n := by simp only [List.length_cons] at hk; omega
    have hr' : k ∈ Region.ready md ops listed := by simpa using hr
    have hst : qOp P ops C k (wpQuiet P ops C Lq l) a := by unfold qOp; simp only [h0]; exact h
    obtain ⟨v, hy, hK⟩ := yieldsIn_of_qOp h0 hst
    exact headQ_first h0 (Region.noSelect_spec hsel) hs hc hn hkn (fun listed' a' hL => seqB_ready hL.1) l.length listed a inv (Region.free_spec h0 hf) hr' hy
      (headQ_lex hsel hs hc hn l (k + 1) _ _ (fun j hj => by have := hl (j + 1) (by simp; omega); simpa [Nat.add_assoc, Nat.add_comm 1 j] using this) (by simp only [List.length_cons] at hk; omega) (inv.set hr' hkn) hB' hK)

theorem quiet_tail_any {id : Nat} {Q : Exit → Act → World → Prop} {a : Act} {w : World} {l : List Oper} (n : Nat) (hm : P.follows .mixedOrders = true) (hB : Region.lexTailB .any l.toArray n = true) (hC : C { w with drawn := w.drawn + 1 })
    (h : wpQuiet P l.toArray C (fun a' => ∀ w', C w' → wpList P l.toArray Q (l.drop n) a' w') (l.take n) a) : (Code.region id l.toArray true).wp P Q a w := by
  simp only [Region.lexTailB, Bool.and_eq_true, decide_eq_true_eq] at hB
  obtain ⟨⟨⟨⟨hsel, hn⟩, hs⟩, hc⟩, hlex⟩ := hB
  have hn' : n < l.length := by simpa using hn
  have htl : (l.take n).length = n := by simp; omega
  have hdl : (l.drop n).length = l.toArray.size - n := by simp
  have inv0 : HeadInv .any l.toArray n (Array.replicate l.toArray.size false) :=
    ⟨by simp, fun j oj _ hl => (by rw [getD_replicate_false] at hl; cases hl), fun t _ ht => getD_in (by simpa using ht) (getD_replicate_false _ _)⟩
  have H := headQ_lex (md := .any) (g := l.toArray.size - n) hsel hs hc hn (l.take n) 0 _ a (fun j hj => by
    have hj' : j < n := by rw [htl] at hj; exact hj
    simp [hj']) (by simpa using htl) inv0 (by rw [htl]; exact hlex) h
  refine wp_region_any hm ?_
  have := any_of_headQ (Q' := Q) (g := l.toArray.size - n) (fun listed a' w' hw' hL => by
    have := wpAny_of_seq (md := .any) (Q' := Q) (l.drop n) n listed a' w' (fun j => by simp [List.getElem?_drop]) (by rw [hdl]; exact hL.1) (hL.2 w' hw')
    rwa [hdl] at this) _ _ _ _ hC H
  rw [htl, show n + (l.toArray.size - n) = l.toArray.size by omega] at this
  exact this
end

/-- .. the class: of what was there nothing has turned, blocks may have been laid. -/
theorem quiet_tail {P : Program} {id : Nat} {Q : Exit → Act → World → Prop} {a : Act} {w : World} {l : List Oper} (n : Nat) (hm : P.follows .mixedOrders = true) (hB : Region.lexTailB .any l.toArray n = true)
    (h : wpQuiet P l.toArray (fun w' => ∃ p : Regrown, w' = Sort.grow (redrawn w p.d) p.os) (fun a' => ∀ w', Below w.heap.size w w' → wpList P l.toArray Q (l.drop n) a' w') (l.take n) a) : (Code.region id l.toArray true).wp P Q a w := by
  refine quiet_tail_any (C := fun w' => ∃ p : Regrown, w' = Sort.grow (redrawn w p.d) p.os) n hm hB ⟨⟨w.drawn + 1, #[]⟩, by rw [Sort.grow_empty]; rfl⟩ ?_
  refine cast (congrArg (fun F => wpQuiet P l.toArray (fun w' => ∃ p : Regrown, w' = Sort.grow (redrawn w p.d) p.os) F (l.take n) a) ?_) h
  funext a'
  refine propext ⟨fun h w' ⟨p, hp⟩ => h w' (by rw [hp]; exact below_regrown w p.d p.os), fun h w' hb => h w' (regrown_of_below hb)⟩
/-- the same class, the whole region reads and calls -/
theorem quiet_below {P : Program} {id : Nat} {Q : Exit → Act → World → Prop} {a : Act} {w : World} {l : List Oper} (hm : P.follows .mixedOrders = true) (hB : Region.lexB .any l.toArray = true)
    (h : wpQuiet P l.toArray (fun w' => ∃ p : Regrown, w' = Sort.grow (redrawn w p.d) p.os) (fun a' => ∀ w', Below w.heap.size w w' → Q .normal a' w') l a) : (Code.region id l.toArray true).wp P Q a w := by
  refine wp_region_quiet_below hm hB ?_
  refine cast (congrArg (fun F => wpQuiet P l.toArray (fun w' => ∃ p : Regrown, w' = Sort.grow (redrawn w p.d) p.os) F l a) ?_) h
  funext a'
  refine propext ⟨fun h w' ⟨p, hp⟩ => h w' (by rw [hp]; exact below_regrown w p.d p.os), fun h w' hb => h w' (regrown_of_below hb)⟩
end Go.Proofs.YtcgbnlhloopnfaaDoor
namespace Go.Proofs.YtcgbnlhloopnfaaDoor
open Go.RowKit
variable {P : Program} {w w' : World} {base size bytes : Nat} {t e : TypeId} {v : Value} {rows : List (List Value)}
/-- append of a slice that reads as rows, as one step -/
theorem oper_apS {o : Oper} {a : Act} {K : Act → World → Prop} {Q : Exit → Act → World → Prop} (s x : Operand) (t : TypeId)
    (ho : o.op = .call { callee := .builtin .append, args := #[s, x], argTypes := #[t, t] }) (E : Elem P t e size bytes)
    (hs : a.eval s = v) (hown : OwS w base e size v rows) (B : Nat) (A : Option Addr) (m c : Nat) (news : List (List Value)) (hx : a.eval x = .slice A m c) (hr : RdS w B size A news) (hm : m = news.length)
    (h1 : ∀ r ∈ news, ∀ u ∈ r, u.oneCell' = true) (h63 : rows.length + news.length ≤ maxLen) (hbytes : (rows.length + news.length) * bytes ≤ 140737488355328) (hbase : base ≤ w.heap.size)
    (h : ∀ v' w', OwS w' base e size v' (rows ++ news) → w.grownBy w' v.ownBlock → (v'.ownBlock = v.ownBlock ∨ v'.ownBlock = some w.heap.size) → K (a.put o.dst v') w') : Oper.wp P o a w K Q := by
  obtain ⟨ht, hsz, i, z, hi, hz, hsize, hby, hzs⟩ := E
  have hone : ∀ u ∈ news.flatten, u.oneCell' = true := by
    intro u hu
    obtain ⟨r, hr, hu⟩ := List.mem_flatten.1 hu
    exact h1 r hr u hu
  have hfl : news.flatten.length = news.length * size := flatten_length hr.1
  have hall : ∀ r ∈ rows ++ news, r.length = size := by
    intro r hrr
    rcases List.mem_append.1 hrr with hrr | hrr
    · exact hown.1 r hrr
    · exact hr.1 r hrr
  by_cases h0 : news.length = 0
  · have hn : news = [] := List.eq_nil_of_length_eq_zero h0
    subst hn
    simp only [List.length_nil] at hm
    subst hm
    have hrun : (Builtin.append_ #[t, t] o.type #[v, .slice A 0 c]).run P w = .ok v w := by
      rcases A with _ | ad
      · rcases hown.2.2 with ⟨rfl, _⟩ | ⟨g, cap, cur, rfl, _, _, hnc, _⟩
        · simp [Builtin.append_, run_underlying ht, sizeOf, typeInfo, hi, Builtin.lenOf, Builtin.firstCells]
        · simp [Builtin.append_, run_underlying ht, sizeOf, typeInfo, hi, Builtin.lenOf, Builtin.firstCells, hnc, storeCells]
      · rcases hown.2.2 with ⟨rfl, hz0⟩ | ⟨g, cap, cur, rfl, _, _, hnc, _⟩
        · simp [Builtin.append_, run_underlying ht, sizeOf, typeInfo, hi, Builtin.lenOf, Builtin.firstCells, loadCells, loadCellsFrom]
        · simp [Builtin.append_, run_underlying ht, sizeOf, typeInfo, hi, Builtin.lenOf, Builtin.firstCells, hnc, storeCells, loadCells, loadCellsFrom]
    unfold Oper.wp execOp
    simp only [ho, resolve, invoke, builtin, Sem.run_bind, Sem.run_pure, Result.andThen_ok, List.map_toArray, List.map_cons, List.map_nil, hs, hx, hrun]
    exact h v w (by simpa using hown) (World.grownBy.refl w _) (.inl rfl)
  · obtain ⟨b, off, rfl, hbB, hc⟩ := hr.2 (by omega)
    have hcells : ∀ j u, news.flatten[j]? = some u → w.cell? ((⟨b, off, none⟩ : Addr).add j) = some u := by
      intro j u hu
      have hj : j < news.length * size := by rw [← hfl]; exact (List.getElem?_eq_some_iff.1 hu).1
      have hq : j / size < news.length := Nat.div_lt_of_lt_mul (by rw [Nat.mul_comm]; exact hj)
      have hmod : j % size < size := Nat.mod_lt _ hsz
      have hrr := List.getElem?_eq_getElem hq
      have hl : (news[j / size]).length = size := hr.1 _ (List.getElem_mem hq)
      have hvv : (news[j / size])[j % size]? = some ((news[j / size])[j % size]'(by omega)) := List.getElem?_eq_getElem (by omega)
      have h2 := hc _ _ hrr _ _ hvv
      have h3 := flatten_get hr.1 _ _ hrr _ _ hvv
      have hdm : j / size * size + j % size = j := by rw [Nat.mul_comm]; exact Nat.div_add_mod j size
      rw [hdm] at h3
      rw [h3] at hu
      cases hu
      rw [Nat.add_assoc, hdm] at h2
      rw [show (⟨b, off, none⟩ : Addr).add j = ⟨b, off + j, none⟩ from Addr.add_lit _ _ _]
      exact h2
    obtain ⟨v', w', hrun, h2, h3, _, h5⟩ := run_append_own_at (P := P) w base t o.type e i z size bytes ht hi hz hsize hby hzs hsz v rows.length rows.flatten hown.2 ⟨b, off, none⟩ news.length c news.flatten hfl hcells hone h63 hbytes hbase
    unfold Oper.wp execOp
    rw [hm] at hx
    simp only [ho, resolve, invoke, builtin, Sem.run_bind, Sem.run_pure, Result.andThen_ok, List.map_toArray, List.map_cons, List.map_nil, hs, hx, hrun]
    exact h v' w' ⟨hall, by simpa using h2⟩ h3 h5

/-- append of a slice that reads as rows, as one step of a region -/
theorem step_apS {ops : Array Oper} {o : Oper} {a : Act} {K : Act → World → Prop} {Q : Exit → Act → World → Prop} {E' : Prop} (hgd : o.guard = none) (s x : Operand) (t : TypeId)
    (ho : o.op = .call { callee := .builtin .append, args := #[s, x], argTypes := #[t, t] }) (E : Elem P t e size bytes)
    (hs : a.eval s = v) (hown : OwS w base e size v rows) (B : Nat) (A : Option Addr) (m c : Nat) (news : List (List Value)) (hx : a.eval x = .slice A m c) (hr : RdS w B size A news) (hm : m = news.length)
    (h1 : ∀ r ∈ news, ∀ u ∈ r, u.oneCell' = true) (h63 : rows.length + news.length ≤ maxLen) (hbytes : (rows.length + news.length) * bytes ≤ 140737488355328) (hbase : base ≤ w.heap.size)
    (h : ∀ v' w', OwS w' base e size v' (rows ++ news) → w.grownBy w' v.ownBlock → (v'.ownBlock = v.ownBlock ∨ v'.ownBlock = some w.heap.size) → K (a.put o.dst v') w') :
    if Region.wanted o (yielded ops a.tmps) = true then Oper.wp P o a w K Q else E' := by
  have hw : Region.wanted o (yielded ops a.tmps) = true := by simp [Region.wanted, hgd]
  rw [if_pos hw]
  exact oper_apS s x t ho E hs hown B A m c news hx hr hm h1 h63 hbytes hbase h

/-- append of one row that lies in the newest block -/
theorem step_ap1 {ops : Array Oper} {o : Oper} {a : Act} {K : Act → World → Prop} {Q : Exit → Act → World → Prop} {E' : Prop} (hgd : o.guard = none) (s x : Operand) (t : TypeId)
    (ho : o.op = .call { callee := .builtin .append, args := #[s, x], argTypes := #[t, t] }) (E : Elem P t e size bytes)
    (hs : a.eval s = v) (hown : OwS w base e size v rows) (cs : List Value) (e' : TypeId) (hcs : cs.length = size) (g : Nat) (hx : a.eval x = .slice (some ⟨g, 0, none⟩) 1 1) (hg : g = w.heap.size)
    (h1 : ∀ u ∈ cs, u.oneCell' = true) (h63 : rows.length + 1 ≤ maxLen) (hbytes : (rows.length + 1) * bytes ≤ 140737488355328) (hbase : base ≤ w.heap.size)
    (h : ∀ v' w', OwS w' base e size v' (rows ++ [cs]) → (w.alloc (.cells cs.toArray e')).grownBy w' v.ownBlock → (v'.ownBlock = v.ownBlock ∨ v'.ownBlock = some (w.heap.size + 1)) → K (a.put o.dst v') w') :
    if Region.wanted o (yielded ops a.tmps) = true then Oper.wp P o a (w.alloc (.cells cs.toArray e')) K Q else E' := by
  have hw : Region.wanted o (yielded ops a.tmps) = true := by simp [Region.wanted, hgd]
  rw [if_pos hw]
  subst hg
  refine oper_apS s x t ho E hs (hown.alloc _) (w.heap.size + 1) _ 1 1 [cs] hx ⟨by simp [hcs], fun _ => ⟨w.heap.size, 0, rfl, by omega, ?_⟩⟩ rfl (by simpa using h1) (by simpa using h63) (by simpa using hbytes) (by simp; omega) ?_
  · intro i r hi j u hj
    match i, hi with
    | 0, hi =>
      simp at hi
      subst hi
      rw [cell_of_row _ w.heap.size _ cs.toArray e' (0, 0) (heap_alloc_new w _)]
      simpa using hj
  · intro v' w' h2 h3 h4
    exact h v' w' h2 h3 (by simpa using h4)
end Go.Proofs.YtcgbnlhloopnfaaDoor
namespace Go.Proofs.YtcgbnlhloopnfaaDoor
open Go.RowKit

theorem OwS.lit {w : World} {base size g n : Nat} {e : TypeId} {rows : List (List Value)} {cs : Array Value} (hs : ∀ r ∈ rows, r.length = size) (hh : w.heap[g]? = some (.cells cs e)) (hcs : cs.toList = rows.flatten) (hn : n = rows.length) (hm : n ≤ maxLen) (hb : base ≤ g) :
    OwS w base e size (.slice (some ⟨g, 0, none⟩) n n) rows := by
  subst hn
  have hl : rows.flatten.length = rows.length * size := flatten_length hs
  refine ⟨hs, hl, .inr ⟨g, rows.length, cs, rfl, hb, hh, Nat.le_refl _, hm, by rw [← Array.length_toList, hcs, hl], ?_⟩⟩
  rw [hcs, ← hl, List.take_length]

/-- what a helper that lays events answers -/
def LayE (w : World) (l : List Ev) (e : Ending) (w' : World) : Prop := ∃ v, e = .returned v ∧ OwS w' w.heap.size 45 6 v (l.map Ev.cells) ∧ Below w.heap.size w w'

theorem below_laid {w : World} {o : Obj} : Below w.heap.size w (w.alloc o) := (Below.refl _ _).alloc (Nat.le_refl _) _

theorem heap_third (w : World) (A B C : Obj) : (((w.alloc A).alloc B).alloc C).heap[w.heap.size + 1 + 1]? = some C := by
  have := heap_alloc_new ((w.alloc A).alloc B) C
  simpa using this
end Go.Proofs.YtcgbnlhloopnfaaDoor
namespace Go.Proofs.YtcgbnlhloopnfaaDoor
open Go.RowKit

/-- a bound below which no row of explained eras turns -/
class BaseW where
  b : Nat
def bE [BaseW] (e : TypeId) : Nat := if e = 37 then BaseW.b else 0
theorem bE_int [BaseW] : bE 3 = 0 := by unfold bE; rw [if_neg (by decide)]
theorem bE_era [BaseW] : bE 37 = BaseW.b := by unfold bE; rw [if_pos rfl]
/-- Of the blocks that were there none has turned, but those of T and the rows of type e (of explained eras: from the bound on). -/
structure FrE [BaseW] (T : List Nat) (e : TypeId) (w w' : World) : Prop where
  os : w'.os = w.os
  tape : w'.tape = w.tape
  output : w'.output = w.output
  size : w.heap.size ≤ w'.heap.size
  block : ∀ k, k < w.heap.size → k ∉ T → (∀ cur f, w.heap[k]? = some (.cells cur e f) → k < bE e) → w'.heap[k]? = w.heap[k]?
section
variable [BaseW]
variable {T T' : List Nat} {e e' : TypeId} {a w w' : World} {C : Nat}
theorem FrE.refl (T : List Nat) (e : TypeId) (w : World) : FrE T e w w := ⟨rfl, rfl, rfl, Nat.le_refl _, fun _ _ _ _ => rfl⟩
theorem FrE.of (h : Below w.heap.size w w') : FrE T e w w' := ⟨h.os, h.tape, h.output, h.size, fun k hk _ _ => h.block k hk⟩
theorem FrE.trans' (h : FrE T e a w) (h' : FrE T' e w w') (hT : ∀ k ∈ T', k ∈ T ∨ a.heap.size ≤ k) : FrE T e a w' :=
  ⟨h'.os.trans h.os, h'.tape.trans h.tape, h'.output.trans h.output, Nat.le_trans h.size h'.size, fun k hk hkT hne => by
    have h1 := h.block k hk hkT hne
    rw [h'.block k (Nat.lt_of_lt_of_le hk h.size) (fun hm => (hT k hm).elim hkT (fun h => by omega)) (fun cur f hc => hne cur f (by rw [← h1]; exact hc)), h1]⟩
theorem FrE.trans (h : FrE T e a w) (h' : FrE T e w w') : FrE T e a w' := h.trans' h' fun _ hk => .inl hk
theorem FrE.alloc (h : FrE T e a w) (o : Obj) : FrE T e a (w.alloc o) := h.trans (.of ((Below.refl _ _).alloc (Nat.le_refl _) o))
theorem FrE.drew (h : FrE T e a w) : FrE T e a w.drew := ⟨h.os, h.tape, h.output, h.size, h.block⟩
theorem FrE.drewN (h : FrE T e a w) (n : Nat) : FrE T e a (w.drewN n) := ⟨h.os, h.tape, h.output, h.size, h.block⟩
theorem FrE.setCell {p : Addr} (h : FrE T e a w) (hp : p.block ∈ T ∨ a.heap.size ≤ p.block) (u : Value) : FrE T e a (w.setCell p u) :=
  h.trans' (T' := [p.block]) ⟨rfl, rfl, rfl, by simp [World.setCell], fun k hk hkT _ => Below.heap_setCell _ _ _ _ (by simpa using hkT)⟩ (by simpa using hp)
theorem FrE.grown {row : Option Nat} (h : FrE T e a w) (hg : w.grownBy w' row) (hr : ∀ g, row = some g → g ∈ T ∨ a.heap.size ≤ g ∨ ∃ cur f, w.heap[g]? = some (.cells cur e f) ∧ bE e ≤ g) : FrE T e a w' :=
  ⟨hg.os.trans h.os, hg.tape.trans h.tape, hg.output.trans h.output, Nat.le_trans h.size hg.size, fun k hk hkT hne => by
    have h1 := h.block k hk hkT hne
    rw [hg.block k (Nat.lt_of_lt_of_le hk h.size) (fun hkr => by
      rcases hr k hkr.symm with h | h | ⟨cur, f, h, hb⟩
      · exact hkT h
      · omega
      · rw [h1] at h
        have := hne cur f h
        omega), h1]⟩
theorem FrE.keep {k : Nat} {o : Obj} (h : FrE T e w w') (ho : w.heap[k]? = some o) (hk : k ∉ T) (hne : ∀ cur f, o ≠ .cells cur e f) : w'.heap[k]? = some o := by
  rw [h.block k (Array.getElem?_eq_some_iff.1 ho).1 hk (fun cur f hc => by rw [ho] at hc; injection hc with hc; exact absurd hc (hne cur f)), ho]
theorem FrE.cells_keep {k : Nat} {cs : Array Value} {fz : Nat × Nat} (h : FrE T e w w') (ho : w.heap[k]? = some (.cells cs e' fz)) (hk : k ∉ T) (hne : e' ≠ e) : w'.heap[k]? = some (.cells cs e' fz) :=
  h.keep ho hk fun cur f hc => by injection hc with _ h2 _; exact hne h2
theorem FrE.cell_keep {k : Nat} {cs : Array Value} {fz : Nat × Nat} (h : FrE T e w w') (ho : w.heap[k]? = some (.cells cs e' fz)) (hk : k ∉ T) (hne : e' ≠ e) (p : Addr) (hp : p.block = k) : w'.cell? p = w.cell? p := by
  have h1 := h.cells_keep ho hk hne
  subst hp
  exact World.cell?_of_block (h1.trans ho.symm)
theorem OwS.fr {base size : Nat} {v : Value} {rows : List (List Value)} (h : OwS w base e' size v rows) (hf : FrE T e w w') (hne : e' ≠ e) (hT : ∀ k ∈ T, ∀ cur f, w.heap[k]? ≠ some (.cells cur e' f)) : OwS w' base e' size v rows := by
  obtain ⟨h1, h2, h3⟩ := h
  refine ⟨h1, h2, ?_⟩
  rcases h3 with h3 | ⟨g, cap, cur, hv, hb, hh, hr⟩
  · exact .inl h3
  · exact .inr ⟨g, cap, cur, hv, hb, hf.cells_keep hh (fun hm => hT g hm cur (0, 0) hh) hne, hr⟩
theorem MapG.fr {α : Type} {Cd : Codec α} {P : Program} {k : TypeId} {b n : Nat} {f : Lit → α} (h : MapG Cd w P k b n f) (hf : FrE T e w w') (hT : b ∉ T) : MapG Cd w' P k b n f := by
  have hb := h.block (w' := w') (by
    obtain ⟨D, ⟨es, clock, h0, h1⟩, h2⟩ := h
    rw [hf.keep h0 hT (fun cur f hc => by cases hc), h0])
  exact hb
theorem FrE.toBelow (h : FrE T 37 w w') (hT : ∀ k ∈ T, BaseW.b ≤ k) (hb : BaseW.b ≤ w.heap.size) : Below BaseW.b w w' :=
  ⟨h.os, h.tape, h.output, h.size, fun k hk => h.block k (by omega) (fun hm => by have := hT k hm; omega) (fun _ _ _ => by rw [bE_era]; exact hk)⟩
end
section
variable {w : World}
theorem MapG.isMap {α : Type} {Cd : Codec α} {P : Program} {k : TypeId} {b n : Nat} {f : Lit → α} (h : MapG Cd w P k b n f) : ∀ cur e' fz, w.heap[b]? ≠ some (.cells cur e' fz) := by
  obtain ⟨D, ⟨es, clock, h0, h1⟩, h2⟩ := h
  intro cur e' fz hc
  rw [h0] at hc
  cases hc
end
end Go.Proofs.YtcgbnlhloopnfaaDoor
namespace Go.Proofs.YtcgbnlhloopnfaaDoor
open Go.RowKit
open Go.Maps (Keyed)

theorem length_le_of_sub {α : Type} [DecidableEq α] : ∀ (l L : List α), l.Nodup → (∀ x ∈ l, x ∈ L) → l.length ≤ L.length := by
  intro l
  induction l with
  | nil => intro L _ _; simp
  | cons a l ih =>
    intro L hn h
    obtain ⟨h1, h2⟩ := List.nodup_cons.1 hn
    have := ih (L.erase a) h2 fun x hx => (List.mem_erase_of_ne (fun e => h1 (by rw [← e]; exact hx))).2 (h x (by simp [hx]))
    rw [List.length_erase_of_mem (h a (by simp))] at this
    have hp : 0 < L.length := List.length_pos_of_mem (h a (by simp))
    simp
    omega

section
variable {P : Program} {k : TypeId} {w w' : World} {b : Nat} {L : List Lit} {f : Lit → Bool}
/-- a map of bools, by what it answers; its keys lie on a list -/
def MapS (w : World) (P : Program) (k : TypeId) (b : Nat) (L : List Lit) (f : Lit → Bool) : Prop :=
  ∃ D, w.ownsMap P k boolC.R b L.length D ∧ Maps.IsMap D ∧ (∀ kl, WideAt.IsKeyLit kl → D.atKey kl (boolC.dat boolC.zero) = boolC.dat (f kl)) ∧ ∀ es, D = .map es → ∀ p ∈ es, p.1 ∈ L
theorem MapS.made (w : World) (P : Program) (k : TypeId) (L : List Lit) : MapS (w.alloc (.map #[] 0)) P k w.heap.size L (fun _ => false) :=
  ⟨.map [], (World.ownsMap_made w P k boolC.R).mono (Nat.zero_le _), Maps.isMap_empty, fun _ _ => rfl, fun es he p hp => by cases he; cases hp⟩
theorem MapS.lt (h : MapS w P k b L f) : b < w.heap.size := by obtain ⟨D, h1, _⟩ := h; exact h1.lt
theorem MapS.g (h : MapS w P k b L f) : MapG boolC w P k b L.length f := by obtain ⟨D, h1, h2, h3, -⟩ := h; exact ⟨D, h1, h2, h3⟩
theorem MapS.block (h : MapS w P k b L f) (hb : w'.heap[b]? = w.heap[b]?) : MapS w' P k b L f := by
  obtain ⟨D, ⟨es, clock, h0, h1⟩, h2⟩ := h
  exact ⟨D, ⟨es, clock, hb.trans h0, h1⟩, h2⟩
theorem MapS.alloc (h : MapS w P k b L f) (o : Obj) : MapS (w.alloc o) P k b L f := h.block (Below.heap_alloc _ _ _ h.lt)
theorem MapS.drewN (h : MapS w P k b L f) (m : Nat) : MapS (w.drewN m) P k b L f := h
theorem MapS.below (h : MapS w P k b L f) (hb : Below w.heap.size w w') : MapS w' P k b L f := h.block (hb.block b h.lt)
theorem MapS.isMap (h : MapS w P k b L f) : ∀ cur e' fz, w.heap[b]? ≠ some (.cells cur e' fz) := h.g.isMap
theorem MapS.at_ (h : MapS w P k b L f) : ∃ o, w.heap[b]? = some o ∧ ∀ cur e fz, o ≠ .cells cur e fz := by
  obtain ⟨D, ⟨es, clock, h0, h1⟩, h2⟩ := h
  exact ⟨_, h0, fun _ _ _ h => by cases h⟩
theorem MapS.fr [BaseW] {T : List Nat} {e : TypeId} (h : MapS w P k b L f) (hf : FrE T e w w') (hT : b ∉ T) : MapS w' P k b L f := by
  obtain ⟨o, h0, h1⟩ := h.at_
  exact h.block ((hf.keep h0 hT fun cur f => h1 cur e f).trans h0.symm)
theorem MapS.lookOk (h : MapS w P k b L f) {t e : TypeId} (K : Keyed P k) (ht : P.underlying t = some (.map k e)) (hz : ∀ w, (zeroValue e).run P w = .ok (.bool false) w)
    {key : Value} {kl : Lit} (hkey : keyOf P k key = some kl) (hk : WideAt.IsKeyLit kl) : ∃ hs, (hs = false → f kl = false) ∧ ∀ n, (Instr.lookup t (.map (some b)) key true).run P (w.drewN n) = .ok (.tuple #[.bool (f kl), .bool hs]) (w.drewN n) := by
  obtain ⟨D, h1, _, h3, -⟩ := h
  refine ⟨Maps.has D kl, fun hn => ?_, fun n => ?_⟩
  · have := h3 kl hk
    rw [Maps.atKey_of_not_has hn] at this
    simp [boolC] at this
    exact this
  · obtain ⟨v, ps, hrun, hv⟩ := World.ownsMap.look_ok (w := w.drewN n) h1 K ht (hz _) (boolC.rval false) hkey
    rw [show boolC.dat false = boolC.dat boolC.zero from rfl, h3 kl hk] at hv
    rw [hrun, boolC.inv v (f kl) ps hv]
    rfl
theorem keys_put {D : DataW Unit} {es : List (Lit × DataW Unit)} (he : D = .map es) {kl : Lit} {d : DataW Unit} (hk : kl ∈ L) (h : ∀ p ∈ es, p.1 ∈ L) : ∀ es', D.put kl d = .map es' → ∀ p ∈ es', p.1 ∈ L := by
  subst he
  intro es' he' p hp
  simp only [DataW.put, DataW.map.injEq] at he'
  subst he'
  rcases Go.ChangeMaps.mem_insert_iff.1 hp with rfl | hp
  · exact hk
  · exact h p (List.mem_filter.1 hp).1
theorem MapS.put {D : DataW Unit} {es : List (Lit × DataW Unit)} {kl : Lit} {a : Bool} (K : Keyed P k) (hkl : WideAt.IsKeyLit kl) (hkL : kl ∈ L) (h1 : w.ownsMap P k boolC.R b (L.length + 1) (D.put kl (boolC.dat a))) (h2 : D = .map es)
    (h3 : ∀ kl, WideAt.IsKeyLit kl → D.atKey kl (boolC.dat boolC.zero) = boolC.dat (f kl)) (h4 : ∀ p ∈ es, p.1 ∈ L) : MapS w P k b L (updK f kl a) := by
  have hT := h1.tidy K
  have hk := keys_put (D := D) (d := boolC.dat a) h2 hkL h4
  have hM : Maps.IsMap D := ⟨es, h2⟩
  refine ⟨_, ?_, hM.put _ _, fun x hx => ?_, hk⟩
  · obtain ⟨m, clock, g1, g2, g3, g4⟩ := h1
    refine ⟨m, clock, g1, g2, ?_, g4⟩
    obtain ⟨es', e1, e2⟩ := hT
    have e3 : es'.length = m.size := by
      rw [e1] at g4
      injection g4 with g4
      rw [g4, length_read]
    rw [← e3, ← List.length_map (f := Prod.fst)]
    haveI : DecidableEq Lit := fun a b => Classical.propDecidable (a = b)
    refine length_le_of_sub _ _ (List.pairwise_map.2 e2) fun x hx => ?_
    obtain ⟨p, hp, rfl⟩ := List.mem_map.1 hx
    exact hk es' e1 p hp
  · by_cases hxk : x = kl
    · subst hxk
      rw [Maps.atKey_put_same hM hx, updK, WideAt.sameKey_self hx]
      rfl
    · rw [Maps.atKey_put_other hxk, h3 x hx, updK, Maps.sameKey_ne hxk]
      rfl
theorem wpList_putS {ops : Array Oper} {rest : List Oper} {o : Oper} {a : Act} {Q : Exit → Act → World → Prop} (hg : o.guard = none) (m x v : Operand) (t : TypeId) (hop : o.op = Op.mapUpdate t m x v)
    {e : TypeId} (K : Keyed P k) (ht : P.underlying t = some (.map k e)) (hm : a.eval m = .map (some b)) (h : MapS w P k b L f) (hn : L.length < maxLen) (key : Value) (kl : Lit) (hx : a.eval x = key) (hkey : keyOf P k key = some kl) (hkl : WideAt.IsKeyLit kl) (hkL : kl ∈ L)
    (y : Bool) (hv : a.eval v = .bool y)
    (hK : ∀ w', MapS w' P k b L (updK f kl y) → w.grownBy w' (some b) → wpList P ops Q rest (a.put o.dst undef) w') : wpList P ops Q (o :: rest) a w := by
  obtain ⟨D, h1, ⟨es, h2⟩, h3, h4⟩ := h
  exact wpList_mapUpdate_own w hg m x v t hop k e K ht boolC.R b L.length D hm h1 hn key _ kl hx hv hkey (boolC.dat y) [] (boolC.rval y) fun w' h1' hg' => hK w' (MapS.put K hkl hkL h1' h2 h3 (h4 es h2)) hg'
end

/-! ### the keys -/
theorem laidOutK : laidOutB Tryd.prog = true := by kernel_rfl
theorem zeroBoolK (w : World) : (zeroValue 4).run Tryd.prog w = .ok (.bool false) w := by kernel_rfl
def pKey (r v : Int) : Lit := .string (keyBytes [.int .i64 r, .int .i64 v])
theorem pKey_lit (r v : Int) : WideAt.IsKeyLit (pKey r v) := trivial
theorem cellsIntK : Tryd.prog.cellsOf 3 = 1 := by kernel_rfl

theorem rowSt : (105 : TypeId) < Tryd.prog.types.size := of_decide_eq_true (by kernel_rfl)
theorem wideSt : (match Tryd.prog.underlying 105 with | some (.array _ _) | some (.struct _) => true | _ => false) = true := by rw [Tryd.underlying105]
set_option maxRecDepth 1000000 in
theorem lawSt : WideMaps.KeyLaw Tryd.prog 105 := deep_law_laid laidOutK (m := 2) (by omega) rowSt (by kernel_rfl) wideSt
theorem keyedSt : Maps.Keyed Tryd.prog 105 := Maps.Keyed.of_law lawSt
theorem cellsSt : Tryd.prog.cellsOf 105 = 2 := by kernel_rfl
theorem keyLits_st (d : Nat) (r v : Int) (hr : (Lit.int .i64 r).wf = true) (hv : (Lit.int .i64 v).wf = true) : Tryd.prog.keyLits (d + 2) 105 [.int .i64 r, .int .i64 v] = some [.int .i64 r, .int .i64 v] := by
  simp [Program.keyLits, Tryd.underlying105, Tryd.underlying3, cellsSt, cellsIntK, hr, hv]
theorem keyOf_st (r v : Int) (hr : (Lit.int .i64 r).wf = true) (hv : (Lit.int .i64 v).wf = true) : keyOf Tryd.prog 105 (.agg #[.int .i64 r, .int .i64 v]) = some (pKey r v) := by
  have hs : ∃ d, Tryd.prog.types.size + 1 = d + 2 := ⟨Tryd.prog.types.size - 1, by have h : (105 : Nat) < Tryd.prog.types.size := rowSt; omega⟩
  obtain ⟨d, hs⟩ := hs
  have hk : Tryd.prog.keyType 105 = true := by kernel_rfl
  have hf : (Value.agg #[.int .i64 r, .int .i64 v]).formed Tryd.prog 105 = true := by simp [Value.formed, Tryd.underlying105, cellsSt]
  have hl := keyLits_st d r v hr hv
  unfold keyOf
  rw [Tryd.underlying105]
  simp only [hk, hf, Bool.and_self, if_true, hs]
  simp [Value.cells, hl, pKey]
theorem pKey_inj {r v r' v' : Int} (hr : (Lit.int .i64 r).wf = true) (hv : (Lit.int .i64 v).wf = true) (hr' : (Lit.int .i64 r').wf = true) (hv' : (Lit.int .i64 v').wf = true) (h : pKey r v = pKey r' v') : r = r' ∧ v = v' := by
  have := lawSt.inj (keyOf_st r v hr hv) (by rw [h]; exact keyOf_st r' v' hr' hv')
  simpa using this

theorem rowPr : (98 : TypeId) < Tryd.prog.types.size := of_decide_eq_true (by kernel_rfl)
theorem widePr : (match Tryd.prog.underlying 98 with | some (.array _ _) | some (.struct _) => true | _ => false) = true := by rw [Tryd.underlying98]
set_option maxRecDepth 1000000 in
theorem lawPr : WideMaps.KeyLaw Tryd.prog 98 := deep_law_laid laidOutK (m := 2) (by omega) rowPr (by kernel_rfl) widePr
theorem keyedPr : Maps.Keyed Tryd.prog 98 := Maps.Keyed.of_law lawPr
theorem cellsPr : Tryd.prog.cellsOf 98 = 2 := by kernel_rfl
theorem keyLits_pr (d : Nat) (r v : Int) (hr : (Lit.int .i64 r).wf = true) (hv : (Lit.int .i64 v).wf = true) : Tryd.prog.keyLits (d + 2) 98 [.int .i64 r, .int .i64 v] = some [.int .i64 r, .int .i64 v] := by
  simp only [Program.keyLits, Tryd.underlying98, cellsIntK]
  rw [show List.range 2 = [0, 1] from rfl]
  simp [Tryd.underlying3, cellsPr, hr, hv]
theorem keyOf_pr (r v : Int) (hr : (Lit.int .i64 r).wf = true) (hv : (Lit.int .i64 v).wf = true) : keyOf Tryd.prog 98 (.agg #[.int .i64 r, .int .i64 v]) = some (pKey r v) := by
  have hs : ∃ d, Tryd.prog.types.size + 1 = d + 2 := ⟨Tryd.prog.types.size - 1, by have h : (98 : Nat) < Tryd.prog.types.size := rowPr; omega⟩
  obtain ⟨d, hs⟩ := hs
  have hk : Tryd.prog.keyType 98 = true := by kernel_rfl
  have hf : (Value.agg #[.int .i64 r, .int .i64 v]).formed Tryd.prog 98 = true := by simp [Value.formed, Tryd.underlying98, cellsPr]
  have hl := keyLits_pr d r v hr hv
  unfold keyOf
  rw [Tryd.underlying98]
  simp only [hk, hf, Bool.and_self, if_true, hs]
  simp [Value.cells, hl, pKey]
end Go.Proofs.YtcgbnlhloopnfaaDoor
namespace Go.Proofs.YtcgbnlhloopnfaaDoor
open Go.RowKit

structure Rcd where
  evs : List Ev
  calls : List Ev
  opn : List Bool
def flCell (b : Bool) : List Value := [.bool b]
theorem flCell_one (b : Bool) : ∀ u ∈ flCell b, u.oneCell' = true := by
  intro u hu
  simp [flCell] at hu
  subst hu
  rfl
theorem elemBool : Elem Tryd.prog 52 4 1 1 := Elem.mk (z := .bool false) Tryd.underlying52 (by kernel_rfl) (by decide) rfl

theorem OwS.isSlice {w : World} {base size : Nat} {e : TypeId} {v : Value} {rows : List (List Value)} (h : OwS w base e size v rows) : ∃ A n c, v = .slice A n c := by
  obtain ⟨A, c, hv, -, -⟩ := h.form
  exact ⟨A, _, c, hv⟩
/-- nothing below a bound has turned, but for one block -/
structure BelR (base rb : Nat) (w w' : World) : Prop where
  os : w'.os = w.os
  tape : w'.tape = w.tape
  output : w'.output = w.output
  size : w.heap.size ≤ w'.heap.size
  block : ∀ k, k < base → k ≠ rb → w'.heap[k]? = w.heap[k]?
section
variable {base rb : Nat} {a w w' : World}
theorem BelR.refl (base rb : Nat) (w : World) : BelR base rb w w := ⟨rfl, rfl, rfl, Nat.le_refl _, fun _ _ _ => rfl⟩
theorem BelR.of {B : Nat} (h : Below B w w') (hB : base ≤ B) : BelR base rb w w' := ⟨h.os, h.tape, h.output, h.size, fun k hk _ => h.block k (by omega)⟩
theorem BelR.below (h : BelR base rb w w') (hr : base ≤ rb) : Below base w w' := ⟨h.os, h.tape, h.output, h.size, fun k hk => h.block k hk (by omega)⟩
theorem BelR.trans (h : BelR base rb a w) (h' : BelR base rb w w') : BelR base rb a w' :=
  ⟨h'.os.trans h.os, h'.tape.trans h.tape, h'.output.trans h.output, Nat.le_trans h.size h'.size, fun k hk hr => (h'.block k hk hr).trans (h.block k hk hr)⟩
theorem BelR.alloc (h : BelR base rb a w) (hB : base ≤ w.heap.size) (o : Obj) : BelR base rb a (w.alloc o) := h.trans (BelR.of ((Below.refl _ _).alloc (Nat.le_refl _) o) hB)
theorem BelR.drew (h : BelR base rb a w) : BelR base rb a w.drew := ⟨h.os, h.tape, h.output, h.size, h.block⟩
theorem BelR.drewN (h : BelR base rb a w) (n : Nat) : BelR base rb a (w.drewN n) := ⟨h.os, h.tape, h.output, h.size, h.block⟩
theorem BelR.grown {row : Option Nat} (h : BelR base rb a w) (hg : w.grownBy w' row) (hB : base ≤ w.heap.size) (hr : ∀ k, row = some k → base ≤ k) : BelR base rb a w' :=
  h.trans ⟨hg.os, hg.tape, hg.output, hg.size, fun k hk _ => hg.block k (by omega) (fun e => by have := hr k e.symm; omega)⟩
theorem BelR.setCell (h : BelR base rb a w) {p : Addr} (hp : base ≤ p.block ∨ p.block = rb) (u : Value) : BelR base rb a (w.setCell p u) :=
  h.trans ⟨rfl, rfl, rfl, by simp [World.setCell], fun k hk hr => Below.heap_setCell _ _ _ _ (by omega)⟩
end
section
variable {w w' : World} {base rb : Nat} {r : Rcd} {ve vc vo : Value}
end

theorem grow_alloc {w w3 : World} {o : Obj} {row : Option Nat} (h : (w.alloc o).grownBy w3 row) : w.grownBy w3 row :=
  ⟨h.os, h.tape, h.output, by have := h.size; simp at this; omega, fun k hk hne => (h.block k (by simp; omega) hne).trans (Below.heap_alloc _ _ _ hk)⟩
theorem grow_drew {w w3 : World} {row : Option Nat} (h : w.drew.grownBy w3 row) : w.grownBy w3 row := ⟨h.os, h.tape, h.output, h.size, h.block⟩
theorem grow_drewN {w w3 : World} {n : Nat} {row : Option Nat} (h : (w.drewN n).grownBy w3 row) : w.grownBy w3 row := ⟨h.os, h.tape, h.output, h.size, h.block⟩

section
variable {w w3 : World} {base rb : Nat} {r : Rcd} {ve vc vo v3 : Value}
theorem apart_symm {a b : Option Nat} (h : a = none ∨ a ≠ b) : b = none ∨ b ≠ a := by
  rcases h with rfl | h
  · cases b <;> simp
  · exact .inr fun e => h e.symm
theorem apart_new {a b v : Option Nat} {n : Nat} (h : a = none ∨ a ≠ b) (hb : ∀ k, b = some k → k < n) (hv : v = a ∨ ∃ k, v = some k ∧ n ≤ k) : v = none ∨ v ≠ b := by
  rcases hv with rfl | ⟨k, rfl, hk⟩
  · exact h
  · refine .inr fun e => ?_
    have := hb k e.symm
    omega
end

/-- what a call does -/
def recEv (r : Rcd) (e : Ev) : Ev := { e with kind := 1, op := r.calls.length }
def recCall (r : Rcd) (e : Ev) : Rcd := ⟨r.evs ++ [recEv r e], r.calls ++ [recEv r e], r.opn ++ [true]⟩
end Go.Proofs.YtcgbnlhloopnfaaDoor
namespace Go.Proofs.YtcgbnlhloopnfaaDoor
open Go.RowKit

/-- the block of the event that is recorded -/
def EvBlk (w : World) (g : Nat) (e : Ev) : Prop := w.heap[g]? = some (.cells e.cells.toArray 45 (0, 0))
theorem EvBlk.mk {w : World} (k o : Int) (wr : Bool) (r v : Int) (b : Bool) : EvBlk (w.alloc (.cells #[.int .i64 k, .int .i64 o, .bool wr, .int .i64 r, .int .i64 v, .bool b] 45)) w.heap.size ⟨k, o, wr, r, v, b⟩ := heap_alloc_new w _
theorem EvBlk.cells {w : World} {g : Nat} {e : Ev} (h : EvBlk w g e) : w.cell? ⟨g, 0, none⟩ = some (.int .i64 e.kind) ∧ w.cell? ⟨g, 1, none⟩ = some (.int .i64 e.op) ∧ w.cell? ⟨g, 2, none⟩ = some (.bool e.write) ∧ w.cell? ⟨g, 3, none⟩ = some (.int .i64 e.reg) ∧ w.cell? ⟨g, 4, none⟩ = some (.int .i64 e.val) ∧ w.cell? ⟨g, 5, none⟩ = some (.bool e.barrier) := by
  refine ⟨?_, ?_, ?_, ?_, ?_, ?_⟩ <;> rw [cell_of_row _ _ _ _ _ _ h] <;> rfl
theorem EvBlk.lt {w : World} {g : Nat} {e : Ev} (h : EvBlk w g e) : g < w.heap.size := (Array.getElem?_eq_some_iff.1 h).1

theorem EvBlk.kept {w w3 : World} {g : Nat} {e : Ev} (h : EvBlk w g e) {row : Option Nat} (hg : w.grownBy w3 row) (hne : ∀ k, row = some k → k < g) {rb i : Nat} (hr : rb ≠ g) (u : Value) : EvBlk (w3.setCell ⟨rb, i, none⟩ u) g e := by
  unfold EvBlk
  rw [heap_setCell_other _ _ _ _ (fun e => hr e.symm)]
  exact (hg.block g h.lt (fun e => by have := hne g e.symm; omega)).trans h
theorem below_put {B rb : Nat} {w0 w w3 : World} {row : Option Nat} (h : BelR B rb w0 w) (hg : w.grownBy w3 row) (hB : B ≤ w.heap.size) (hr : ∀ k, row = some k → B ≤ k) {i : Nat} (u : Value) : BelR B rb w0 (w3.setCell ⟨rb, i, none⟩ u) :=
  (h.grown hg hB hr).setCell (.inr rfl) u

end Go.Proofs.YtcgbnlhloopnfaaDoor
namespace Go.Proofs.YtcgbnlhloopnfaaDoor
open Go.RowKit

/-- what a call answers and leaves -/
def recCallN (r : Rcd) (e : Ev) : Int × Rcd := if e.reg < 0 ∨ e.val < 0 then (-1, r) else ((r.calls.length : Int), recCall r e)
def RcdLe (r : Rcd) (n : Nat) : Prop := r.evs.length ≤ n ∧ r.calls.length ≤ n ∧ r.opn.length = r.calls.length

/-- the methods of a nil recorder -/
def NilPost (w : World) (x : Int) (s : Ending) (w' : World) : Prop := s = .returned (.int .i64 x) ∧ Below w.heap.size w w'
/-- Clone, Events -/
theorem OwS.cases {w : World} {base size : Nat} {e : TypeId} {v : Value} {rows : List (List Value)} (h : OwS w base e size v rows) : (v = .slice none 0 0 ∧ rows = []) ∨ ∃ g c, v = .slice (some ⟨g, 0, none⟩) rows.length c ∧ base ≤ g ∧ g < w.heap.size := by
  rcases h.2.2 with ⟨hv, h0⟩ | ⟨g, cap, cur, hv, hb, hh, _⟩
  · exact .inl ⟨hv, List.eq_nil_of_length_eq_zero h0⟩
  · exact .inr ⟨g, cap, hv, hb, (Array.getElem?_eq_some_iff.1 hh).1⟩
/-- a cut -/
def recCut (r : Rcd) : Rcd := ⟨r.evs ++ [Ev.cut], r.calls, r.opn.map fun _ => false⟩
def offTo (l : List Bool) (k : Nat) : List Bool := (l.take k).map (fun _ => false) ++ l.drop k
theorem offTo_len (l : List Bool) (k : Nat) : (offTo l k).length = l.length := by simp [offTo]; omega
theorem offTo_zero (l : List Bool) : offTo l 0 = l := by simp [offTo]
theorem offTo_all (l : List Bool) : offTo l l.length = l.map fun _ => false := by simp [offTo]
theorem offTo_succ {l : List Bool} {k : Nat} (h : k < l.length) : offTo l (k + 1) = (offTo l k).set k false := by
  unfold offTo
  rw [List.set_append_right _ _ (by simp; omega)]
  rw [List.take_add_one, List.getElem?_eq_getElem h, List.drop_eq_getElem_cons h, List.length_map, List.length_take, Nat.min_eq_left (Nat.le_of_lt h), Nat.sub_self, List.set_cons_zero, Option.toList_some, List.map_append, List.append_assoc]
  rfl
end Go.Proofs.YtcgbnlhloopnfaaDoor
namespace Go.Proofs.YtcgbnlhloopnfaaDoor
open Go.RowKit

theorem conv_u8 (x : Int) (h0 : 0 ≤ x) (h1 : x < 256) (W : World) : (convert 5 3 (.int .u8 x)).run Tryd.prog W = .ok (.int .i64 x) W := by
  rw [run_convert_int W 5 3 .u8 x (by rw [Tryd.underlying5]; rfl) (by kernel_rfl)]
  have hk : Tryd.prog.intKind 3 = .i64 := by kernel_rfl
  rw [hk]
  have : IntKind.i64.wrap x = x := by simp [IntKind.wrap, IntKind.bits, IntKind.signed]; omega
  rw [this]
theorem byte_nat {n : Int} (h : (Lit.int .u8 n).wf = true) : ∃ m : Nat, n = m ∧ m < 256 := by
  rw [Lit.wf_int_iff, IntKind.min_u8, IntKind.max_u8] at h
  exact ⟨n.toNat, by omega, by omega⟩
theorem small_wf (x : Nat) (h : x < 100000) : (Lit.int .i64 (x : Int)).wf = true := by
  rw [Lit.wf_int_iff, IntKind.min_i64, IntKind.max_i64]
  omega
end Go.Proofs.YtcgbnlhloopnfaaDoor
namespace Go.Proofs.YtcgbnlhloopnfaaDoor
open Go.ChangeShapes Go.WideShapes Go.Deep Go.RowKit

def WfV (l : List Ev) : Prop := ∀ e ∈ l, (Lit.int .i64 e.op).wf = true ∧ (Lit.int .i64 e.reg).wf = true ∧ (Lit.int .i64 e.val).wf = true
theorem sixV {α : Type} {l : List α} (h : l.length = 6) : ∃ a b c d e f, l = [a, b, c, d, e, f] := by
  match l, h with
  | [a, b, c, d, e, f], _ => exact ⟨a, b, c, d, e, f, rfl⟩

theorem cells_ev : Tryd.prog.cellsOf 45 = 6 := by kernel_rfl
theorem one_ev : Tryd.prog.cellsOf 3 = 1 := by kernel_rfl
theorem one_fl : Tryd.prog.cellsOf 4 = 1 := by kernel_rfl

/-- one event -/
theorem open_ev {H : Type} {enc : TypeId × Value → H} {w : World} {base : Nat} {spare : Nat → Bool} {held : Bool} {n : Nat} {cs : List Value} {x : DataW H × List MemPlace}
    (h : DataW.trod enc Tryd.prog w base spare held n 45 cs = some x) : ∃ e : Ev, cs = e.cells ∧ (Lit.int .i64 e.op).wf = true ∧ (Lit.int .i64 e.reg).wf = true ∧ (Lit.int .i64 e.val).wf = true := by
  obtain ⟨ys, m, -, -, hlen, hyl, hf⟩ := DataW.trod_struct Tryd.underlying45 h
  rw [cells_ev] at hlen
  obtain ⟨v0, v1, v2, v3, v4, v5, rfl⟩ := sixV hlen
  obtain ⟨y0, y1, y2, y3, y4, y5, rfl⟩ := sixV (show ys.length = 6 from hyl)
  have h0 : DataW.trod enc Tryd.prog w base spare held m 3 (([v0, v1, v2, v3, v4, v5].drop 0).take (Tryd.prog.cellsOf 3)) = some y0 := hf 0 _ rfl
  rw [one_ev] at h0
  have h1 : DataW.trod enc Tryd.prog w base spare held m 3 (([v0, v1, v2, v3, v4, v5].drop 1).take (Tryd.prog.cellsOf 3)) = some y1 := hf 1 _ rfl
  rw [one_ev] at h1
  have h2 : DataW.trod enc Tryd.prog w base spare held m 4 (([v0, v1, v2, v3, v4, v5].drop 2).take (Tryd.prog.cellsOf 4)) = some y2 := hf 2 _ rfl
  rw [one_fl] at h2
  have h3 : DataW.trod enc Tryd.prog w base spare held m 3 (([v0, v1, v2, v3, v4, v5].drop 3).take (Tryd.prog.cellsOf 3)) = some y3 := hf 3 _ rfl
  rw [one_ev] at h3
  have h4 : DataW.trod enc Tryd.prog w base spare held m 3 (([v0, v1, v2, v3, v4, v5].drop 4).take (Tryd.prog.cellsOf 3)) = some y4 := hf 4 _ rfl
  rw [one_ev] at h4
  have h5 : DataW.trod enc Tryd.prog w base spare held m 4 (([v0, v1, v2, v3, v4, v5].drop 5).take (Tryd.prog.cellsOf 4)) = some y5 := hf 5 _ rfl
  rw [one_fl] at h5
  obtain ⟨n0, e0, -, -⟩ := DataW.trod_int Tryd.underlying3 h0
  obtain ⟨n1, e1, -, w1⟩ := DataW.trod_int Tryd.underlying3 h1
  obtain ⟨n2, e2, -⟩ := DataW.trod_bool Tryd.underlying4 h2
  obtain ⟨n3, e3, -, w3⟩ := DataW.trod_int Tryd.underlying3 h3
  obtain ⟨n4, e4, -, w4⟩ := DataW.trod_int Tryd.underlying3 h4
  obtain ⟨n5, e5, -⟩ := DataW.trod_bool Tryd.underlying4 h5
  cases e0; cases e1; cases e2; cases e3; cases e4; cases e5
  exact ⟨⟨n0, n1, n2, n3, n4, n5⟩, rfl, w1, w3, w4⟩

/-- a list of events -/
theorem open_evs {H : Type} {enc : TypeId × Value → H} {w : World} {base : Nat} {spare : Nat → Bool} {held : Bool} {n : Nat} {cs : List Value} {x : DataW H × List MemPlace}
    (h : DataW.trod enc Tryd.prog w base spare held n 22 cs = some x) : ∃ (l : List Ev) (A : Option Addr) (c : Nat), cs = [.slice A l.length c] ∧ EvS w w.heap.size A l ∧ WfV l := by
  rcases open_slice Tryd.underlying22 h with ⟨hcs, -⟩ | ⟨a, len, cap, m, k, D, Pl, hcs, hb, hl, hm, hmm, hx, hi⟩
  · exact ⟨[], none, 0, hcs, RdS.nil _ _ _ _, by simp [WfV]⟩
  · rw [cells_ev] at hi
    have hle : len ≤ m := by rw [hmm]; split <;> omega
    have hE : ∀ i, ∃ e : Ev, i < len → (∀ j v, e.cells[j]? = some v → w.cell? (a.add (i * 6 + j)) = some v) ∧ (Lit.int .i64 e.op).wf = true ∧ (Lit.int .i64 e.reg).wf = true ∧ (Lit.int .i64 e.val).wf = true := fun i => by
      by_cases him : i < len
      · obtain ⟨cs', hc, ht⟩ := hi i (by omega)
        obtain ⟨e, rfl, hw⟩ := open_ev ht
        obtain ⟨_, hcl, hat⟩ := World.cells?_some hc
        refine ⟨e, fun _ => ⟨fun j v hj => ?_, hw⟩⟩
        have hj6 : j < 6 := (List.getElem?_eq_some_iff.1 hj).1
        rw [← Go.Deep.add_add, hat j hj6, hj]
      · exact ⟨⟨0, 0, false, 0, 0, false⟩, fun h => absurd h him⟩
    obtain ⟨f, hf⟩ := Classical.axiomOfChoice hE
    refine ⟨(List.range len).map f, some a, cap, by simpa using hcs, ⟨by simp [Ev.cells], fun h0 => ?_⟩, fun e he => ?_⟩
    · have h0' : 0 < len := by simpa using h0
      have hc0 := (hf 0 h0').1 0 _ rfl
      obtain ⟨b, off, spot⟩ := a
      have hspot : spot = none := by simpa [Addr.add] using World.cell?_spot hc0
      subst hspot
      refine ⟨b, off, rfl, by simpa [Addr.add] using block_lt_of_cell hc0, fun i r hr j v hj => ?_⟩
      have hil : i < len := by
        have := (List.getElem?_eq_some_iff.1 hr).1
        simpa using this
      have hrr : r = (f i).cells := by
        rw [List.getElem?_map, List.getElem?_map, List.getElem?_range hil] at hr
        simpa using hr.symm
      subst hrr
      have := (hf i hil).1 j v hj
      rw [show (⟨b, off, none⟩ : Addr).add (i * 6 + j) = ⟨b, off + (i * 6 + j), none⟩ from Addr.add_lit _ _ _] at this
      rw [Nat.add_assoc]
      exact this
    · obtain ⟨i, hi', rfl⟩ := List.mem_map.1 he
      exact (hf i (List.mem_range.1 hi')).2
end Go.Proofs.YtcgbnlhloopnfaaDoor
