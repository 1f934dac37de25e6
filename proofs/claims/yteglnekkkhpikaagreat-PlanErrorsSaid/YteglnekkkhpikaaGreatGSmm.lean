/- Laws on slices of rows: append, store, separation. Nothing of the program is walked here.
Maps of the call's own, by what they answer: pointers and bools as elements. Nothing of the program is walked here.
A region that draws its order: a head that only reads and calls (the callees may make memory), then a tail in one order. The ordering lemmas are the kit's (StillTail, Quiet); the class of worlds is 'below'.
A region that draws its order, some of whose operations have come up: those of a stretch that only read may be taken in the order of the text, if nothing else may come up before the last of them. The ordering lemmas are the kit's (StillTail, Quiet, Orders).
append as one step of a region that draws its order.
What a call that lays a list of events answers; slices that a literal lays. Nothing of the program is walked here.
Bytes as small numbers: their range, their conversion to int, the range of small ints.
Layouts, moves, places, lists of booleans and of lists in memory. No program is walked here. -/
import Derived.Test.YteglnekkkhpikaaGreatGSpl
import Derived.Maps.AppendAt
import Derived.StillTail
import Derived.Maps.Own
import Derived.Maps.OwnOps
import Derived.Maps.OwnSet
import Derived.Lib.QuietBelow
import Derived.Deep.RegionLaw
import Derived.DataShut
namespace Go.Proofs.YteglnekkkhpikaaGreat
open Go.RowKit

/-- What is asked of a slice type and its element type. -/
def Elem (P : Program) (t e : TypeId) (size bytes : Nat) : Prop :=
  P.underlying t = some (.slice e) ∧ 0 < size ∧ ∃ i z, P.info? e = some i ∧ i.zero = some z ∧ i.size = size ∧ i.bytes = bytes ∧ z.cells.size = size
theorem Elem.mk {P : Program} {t e : TypeId} {size bytes : Nat} {z : Value} (ht : P.underlying t = some (.slice e)) (h : (P.info? e).map (fun i => (i.zero, i.size, i.bytes)) = some (some z, size, bytes)) (hs : 0 < size) (hz : z.cells.size = size) : Elem P t e size bytes := by
  obtain ⟨i, hi, h1, h2, h3⟩ := info_parts h
  exact ⟨ht, hs, i, z, hi, h1, h2, h3, hz⟩

section
variable {P : Program} {w w' : World} {base size bytes : Nat} {t e : TypeId} {v : Value} {rows : List (List Value)}

theorem OwS.lt (h : OwS w base e size v rows) {k : Nat} (hk : v.ownBlock = some k) : base ≤ k ∧ k < w.heap.size := h.2.lt k hk
theorem OwS.ne {base' : Nat} {e' : TypeId} {size' : Nat} {v' : Value} {rows' : List (List Value)} (h : OwS w base e size v rows) (h' : OwS w base' e' size' v' rows') (hne : e ≠ e') : v.ownBlock = none ∨ v.ownBlock ≠ v'.ownBlock := by
  rcases h.2.2 with ⟨rfl, _⟩ | ⟨g, cap, cur, rfl, _, hg, _⟩
  · exact .inl rfl
  · rcases h'.2.2 with ⟨rfl, _⟩ | ⟨g', cap', cur', rfl, _, hg', _⟩
    · right; simp [Value.ownBlock]
    · right
      simp only [Value.ownBlock]
      rintro hgg
      injection hgg with hgg
      subst hgg
      rw [hg] at hg'
      injection hg' with hg'
      injection hg' with _ he
      exact hne he

theorem OwS.pos (h : OwS w base e size v rows) (hn : 0 < rows.length) : ∃ g cap, v = .slice (some ⟨g, 0, none⟩) rows.length cap ∧ base ≤ g ∧ g < w.heap.size := by
  rcases h.2.2 with ⟨_, h0⟩ | ⟨g, cap, cur, hv, hb, hh, _⟩
  · omega
  · exact ⟨g, cap, hv, hb, (Array.getElem?_eq_some_iff.1 hh).1⟩
theorem OwS.drewN (h : OwS w base e size v rows) (n : Nat) : OwS (w.drewN n) base e size v rows := h
theorem OwS.drew (h : OwS w base e size v rows) : OwS w.drew base e size v rows := h
theorem OwS.blk_ne {g : Nat} {cs : Array Value} {t : TypeId} {fr : Nat × Nat} (h : OwS w base e size v rows) (hb : w.heap[g]? = some (.cells cs t fr)) (hne : e ≠ t) : v.ownBlock ≠ some g := by
  rcases h.2.2 with ⟨rfl, _⟩ | ⟨g', cap, cur, rfl, _, hg, _⟩
  · simp [Value.ownBlock]
  · simp only [Value.ownBlock]
    rintro hgg
    injection hgg with hgg
    subst hgg
    rw [hg] at hb
    injection hb with hb
    injection hb with _ he
    exact hne he

theorem OwS.mono {base' : Nat} (h : OwS w base e size v rows) (hb : base' ≤ base) : OwS w base' e size v rows := by
  refine ⟨h.1, h.2.1, ?_⟩
  rcases h.2.2 with h0 | ⟨g, cap, cur, hv, hg, r⟩
  · exact .inl h0
  · exact .inr ⟨g, cap, cur, hv, by omega, r⟩

/-- append of a slice that reads as rows -/
theorem wpList_apS {ops : Array Oper} {rest : List Oper} {o : Oper} {a : Act} {Q : Exit → Act → World → Prop} (hgd : o.guard = none) (s x : Operand) (t : TypeId)
    (ho : o.op = .call { callee := .builtin .append, args := #[s, x], argTypes := #[t, t] }) (E : Elem P t e size bytes)
    (hs : a.eval s = v) (hown : OwS w base e size v rows) (B : Nat) (A : Option Addr) (m c : Nat) (news : List (List Value)) (hx : a.eval x = .slice A m c) (hr : RdS w B size A news) (hm : m = news.length)
    (h1 : ∀ r ∈ news, ∀ u ∈ r, u.oneCell' = true) (h63 : rows.length + news.length ≤ maxLen) (hbytes : (rows.length + news.length) * bytes ≤ 140737488355328) (hbase : base ≤ w.heap.size)
    (h : ∀ v' w', OwS w' base e size v' (rows ++ news) → w.grownBy w' v.ownBlock → (v'.ownBlock = v.ownBlock ∨ v'.ownBlock = some w.heap.size) → wpList P ops Q rest (a.put o.dst v') w') : wpList P ops Q (o :: rest) a w := by
  obtain ⟨ht, hsz, i, z, hi, hz, hsize, hby, hzs⟩ := E
  have hone : ∀ u ∈ news.flatten, u.oneCell' = true := by
    intro u hu
    obtain ⟨r, hr, hu⟩ := List.mem_flatten.1 hu
    exact h1 r hr u hu
  have hfl : news.flatten.length = news.length * size := flatten_length hr.1
  have hall : ∀ r ∈ rows ++ news, r.length = size := by
    intro r hrr
    rcases List.mem_append.1 hrr with hrr | hrr
    · exact hown.1 r hrr
    · exact hr.1 r hrr
  by_cases h0 : news.length = 0
  · have hn : news = [] := List.eq_nil_of_length_eq_zero h0
    subst hn
    simp only [List.length_nil] at hm
    subst hm
    have hrun : (Builtin.append_ #[t, t] o.type #[v, .slice A 0 c]).run P w = .ok v w := by
      rcases A with _ | ad
      · rcases hown.2.2 with ⟨rfl, _⟩ | ⟨g, cap, cur, rfl, _, _, hnc, _⟩
        · simp [Builtin.append_, run_underlying ht, sizeOf, typeInfo, hi, Builtin.lenOf, Builtin.firstCells]
        · simp [Builtin.append_, run_underlying ht, sizeOf, typeInfo, hi, Builtin.lenOf, Builtin.firstCells, hnc, storeCells]
      · rcases hown.2.2 with ⟨rfl, hz0⟩ | ⟨g, cap, cur, rfl, _, _, hnc, _⟩
        · simp [Builtin.append_, run_underlying ht, sizeOf, typeInfo, hi, Builtin.lenOf, Builtin.firstCells, loadCells, loadCellsFrom]
        · simp [Builtin.append_, run_underlying ht, sizeOf, typeInfo, hi, Builtin.lenOf, Builtin.firstCells, hnc, storeCells, loadCells, loadCellsFrom]
    refine wpList_plain hgd fun K hK => ?_
    unfold Oper.wp execOp
    simp only [ho, resolve, invoke, builtin, Sem.run_bind, Sem.run_pure, Result.andThen_ok, List.map_toArray, List.map_cons, List.map_nil, hs, hx, hrun]
    exact hK _ _ (h v w (by simpa using hown) (World.grownBy.refl w _) (.inl rfl))
  · obtain ⟨b, off, rfl, hbB, hc⟩ := hr.2 (by omega)
    have hcells : ∀ j u, news.flatten[j]? = some u → w.cell? ((⟨b, off, none⟩ : Addr).add j) = some u := by
      intro j u hu
      have hj : j < news.length * size := by rw [← hfl]; exact (List.getElem?_eq_some_iff.1 hu).1
      have hq : j / size < news.length := Nat.div_lt_of_lt_mul (by rw [Nat.mul_comm]; exact hj)
      have hmod : j % size < size := Nat.mod_lt _ hsz
      have hrr := List.getElem?_eq_getElem hq
      have hl : (news[j / size]).length = size := hr.1 _ (List.getElem_mem hq)
      have hvv : (news[j / size])[j % size]? = some ((news[j / size])[j % size]'(by omega)) := List.getElem?_eq_getElem (by omega)
      have h2 := hc _ _ hrr _ _ hvv
      have h3 := flatten_get hr.1 _ _ hrr _ _ hvv
      have hdm : j / size * size + j % size = j := by rw [Nat.mul_comm]; exact Nat.div_add_mod j size
      rw [hdm] at h3
      rw [h3] at hu
      cases hu
      rw [Nat.add_assoc, hdm] at h2
      rw [show (⟨b, off, none⟩ : Addr).add j = ⟨b, off + j, none⟩ from Addr.add_lit _ _ _]
      exact h2
    obtain ⟨v', w', hrun, h2, h3, _, h5⟩ := run_append_own_at (P := P) w base t o.type e i z size bytes ht hi hz hsize hby hzs hsz v rows.length rows.flatten hown.2 ⟨b, off, none⟩ news.length c news.flatten hfl hcells hone h63 hbytes hbase
    refine wpList_plain hgd fun K hK => ?_
    unfold Oper.wp execOp
    rw [hm] at hx
    simp only [ho, resolve, invoke, builtin, Sem.run_bind, Sem.run_pure, Result.andThen_ok, List.map_toArray, List.map_cons, List.map_nil, hs, hx, hrun]
    exact hK _ _ (h v' w' ⟨hall, by simpa using h2⟩ h3 h5)

/-- append of one row that lies in the newest block -/
theorem wpList_ap1 {ops : Array Oper} {rest : List Oper} {o : Oper} {a : Act} {Q : Exit → Act → World → Prop} (hgd : o.guard = none) (s x : Operand) (t : TypeId)
    (ho : o.op = .call { callee := .builtin .append, args := #[s, x], argTypes := #[t, t] }) (E : Elem P t e size bytes)
    (hs : a.eval s = v) (hown : OwS w base e size v rows) (cs : List Value) (e' : TypeId) (hcs : cs.length = size) (g : Nat) (hx : a.eval x = .slice (some ⟨g, 0, none⟩) 1 1) (hg : g = w.heap.size)
    (h1 : ∀ u ∈ cs, u.oneCell' = true) (h63 : rows.length + 1 ≤ maxLen) (hbytes : (rows.length + 1) * bytes ≤ 140737488355328) (hbase : base ≤ w.heap.size)
    (h : ∀ v' w', OwS w' base e size v' (rows ++ [cs]) → (w.alloc (.cells cs.toArray e')).grownBy w' v.ownBlock → (v'.ownBlock = v.ownBlock ∨ v'.ownBlock = some (w.heap.size + 1)) → wpList P ops Q rest (a.put o.dst v') w') :
    wpList P ops Q (o :: rest) a (w.alloc (.cells cs.toArray e')) := by
  subst hg
  refine wpList_apS hgd s x t ho E hs (hown.alloc _) (w.heap.size + 1) _ 1 1 [cs] hx ⟨by simp [hcs], fun _ => ⟨w.heap.size, 0, rfl, by omega, ?_⟩⟩ rfl (by simpa using h1) (by simpa using h63) (by simpa using hbytes) (by simp; omega) ?_
  · intro i r hi j u hj
    match i, hi with
    | 0, hi =>
      simp at hi
      subst hi
      rw [cell_of_row _ w.heap.size _ cs.toArray e' (0, 0) (heap_alloc_new w _)]
      simpa using hj
  · intro v' w' h2 h3 h4
    exact h v' w' h2 h3 (by simpa using h4)

theorem flatten_set {rows : List (List Value)} (hs : ∀ r ∈ rows, r.length = size) : ∀ (i : Nat) (r : List Value), rows[i]? = some r → ∀ (j : Nat) (u : Value), j < size → rows.flatten.set (i * size + j) u = (rows.set i (r.set j u)).flatten := by
  induction rows with
  | nil => intro i r hr; simp at hr
  | cons x xs ih =>
    intro i r hr j u hj
    have hx : x.length = size := hs x (by simp)
    have hxs : ∀ r ∈ xs, r.length = size := fun r hr => hs r (by simp [hr])
    cases i with
    | zero =>
      simp at hr
      subst hr
      simp only [List.flatten_cons, Nat.zero_mul, Nat.zero_add, List.set_cons_zero]
      rw [List.set_append_left _ _ (by omega)]
    | succ i =>
      simp at hr
      have := ih hxs i r hr j u hj
      simp only [List.flatten_cons, List.set_cons_succ]
      rw [List.set_append_right _ _ (by rw [hx, Nat.add_mul]; omega)]
      rw [show (i + 1) * size + j - x.length = i * size + j by rw [hx, Nat.add_mul]; omega, this]

theorem OwS.cell {g cap n : Nat} (h : OwS w base e size (.slice (some ⟨g, 0, none⟩) n cap) rows) {k j : Nat} {r : List Value} {u : Value} (hr : rows[k]? = some r) (hj : r[j]? = some u) : w.cell? ⟨g, k * size + j, none⟩ = some u := by
  obtain ⟨b, off, hb, _, hc⟩ := h.reads.2 (by have := (List.getElem?_eq_some_iff.1 hr).1; omega)
  cases hb
  simpa using hc k r hr j u hj
theorem OwS.frozen {g cap n : Nat} (h : OwS w base e size (.slice (some ⟨g, 0, none⟩) n cap) rows) (j : Nat) : w.frozen? ⟨g, j, none⟩ = false := by
  have hn : n = rows.length := by
    rcases h.2.2 with ⟨h', _⟩ | ⟨g', cap', cur, h', _⟩
    · simp at h'
    · injection h'
  subst hn
  exact h.2.frozenAt j
theorem OwS.set {g cap n : Nat} (h : OwS w base e size (.slice (some ⟨g, 0, none⟩) n cap) rows) {k j : Nat} {r : List Value} (hr : rows[k]? = some r) (hj : j < size) (u : Value) :
    OwS (w.setCell ⟨g, k * size + j, none⟩ u) base e size (.slice (some ⟨g, 0, none⟩) n cap) (rows.set k (r.set j u)) ∧ w.grownBy (w.setCell ⟨g, k * size + j, none⟩ u) (some g) := by
  have hn : n = rows.length := by
    rcases h.2.2 with ⟨h', _⟩ | ⟨g', cap', cur, h', _⟩
    · simp at h'
    · injection h'
  subst hn
  obtain ⟨h1, h2⟩ := h.2.stored (k * size + j) u
  rw [flatten_set h.1 k r hr j u hj] at h1
  have hall : ∀ r' ∈ rows.set k (r.set j u), r'.length = size := by
    intro r' hr'
    rcases List.mem_or_eq_of_mem_set hr' with h' | rfl
    · exact h.1 _ h'
    · rw [List.length_set]; exact h.1 _ (List.mem_of_getElem? hr)
  exact ⟨⟨hall, by simpa using h1⟩, h2⟩
end
theorem grownBy_setCell (w : World) (p : Addr) (u : Value) : w.grownBy (w.setCell p u) (some p.block) :=
  ⟨rfl, rfl, rfl, by simp [World.setCell], fun k _ hk => heap_setCell_other w p k u (fun e => hk (by rw [e]))⟩
theorem OwS.far {w : World} {base size : Nat} {e : TypeId} {v : Value} {rows : List (List Value)} (h : OwS w base e size v rows) {p : Addr} (hp : v.ownBlock ≠ some p.block) (u : Value) : OwS (w.setCell p u) base e size v rows :=
  h.kept (grownBy_setCell w p u) (.inr hp)
/-- a region that draws: reads, then a tail in one order; the world behind the draw under its name -/
theorem still_tail_drew {P : Program} {w : World} {id : Nat} {Q : Exit → Act → World → Prop} {a : Act} {l : List Oper} (n : Nat) (hm : P.follows .mixedOrders = true) (hB : Region.lexTailB .any l.toArray n = true)
    (h : wpStill P l.toArray w.drew (fun a' => wpList P l.toArray Q (l.drop n) a' w.drew) (l.take n) a) : (Code.region id l.toArray true).wp P Q a w :=
  wp_region_still_tail n hm hB h
/-- the world relation of a call that only makes memory, behind a step that grows one of its own rows -/
theorem below_grown {B : Nat} {a w w' : World} {row : Option Nat} (h : Below B a w) (hg : w.grownBy w' row) (hB : B ≤ w.heap.size) (hr : ∀ k, row = some k → B ≤ k) : Below B a w' := h.grown hg hB hr
theorem OwS.oneEv {l : List Ev} : ∀ r ∈ l.map Ev.cells, ∀ u ∈ r, u.oneCell' = true := by
  intro r hr u hu
  obtain ⟨e, _, rfl⟩ := List.mem_map.1 hr
  simp [Ev.cells] at hu
  rcases hu with rfl | rfl | rfl | rfl | rfl | rfl <;> rfl
theorem Ev.one (e : Ev) : ∀ u ∈ e.cells, u.oneCell' = true := by
  intro u hu
  simp [Ev.cells] at hu
  rcases hu with rfl | rfl | rfl | rfl | rfl | rfl <;> rfl
theorem Opr.one (e : Opr) : ∀ u ∈ e.cells, u.oneCell' = true := by
  intro u hu
  simp [Opr.cells] at hu
  rcases hu with rfl | rfl | rfl | rfl | rfl | rfl | rfl | rfl <;> rfl

end Go.Proofs.YteglnekkkhpikaaGreat
namespace Go.Proofs.YteglnekkkhpikaaGreat
open Go.RowKit
open Go.Maps (Keyed)

structure Codec (α : Type) where
  R : Value → Option (DataW Unit × List MemPlace)
  val : α → Value
  dat : α → DataW Unit
  zero : α
  rval : ∀ a, R (val a) = some (dat a, [])
  inv : ∀ v a ps, R v = some (dat a, ps) → v = val a

def ptrV : Option (Nat × Nat) → Value
  | none => .pointer none
  | some (b, o) => .pointer (some ⟨b, o, none⟩)
def ptrD : Option (Nat × Nat) → DataW Unit
  | none => .nil
  | some (b, o) => .agg [.lit (.int .i64 b), .lit (.int .i64 o)]
def ptrR : Value → Option (DataW Unit × List MemPlace)
  | .pointer none => some (.nil, [])
  | .pointer (some ⟨b, o, none⟩) => some (.agg [.lit (.int .i64 b), .lit (.int .i64 o)], [])
  | _ => none
def ptrC : Codec (Option (Nat × Nat)) where
  R := ptrR
  val := ptrV
  dat := ptrD
  zero := none
  rval a := by rcases a with _ | ⟨b, o⟩ <;> rfl
  inv v a ps h := by
    unfold ptrR at h
    split at h
    · rcases a with _ | ⟨b, o⟩
      · rfl
      · simp [ptrD] at h
    · rcases a with _ | ⟨b', o'⟩
      · simp [ptrD] at h
      · simp [ptrD] at h
        obtain ⟨⟨h1, h2⟩, _⟩ := h
        obtain rfl := Int.ofNat_inj.1 h1
        obtain rfl := Int.ofNat_inj.1 h2
        rfl
    · cases h
def boolR : Value → Option (DataW Unit × List MemPlace)
  | .bool x => some (.lit (.bool x), [])
  | _ => none
def boolC : Codec Bool where
  R := boolR
  val := .bool
  dat x := .lit (.bool x)
  zero := false
  rval a := rfl
  inv v a ps h := by
    unfold boolR at h
    split at h
    · simp at h; rw [h.1]
    · cases h

section
variable {α : Type} {C : Codec α} {P : Program} {k : TypeId} {w w' : World} {b n : Nat} {f : Lit → α}

def updK (f : Lit → α) (kl : Lit) (a : α) : Lit → α := fun x => if x.sameKey kl then a else f x

def MapG (C : Codec α) (w : World) (P : Program) (k : TypeId) (b n : Nat) (f : Lit → α) : Prop :=
  ∃ D, w.ownsMap P k C.R b n D ∧ Maps.IsMap D ∧ ∀ kl, WideAt.IsKeyLit kl → D.atKey kl (C.dat C.zero) = C.dat (f kl)

theorem MapG.made (w : World) (P : Program) (k : TypeId) : MapG C (w.alloc (.map #[] 0)) P k w.heap.size 0 (fun _ => C.zero) :=
  ⟨.map [], World.ownsMap_made w P k C.R, Maps.isMap_empty, fun _ _ => rfl⟩
theorem MapG.lt (h : MapG C w P k b n f) : b < w.heap.size := by obtain ⟨D, h1, _⟩ := h; exact h1.lt
theorem MapG.kept (h : MapG C w P k b n f) {row : Option Nat} (hg : w.grownBy w' row) (hne : some b ≠ row) : MapG C w' P k b n f := by
  obtain ⟨D, h1, h2⟩ := h; exact ⟨D, h1.kept hg hne, h2⟩
theorem MapG.alloc (h : MapG C w P k b n f) (o : Obj) : MapG C (w.alloc o) P k b n f := by
  obtain ⟨D, h1, h2⟩ := h; exact ⟨D, h1.alloc o, h2⟩
theorem MapG.drewN (h : MapG C w P k b n f) (m : Nat) : MapG C (w.drewN m) P k b n f := h
theorem MapG.below (h : MapG C w P k b n f) (hb : Below w.heap.size w w') : MapG C w' P k b n f :=
  h.kept (row := none) ⟨hb.os, hb.tape, hb.output, hb.size, fun k hk _ => hb.block k hk⟩ (by simp)
theorem MapG.block (h : MapG C w P k b n f) (hb : w'.heap[b]? = w.heap[b]?) : MapG C w' P k b n f := by
  obtain ⟨D, ⟨es, clock, h0, h1⟩, h2⟩ := h
  exact ⟨D, ⟨es, clock, hb.trans h0, h1⟩, h2⟩
theorem MapG.look (h : MapG C w P k b n f) {t e : TypeId} (K : Keyed P k) (ht : P.underlying t = some (.map k e)) (hz : (zeroValue e).run P w = .ok (C.val C.zero) w)
    {key : Value} {kl : Lit} (hkey : keyOf P k key = some kl) (hk : WideAt.IsKeyLit kl) : (Instr.lookup t (.map (some b)) key false).run P w = .ok (C.val (f kl)) w := by
  obtain ⟨D, h1, _, h3⟩ := h
  obtain ⟨v, ps, hrun, hv⟩ := h1.lookup K ht hz (C.rval C.zero) hkey
  rw [h3 kl hk] at hv
  rw [hrun, C.inv v (f kl) ps hv]
theorem MapG.put {D : DataW Unit} {kl : Lit} {a : α} (hkl : WideAt.IsKeyLit kl) (h1 : w.ownsMap P k C.R b n (D.put kl (C.dat a))) (h2 : Maps.IsMap D) (h3 : ∀ kl, WideAt.IsKeyLit kl → D.atKey kl (C.dat C.zero) = C.dat (f kl)) :
    MapG C w P k b n (updK f kl a) := by
  refine ⟨_, h1, h2.put _ _, fun x hx => ?_⟩
  by_cases hxk : x = kl
  · subst hxk
    rw [Maps.atKey_put_same h2 hx, updK, WideAt.sameKey_self hx]
    rfl
  · rw [Maps.atKey_put_other hxk, h3 x hx, updK, Maps.sameKey_ne hxk]
    rfl
theorem wpList_lookG {ops : Array Oper} {rest : List Oper} {o : Oper} {a : Act} {Q : Exit → Act → World → Prop} (hg : o.guard = none) (m x : Operand) (t : TypeId) (hop : o.op = Op.lookup t m x false)
    {e : TypeId} (K : Keyed P k) (ht : P.underlying t = some (.map k e)) (hz : (zeroValue e).run P w = .ok (C.val C.zero) w) (hm : a.eval m = .map (some b)) (h : MapG C w P k b n f)
    (key : Value) (kl : Lit) (hx : a.eval x = key) (hkey : keyOf P k key = some kl) (hk : WideAt.IsKeyLit kl)
    (hK : wpList P ops Q rest (a.put o.dst (C.val (f kl))) w) : wpList P ops Q (o :: rest) a w := by
  refine wpList_plain hg fun K' hK' => ?_
  have hrun := h.look K ht hz hkey hk
  unfold Oper.wp
  simp [execOp, hop, hm, hx, hrun, Result.andThen]
  exact hK' _ _ hK
theorem wpList_putG {ops : Array Oper} {rest : List Oper} {o : Oper} {a : Act} {Q : Exit → Act → World → Prop} (hg : o.guard = none) (m x v : Operand) (t : TypeId) (hop : o.op = Op.mapUpdate t m x v)
    {e : TypeId} (K : Keyed P k) (ht : P.underlying t = some (.map k e)) (hm : a.eval m = .map (some b)) (h : MapG C w P k b n f) (hn : n < maxLen) (key : Value) (kl : Lit) (hx : a.eval x = key) (hkey : keyOf P k key = some kl) (hkl : WideAt.IsKeyLit kl)
    (y : α) (hv : a.eval v = C.val y)
    (hK : ∀ w', MapG C w' P k b (n + 1) (updK f kl y) → w.grownBy w' (some b) → wpList P ops Q rest (a.put o.dst undef) w') : wpList P ops Q (o :: rest) a w := by
  obtain ⟨D, h1, h2, h3⟩ := h
  exact wpList_mapUpdate_own w hg m x v t hop k e K ht C.R b n D hm h1 hn key _ kl hx hv hkey (C.dat y) [] (C.rval y) fun w' h1' hg' => hK w' (MapG.put hkl h1' h2 h3) hg'
end
end Go.Proofs.YteglnekkkhpikaaGreat
namespace Go.Proofs.YteglnekkkhpikaaGreat
open Go.RowKit

section
variable {P : Program} {ops : Array Oper} {md : Region.Mode} {C : World → Prop}

def headQ (P : Program) (md : Region.Mode) (ops : Array Oper) (C : World → Prop) (n : Nat) (L : Array Bool → Act → Prop) : Nat → Array Bool → Act → Prop
  | 0, listed, a => L listed a
  | f + 1, listed, a => Region.ready md ops listed ≠ [] ∧ ∀ i ∈ Region.ready md ops listed, i < n ∧ qOp P ops C i (headQ P md ops C n L f (listed.setIfInBounds i true)) a

theorem any_of_headQ {n g : Nat} {L : Array Bool → Act → Prop} {Q' : Exit → Act → World → Prop} (hL : ∀ listed a w, C w → L listed a → wpAny P md ops Q' g listed a w) :
    ∀ (f : Nat) (listed : Array Bool) (a : Act) (w : World), C w → headQ P md ops C n L f listed a → wpAny P md ops Q' (f + g) listed a w
  | 0, listed, a, w, hw, h => by rw [Nat.zero_add]; exact hL _ _ _ hw h
  | f + 1, listed, a, w, hw, h => by
    rw [show f + 1 + g = (f + g) + 1 by omega]
    exact ⟨fun h0 => absurd h0 h.1, fun i hi => wpOp_of_qOp hw (fun a' w' hw' h' => any_of_headQ hL f _ a' w' hw' h') (h.2 i hi).2⟩

theorem headQ_first {n i : Nat} {oi : Oper} {v : Value} {L : Array Bool → Act → Prop} (hi : ops[i]? = some oi) (hsel : ∀ (j : Nat) (o : Oper) cs b, ops[j]? = some o → o.op ≠ .select cs b)
    (hs : Region.sinkB md ops n = true) (hc : Region.chainB md ops n = true) (hn : n < ops.size) (hin : i < n)
    (hdone : ∀ listed a, L listed a → ∀ j ∈ Region.ready md ops listed, n ≤ j) :
    ∀ (f : Nat) (listed : Array Bool) (a : Act), HeadInv md ops n listed →
      (∀ j oj, ops[j]? = some oj → j ≠ i → listed.getD j true = false → (∀ e ∈ oj.after, Region.binds md e = true → e.on ≠ i) → oi.apart ops oj = true) →
      i ∈ Region.ready md ops listed → YieldsIn P ops C oi v a →
      headQ P md ops C n L f (listed.setIfInBounds i true) (a.put oi.dst v) → headQ P md ops C n L (f + 1) listed a := by
  intro f
  induction f with
  | zero =>
    intro listed a inv _ hr hy H
    have hun := (mem_ready.1 hr).1
    refine ⟨fun h => (by rw [h] at hr; cases hr), fun j hj => ?_⟩
    have hjn : j < n := by
      rcases Nat.lt_or_ge j n with h | h
      · exact h
      · exact absurd hj (tail_waits hs hc hn inv _ i rfl hin hun j h)
    refine ⟨hjn, ?_⟩
    by_cases hji : j = i
    · subst hji; exact hy.qOp hi H
    · have := hdone _ _ H j (ready_mono hj hji)
      omega
  | succ f ih =>
    intro listed a inv hfree hr hy H
    have hun := (mem_ready.1 hr).1
    refine ⟨fun h => (by rw [h] at hr; cases hr), fun j hj => ?_⟩
    have hjn : j < n := by
      rcases Nat.lt_or_ge j n with h | h
      · exact h
      · exact absurd hj (tail_waits hs hc hn inv _ i rfl hin hun j h)
    refine ⟨hjn, ?_⟩
    by_cases hji : j = i
    · subst hji; exact hy.qOp hi H
    · have h1 := (H.2 j (ready_mono hj hji)).2
      obtain ⟨hjun, oj, hoj, hall⟩ := mem_ready.1 hj
      have hnot : ∀ e ∈ oj.after, Region.binds md e = true → e.on ≠ i := fun e he hb heq => by
        have h1 := hall e he hb
        rw [heq, getD_both hun] at h1
        cases h1
      have h2 := qOp_put hoj (hfree j oj hoj hji hjun hnot) (fun cs b => hsel i oi cs b hi) (fun cs b => hsel j oj cs b hoj) hy h1
      have hfree' : ∀ k ok, ops[k]? = some ok → k ≠ i → (listed.setIfInBounds j true).getD k true = false →
          (∀ e ∈ ok.after, Region.binds md e = true → e.on ≠ i) → oi.apart ops ok = true := fun k ok hk hki hun hno => by
        refine hfree k ok hk hki ?_ hno
        by_cases hjk : j = k
        · subst hjk; exact hjun
        · rw [getD_set_ne true hjk] at hun; exact hun
      refine qOp_mono (fun a' h3 => ih (listed.setIfInBounds j true) a' (inv.set hj hjn) hfree' (ready_mono hr (Ne.symm hji)) h3.1 ?_) h2
      rw [Array.setIfInBounds_comm _ _ hji]
      exact h3.2

theorem headQ_lex {n g : Nat} {Lq : Act → Prop} (hsel : Region.noSelect ops = true) (hs : Region.sinkB md ops n = true) (hc : Region.chainB md ops n = true) (hn : n < ops.size) :
    ∀ (l : List Oper) (k : Nat) (listed : Array Bool) (a : Act), (∀ j, j < l.length → l[j]? = ops[k + j]?) → k + l.length = n → HeadInv md ops n listed →
    Region.lexHead md ops g l.length k listed = true → wpQuiet P ops C Lq l a →
    headQ P md ops C n (fun listed' a' => Region.seqB md ops g n listed' = true ∧ Lq a') l.length listed a
  | [], k, listed, a, _, hk, _, hB, h => by
    have : k = n := by simpa using hk
    subst this
    exact ⟨by simpa [Region.lexHead] using hB, h⟩
  | o :: l, k, listed, a, hl, hk, inv, hB, h => by
    have h0 : ops[k]? = some o := by simpa using (hl 0 (by simp)).symm
    simp only [List.length_cons, Region.lexHead, Bool.and_eq_true] at hB
    obtain ⟨⟨hr, hf⟩, hB'⟩ := hB
    have hkn : k < n := by simp only [List.length_cons] at hk; omega
    have hr' : k ∈ Region.ready md ops listed := by simpa using hr
    have hst : qOp P ops C k (wpQuiet P ops C Lq l) a := by unfold qOp; simp only [h0]; exact h
    obtain ⟨v, hy, hK⟩ := yieldsIn_of_qOp h0 hst
    exact headQ_first h0 (Region.noSelect_spec hsel) hs hc hn hkn (fun listed' a' hL => seqB_ready hL.1) l.length listed a inv (Region.free_spec h0 hf) hr' hy
      (headQ_lex hsel hs hc hn l (k + 1) _ _ (fun j hj => by have := hl (j + 1) (by simp; omega); simpa [Nat.add_assoc, Nat.add_comm 1 j] using this) (by simp only [List.length_cons] at hk; omega) (inv.set hr' hkn) hB' hK)

theorem quiet_tail_any {id : Nat} {Q : Exit → Act → World → Prop} {a : Act} {w : World} {l : List Oper} (n : Nat) (hm : P.follows .mixedOrders = true) (hB : Region.lexTailB .any l.toArray n = true) (hC : C { w with drawn := w.drawn + 1 })
    (h : wpQuiet P l.toArray C (fun a' => ∀ w', C w' → wpList P l.toArray Q (l.drop n) a' w') (l.take n) a) : (Code.region id l.toArray true).wp P Q a w := by
  simp only [Region.lexTailB, Bool.and_eq_true, decide_eq_true_eq] at hB
  obtain ⟨⟨⟨⟨hsel, hn⟩, hs⟩, hc⟩, hlex⟩ := hB
  have hn' : n < l.length := by simpa using hn
  have htl : (l.take n).length = n := by simp; omega
  have hdl : (l.drop n).length = l.toArray.size - n := by simp
  have inv0 : HeadInv .any l.toArray n (Array.replicate l.toArray.size false) :=
    ⟨by simp, fun j oj _ hl => (by rw [getD_replicate_false] at hl; cases hl), fun t _ ht => getD_in (by simpa using ht) (getD_replicate_false _ _)⟩
  have H := headQ_lex (md := .any) (g := l.toArray.size - n) hsel hs hc hn (l.take n) 0 _ a (fun j hj => by
    have hj' : j < n := by rw [htl] at hj; exact hj
    simp [hj']) (by simpa using htl) inv0 (by rw [htl]; exact hlex) h
  refine wp_region_any hm ?_
  have := any_of_headQ (Q' := Q) (g := l.toArray.size - n) (fun listed a' w' hw' hL => by
    have := wpAny_of_seq (md := .any) (Q' := Q) (l.drop n) n listed a' w' (fun j => by simp [List.getElem?_drop]) (by rw [hdl]; exact hL.1) (hL.2 w' hw')
    rwa [hdl] at this) _ _ _ _ hC H
  rw [htl, show n + (l.toArray.size - n) = l.toArray.size by omega] at this
  exact this
end

/-- .. the class: of what was there nothing has turned, blocks may have been laid. -/
theorem quiet_tail {P : Program} {id : Nat} {Q : Exit → Act → World → Prop} {a : Act} {w : World} {l : List Oper} (n : Nat) (hm : P.follows .mixedOrders = true) (hB : Region.lexTailB .any l.toArray n = true)
    (h : wpQuiet P l.toArray (fun w' => ∃ p : Regrown, w' = Sort.grow (redrawn w p.d) p.os) (fun a' => ∀ w', Below w.heap.size w w' → wpList P l.toArray Q (l.drop n) a' w') (l.take n) a) : (Code.region id l.toArray true).wp P Q a w := by
  refine quiet_tail_any (C := fun w' => ∃ p : Regrown, w' = Sort.grow (redrawn w p.d) p.os) n hm hB ⟨⟨w.drawn + 1, #[]⟩, by rw [Sort.grow_empty]; rfl⟩ ?_
  refine cast (congrArg (fun F => wpQuiet P l.toArray (fun w' => ∃ p : Regrown, w' = Sort.grow (redrawn w p.d) p.os) F (l.take n) a) ?_) h
  funext a'
  refine propext ⟨fun h w' ⟨p, hp⟩ => h w' (by rw [hp]; exact below_regrown w p.d p.os), fun h w' hb => h w' (regrown_of_below hb)⟩
/-- the same class, the whole region reads and calls -/
theorem quiet_below {P : Program} {id : Nat} {Q : Exit → Act → World → Prop} {a : Act} {w : World} {l : List Oper} (hm : P.follows .mixedOrders = true) (hB : Region.lexB .any l.toArray = true)
    (h : wpQuiet P l.toArray (fun w' => ∃ p : Regrown, w' = Sort.grow (redrawn w p.d) p.os) (fun a' => ∀ w', Below w.heap.size w w' → Q .normal a' w') l a) : (Code.region id l.toArray true).wp P Q a w := by
  refine wp_region_quiet_below hm hB ?_
  refine cast (congrArg (fun F => wpQuiet P l.toArray (fun w' => ∃ p : Regrown, w' = Sort.grow (redrawn w p.d) p.os) F l a) ?_) h
  funext a'
  refine propext ⟨fun h w' ⟨p, hp⟩ => h w' (by rw [hp]; exact below_regrown w p.d p.os), fun h w' hb => h w' (regrown_of_below hb)⟩
end Go.Proofs.YteglnekkkhpikaaGreat
namespace Go.Proofs.YteglnekkkhpikaaGreat
open Go.RowKit

section
variable {P : Program} {ops : Array Oper} {md : Region.Mode} {C : World → Prop}

structure HeadInv2 (md : Region.Mode) (ops : Array Oper) (listed0 : Array Bool) (n : Nat) (listed : Array Bool) : Prop where
  size : listed.size = ops.size
  closed : ∀ j oj, ops[j]? = some oj → listed.getD j false = true → ∀ e ∈ oj.after, Region.binds md e = true → listed.getD e.on false = true
  tail : ∀ t, n ≤ t → t < ops.size → listed.getD t true = listed0.getD t true
  ge : ∀ j, j < ops.size → listed0.getD j true = true → listed.getD j true = true
theorem HeadInv2.set {listed0 listed : Array Bool} {n i : Nat} (inv : HeadInv2 md ops listed0 n listed) (hi : i ∈ Region.ready md ops listed) (hin : i < n) : HeadInv2 md ops listed0 n (listed.setIfInBounds i true) := by
  obtain ⟨_, oi, hoi, hall⟩ := mem_ready.1 hi
  refine ⟨by simp [inv.size], fun j oj hj hl e he hb => ?_, fun t ht ht' => by rw [getD_set_ne true (by omega)]; exact inv.tail t ht ht', fun j hjs hj => ?_⟩
  · by_cases hij : i = j
    · subst hij
      have : oj = oi := Option.some.inj (hj.symm.trans hoi)
      subst this
      exact getD_set_true (hall e he hb)
    · rw [getD_set_ne false hij] at hl
      exact getD_set_true (inv.closed j oj hj hl e he hb)
  · by_cases hij : i = j
    · subst hij
      have hlt : i < listed.size := by rw [inv.size]; exact hjs
      simp [hlt]
    · rw [getD_set_ne true hij]
      exact inv.ge j hjs hj
/-- each of the stretch is waited for up to n; all behind n waits for one behind -/
def sink2 (md : Region.Mode) (ops : Array Oper) (listed0 : Array Bool) (n : Nat) : Bool :=
  (List.range n).all fun i => listed0.getD i true || (List.range (n + 1)).any fun j => decide (i < j) && Region.waitsFor md ops j i
def chain2 (md : Region.Mode) (ops : Array Oper) (listed0 : Array Bool) (n : Nat) : Bool :=
  (List.range ops.size).all fun t => decide (t ≤ n) || listed0.getD t true || (List.range ops.size).any fun s => decide (n ≤ s) && !listed0.getD s true && Region.waitsFor md ops t s
def closed2 (md : Region.Mode) (ops : Array Oper) (listed0 : Array Bool) : Bool :=
  (List.range ops.size).all fun j => !listed0.getD j false || match ops[j]? with
    | some o => o.after.all fun e => !Region.binds md e || listed0.getD e.on false
    | none => true

theorem getD_any {listed : Array Bool} {i : Nat} (hi : i < listed.size) (a b : Bool) : listed.getD i a = listed.getD i b := by simp [hi]

theorem tail_waits2 {listed0 listed : Array Bool} {n : Nat} (hs : sink2 md ops listed0 n = true) (hc : chain2 md ops listed0 n = true) (inv : HeadInv2 md ops listed0 n listed) (hn : listed0.getD n true = false) :
    ∀ (d i : Nat), n - i = d → i < n → i < ops.size → listed.getD i true = false → ∀ t, n ≤ t → t ∉ Region.ready md ops listed := by
  intro d
  induction d using Nat.strongRecOn with
  | _ d ih =>
    intro i hd hi his hun t ht hr
    obtain ⟨hunt, ot, hot, hall⟩ := mem_ready.1 hr
    have htlt : t < ops.size := (Array.getElem?_eq_some_iff.1 hot).1
    by_cases htn : t = n
    · subst htn
      have h1 := List.all_eq_true.1 hs i (List.mem_range.2 hi)
      have h0 : listed0.getD i true = false := by
        cases h : listed0.getD i true with
        | false => rfl
        | true => rw [inv.ge i his h] at hun; cases hun
      rw [h0, Bool.false_or] at h1
      obtain ⟨j, hj, hj2⟩ := List.any_eq_true.1 h1
      simp only [Bool.and_eq_true, decide_eq_true_eq] at hj2
      obtain ⟨oj, hoj, e, he, hb, hon⟩ := Region.waitsFor_spec hj2.2
      have hjle : j ≤ t := by have := List.mem_range.1 hj; omega
      have hjs : j < ops.size := (Array.getElem?_eq_some_iff.1 hoj).1
      by_cases hjt : j = t
      · subst hjt
        have : oj = ot := Option.some.inj (hoj.symm.trans hot)
        subst this
        have h2 := hall e he hb
        rw [hon, getD_both hun] at h2
        cases h2
      · cases hl : listed.getD j false with
        | true =>
          have h2 := inv.closed j oj hoj hl e he hb
          rw [hon, getD_both hun] at h2
          cases h2
        | false => exact ih (t - j) (by omega) j rfl (by omega) hjs (getD_in (by rw [inv.size]; exact hjs) hl) t (Nat.le_refl _) hr
    · have h1 := List.all_eq_true.1 hc t (List.mem_range.2 htlt)
      have h0 : listed0.getD t true = false := by rw [← inv.tail t ht htlt]; exact hunt
      rw [h0, Bool.or_false, Bool.or_eq_true, decide_eq_true_eq] at h1
      rcases h1 with h1 | h1
      · omega
      · obtain ⟨s, hs1, hs2⟩ := List.any_eq_true.1 h1
        simp only [Bool.and_eq_true, decide_eq_true_eq, Bool.not_eq_true'] at hs2
        obtain ⟨⟨hns, hs0⟩, hw⟩ := hs2
        obtain ⟨o', ho', e, he, hb, hon⟩ := Region.waitsFor_spec hw
        have : o' = ot := Option.some.inj (ho'.symm.trans hot)
        subst this
        have h2 := hall e he hb
        have h3 : listed.getD s true = false := by rw [inv.tail s hns (List.mem_range.1 hs1)]; exact hs0
        rw [hon, getD_both h3] at h2
        cases h2

theorem headQ_first2 {listed0 : Array Bool} {n i : Nat} {oi : Oper} {v : Value} {L : Array Bool → Act → Prop} (hi : ops[i]? = some oi) (hsel : ∀ (j : Nat) (o : Oper) cs b, ops[j]? = some o → o.op ≠ .select cs b)
    (hs : sink2 md ops listed0 n = true) (hc : chain2 md ops listed0 n = true) (hn : listed0.getD n true = false) (hin : i < n)
    (hdone : ∀ listed a, L listed a → ∀ j ∈ Region.ready md ops listed, n ≤ j) :
    ∀ (f : Nat) (listed : Array Bool) (a : Act), HeadInv2 md ops listed0 n listed →
      (∀ j oj, ops[j]? = some oj → j ≠ i → listed.getD j true = false → (∀ e ∈ oj.after, Region.binds md e = true → e.on ≠ i) → oi.apart ops oj = true) →
      i ∈ Region.ready md ops listed → YieldsIn P ops C oi v a →
      headQ P md ops C n L f (listed.setIfInBounds i true) (a.put oi.dst v) → headQ P md ops C n L (f + 1) listed a := by
  intro f
  have his : i < ops.size := (Array.getElem?_eq_some_iff.1 hi).1
  induction f with
  | zero =>
    intro listed a inv _ hr hy H
    have hun := (mem_ready.1 hr).1
    refine ⟨fun h => (by rw [h] at hr; cases hr), fun j hj => ?_⟩
    have hjn : j < n := by
      rcases Nat.lt_or_ge j n with h | h
      · exact h
      · exact absurd hj (tail_waits2 hs hc inv hn _ i rfl hin his hun j h)
    refine ⟨hjn, ?_⟩
    by_cases hji : j = i
    · subst hji; exact hy.qOp hi H
    · have := hdone _ _ H j (ready_mono hj hji)
      omega
  | succ f ih =>
    intro listed a inv hfree hr hy H
    have hun := (mem_ready.1 hr).1
    refine ⟨fun h => (by rw [h] at hr; cases hr), fun j hj => ?_⟩
    have hjn : j < n := by
      rcases Nat.lt_or_ge j n with h | h
      · exact h
      · exact absurd hj (tail_waits2 hs hc inv hn _ i rfl hin his hun j h)
    refine ⟨hjn, ?_⟩
    by_cases hji : j = i
    · subst hji; exact hy.qOp hi H
    · have h1 := (H.2 j (ready_mono hj hji)).2
      obtain ⟨hjun, oj, hoj, hall⟩ := mem_ready.1 hj
      have hnot : ∀ e ∈ oj.after, Region.binds md e = true → e.on ≠ i := fun e he hb heq => by
        have h1 := hall e he hb
        rw [heq, getD_both hun] at h1
        cases h1
      have h2 := qOp_put hoj (hfree j oj hoj hji hjun hnot) (fun cs b => hsel i oi cs b hi) (fun cs b => hsel j oj cs b hoj) hy h1
      have hfree' : ∀ k ok, ops[k]? = some ok → k ≠ i → (listed.setIfInBounds j true).getD k true = false →
          (∀ e ∈ ok.after, Region.binds md e = true → e.on ≠ i) → oi.apart ops ok = true := fun k ok hk hki hun hno => by
        refine hfree k ok hk hki ?_ hno
        by_cases hjk : j = k
        · subst hjk; exact hjun
        · rw [getD_set_ne true hjk] at hun; exact hun
      refine qOp_mono (fun a' h3 => ih (listed.setIfInBounds j true) a' (inv.set hj hjn) hfree' (ready_mono hr (Ne.symm hji)) h3.1 ?_) h2
      rw [Array.setIfInBounds_comm _ _ hji]
      exact h3.2

def setFrom : Nat → Nat → Array Bool → Array Bool
  | 0, _, listed => listed
  | m + 1, k, listed => setFrom m (k + 1) (listed.setIfInBounds k true)
def lexFrom2 (md : Region.Mode) (ops : Array Oper) (n : Nat) : Nat → Nat → Array Bool → Bool
  | 0, _, listed => (Region.ready md ops listed).all fun j => decide (n ≤ j)
  | m + 1, k, listed => (Region.ready md ops listed).contains k && Region.free md ops listed k && lexFrom2 md ops n m (k + 1) (listed.setIfInBounds k true)
theorem headQ_lex2 {listed0 : Array Bool} {n : Nat} {Lq : Act → Prop} (hsel : Region.noSelect ops = true) (hs : sink2 md ops listed0 n = true) (hc : chain2 md ops listed0 n = true) (hn : listed0.getD n true = false) :
    ∀ (l : List Oper) (k : Nat) (listed : Array Bool) (a : Act), (∀ j, j < l.length → l[j]? = ops[k + j]?) → k + l.length = n → HeadInv2 md ops listed0 n listed →
    lexFrom2 md ops n l.length k listed = true → wpQuiet P ops C Lq l a →
    headQ P md ops C n (fun listed' a' => (∀ j ∈ Region.ready md ops listed', n ≤ j) ∧ listed' = setFrom l.length k listed ∧ Lq a') l.length listed a
  | [], k, listed, a, _, _, _, hB, h => ⟨fun j hj => by
      have := List.all_eq_true.1 hB j hj
      simpa using this, rfl, h⟩
  | o :: l, k, listed, a, hl, hk, inv, hB, h => by
    have h0 : ops[k]? = some o := by simpa using (hl 0 (by simp)).symm
    simp only [List.length_cons, lexFrom2, Bool.and_eq_true] at hB
    obtain ⟨⟨hr, hf⟩, hB'⟩ := hB
    have hkn : k < n := by simp only [List.length_cons] at hk; omega
    have hr' : k ∈ Region.ready md ops listed := by simpa using hr
    have hst : qOp P ops C k (wpQuiet P ops C Lq l) a := by unfold qOp; simp only [h0]; exact h
    obtain ⟨v, hy, hK⟩ := yieldsIn_of_qOp h0 hst
    exact headQ_first2 h0 (Region.noSelect_spec hsel) hs hc hn hkn (fun listed' a' hL => hL.1) l.length listed a inv (Region.free_spec h0 hf) hr' hy
      (headQ_lex2 hsel hs hc hn l (k + 1) _ _ (fun j hj => by have := hl (j + 1) (by simp; omega); simpa [Nat.add_assoc, Nat.add_comm 1 j] using this) (by simp only [List.length_cons] at hk; omega) (inv.set hr' hkn) hB' hK)

def headB (md : Region.Mode) (ops : Array Oper) (listed0 : Array Bool) (n0 m : Nat) : Bool :=
  Region.noSelect ops && decide (n0 + m < ops.size) && (listed0.size == ops.size) && !listed0.getD (n0 + m) true && closed2 md ops listed0 && sink2 md ops listed0 (n0 + m) && chain2 md ops listed0 (n0 + m) && lexFrom2 md ops (n0 + m) m n0 listed0

theorem any_head_of {Q : Exit → Act → World → Prop} {a : Act} {w : World} {l : List Oper} {listed0 : Array Bool} (n0 m : Nat) {fuel : Nat} (hB : headB .any l.toArray listed0 n0 m = true) (hC : C w)
    (h : wpQuiet P l.toArray C (fun a' => ∀ w', C w' → wpAny P .any l.toArray Q fuel (setFrom m n0 listed0) a' w') ((l.drop n0).take m) a) : wpAny P .any l.toArray Q (m + fuel) listed0 a w := by
  simp only [headB, Bool.and_eq_true, decide_eq_true_eq, beq_iff_eq, Bool.not_eq_true'] at hB
  obtain ⟨⟨⟨⟨⟨⟨⟨hsel, hn⟩, hsz⟩, hun⟩, hcl⟩, hs⟩, hc⟩, hlex⟩ := hB
  have hn' : n0 + m < l.length := by simpa using hn
  have hlen : ((l.drop n0).take m).length = m := by simp; omega
  have inv0 : HeadInv2 .any l.toArray listed0 (n0 + m) listed0 := ⟨hsz, fun j oj hj hl e he hb => by
      have hj2 : j < l.toArray.size := (Array.getElem?_eq_some_iff.1 hj).1
      have h1 := List.all_eq_true.1 hcl j (List.mem_range.2 hj2)
      rw [hl, hj] at h1
      simp only [Bool.not_true, Bool.false_or] at h1
      have h2 := Array.all_eq_true_iff_forall_mem.1 h1 e he
      rw [hb] at h2
      simpa using h2, fun t _ _ => rfl, fun j _ h => h⟩
  have H := headQ_lex2 (P := P) (md := .any) (C := C) hsel hs hc hun ((l.drop n0).take m) n0 listed0 a (fun j hj => by
    rw [hlen] at hj
    simp [hj]) (by rw [hlen]) inv0 (by rw [hlen]; exact hlex) h
  have := any_of_headQ (Q' := Q) (g := fuel) (fun listed' a' w' hw' hL => by
    obtain ⟨-, h2, h3⟩ := hL
    rw [h2, hlen]
    exact h3 w' hw') _ _ _ _ hC H
  rw [hlen] at this
  exact this
end

/-- .. the class: the world after some draws -/
theorem any_head {P : Program} {Q : Exit → Act → World → Prop} {a : Act} {w : World} {l : List Oper} {listed0 : Array Bool} (n0 m : Nat) {fuel : Nat} (hB : headB .any l.toArray listed0 n0 m = true)
    (h : wpQuiet P l.toArray (fun w' => ∃ k, w' = w.drewN k) (fun a' => ∀ w', (∃ k, w' = w.drewN k) → wpAny P .any l.toArray Q fuel (setFrom m n0 listed0) a' w') ((l.drop n0).take m) a) : wpAny P .any l.toArray Q (m + fuel) listed0 a w :=
  any_head_of (C := fun w' => ∃ k, w' = w.drewN k) n0 m hB ⟨0, rfl⟩ h
end Go.Proofs.YteglnekkkhpikaaGreat
namespace Go.Proofs.YteglnekkkhpikaaGreat
open Go.RowKit
variable {P : Program} {w w' : World} {base size bytes : Nat} {t e : TypeId} {v : Value} {rows : List (List Value)}
/-- append of a slice that reads as rows, as one step -/
theorem oper_apS {o : Oper} {a : Act} {K : Act → World → Prop} {Q : Exit → Act → World → Prop} (s x : Operand) (t : TypeId)
    (ho : o.op = .call { callee := .builtin .append, args := #[s, x], argTypes := #[t, t] }) (E : Elem P t e size bytes)
    (hs : a.eval s = v) (hown : OwS w base e size v rows) (B : Nat) (A : Option Addr) (m c : Nat) (news : List (List Value)) (hx : a.eval x = .slice A m c) (hr : RdS w B size A news) (hm : m = news.length)
    (h1 : ∀ r ∈ news, ∀ u ∈ r, u.oneCell' = true) (h63 : rows.length + news.length ≤ maxLen) (hbytes : (rows.length + news.length) * bytes ≤ 140737488355328) (hbase : base ≤ w.heap.size)
    (h : ∀ v' w', OwS w' base e size v' (rows ++ news) → w.grownBy w' v.ownBlock → (v'.ownBlock = v.ownBlock ∨ v'.ownBlock = some w.heap.size) → K (a.put o.dst v') w') : Oper.wp P o a w K Q := by
  obtain ⟨ht, hsz, i, z, hi, hz, hsize, hby, hzs⟩ := E
  have hone : ∀ u ∈ news.flatten, u.oneCell' = true := by
    intro u hu
    obtain ⟨r, hr, hu⟩ := List.mem_flatten.1 hu
    exact h1 r hr u hu
  have hfl : news.flatten.length = news.length * size := flatten_length hr.1
  have hall : ∀ r ∈ rows ++ news, r.length = size := by
    intro r hrr
    rcases List.mem_append.1 hrr with hrr | hrr
    · exact hown.1 r hrr
    · exact hr.1 r hrr
  by_cases h0 : news.length = 0
  · have hn : news = [] := List.eq_nil_of_length_eq_zero h0
    subst hn
    simp only [List.length_nil] at hm
    subst hm
    have hrun : (Builtin.append_ #[t, t] o.type #[v, .slice A 0 c]).run P w = .ok v w := by
      rcases A with _ | ad
      · rcases hown.2.2 with ⟨rfl, _⟩ | ⟨g, cap, cur, rfl, _, _, hnc, _⟩
        · simp [Builtin.append_, run_underlying ht, sizeOf, typeInfo, hi, Builtin.lenOf, Builtin.firstCells]
        · simp [Builtin.append_, run_underlying ht, sizeOf, typeInfo, hi, Builtin.lenOf, Builtin.firstCells, hnc, storeCells]
      · rcases hown.2.2 with ⟨rfl, hz0⟩ | ⟨g, cap, cur, rfl, _, _, hnc, _⟩
        · simp [Builtin.append_, run_underlying ht, sizeOf, typeInfo, hi, Builtin.lenOf, Builtin.firstCells, loadCells, loadCellsFrom]
        · simp [Builtin.append_, run_underlying ht, sizeOf, typeInfo, hi, Builtin.lenOf, Builtin.firstCells, hnc, storeCells, loadCells, loadCellsFrom]
    unfold Oper.wp execOp
    simp only [ho, resolve, invoke, builtin, Sem.run_bind, Sem.run_pure, Result.andThen_ok, List.map_toArray, List.map_cons, List.map_nil, hs, hx, hrun]
    exact h v w (by simpa using hown) (World.grownBy.refl w _) (.inl rfl)
  · obtain ⟨b, off, rfl, hbB, hc⟩ := hr.2 (by omega)
    have hcells : ∀ j u, news.flatten[j]? = some u → w.cell? ((⟨b, off, none⟩ : Addr).add j) = some u := by
      intro j u hu
      have hj : j < news.length * size := by rw [← hfl]; exact (List.getElem?_eq_some_iff.1 hu).1
      have hq : j / size < news.length := Nat.div_lt_of_lt_mul (by rw [Nat.mul_comm]; exact hj)
      have hmod : j % size < size := Nat.mod_lt _ hsz
      have hrr := List.getElem?_eq_getElem hq
      have hl : (news[j / size]).length = size := hr.1 _ (List.getElem_mem hq)
      have hvv : (news[j / size])[j % size]? = some ((news[j / size])[j % size]'(by omega)) := List.getElem?_eq_getElem (by omega)
      have h2 := hc _ _ hrr _ _ hvv
      have h3 := flatten_get hr.1 _ _ hrr _ _ hvv
      have hdm : j / size * size + j % size = j := by rw [Nat.mul_comm]; exact Nat.div_add_mod j size
      rw [hdm] at h3
      rw [h3] at hu
      cases hu
      rw [Nat.add_assoc, hdm] at h2
      rw [show (⟨b, off, none⟩ : Addr).add j = ⟨b, off + j, none⟩ from Addr.add_lit _ _ _]
      exact h2
    obtain ⟨v', w', hrun, h2, h3, _, h5⟩ := run_append_own_at (P := P) w base t o.type e i z size bytes ht hi hz hsize hby hzs hsz v rows.length rows.flatten hown.2 ⟨b, off, none⟩ news.length c news.flatten hfl hcells hone h63 hbytes hbase
    unfold Oper.wp execOp
    rw [hm] at hx
    simp only [ho, resolve, invoke, builtin, Sem.run_bind, Sem.run_pure, Result.andThen_ok, List.map_toArray, List.map_cons, List.map_nil, hs, hx, hrun]
    exact h v' w' ⟨hall, by simpa using h2⟩ h3 h5

/-- append of a slice that reads as rows, as one step of a region -/
theorem step_apS {ops : Array Oper} {o : Oper} {a : Act} {K : Act → World → Prop} {Q : Exit → Act → World → Prop} {E' : Prop} (hgd : o.guard = none) (s x : Operand) (t : TypeId)
    (ho : o.op = .call { callee := .builtin .append, args := #[s, x], argTypes := #[t, t] }) (E : Elem P t e size bytes)
    (hs : a.eval s = v) (hown : OwS w base e size v rows) (B : Nat) (A : Option Addr) (m c : Nat) (news : List (List Value)) (hx : a.eval x = .slice A m c) (hr : RdS w B size A news) (hm : m = news.length)
    (h1 : ∀ r ∈ news, ∀ u ∈ r, u.oneCell' = true) (h63 : rows.length + news.length ≤ maxLen) (hbytes : (rows.length + news.length) * bytes ≤ 140737488355328) (hbase : base ≤ w.heap.size)
    (h : ∀ v' w', OwS w' base e size v' (rows ++ news) → w.grownBy w' v.ownBlock → (v'.ownBlock = v.ownBlock ∨ v'.ownBlock = some w.heap.size) → K (a.put o.dst v') w') :
    if Region.wanted o (yielded ops a.tmps) = true then Oper.wp P o a w K Q else E' := by
  have hw : Region.wanted o (yielded ops a.tmps) = true := by simp [Region.wanted, hgd]
  rw [if_pos hw]
  exact oper_apS s x t ho E hs hown B A m c news hx hr hm h1 h63 hbytes hbase h

/-- append of one row that lies in the newest block -/
theorem step_ap1 {ops : Array Oper} {o : Oper} {a : Act} {K : Act → World → Prop} {Q : Exit → Act → World → Prop} {E' : Prop} (hgd : o.guard = none) (s x : Operand) (t : TypeId)
    (ho : o.op = .call { callee := .builtin .append, args := #[s, x], argTypes := #[t, t] }) (E : Elem P t e size bytes)
    (hs : a.eval s = v) (hown : OwS w base e size v rows) (cs : List Value) (e' : TypeId) (hcs : cs.length = size) (g : Nat) (hx : a.eval x = .slice (some ⟨g, 0, none⟩) 1 1) (hg : g = w.heap.size)
    (h1 : ∀ u ∈ cs, u.oneCell' = true) (h63 : rows.length + 1 ≤ maxLen) (hbytes : (rows.length + 1) * bytes ≤ 140737488355328) (hbase : base ≤ w.heap.size)
    (h : ∀ v' w', OwS w' base e size v' (rows ++ [cs]) → (w.alloc (.cells cs.toArray e')).grownBy w' v.ownBlock → (v'.ownBlock = v.ownBlock ∨ v'.ownBlock = some (w.heap.size + 1)) → K (a.put o.dst v') w') :
    if Region.wanted o (yielded ops a.tmps) = true then Oper.wp P o a (w.alloc (.cells cs.toArray e')) K Q else E' := by
  have hw : Region.wanted o (yielded ops a.tmps) = true := by simp [Region.wanted, hgd]
  rw [if_pos hw]
  subst hg
  refine oper_apS s x t ho E hs (hown.alloc _) (w.heap.size + 1) _ 1 1 [cs] hx ⟨by simp [hcs], fun _ => ⟨w.heap.size, 0, rfl, by omega, ?_⟩⟩ rfl (by simpa using h1) (by simpa using h63) (by simpa using hbytes) (by simp; omega) ?_
  · intro i r hi j u hj
    match i, hi with
    | 0, hi =>
      simp at hi
      subst hi
      rw [cell_of_row _ w.heap.size _ cs.toArray e' (0, 0) (heap_alloc_new w _)]
      simpa using hj
  · intro v' w' h2 h3 h4
    exact h v' w' h2 h3 (by simpa using h4)
end Go.Proofs.YteglnekkkhpikaaGreat
namespace Go.Proofs.YteglnekkkhpikaaGreat
open Go.RowKit

theorem OwS.lit {w : World} {base size g n : Nat} {e : TypeId} {rows : List (List Value)} {cs : Array Value} (hs : ∀ r ∈ rows, r.length = size) (hh : w.heap[g]? = some (.cells cs e)) (hcs : cs.toList = rows.flatten) (hn : n = rows.length) (hm : n ≤ maxLen) (hb : base ≤ g) :
    OwS w base e size (.slice (some ⟨g, 0, none⟩) n n) rows := by
  subst hn
  have hl : rows.flatten.length = rows.length * size := flatten_length hs
  refine ⟨hs, hl, .inr ⟨g, rows.length, cs, rfl, hb, hh, Nat.le_refl _, hm, by rw [← Array.length_toList, hcs, hl], ?_⟩⟩
  rw [hcs, ← hl, List.take_length]

theorem below_laid {w : World} {o : Obj} : Below w.heap.size w (w.alloc o) := (Below.refl _ _).alloc (Nat.le_refl _) _

theorem heap_third (w : World) (A B C : Obj) : (((w.alloc A).alloc B).alloc C).heap[w.heap.size + 1 + 1]? = some C := by
  have := heap_alloc_new ((w.alloc A).alloc B) C
  simpa using this
end Go.Proofs.YteglnekkkhpikaaGreat
namespace Go.Proofs.YteglnekkkhpikaaGreat
open Go.RowKit

theorem conv_u8 (x : Int) (h0 : 0 ≤ x) (h1 : x < 256) (W : World) : (convert 5 3 (.int .u8 x)).run Tryz.prog W = .ok (.int .i64 x) W := by
  rw [run_convert_int W 5 3 .u8 x (by rw [Tryz.underlying5]; rfl) (by kernel_rfl)]
  have hk : Tryz.prog.intKind 3 = .i64 := by kernel_rfl
  rw [hk]
  have : IntKind.i64.wrap x = x := by simp [IntKind.wrap, IntKind.bits, IntKind.signed]; omega
  rw [this]
theorem byte_nat {n : Int} (h : (Lit.int .u8 n).wf = true) : ∃ m : Nat, n = m ∧ m < 256 := by
  rw [Lit.wf_int_iff, IntKind.min_u8, IntKind.max_u8] at h
  exact ⟨n.toNat, by omega, by omega⟩
theorem small_wf (x : Nat) (h : x < 100000) : (Lit.int .i64 (x : Int)).wf = true := by
  rw [Lit.wf_int_iff, IntKind.min_i64, IntKind.max_i64]
  omega
end Go.Proofs.YteglnekkkhpikaaGreat
namespace Go.Proofs.YteglnekkkhpikaaGreat
open Go.RowKit

def nInts (l : List Nat) : List Int := l.map fun (x : Nat) => (x : Int)
@[simp] theorem nInts_len (l : List Nat) : (nInts l).length = l.length := by simp [nInts]
theorem nInts_at {l : List Nat} {k x : Nat} (h : l[k]? = some x) : (nInts l)[k]? = some (x : Int) := by unfold nInts; rw [List.getElem?_map, h]; rfl
/-- a list of rows of numbers, in memory -/
def GsV (w : World) (B : Nat) (A : Option Addr) (gs : List (List Nat)) : Prop := ∃ vs : List (Option Addr × Nat), vs.length = gs.length ∧
  RdS w B 1 A ((vs.zip gs).map fun p => [.slice p.1.1 p.2.length p.1.2]) ∧ ∀ (i : Nat) (p : Option Addr × Nat) (g : List Nat), vs[i]? = some p → gs[i]? = some g → IntS w B p.1 (nInts g)
section
variable {w w' : World} {B C : Nat} {A : Option Addr} {gs : List (List Nat)}
theorem GsV.below (h : GsV w B A gs) (hb : Below C w w') (hC : B ≤ C) : GsV w' B A gs := by
  obtain ⟨vs, h1, h2, h3⟩ := h
  exact ⟨vs, h1, h2.below' hb hC, fun i p g hp hg => (h3 i p g hp hg).below' hb hC⟩
theorem GsV.more (h : GsV w B A gs) (hB : B ≤ C) : GsV w C A gs := by
  obtain ⟨vs, h1, h2, h3⟩ := h
  exact ⟨vs, h1, h2.more hB, fun i p g hp hg => (h3 i p g hp hg).more hB⟩
theorem GsV.at_ (h : GsV w B A gs) {k : Nat} {g : List Nat} (hg : gs[k]? = some g) : ∃ b off Ai ci, A = some ⟨b, off, none⟩ ∧ b < B ∧ ∀ W C, Below C w W → B ≤ C → W.cell? ⟨b, off + k, none⟩ = some (.slice Ai g.length ci) ∧ IntS W B Ai (nInts g) := by
  obtain ⟨vs, h1, h2, h3⟩ := h
  have hk : k < gs.length := (List.getElem?_eq_some_iff.1 hg).1
  have hp : vs[k]? = some vs[k] := List.getElem?_eq_getElem (by omega)
  obtain ⟨b, off, rfl, hb, hc⟩ := h2.2 (by simp; omega)
  have hz : (vs.zip gs)[k]? = some (vs[k], g) := by rw [List.getElem?_zip_eq_some]; exact ⟨hp, hg⟩
  have hr : ((vs.zip gs).map fun p => [Value.slice p.1.1 p.2.length p.1.2])[k]? = some [.slice vs[k].1 g.length vs[k].2] := by rw [List.getElem?_map, hz]; rfl
  refine ⟨b, off, vs[k].1, vs[k].2, rfl, hb, fun W C hW hC => ⟨(hW.cell (p := ⟨b, off + k, none⟩) (by show b < C; omega)).trans ?_, (h3 k _ _ hp hg).below' hW hC⟩⟩
  have := hc k _ hr 0 _ rfl
  simpa using this
/-- the numbers of a row -/
theorem nints_at {l : List Nat} (h : IntS w B A (nInts l)) {k x : Nat} (hx : l[k]? = some x) : ∃ b off, A = some ⟨b, off, none⟩ ∧ b < B ∧ w.cell? ⟨b, off + k, none⟩ = some (.int .i64 (x : Int)) := by
  obtain ⟨b, off, y, rfl, hb, hy, hc⟩ := IntS.at_ h (k := k) (by rw [nInts_len]; exact (List.getElem?_eq_some_iff.1 hx).1)
  rw [nInts_at hx] at hy
  cases hy
  exact ⟨b, off, rfl, hb, hc⟩
end
/-- a layout as a value, and in memory -/
def layAgg (L : LayD) (A : Option Addr) (c : Nat) : Value := .agg #[.int .i64 L.disks, .slice A L.n c, .int .i64 L.tiles, .int .i64 L.spare]
def Mv.cells (m : Mv) : List Value := [.int .i64 m.g, .int .i64 m.p, .int .i64 m.to.disk, .int .i64 m.to.block]
def Mv.agg (m : Mv) : Value := .agg #[.int .i64 m.g, .int .i64 m.p, .int .i64 m.to.disk, .int .i64 m.to.block]
def Plc.agg (t : Plc) : Value := .agg #[.int .i64 t.disk, .int .i64 t.block]
@[simp] theorem Mv.cells_length (m : Mv) : m.cells.length = 4 := rfl
theorem Mv.one (m : Mv) : ∀ u ∈ m.cells, u.oneCell' = true := by
  intro u hu
  simp [Mv.cells] at hu
  rcases hu with rfl | rfl | rfl | rfl <;> rfl
abbrev MvS (w : World) (B : Nat) (A : Option Addr) (ms : List Mv) : Prop := RdS w B 4 A (ms.map Mv.cells)
theorem MvS.at_ {w : World} {B : Nat} {A : Option Addr} {ms : List Mv} (h : MvS w B A ms) {k : Nat} {m : Mv} (hm : ms[k]? = some m) : ∃ b off, A = some ⟨b, off, none⟩ ∧ b < B ∧ w.cell? ⟨b, off + k * 4, none⟩ = some (.int .i64 m.g) ∧ w.cell? ⟨b, off + k * 4 + 1, none⟩ = some (.int .i64 m.p) ∧
    w.cell? ⟨b, off + k * 4 + 2, none⟩ = some (.int .i64 m.to.disk) ∧ w.cell? ⟨b, off + k * 4 + 3, none⟩ = some (.int .i64 m.to.block) := by
  have hk := (List.getElem?_eq_some_iff.1 hm).1
  obtain ⟨b, off, rfl, hb, hc⟩ := h.2 (by simp; omega)
  have hr : (ms.map Mv.cells)[k]? = some m.cells := by rw [List.getElem?_map, hm]; rfl
  exact ⟨b, off, rfl, hb, hc k _ hr 0 _ rfl, hc k _ hr 1 _ rfl, hc k _ hr 2 _ rfl, hc k _ hr 3 _ rfl⟩
abbrev BoolS (w : World) (B : Nat) (A : Option Addr) (l : List Bool) : Prop := RdS w B 1 A (l.map fun b => [.bool b])
theorem BoolS.at_ {w : World} {B : Nat} {A : Option Addr} {l : List Bool} (h : BoolS w B A l) {k : Nat} {x : Bool} (hx : l[k]? = some x) : ∃ b off, A = some ⟨b, off, none⟩ ∧ b < B ∧ w.cell? ⟨b, off + k, none⟩ = some (.bool x) := by
  have hk := (List.getElem?_eq_some_iff.1 hx).1
  obtain ⟨b, off, rfl, hb, hc⟩ := h.2 (by simp; omega)
  have hr : (l.map fun b => [Value.bool b])[k]? = some [.bool x] := by rw [List.getElem?_map, hx]; rfl
  exact ⟨b, off, rfl, hb, by simpa using hc k _ hr 0 _ rfl⟩
end Go.Proofs.YteglnekkkhpikaaGreat
