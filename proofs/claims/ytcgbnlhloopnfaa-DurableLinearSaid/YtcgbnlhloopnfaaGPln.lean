/- Words for memory and events: slices that read as lists of rows. Plain definitions and lemmas; nothing of the program is walked here.
What the functions of layer 45 compute, on lists. Plain: no program is walked here.
The operations of a valid history, on lists.
What history.parse computes, on lists.
A history is parsed by history.parse exactly if it is valid by the reference, into the same operations.
The parse of a list that is laid event by event. Plain: no program is walked here.
Increasing lists of numbers: insertion, sorting; registers and pending operations of a history. Plain: no program is walked here.
The events of one register are a history, and its operations are those of the whole. Plain.
linear's follow, on lists: which orders it takes. Plain: no program is walked here.
tegularef46's order and explains, on lists: they take the orders that linear's follow takes. Plain: no program is walked here.
Accepts, over all eras, on lists: the two agree. Plain: no program is walked here.
The search of an era, on lists: paths through its states, and what they say of the orders that follow takes. Plain: no program is walked here.
The search over the eras, on lists. Plain: no program is walked here.
The number of cuts of a list; the numbers of a valid history's operations differ. Plain: no program is walked here. -/
import Derived.Test.YtcgbnlhloopnfaaRows
import Derived.WalkKit
import Derived.WalkSpells
import Derived.WalkLawsBesides
import Derived.Lib.Hide
import Derived.Below
import Derived.Laws.OwnMore
import Derived.Deep.Draws
namespace Go.Proofs.Ytcgbnlhloopnfaa
open Go.RowKit

/-! ### events and operations as data -/
structure Ev where
  kind : Int
  op : Int
  write : Bool
  reg : Int
  val : Int
  barrier : Bool
  deriving DecidableEq

def Ev.cells (e : Ev) : List Value := [.int .i64 e.kind, .int .i64 e.op, .bool e.write, .int .i64 e.reg, .int .i64 e.val, .bool e.barrier]
def Ev.agg (e : Ev) : Value := .agg #[.int .i64 e.kind, .int .i64 e.op, .bool e.write, .int .i64 e.reg, .int .i64 e.val, .bool e.barrier]

structure Opr where
  id : Int
  reg : Int
  val : Int
  write : Bool
  barrier : Bool
  era : Int
  call : Int
  done : Int
  deriving DecidableEq

def Opr.cells (o : Opr) : List Value := [.int .i64 o.id, .int .i64 o.reg, .int .i64 o.val, .bool o.write, .bool o.barrier, .int .i64 o.era, .int .i64 o.call, .int .i64 o.done]
def Opr.agg (o : Opr) : Value := .agg #[.int .i64 o.id, .int .i64 o.reg, .int .i64 o.val, .bool o.write, .bool o.barrier, .int .i64 o.era, .int .i64 o.call, .int .i64 o.done]

@[simp] theorem Ev.cells_length (e : Ev) : e.cells.length = 6 := rfl
@[simp] theorem Opr.cells_length (e : Opr) : e.cells.length = 8 := rfl

/-! ### a slice that reads as rows -/
def RdS (w : World) (B size : Nat) (A : Option Addr) (rows : List (List Value)) : Prop :=
  (∀ r ∈ rows, r.length = size) ∧ (0 < rows.length → ∃ b off, A = some ⟨b, off, none⟩ ∧ b < B ∧
    ∀ i r, rows[i]? = some r → ∀ j v, r[j]? = some v → w.cell? ⟨b, off + i * size + j, none⟩ = some v)

section
variable {w w' : World} {B B' size : Nat} {A : Option Addr} {rows : List (List Value)}
theorem RdS.nil (w : World) (B size : Nat) (A : Option Addr) : RdS w B size A [] := ⟨by simp, fun h => absurd h (by simp)⟩
theorem RdS.keep (h : RdS w B size A rows) (hk : ∀ p : Addr, p.block < B → w'.cell? p = w.cell? p) : RdS w' B size A rows :=
  ⟨h.1, fun hn => by
    obtain ⟨b, off, e, hb, hc⟩ := h.2 hn
    exact ⟨b, off, e, hb, fun i r hr j v hv => (hk ⟨b, off + i * size + j, none⟩ hb).trans (hc i r hr j v hv)⟩⟩
theorem RdS.more (h : RdS w B size A rows) (hB : B ≤ B') : RdS w B' size A rows :=
  ⟨h.1, fun hn => by
    obtain ⟨b, off, e, hb, hc⟩ := h.2 hn
    exact ⟨b, off, e, by omega, hc⟩⟩
theorem RdS.below (h : RdS w B size A rows) (hb : Below B w w') : RdS w' B size A rows := h.keep fun _ hp => hb.cell hp
theorem RdS.below' {C : Nat} (h : RdS w B size A rows) (hb : Below C w w') (hBC : B ≤ C) : RdS w' B size A rows := h.keep fun _ hp => hb.cell (by omega)
theorem RdS.grown (h : RdS w B size A rows) {row : Option Nat} (hg : w.grownBy w' row) (hB : B ≤ w.heap.size) (hr : ∀ g, row = some g → B ≤ g) : RdS w' B size A rows :=
  h.keep fun p hp => World.cell?_of_block (hg.block p.block (by omega) (fun e => by have := hr _ e.symm; omega))
theorem RdS.take (h : RdS w B size A rows) (n : Nat) : RdS w B size A (rows.take n) :=
  ⟨fun r hr => h.1 r (List.mem_of_mem_take hr), fun hn => by
    obtain ⟨b, off, e, hb, hc⟩ := h.2 (by rw [List.length_take] at hn; omega)
    refine ⟨b, off, e, hb, fun i r hr j v hv => hc i r ?_ j v hv⟩
    rw [List.getElem?_take] at hr
    split at hr
    · exact hr
    · cases hr⟩

theorem flatten_get {rows : List (List Value)} (hs : ∀ r ∈ rows, r.length = size) : ∀ (i : Nat) (r : List Value), rows[i]? = some r → ∀ (j : Nat) (v : Value), r[j]? = some v → rows.flatten[i * size + j]? = some v := by
  induction rows with
  | nil => intro i r hr; simp at hr
  | cons x xs ih =>
    intro i r hr j v hv
    have hx : x.length = size := hs x (by simp)
    have hxs : ∀ r ∈ xs, r.length = size := fun r hr => hs r (by simp [hr])
    cases i with
    | zero =>
      simp at hr
      subst hr
      have hj : j < x.length := (List.getElem?_eq_some_iff.1 hv).1
      simp only [List.flatten_cons, Nat.zero_mul, Nat.zero_add]
      rw [List.getElem?_append_left hj]
      exact hv
    | succ i =>
      simp at hr
      have := ih hxs i r hr j v hv
      simp only [List.flatten_cons]
      rw [List.getElem?_append_right (by rw [hx, Nat.add_mul]; omega)]
      rw [show (i + 1) * size + j - x.length = i * size + j by rw [hx, Nat.add_mul]; omega]
      exact this

theorem flatten_length {rows : List (List Value)} (hs : ∀ r ∈ rows, r.length = size) : rows.flatten.length = rows.length * size := by
  induction rows with
  | nil => simp
  | cons x xs ih =>
    have hx : x.length = size := hs x (by simp)
    have := ih (fun r hr => hs r (by simp [hr]))
    simp only [List.flatten_cons, List.length_append, List.length_cons, this, hx, Nat.add_mul]
    omega

/-- A slice of the call's own that reads as rows. -/
def OwS (w : World) (base : Nat) (e : TypeId) (size : Nat) (v : Value) (rows : List (List Value)) : Prop :=
  (∀ r ∈ rows, r.length = size) ∧ w.ownsRow base e size v rows.length rows.flatten
theorem OwS.nil (w : World) (base : Nat) (e : TypeId) (size : Nat) : OwS w base e size (.slice none 0 0) [] := ⟨by simp, World.ownsRow_nil _ _ _ _⟩
theorem OwS.kept {base : Nat} {e : TypeId} {v : Value} (h : OwS w base e size v rows) {row : Option Nat} (hg : w.grownBy w' row) (hne : v.ownBlock = none ∨ v.ownBlock ≠ row) : OwS w' base e size v rows :=
  ⟨h.1, h.2.kept hg hne⟩
theorem OwS.alloc {base : Nat} {e : TypeId} {v : Value} (h : OwS w base e size v rows) (o : Obj) : OwS (w.alloc o) base e size v rows := ⟨h.1, h.2.alloc o⟩
theorem OwS.below {base : Nat} {e : TypeId} {v : Value} (h : OwS w base e size v rows) (hb : Below w.heap.size w w') : OwS w' base e size v rows :=
  h.kept (row := none) ⟨hb.os, hb.tape, hb.output, hb.size, fun k hk _ => hb.block k hk⟩ (by cases v.ownBlock <;> simp)
/-- Its form: nil, or a block from base on. -/
theorem OwS.form {base : Nat} {e : TypeId} {v : Value} (h : OwS w base e size v rows) : ∃ A c, v = .slice A rows.length c ∧ rows.length ≤ c ∧ c ≤ maxLen := by
  rcases h.2.2 with ⟨rfl, hn⟩ | ⟨g, cap, cur, rfl, hb, hh, hnc, hcm, _⟩
  · exact ⟨none, 0, by rw [hn], by omega, Nat.zero_le _⟩
  · exact ⟨_, _, rfl, hnc, hcm⟩
theorem OwS.reads {base : Nat} {e : TypeId} {A : Option Addr} {n c : Nat} (h : OwS w base e size (.slice A n c) rows) : RdS w w.heap.size size A rows := by
  refine ⟨h.1, fun hn => ?_⟩
  obtain ⟨hs, hl, ho⟩ := h
  rcases ho with ⟨hv, h0⟩ | ⟨g, cap, cur, hv, hb, hh, hnc, hcm, hsz, ht⟩
  · omega
  · injection hv with h1 h2 h3
    subst h1
    refine ⟨g, 0, rfl, (Array.getElem?_eq_some_iff.1 hh).1, fun i r hr j v hjv => ?_⟩
    have := flatten_get hs i r hr j v hjv
    rw [cell_of_row w g _ cur e (0, 0) hh]
    rw [← ht, List.getElem?_take] at this
    split at this
    · simpa using this
    · cases this
end

/-! ### events -/
abbrev EvS (w : World) (B : Nat) (A : Option Addr) (l : List Ev) : Prop := RdS w B 6 A (l.map Ev.cells)
abbrev OpS (w : World) (B : Nat) (A : Option Addr) (l : List Opr) : Prop := RdS w B 8 A (l.map Opr.cells)
def icell (x : Int) : List Value := [.int .i64 x]
abbrev IntS (w : World) (B : Nat) (A : Option Addr) (l : List Int) : Prop := RdS w B 1 A (l.map icell)

section
variable {w : World} {B : Nat} {A : Option Addr}
theorem EvS.at_ {l : List Ev} (h : EvS w B A l) {k : Nat} (hk : k < l.length) : ∃ b off, ∃ e : Ev, A = some ⟨b, off, none⟩ ∧ b < B ∧ l[k]? = some e ∧
    w.cell? ⟨b, off + k * 6, none⟩ = some (.int .i64 e.kind) ∧ w.cell? ⟨b, off + k * 6 + 1, none⟩ = some (.int .i64 e.op) ∧ w.cell? ⟨b, off + k * 6 + 2, none⟩ = some (.bool e.write) ∧
    w.cell? ⟨b, off + k * 6 + 3, none⟩ = some (.int .i64 e.reg) ∧ w.cell? ⟨b, off + k * 6 + 4, none⟩ = some (.int .i64 e.val) ∧ w.cell? ⟨b, off + k * 6 + 5, none⟩ = some (.bool e.barrier) := by
  obtain ⟨b, off, rfl, hb, hc⟩ := h.2 (by simp; omega)
  have he : l[k]? = some l[k] := List.getElem?_eq_getElem hk
  have hr : (l.map Ev.cells)[k]? = some l[k].cells := by simp [he]
  exact ⟨b, off, l[k], rfl, hb, he, hc k _ hr 0 _ rfl, hc k _ hr 1 _ rfl, hc k _ hr 2 _ rfl, hc k _ hr 3 _ rfl, hc k _ hr 4 _ rfl, hc k _ hr 5 _ rfl⟩
theorem OpS.at_ {l : List Opr} (h : OpS w B A l) {k : Nat} (hk : k < l.length) : ∃ b off, ∃ e : Opr, A = some ⟨b, off, none⟩ ∧ b < B ∧ l[k]? = some e ∧
    w.cell? ⟨b, off + k * 8, none⟩ = some (.int .i64 e.id) ∧ w.cell? ⟨b, off + k * 8 + 1, none⟩ = some (.int .i64 e.reg) ∧ w.cell? ⟨b, off + k * 8 + 2, none⟩ = some (.int .i64 e.val) ∧
    w.cell? ⟨b, off + k * 8 + 3, none⟩ = some (.bool e.write) ∧ w.cell? ⟨b, off + k * 8 + 4, none⟩ = some (.bool e.barrier) ∧ w.cell? ⟨b, off + k * 8 + 5, none⟩ = some (.int .i64 e.era) ∧
    w.cell? ⟨b, off + k * 8 + 6, none⟩ = some (.int .i64 e.call) ∧ w.cell? ⟨b, off + k * 8 + 7, none⟩ = some (.int .i64 e.done) := by
  obtain ⟨b, off, rfl, hb, hc⟩ := h.2 (by simp; omega)
  have he : l[k]? = some l[k] := List.getElem?_eq_getElem hk
  have hr : (l.map Opr.cells)[k]? = some l[k].cells := by simp [he]
  exact ⟨b, off, l[k], rfl, hb, he, hc k _ hr 0 _ rfl, hc k _ hr 1 _ rfl, hc k _ hr 2 _ rfl, hc k _ hr 3 _ rfl, hc k _ hr 4 _ rfl, hc k _ hr 5 _ rfl, hc k _ hr 6 _ rfl, hc k _ hr 7 _ rfl⟩
theorem IntS.at_ {l : List Int} (h : IntS w B A l) {k : Nat} (hk : k < l.length) : ∃ b off, ∃ x : Int, A = some ⟨b, off, none⟩ ∧ b < B ∧ l[k]? = some x ∧ w.cell? ⟨b, off + k, none⟩ = some (.int .i64 x) := by
  obtain ⟨b, off, rfl, hb, hc⟩ := h.2 (by simp; omega)
  have he : l[k]? = some l[k] := List.getElem?_eq_getElem hk
  have hr : (l.map icell)[k]? = some (icell l[k]) := by simp [he]
  exact ⟨b, off, l[k], rfl, hb, he, by simpa using hc k _ hr 0 _ rfl⟩
end

theorem bcell {W w1 : World} (hb : Below W.heap.size W w1) : (∀ b o, b < W.heap.size → w1.cell? ⟨b, o, none⟩ = W.cell? ⟨b, o, none⟩) ∧ (∀ b o, b < W.heap.size → w1.frozen? ⟨b, o, none⟩ = W.frozen? ⟨b, o, none⟩) :=
  ⟨fun b o h => hb.cell (p := ⟨b, o, none⟩) h, fun b o h => hb.frozen (p := ⟨b, o, none⟩) h⟩

theorem below_drewN {B : Nat} {a w : World} (h : Below B a w) (n : Nat) : Below B a (w.drewN n) := ⟨h.os, h.tape, h.output, h.size, h.block⟩

theorem below_two (w : World) (o o' : Obj) : Below w.heap.size w ((w.alloc o).alloc o') := ((Below.refl _ _).alloc (Nat.le_refl _) _).alloc (by simp) _

theorem ret_bool {a b : Bool} (h : a = b) : Ending.returned (.bool a) = .returned (.bool b) := by rw [h]
theorem ret_int {a b : Int} (h : a = b) : Ending.returned (.int .i64 a) = .returned (.int .i64 b) := by rw [h]
end Go.Proofs.Ytcgbnlhloopnfaa
namespace Go.Proofs.Ytcgbnlhloopnfaa

def hitE (kind op : Int) (e : Ev) : Bool := e.kind == kind && e.op == op
/-- find, as a number -/
def findE (l : List Ev) (kind op : Int) (before : Nat) : Int := match (l.take before).findIdx? (hitE kind op) with | some i => (i : Int) | none => -1
def cutE (l : List Ev) (i k : Nat) : Bool := ((l.take k).drop i).any fun e => e.kind == 3
def callOk (e : Ev) : Bool :=
  if e.op < 0 ∨ e.reg < 0 ∨ e.val < 0 then false else if e.write then true else e.val == 0 && (!e.barrier || e.reg == 0)
def Ev.cut : Ev := ⟨3, 0, false, 0, 0, false⟩
def doneOk (e c : Ev) : Bool := e.write == c.write && e.barrier == c.barrier && e.reg == c.reg && ((!c.write && !c.barrier) || e.val == c.val)
def doneAt (l : List Ev) (i : Nat) (e : Ev) (k1 k2 : Int) : Bool :=
  if k1 < 0 then false
  else if 0 ≤ k2 then false
  else if cutE l k1.toNat i then false
  else match l[k1.toNat]? with | some c => doneOk e c | none => false
def evOk (l : List Ev) (i : Nat) (e : Ev) : Bool :=
  if e.kind = 3 then decide (e = Ev.cut)
  else if e.kind = 1 then callOk e && decide (findE l 1 e.op i < 0)
  else if e.kind = 2 then doneAt l i e (findE l 1 e.op i) (findE l 2 e.op i)
  else false
theorem doneAt_neg {l : List Ev} {i : Nat} {e : Ev} {k1 k2 : Int} (h : k1 < 0) : doneAt l i e k1 k2 = false := by unfold doneAt; rw [if_pos h]
theorem doneAt_two {l : List Ev} {i : Nat} {e : Ev} {k1 k2 : Int} (h2 : 0 ≤ k2) : doneAt l i e k1 k2 = false := by
  unfold doneAt
  by_cases h1 : k1 < 0
  · rw [if_pos h1]
  · rw [if_neg h1, if_pos h2]
theorem doneAt_at {l : List Ev} {i : Nat} {e c : Ev} {kn : Nat} {k2 : Int} (h2 : k2 < 0) (hc : l[kn]? = some c) : doneAt l i e kn k2 = (!cutE l kn i && doneOk e c) := by
  unfold doneAt
  rw [if_neg (by omega), if_neg (by omega), Int.toNat_natCast, hc]
  cases cutE l kn i <;> simp
def validTo (l : List Ev) (n : Nat) : Bool := ((l.take n).zipIdx).all fun p => evOk l p.2 p.1
def validL (l : List Ev) : Bool := validTo l l.length

theorem find_stop {l : List Ev} {kind op : Int} {k before : Nat} (hb : before ≤ l.length) (hk : k < before) {e : Ev} (he : l[k]? = some e) (hh : hitE kind op e = true) (hno : ∀ j e', j < k → l[j]? = some e' → hitE kind op e' = false) :
    findE l kind op before = k := by
  unfold findE
  have : (l.take before).findIdx? (hitE kind op) = some k := by
    rw [List.findIdx?_eq_some_iff_getElem]
    have hkl : k < l.length := by omega
    have hek : l[k] = e := by rw [List.getElem?_eq_getElem hkl] at he; exact Option.some.inj he
    refine ⟨by simp; omega, by simp [hek, hh], fun j hj => ?_⟩
    have := hno j l[j] hj (List.getElem?_eq_getElem (by omega))
    simp [this]
  rw [this]
theorem find_none {l : List Ev} {kind op : Int} {before : Nat} (hno : ∀ j e', j < before → l[j]? = some e' → hitE kind op e' = false) : findE l kind op before = -1 := by
  unfold findE
  have : (l.take before).findIdx? (hitE kind op) = none := by
    rw [List.findIdx?_eq_none_iff]
    intro x hx
    obtain ⟨j, hj, rfl⟩ := List.getElem_of_mem hx
    simp at hj
    exact hno j _ (by omega) (by simp)
  rw [this]
theorem findE_lt (l : List Ev) (kind op : Int) (before : Nat) : -1 ≤ findE l kind op before ∧ findE l kind op before < before ∧ findE l kind op before < l.length ∨ findE l kind op before = -1 := by
  unfold findE
  split
  · rename_i i h
    have := (List.findIdx?_eq_some_iff_getElem.1 h).1
    simp at this
    omega
  · exact .inr rfl
theorem cut_stop {l : List Ev} {i k n : Nat} (hk : k < n) (hik : i ≤ k) {e : Ev} (he : l[k]? = some e) (hh : e.kind = 3) : cutE l i n = true := by
  unfold cutE
  rw [List.any_eq_true]
  refine ⟨e, ?_, by simp [hh]⟩
  rw [List.mem_iff_getElem?]
  exact ⟨k - i, by rw [List.getElem?_drop, List.getElem?_take, if_pos (by omega)]; rw [show i + (k - i) = k by omega]; exact he⟩
theorem cut_none {l : List Ev} {i n : Nat} (hno : ∀ j e', i ≤ j → j < n → l[j]? = some e' → e'.kind ≠ 3) : cutE l i n = false := by
  unfold cutE
  rw [List.any_eq_false]
  intro e he
  rw [List.mem_iff_getElem?] at he
  obtain ⟨j, hj⟩ := he
  rw [List.getElem?_drop, List.getElem?_take] at hj
  split at hj
  · simpa using hno (i + j) e (by omega) (by omega) hj
  · cases hj
end Go.Proofs.Ytcgbnlhloopnfaa
namespace Go.Proofs.Ytcgbnlhloopnfaa

/-! ### the operations of a valid history -/
def Opr.of (e : Ev) (era : Int) (i : Nat) : Opr := ⟨e.op, e.reg, e.val, e.write, e.barrier, era, i, -1⟩
def Opr.fin (e : Ev) (i : Nat) (o : Opr) : Opr := if o.id = e.op then { o with val := e.val, done := i } else o
def rawStep (i : Nat) (st : List Opr × Int) (e : Ev) : List Opr × Int :=
  if e.kind = 3 then (st.1, st.2 + 1)
  else if e.kind = 1 then (st.1 ++ [Opr.of e st.2 i], st.2)
  else (st.1.map (Opr.fin e i), st.2)
def rawTo (l : List Ev) : Nat → List Opr × Int
  | 0 => ([], 0)
  | k + 1 => match l[k]? with | some e => rawStep k (rawTo l k) e | none => rawTo l k
def rawOps (l : List Ev) : List Opr := (rawTo l l.length).1
theorem rawTo_succ {l : List Ev} {k : Nat} {e : Ev} (h : l[k]? = some e) : rawTo l (k + 1) = rawStep k (rawTo l k) e := by
  simp only [rawTo, h]
theorem rawTo_bd (l : List Ev) (k : Nat) : (rawTo l k).1.length ≤ k ∧ 0 ≤ (rawTo l k).2 ∧ (rawTo l k).2 ≤ k := by
  induction k with
  | zero => simp [rawTo]
  | succ k ih =>
    simp only [rawTo]
    split
    · simp only [rawStep]
      split
      · simp; omega
      · split
        · simp; omega
        · simp; omega
    · omega
end Go.Proofs.Ytcgbnlhloopnfaa
namespace Go.Proofs.Ytcgbnlhloopnfaa
def flushB (e : Ev) : Bool := e.barrier && !e.write
def properB (e : Ev) : Bool :=
  if e.op < 0 ∨ e.reg < 0 ∨ e.val < 0 then false
  else if flushB e then e.reg == 0 && e.val == 0
  else e.write || e.val == 0
def ansOk (e c : Ev) : Bool := e.op == c.op && e.write == c.write && e.reg == c.reg && ((!e.write && !e.barrier) || e.val == c.val) && e.barrier == c.barrier
def findO (os : List Opr) (x : Int) : Option Opr := os.find? (fun o => o.id == x)
def pDone (l : List Ev) (i : Nat) (st : List Opr × Int) (e : Ev) (o : Opr) : Option (List Opr × Int) :=
  if 0 ≤ o.done then none else if o.era ≠ st.2 then none
  else match l[o.call.toNat]? with
    | some c => if ansOk e c then some (st.1.map (Opr.fin e i), st.2) else none
    | none => none
theorem pDone_done {l : List Ev} {i : Nat} {st : List Opr × Int} {e : Ev} {o : Opr} (h : 0 ≤ o.done) : pDone l i st e o = none := by unfold pDone; rw [if_pos h]
theorem pDone_era {l : List Ev} {i : Nat} {st : List Opr × Int} {e : Ev} {o : Opr} (h : o.era ≠ st.2) : pDone l i st e o = none := by
  unfold pDone
  by_cases hd : 0 ≤ o.done
  · rw [if_pos hd]
  · rw [if_neg hd, if_pos h]
theorem pDone_at {l : List Ev} {i : Nat} {st : List Opr × Int} {e c : Ev} {o : Opr} {cn : Nat} (h : ¬ 0 ≤ o.done) (h2 : o.era = st.2) (hcn : o.call = cn) (hc : l[cn]? = some c) :
    pDone l i st e o = if ansOk e c then some (st.1.map (Opr.fin e i), st.2) else none := by
  unfold pDone
  rw [if_neg h, if_neg (fun hh => hh h2), hcn, Int.toNat_natCast, hc]
def pStep (l : List Ev) (i : Nat) (st : List Opr × Int) (e : Ev) : Option (List Opr × Int) :=
  if e.kind = 1 then
    match findO st.1 e.op with
    | some _ => none
    | none => if properB e then some (st.1 ++ [Opr.of e st.2 i], st.2) else none
  else if e.kind = 2 then
    match findO st.1 e.op with
    | none => none
    | some o => pDone l i st e o
  else if e.kind = 3 then if e = Ev.cut then some (st.1, st.2 + 1) else none
  else none
def parseTo (l : List Ev) : Nat → Option (List Opr × Int)
  | 0 => some ([], 0)
  | k + 1 => match parseTo l k with
    | none => none
    | some st => match l[k]? with | some e => pStep l k st e | none => some st
def parseL (l : List Ev) : Option (List Opr) := (parseTo l l.length).map (·.1)
theorem parseTo_none {l : List Ev} {k n : Nat} (h : parseTo l k = none) (hkn : k ≤ n) : parseTo l n = none := by
  induction n with
  | zero => obtain rfl : k = 0 := by omega
            exact h
  | succ n ih =>
    rcases Nat.lt_or_eq_of_le hkn with h1 | rfl
    · simp only [parseTo, ih (by omega)]
    · exact h
theorem parseTo_at {l : List Ev} {k : Nat} {st : List Opr × Int} {e : Ev} (h : parseTo l k = some st) (he : l[k]? = some e) : parseTo l (k + 1) = pStep l k st e := by
  simp only [parseTo, h, he]
theorem parseL_none {l : List Ev} {k : Nat} {st : List Opr × Int} {e : Ev} (h : parseTo l k = some st) (he : l[k]? = some e) (hp : pStep l k st e = none) : parseL l = none := by
  have hk : k < l.length := (List.getElem?_eq_some_iff.1 he).1
  unfold parseL
  rw [parseTo_none (k := k + 1) ((parseTo_at h he).trans hp) (by omega)]
  rfl
/-- what a state of the parse satisfies -/
structure PInv (l : List Ev) (k : Nat) (st : List Opr × Int) : Prop where
  len : st.1.length ≤ k
  era0 : 0 ≤ st.2
  erak : st.2 ≤ k
  ids : (st.1.map (·.id)).Nodup
  call : ∀ o ∈ st.1, 0 ≤ o.call ∧ o.call < k
theorem fin_id (e : Ev) (i : Nat) (o : Opr) : (Opr.fin e i o).id = o.id := by unfold Opr.fin; split <;> rfl
theorem fin_call (e : Ev) (i : Nat) (o : Opr) : (Opr.fin e i o).call = o.call := by unfold Opr.fin; split <;> rfl
theorem findO_none {os : List Opr} {x : Int} (h : findO os x = none) : ∀ o ∈ os, o.id ≠ x := by
  intro o ho
  have := List.find?_eq_none.1 h o ho
  simpa using this
theorem PInv.step {l : List Ev} {k : Nat} {st st' : List Opr × Int} {e : Ev} (h : PInv l k st) (hs : pStep l k st e = some st') : PInv l (k + 1) st' := by
  obtain ⟨h1, h2, h3, h4, h5⟩ := h
  unfold pStep at hs
  split at hs
  · split at hs
    · cases hs
    · rename_i hf
      split at hs
      · cases hs
        refine ⟨by simp; omega, h2, by simp; omega, ?_, ?_⟩
        · simp only [List.map_append, List.map_cons, List.map_nil]
          rw [List.nodup_append]
          refine ⟨h4, by simp, ?_⟩
          intro a ha b hb
          simp [Opr.of] at hb
          subst hb
          obtain ⟨o, ho, rfl⟩ := List.mem_map.1 ha
          exact findO_none hf o ho
        · intro o ho
          rcases List.mem_append.1 ho with ho | ho
          · have := h5 o ho; omega
          · simp [Opr.of] at ho; subst ho; simp; omega
      · cases hs
  · split at hs
    · split at hs
      · cases hs
      · unfold pDone at hs
        split at hs
        · cases hs
        · split at hs
          · cases hs
          · split at hs
            · split at hs
              · cases hs
                refine ⟨by simp; omega, h2, by simp; omega, ?_, ?_⟩
                · rw [List.map_map]
                  have : ((fun x => x.id) ∘ Opr.fin e k) = (fun x => x.id) := by funext o; exact fin_id e k o
                  rw [this]; exact h4
                · intro o ho
                  obtain ⟨o', ho', rfl⟩ := List.mem_map.1 ho
                  rw [fin_call]
                  have := h5 o' ho'; omega
              · cases hs
            · cases hs
    · split at hs
      · split at hs
        · cases hs
          exact ⟨by simp; omega, by simp; omega, by simp; omega, h4, fun o ho => by have := h5 o ho; omega⟩
        · cases hs
      · cases hs
theorem PInv.to {l : List Ev} {k : Nat} {st : List Opr × Int} (h : parseTo l k = some st) : PInv l k st := by
  induction k generalizing st with
  | zero => simp [parseTo] at h; subst h; exact ⟨by simp, by simp, by simp, by simp, by simp⟩
  | succ k ih =>
    simp only [parseTo] at h
    split at h
    · cases h
    · rename_i st0 h0
      split at h
      · exact (ih h0).step h
      · cases h
        have := ih h0
        exact ⟨by have := this.len; omega, this.era0, by have := this.erak; omega, this.ids, fun o ho => by have := this.call o ho; omega⟩
theorem cut_of {e : Ev} (h3 : e.kind = 3) (h1 : e.op = 0) (h2 : e.write = false) (h4 : e.reg = 0) (h5 : e.val = 0) (h6 : e.barrier = false) : e = Ev.cut := by
  obtain ⟨a, b, c, d, f, g⟩ := e
  simp_all [Ev.cut]
end Go.Proofs.Ytcgbnlhloopnfaa
namespace Go.Proofs.Ytcgbnlhloopnfaa

theorem callOk_eq (e : Ev) : callOk e = properB e := by
  unfold callOk properB flushB
  by_cases h : e.op < 0 ∨ e.reg < 0 ∨ e.val < 0
  · rw [if_pos h, if_pos h]
  · rw [if_neg h, if_neg h]
    cases e.write <;> cases e.barrier <;> simp [Bool.and_comm]
theorem doneOk_eq {e c : Ev} (h : e.op = c.op) : doneOk e c = ansOk e c := by
  unfold doneOk ansOk
  rw [h]
  cases hw : e.write <;> cases hb : e.barrier <;> cases hw' : c.write <;> cases hb' : c.barrier <;> simp
theorem findE_succ {l : List Ev} {kind x : Int} {k : Nat} {e : Ev} (he : l[k]? = some e) : findE l kind x (k + 1) = if findE l kind x k < 0 then (if hitE kind x e then (k : Int) else -1) else findE l kind x k := by
  unfold findE
  have hk : k < l.length := (List.getElem?_eq_some_iff.1 he).1
  have ht : l.take (k + 1) = l.take k ++ [e] := by rw [List.take_add_one, he]; rfl
  rw [ht, List.findIdx?_append]
  rcases hf : List.findIdx? (hitE kind x) (l.take k) with _ | i
  · simp only [Option.none_or]
    by_cases hh : hitE kind x e = true
    · simp [List.findIdx?_cons, hh, Nat.min_eq_left (Nat.le_of_lt hk)]
    · simp [List.findIdx?_cons, hh]
  · simp only [Option.some_or]
    rw [if_neg (by simp)]
theorem findE_at {l : List Ev} {kind x : Int} {k : Nat} (h : 0 ≤ findE l kind x k) : ∃ (i : Nat) (c : Ev), findE l kind x k = i ∧ i < k ∧ l[i]? = some c ∧ hitE kind x c = true := by
  unfold findE at *
  split at h
  · rename_i i hi
    obtain ⟨hlt, hh, _⟩ := List.findIdx?_eq_some_iff_getElem.1 hi
    have hil : i < l.length := by simp at hlt; omega
    refine ⟨i, l[i], rfl, by simp at hlt; omega, List.getElem?_eq_getElem hil, ?_⟩
    simpa using hh
  · omega
def cutsN (l : List Ev) (k : Nat) : Int := ((l.take k).countP (fun e => e.kind == 3) : Nat)
theorem cutsN_succ {l : List Ev} {k : Nat} {e : Ev} (he : l[k]? = some e) : cutsN l (k + 1) = cutsN l k + (if e.kind = 3 then 1 else 0) := by
  unfold cutsN
  have ht : l.take (k + 1) = l.take k ++ [e] := by rw [List.take_add_one, he]; rfl
  rw [ht, List.countP_append]
  by_cases h : e.kind = 3 <;> simp [h]
theorem cutE_iff {l : List Ev} {i k : Nat} (hik : i ≤ k) : cutE l i k = true ↔ cutsN l i ≠ cutsN l k := by
  unfold cutE cutsN
  have hsplit : l.take k = (l.take k).take i ++ (l.take k).drop i := (List.take_append_drop i _).symm
  have h2 : (l.take k).take i = l.take i := by rw [List.take_take, Nat.min_eq_left hik]
  rw [h2] at hsplit
  have h3 : (l.take k).countP (fun e => e.kind == 3) = (l.take i).countP (fun e => e.kind == 3) + ((l.take k).drop i).countP (fun e => e.kind == 3) := by
    conv => lhs; rw [hsplit]
    rw [List.countP_append]
  rw [h3]
  have h4 : ((l.take k).drop i).any (fun e => e.kind == 3) = true ↔ 0 < ((l.take k).drop i).countP (fun e => e.kind == 3) := by
    rw [List.countP_pos_iff, List.any_eq_true]
  rw [h4]
  omega

theorem validTo_succ' {l : List Ev} {k : Nat} {e : Ev} (he : l[k]? = some e) : validTo l (k + 1) = (validTo l k && evOk l k e) := by
  unfold validTo
  have hk : k < l.length := (List.getElem?_eq_some_iff.1 he).1
  have ht : l.take (k + 1) = l.take k ++ [e] := by rw [List.take_add_one, he]; rfl
  rw [ht, List.zipIdx_append, List.all_append]
  simp [Nat.min_eq_left (Nat.le_of_lt hk)]

/-- what the operations of a valid beginning say of its events -/
structure OInv (l : List Ev) (k : Nat) (st : List Opr × Int) : Prop where
  era : st.2 = cutsN l k
  dn : ∀ x, 0 ≤ findE l 2 x k → 0 ≤ findE l 1 x k
  no : ∀ x, findO st.1 x = none ↔ findE l 1 x k < 0
  op : ∀ x o, findO st.1 x = some o → o.id = x ∧ o.call = findE l 1 x k ∧ o.done = findE l 2 x k ∧ ∃ (i : Nat), o.call = i ∧ i < k ∧ o.era = cutsN l i

theorem findO_map {os : List Opr} {e : Ev} {k : Nat} {x : Int} : findO (os.map (Opr.fin e k)) x = (findO os x).map (Opr.fin e k) := by
  unfold findO
  rw [List.find?_map]
  congr 2
  funext o
  simp [fin_id]
theorem hitE_kind {kind x : Int} {e : Ev} (h : e.kind ≠ kind) : hitE kind x e = false := by simp [hitE, h]

theorem find_miss {l : List Ev} {kind x : Int} {k : Nat} {e : Ev} (he : l[k]? = some e) (hh : hitE kind x e = false) : findE l kind x (k + 1) = findE l kind x k := by
  rw [findE_succ he, hh]
  have := findE_lt l kind x k
  split
  · simp; omega
  · rfl
theorem find_hit {l : List Ev} {kind x : Int} {k : Nat} {e : Ev} (he : l[k]? = some e) (hh : hitE kind x e = true) (hn : findE l kind x k < 0) : findE l kind x (k + 1) = k := by
  rw [findE_succ he, if_pos hn, hh]; rfl
theorem find_stay {l : List Ev} {kind x : Int} {k : Nat} {e : Ev} (he : l[k]? = some e) (hn : ¬ findE l kind x k < 0) : findE l kind x (k + 1) = findE l kind x k := by
  rw [findE_succ he, if_neg hn]
theorem hit_other {kind x : Int} {e : Ev} (h : e.op ≠ x) : hitE kind x e = false := by simp [hitE, h]
theorem hit_this {e : Ev} {kind : Int} (h : e.kind = kind) : hitE kind e.op e = true := by simp [hitE, h]

theorem hist_cut {l : List Ev} {k : Nat} {st : List Opr × Int} {e : Ev} (he : l[k]? = some e) (h : OInv l k st) (h3 : e.kind = 3) : OInv l (k + 1) (st.1, st.2 + 1) := by
  have m1 := fun x => find_miss he (hitE_kind (kind := 1) (x := x) (e := e) (by omega))
  have m2 := fun x => find_miss he (hitE_kind (kind := 2) (x := x) (e := e) (by omega))
  refine ⟨by rw [cutsN_succ he, if_pos h3, h.era], fun x => by rw [m1, m2]; exact h.dn x, fun x => by rw [m1]; exact h.no x, fun x o ho => ?_⟩
  obtain ⟨h4, h5, h6, i, h7, h8, h9⟩ := h.op x o ho
  exact ⟨h4, by rw [m1, h5], by rw [m2, h6], i, h7, by omega, h9⟩
theorem hist_call {l : List Ev} {k : Nat} {st : List Opr × Int} {e : Ev} (he : l[k]? = some e) (h : OInv l k st) (h1 : e.kind = 1) (hfo : findO st.1 e.op = none) : OInv l (k + 1) (st.1 ++ [Opr.of e st.2 k], st.2) := by
  have hn := (h.no e.op).1 hfo
  have hn2 : findE l 2 e.op k < 0 := by
    have := h.dn e.op
    omega
  have m2 := fun x => find_miss he (hitE_kind (kind := 2) (x := x) (e := e) (by omega))
  have m1 : ∀ x, e.op ≠ x → findE l 1 x (k + 1) = findE l 1 x k := fun x hx => find_miss he (hit_other hx)
  have m0 : findE l 1 e.op (k + 1) = k := find_hit he (hit_this h1) hn
  refine ⟨by rw [cutsN_succ he, if_neg (by omega), h.era]; simp, fun x => ?_, fun x => ?_, fun x o ho => ?_⟩
  · by_cases hx : e.op = x
    · subst hx; rw [m0]; omega
    · rw [m1 x hx, m2]; exact h.dn x
  · by_cases hx : e.op = x
    · subst hx
      rw [m0]
      unfold findO at hfo ⊢
      rw [List.find?_append, hfo]
      simp [Opr.of]
    · rw [m1 x hx, ← h.no x]
      unfold findO
      rw [List.find?_append]
      have hx' : (e.op == x) = false := by simpa using hx
      simp [Opr.of, hx']
  · by_cases hx : e.op = x
    · subst hx
      unfold findO at hfo ho
      rw [List.find?_append, hfo] at ho
      simp [Opr.of] at ho
      subst ho
      refine ⟨rfl, m0.symm, ?_, k, rfl, by omega, h.era⟩
      rw [m2]
      have := findE_lt l 2 e.op k
      simp only
      omega
    · have hx' : (e.op == x) = false := by simpa using hx
      have ho' : findO st.1 x = some o := by
        unfold findO at ho ⊢
        rw [List.find?_append] at ho
        simpa [Opr.of, hx'] using ho
      obtain ⟨h4, h5, h6, i, h7, h8, h9⟩ := h.op x o ho'
      exact ⟨h4, by rw [m1 x hx, h5], by rw [m2, h6], i, h7, by omega, h9⟩
theorem hist_done {l : List Ev} {k : Nat} {st : List Opr × Int} {e : Ev} (he : l[k]? = some e) (h : OInv l k st) (h2 : e.kind = 2) {o : Opr} (hfo : findO st.1 e.op = some o) (hn2 : findE l 2 e.op k < 0) : OInv l (k + 1) (st.1.map (Opr.fin e k), st.2) := by
  have m1 := fun x => find_miss he (hitE_kind (kind := 1) (x := x) (e := e) (by omega))
  have m2 : ∀ x, e.op ≠ x → findE l 2 x (k + 1) = findE l 2 x k := fun x hx => find_miss he (hit_other hx)
  have m0 : findE l 2 e.op (k + 1) = k := find_hit he (hit_this h2) hn2
  have hn1 : ¬ findE l 1 e.op k < 0 := by rw [← h.no e.op, hfo]; simp
  refine ⟨by rw [cutsN_succ he, if_neg (by omega), h.era]; simp, fun x => ?_, fun x => ?_, fun x o' ho => ?_⟩
  · rw [m1]
    by_cases hx : e.op = x
    · subst hx; omega
    · rw [m2 x hx]; exact h.dn x
  · rw [findO_map, m1, ← h.no x]; simp
  · rw [findO_map] at ho
    obtain ⟨o2, ho2, rfl⟩ := Option.map_eq_some_iff.1 ho
    obtain ⟨h4, h5, h6, i, h7, h8, h9⟩ := h.op x o2 ho2
    by_cases hx : e.op = x
    · subst hx
      have hid : o2.id = e.op := h4
      unfold Opr.fin
      rw [if_pos hid]
      exact ⟨h4, by rw [m1]; exact h5, m0.symm, i, h7, by omega, h9⟩
    · have hid : o2.id ≠ e.op := by rw [h4]; exact fun hh => hx hh.symm
      unfold Opr.fin
      rw [if_neg hid]
      exact ⟨h4, by rw [m1]; exact h5, by rw [m2 x hx]; exact h6, i, h7, by omega, h9⟩

theorem hist_step {l : List Ev} {k : Nat} {st : List Opr × Int} {e : Ev} (he : l[k]? = some e) (h : OInv l k st) : pStep l k st e = (if evOk l k e then some (rawStep k st e) else none) ∧ (evOk l k e = true → OInv l (k + 1) (rawStep k st e)) := by
  by_cases h3 : e.kind = 3
  · have hr : rawStep k st e = (st.1, st.2 + 1) := by unfold rawStep; rw [if_pos h3]
    have hp : pStep l k st e = if e = Ev.cut then some (st.1, st.2 + 1) else none := by unfold pStep; rw [if_neg (by omega), if_neg (by omega), if_pos h3]
    have hv : evOk l k e = decide (e = Ev.cut) := by unfold evOk; rw [if_pos h3]
    rw [hr, hp, hv]
    exact ⟨by simp, fun _ => hist_cut he h h3⟩
  by_cases h1 : e.kind = 1
  · have hr : rawStep k st e = (st.1 ++ [Opr.of e st.2 k], st.2) := by unfold rawStep; rw [if_neg h3, if_pos h1]
    have hv : evOk l k e = (properB e && decide (findE l 1 e.op k < 0)) := by unfold evOk; rw [if_neg h3, if_pos h1, callOk_eq]
    rw [hr, hv]
    unfold pStep
    rw [if_pos h1]
    rcases hfo : findO st.1 e.op with _ | o
    · have hn := (h.no e.op).1 hfo
      exact ⟨by simp [hn], fun _ => hist_call he h h1 hfo⟩
    · have hn : ¬ findE l 1 e.op k < 0 := by rw [← h.no e.op, hfo]; simp
      have hd : decide (findE l 1 e.op k < 0) = false := by simpa using hn
      rw [hd, Bool.and_false]
      exact ⟨by simp, fun hh => by cases hh⟩
  by_cases h2 : e.kind = 2
  · have hr : rawStep k st e = (st.1.map (Opr.fin e k), st.2) := by unfold rawStep; rw [if_neg h3, if_neg h1]
    have hv : evOk l k e = doneAt l k e (findE l 1 e.op k) (findE l 2 e.op k) := by unfold evOk; rw [if_neg h3, if_neg h1, if_pos h2]
    rw [hr, hv]
    unfold pStep
    rw [if_neg h1, if_pos h2]
    rcases hfo : findO st.1 e.op with _ | o
    · have hn := (h.no e.op).1 hfo
      rw [doneAt_neg hn]
      exact ⟨by simp, fun hh => by cases hh⟩
    · obtain ⟨h4, h5, h6, i, h7, h8, h9⟩ := h.op e.op o hfo
      have hn : ¬ findE l 1 e.op k < 0 := by rw [← h.no e.op, hfo]; simp
      by_cases hd : 0 ≤ o.done
      · rw [doneAt_two (by omega)]
        exact ⟨by simp [pDone_done hd], fun hh => by cases hh⟩
      · obtain ⟨i', c, hi, hik, hc, hh⟩ := findE_at (l := l) (kind := 1) (x := e.op) (k := k) (by omega)
        have hii : i = i' := by omega
        subst hii
        rw [hi, doneAt_at (by omega) hc]
        have hop : e.op = c.op := by simp [hitE] at hh; exact hh.2.symm
        rw [doneOk_eq hop]
        have hce := cutE_iff (l := l) (i := i) (k := k) (by omega)
        rw [← h9, ← h.era] at hce
        by_cases hera : o.era = st.2
        · have hcut : cutE l i k = false := by
            rcases hq : cutE l i k with _ | _
            · rfl
            · exact absurd hera (hce.1 hq)
          rw [hcut]
          refine ⟨by simp [pDone_at hd hera h7 hc], fun _ => hist_done he h h2 hfo (by omega)⟩
        · have hcut : cutE l i k = true := hce.2 hera
          rw [hcut]
          exact ⟨by simp [pDone_era hera], fun hh => by cases hh⟩
  · have hv : evOk l k e = false := by unfold evOk; rw [if_neg h3, if_neg h1, if_neg h2]
    rw [hv]
    refine ⟨?_, fun hh => by cases hh⟩
    unfold pStep
    rw [if_neg h1, if_neg h2, if_neg h3]
    rfl
theorem hist_to (l : List Ev) (k : Nat) (hk : k ≤ l.length) : parseTo l k = (if validTo l k then some (rawTo l k) else none) ∧ (validTo l k = true → OInv l k (rawTo l k)) := by
  induction k with
  | zero => exact ⟨rfl, fun _ => ⟨rfl, by simp [findE], by simp [findO, findE, rawTo], by simp [findO, rawTo]⟩⟩
  | succ k ih =>
    obtain ⟨e, he⟩ : ∃ e, l[k]? = some e := ⟨l[k], List.getElem?_eq_getElem (by omega)⟩
    obtain ⟨h1, h2⟩ := ih (by omega)
    rw [validTo_succ' he, rawTo_succ he]
    rcases hv : validTo l k with _ | _
    · rw [hv] at h1
      rw [parseTo_none (k := k) h1 (by omega)]
      exact ⟨rfl, fun hh => by simp at hh⟩
    · rw [hv] at h1
      rw [parseTo_at h1 he]
      obtain ⟨h3, h4⟩ := hist_step he (h2 hv)
      rw [h3]
      exact ⟨by simp, fun hh => h4 (by simpa using hh)⟩
theorem parse_eq (l : List Ev) : parseL l = if validL l then some (rawOps l) else none := by
  unfold parseL validL rawOps
  rw [(hist_to l l.length (Nat.le_refl _)).1]
  split <;> rfl
end Go.Proofs.Ytcgbnlhloopnfaa
namespace Go.Proofs.Ytcgbnlhloopnfaa

theorem findO_mem {os : List Opr} {x : Int} {o : Opr} (h : findO os x = some o) : o ∈ os ∧ o.id = x := by
  refine ⟨List.mem_of_find?_eq_some h, ?_⟩
  have := List.find?_some h
  simpa using this
theorem pStep_left {l r : List Ev} {k : Nat} {st : List Opr × Int} {e : Ev} (hk : k ≤ l.length) (h : ∀ o ∈ st.1, 0 ≤ o.call ∧ o.call < k) : pStep (l ++ r) k st e = pStep l k st e := by
  unfold pStep
  split
  · rfl
  · split
    · split
      · rfl
      · rename_i o ho
        have hm := h o (findO_mem ho).1
        unfold pDone
        rw [List.getElem?_append_left (by omega)]
    · rfl
theorem parseTo_left (l r : List Ev) (k : Nat) (hk : k ≤ l.length) : parseTo (l ++ r) k = parseTo l k := by
  induction k with
  | zero => rfl
  | succ k ih =>
    simp only [parseTo]
    rw [ih (by omega)]
    rcases hp : parseTo l k with _ | st
    · rfl
    · simp only
      rw [List.getElem?_append_left (by omega), List.getElem?_eq_getElem (by omega)]
      exact pStep_left (by omega) (PInv.to hp).call
def parseS (l : List Ev) : Option (List Opr × Int) := parseTo l l.length
theorem parseL_eq (l : List Ev) : parseL l = (parseS l).map (·.1) := rfl
theorem parseS_nil : parseS [] = some ([], 0) := rfl
theorem parseS_snoc {l : List Ev} {st : List Opr × Int} (e : Ev) (h : parseS l = some st) : parseS (l ++ [e]) = pStep l l.length st e := by
  have h1 : parseTo (l ++ [e]) l.length = some st := by rw [parseTo_left _ _ _ (Nat.le_refl _)]; exact h
  have h2 : (l ++ [e])[l.length]? = some e := by simp
  unfold parseS
  rw [show (l ++ [e]).length = l.length + 1 by simp, parseTo_at h1 h2]
  exact pStep_left (Nat.le_refl _) (PInv.to h).call
def callOf (o : Opr) : Ev := ⟨1, o.id, o.write, o.reg, o.val, o.barrier⟩
/-- an operation that was not answered lies in the list as its call -/
def PCall (l : List Ev) (os : List Opr) : Prop := ∀ o ∈ os, o.done < 0 → l[o.call.toNat]? = some (callOf o)
theorem pcall_step {l : List Ev} {k : Nat} {st st' : List Opr × Int} {e : Ev} (he : l[k]? = some e) (h : PCall l st.1) (hs : pStep l k st e = some st') : PCall l st'.1 := by
  unfold pStep at hs
  split at hs
  · rename_i h1
    split at hs
    · cases hs
    · split at hs
      · cases hs
        intro o ho hd
        rcases List.mem_append.1 ho with ho | ho
        · exact h o ho hd
        · simp only [List.mem_singleton] at ho
          subst ho
          simp only [Opr.of, Int.toNat_natCast, he, callOf]
          rw [← h1]
      · cases hs
  · split at hs
    · split at hs
      · cases hs
      · unfold pDone at hs
        split at hs
        · cases hs
        · split at hs
          · cases hs
          · split at hs
            · split at hs
              · cases hs
                intro o ho hd
                obtain ⟨o', ho', rfl⟩ := List.mem_map.1 ho
                unfold Opr.fin at hd ⊢
                split at hd
                · simp only at hd
                  omega
                · rename_i hne
                  rw [if_neg hne]
                  exact h o' ho' hd
              · cases hs
            · cases hs
    · split at hs
      · split at hs
        · cases hs
          exact h
        · cases hs
      · cases hs
theorem pcall_to {l : List Ev} {k : Nat} {st : List Opr × Int} (hk : k ≤ l.length) (h : parseTo l k = some st) : PCall l st.1 := by
  induction k generalizing st with
  | zero => simp [parseTo] at h; subst h; intro o ho; simp at ho
  | succ k ih =>
    simp only [parseTo] at h
    split at h
    · cases h
    · rename_i st0 h0
      have he : l[k]? = some l[k] := List.getElem?_eq_getElem (by omega)
      rw [he] at h
      exact pcall_step he (ih (by omega) h0) h
theorem parseS_call {l : List Ev} {st : List Opr × Int} {e : Ev} (h : parseS l = some st) (hf : findO st.1 e.op = none) (hk : e.kind = 1) (hp : properB e = true) :
    parseS (l ++ [e]) = some (st.1 ++ [Opr.of e st.2 l.length], st.2) := by
  rw [parseS_snoc e h]
  unfold pStep
  rw [if_pos hk, hf]
  simp only [hp, if_true]
theorem parseS_done {l : List Ev} {st : List Opr × Int} {e : Ev} {o : Opr} (h : parseS l = some st) (hf : findO st.1 e.op = some o) (hd : o.done < 0) (hera : o.era = st.2) (hk : e.kind = 2)
    (hw : e.write = o.write) (hr : e.reg = o.reg) (hb : e.barrier = o.barrier) (hv : (e.write = false ∧ e.barrier = false) ∨ e.val = o.val) :
    parseS (l ++ [e]) = some (st.1.map (Opr.fin e l.length), st.2) := by
  have hc := pcall_to (Nat.le_refl _) h o (findO_mem hf).1 hd
  have hid := (findO_mem hf).2
  rw [parseS_snoc e h]
  unfold pStep pDone
  rw [if_neg (by omega), if_pos hk, hf]
  simp only
  rw [if_neg (by omega), if_neg (fun hh => hh hera), hc]
  have : ansOk e (callOf o) = true := by
    unfold ansOk callOf
    rcases hv with ⟨h1, h2⟩ | h1
    · simp_all
    · simp_all
  simp only [this, if_true]
theorem parseS_cut {l : List Ev} {st : List Opr × Int} (h : parseS l = some st) : parseS (l ++ [Ev.cut]) = some (st.1, st.2 + 1) := by
  rw [parseS_snoc _ h]
  rfl
/-- what the parse leaves: the ids differ, calls lie below -/
theorem parseS_inv {l : List Ev} {st : List Opr × Int} (h : parseS l = some st) : PInv l l.length st := PInv.to h
end Go.Proofs.Ytcgbnlhloopnfaa
namespace Go.Proofs.Ytcgbnlhloopnfaa

def insK (l : List Int) (n : Int) : Nat := (l.takeWhile fun x => decide (x < n)).length
def insI (l : List Int) (n : Int) : List Int := if l[insK l n]? = some n then l else l.take (insK l n) ++ [n] ++ l.drop (insK l n)
theorem insK_le (l : List Int) (n : Int) : insK l n ≤ l.length := (List.takeWhile_sublist _).length_le
theorem insK_low {l : List Int} {n : Int} {j : Nat} {x : Int} (hj : j < insK l n) (hx : l[j]? = some x) : x < n := by
  unfold insK at hj
  induction l generalizing j with
  | nil => simp at hx
  | cons a l ih =>
    rw [List.takeWhile_cons] at hj
    split at hj
    · rename_i h
      cases j with
      | zero =>
        simp at hx
        subst hx
        simpa using h
      | succ j => exact ih (by simpa using hj) (by simpa using hx)
    · simp at hj
theorem insK_at {l : List Int} {n : Int} {x : Int} (hx : l[insK l n]? = some x) : n ≤ x := by
  unfold insK at hx
  induction l with
  | nil => simp at hx
  | cons a l ih =>
    rw [List.takeWhile_cons] at hx
    split at hx
    · simp at hx
      exact ih hx
    · rename_i h
      simp at hx
      subst hx
      simpa using h
theorem insK_is {l : List Int} {n : Int} {k : Nat} (hk : k ≤ l.length) (hlow : ∀ j x, j < k → l[j]? = some x → x < n) (hat : ∀ x, l[k]? = some x → n ≤ x) : insK l n = k := by
  rcases Nat.lt_trichotomy (insK l n) k with h | h | h
  · have hx : l[insK l n]? = some (l[insK l n]'(by omega)) := List.getElem?_eq_getElem _
    have h1 := hlow _ _ h hx
    have h2 := insK_at hx
    omega
  · exact h
  · have hl := insK_le l n
    have hx : l[k]? = some (l[k]'(by omega)) := List.getElem?_eq_getElem _
    have h1 := insK_low h hx
    have h2 := hat _ hx
    omega

theorem insI_mem {l : List Int} {n x : Int} : x ∈ insI l n ↔ x = n ∨ x ∈ l := by
  unfold insI
  split
  · rename_i h
    constructor
    · exact .inr
    · rintro (rfl | h1)
      · exact List.mem_of_getElem? h
      · exact h1
  · rw [List.mem_append, List.mem_append, List.mem_singleton]
    conv => rhs; rw [← List.take_append_drop (insK l n) l, List.mem_append]
    constructor
    · rintro ((h | h) | h)
      · exact .inr (.inl h)
      · exact .inl h
      · exact .inr (.inr h)
    · rintro (h | h | h)
      · exact .inl (.inr h)
      · exact .inl (.inl h)
      · exact .inr h
theorem insI_sorted {l : List Int} (hs : l.Pairwise (· < ·)) (n : Int) : (insI l n).Pairwise (· < ·) := by
  unfold insI
  split
  · exact hs
  · rename_i hne
    have hd : ∀ y ∈ l.drop (insK l n), n < y := by
      intro y hy
      obtain ⟨j, hj⟩ := List.mem_iff_getElem?.1 hy
      rw [List.getElem?_drop] at hj
      have hlt : insK l n < l.length := by
        have := (List.getElem?_eq_some_iff.1 hj).1
        omega
      have hk : l[insK l n]? = some l[insK l n] := List.getElem?_eq_getElem hlt
      have h1 := insK_at hk
      have h2 : l[insK l n] ≠ n := fun h => hne (by rw [hk, h])
      rcases Nat.eq_zero_or_pos j with h0 | h0
      · subst h0
        rw [Nat.add_zero, hk] at hj
        have := Option.some.inj hj
        omega
      · have h3 := List.pairwise_iff_getElem.1 hs (insK l n) (insK l n + j) hlt (List.getElem?_eq_some_iff.1 hj).1 (by omega)
        have h4 := (List.getElem?_eq_some_iff.1 hj).2
        omega
    have ht : ∀ x ∈ l.take (insK l n), x < n := by
      intro x hx
      obtain ⟨j, hj⟩ := List.mem_iff_getElem?.1 hx
      rw [List.getElem?_take] at hj
      split at hj
      · exact insK_low (by assumption) hj
      · cases hj
    rw [List.append_assoc, List.pairwise_append]
    refine ⟨hs.sublist (List.take_sublist _ _), ?_, ?_⟩
    · rw [List.singleton_append, List.pairwise_cons]
      exact ⟨hd, hs.sublist (List.drop_sublist _ _)⟩
    · intro a ha b hb
      rw [List.singleton_append, List.mem_cons] at hb
      have h1 := ht a ha
      rcases hb with rfl | hb
      · exact h1
      · have := hd b hb
        omega

/-- numbers that are inserted one after the other -/
def insAll (xs : List Int) : List Int := xs.foldl insI []
theorem insAll_gen (xs acc : List Int) (h : acc.Pairwise (· < ·)) : (xs.foldl insI acc).Pairwise (· < ·) ∧ ∀ x, x ∈ xs.foldl insI acc ↔ x ∈ acc ∨ x ∈ xs := by
  induction xs generalizing acc with
  | nil => exact ⟨h, fun x => by simp⟩
  | cons a xs ih =>
    obtain ⟨h1, h2⟩ := ih (insI acc a) (insI_sorted h a)
    refine ⟨h1, fun x => ?_⟩
    rw [List.foldl_cons, h2 x, insI_mem, List.mem_cons]
    constructor
    · rintro ((h | h) | h)
      · exact .inr (.inl h)
      · exact .inl h
      · exact .inr (.inr h)
    · rintro (h | h | h)
      · exact .inl (.inr h)
      · exact .inl (.inl h)
      · exact .inr h
theorem insAll_snoc (xs : List Int) (x : Int) : insAll (xs ++ [x]) = insI (insAll xs) x := by unfold insAll; rw [List.foldl_append]; rfl
theorem insAll_is {xs ys : List Int} (hy : ys.Pairwise (· ≤ ·)) (hn : ys.Nodup) (hm : ∀ x, x ∈ ys ↔ x ∈ xs) : ys = insAll xs := by
  obtain ⟨h1, h2⟩ := insAll_gen xs [] List.Pairwise.nil
  have hle : (insAll xs).Pairwise (· ≤ ·) := h1.imp fun h => by omega
  have hnd : (insAll xs).Nodup := h1.imp fun h => by omega
  have hp : ys.Perm (insAll xs) := (List.perm_ext_iff_of_nodup hn hnd).2 fun x => by rw [hm x]; exact ((h2 x).trans (by simp)).symm
  exact List.Perm.eq_of_pairwise (fun a b _ _ h1 h2 => by omega) hy hle hp

/-- the registers of reads and writes, in the order of the calls -/
def effB (o : Opr) : Bool := o.write || !o.barrier
def regsO (os : List Opr) : List Int := (os.filter effB).map (·.reg)
def refPend (l : List Ev) (o : Opr) : Bool := decide (o.done < 0) && !cutE l o.call.toNat l.length
theorem pend_cut {l : List Ev} {os : List Opr} (h : parseL l = some os) {o : Opr} (ho : o ∈ os) : (o.era == cutsN l l.length) = !cutE l o.call.toNat l.length := by
  have h1 := hist_to l l.length (Nat.le_refl _)
  unfold parseL at h
  rw [h1.1] at h
  cases hv : validTo l l.length
  · rw [hv] at h; cases h
  · rw [hv, if_pos rfl] at h
    have hO := h1.2 hv
    have hos : (rawTo l l.length).1 = os := Option.some.inj h
    have hp : parseTo l l.length = some (rawTo l l.length) := by rw [h1.1, hv, if_pos rfl]
    have hids := (PInv.to hp).ids
    rw [hos] at hids
    have hf : findO (rawTo l l.length).1 o.id = some o := by
      rw [hos]
      rcases hf : findO os o.id with _ | o'
      · exact absurd rfl (findO_none hf o ho)
      · obtain ⟨h2, h3⟩ := findO_mem hf
        obtain ⟨i, hi⟩ := List.mem_iff_getElem?.1 ho
        obtain ⟨j, hj⟩ := List.mem_iff_getElem?.1 h2
        have hij : i = j := (List.getElem?_inj (l := os.map (·.id)) (by rw [List.length_map]; exact (List.getElem?_eq_some_iff.1 hi).1) hids).1 (by rw [List.getElem?_map, List.getElem?_map, hi, hj]; simp [h3])
        subst hij
        rw [hi] at hj
        exact hj.symm
    obtain ⟨-, -, -, i, h4, h5, h6⟩ := hO.op o.id o hf
    rw [h4, Int.toNat_natCast, h6]
    have h7 := cutE_iff (l := l) (i := i) (k := l.length) (by omega)
    cases hc : cutE l i l.length
    · have : cutsN l i = cutsN l l.length := Classical.byContradiction fun hne => by rw [h7.2 hne] at hc; cases hc
      simp [this]
    · have := h7.1 hc
      simpa using this
end Go.Proofs.Ytcgbnlhloopnfaa
namespace Go.Proofs.Ytcgbnlhloopnfaa

def keepO (r : Int) (o : Opr) : Bool := (o.barrier && !o.write) || o.reg == r
def keepE (r : Int) (e : Ev) : Bool := e.kind == 3 || flushB e || e.reg == r
/-- an operation without its places in the list -/
def Opr.str (o : Opr) : Opr := { o with call := 0, done := if 0 ≤ o.done then 1 else -1 }
def Opr.finS (e : Ev) (o : Opr) : Opr := if o.id = e.op then { o with val := e.val, done := 1 } else o
theorem str_fin (e : Ev) (i : Nat) (o : Opr) : (Opr.fin e i o).str = Opr.finS e o.str := by
  unfold Opr.fin Opr.finS Opr.str
  by_cases h : o.id = e.op
  · simp [h]
  · simp [h]
theorem keep_fin (r : Int) (e : Ev) (i : Nat) (o : Opr) : keepO r (Opr.fin e i o) = keepO r o := by
  unfold Opr.fin
  split <;> rfl
theorem fin_other {e : Ev} {i : Nat} {o : Opr} (h : o.id ≠ e.op) : Opr.fin e i o = o := by
  unfold Opr.fin
  rw [if_neg h]
theorem str_of (e : Ev) (era : Int) (i j : Nat) : (Opr.of e era i).str = (Opr.of e era j).str := rfl

theorem str_inj {a b : Opr} (h : a.str = b.str) : a.id = b.id ∧ a.reg = b.reg ∧ a.val = b.val ∧ a.write = b.write ∧ a.barrier = b.barrier ∧ a.era = b.era ∧ (if 0 ≤ a.done then (1 : Int) else -1) = if 0 ≤ b.done then 1 else -1 := by
  unfold Opr.str at h
  injection h with h1 h2 h3 h4 h5 h6 h7 h8
  exact ⟨h1, h2, h3, h4, h5, h6, h8⟩

/-- the call of an operation that is under way lies in the list -/
def COk (l : List Ev) (os : List Opr) : Prop := ∀ o ∈ os, o.done < 0 → ∃ c : Ev, l[o.call.toNat]? = some c ∧ c.op = o.id ∧ c.write = o.write ∧ c.reg = o.reg ∧ c.val = o.val ∧ c.barrier = o.barrier
theorem COk.step {l : List Ev} {k : Nat} {st st' : List Opr × Int} {e : Ev} (he : l[k]? = some e) (h : COk l st.1) (hs : pStep l k st e = some st') : COk l st'.1 := by
  unfold pStep at hs
  split at hs
  · split at hs
    · cases hs
    · split at hs
      · cases hs
        intro o ho hd
        rcases List.mem_append.1 ho with ho | ho
        · exact h o ho hd
        · simp at ho
          subst ho
          exact ⟨e, by simpa [Opr.of] using he, rfl, rfl, rfl, rfl, rfl⟩
      · cases hs
  · split at hs
    · split at hs
      · cases hs
      · unfold pDone at hs
        split at hs
        · cases hs
        · split at hs
          · cases hs
          · split at hs
            · split at hs
              · cases hs
                intro o ho hd
                obtain ⟨o', ho', rfl⟩ := List.mem_map.1 ho
                by_cases hid : o'.id = e.op
                · unfold Opr.fin at hd
                  rw [if_pos hid] at hd
                  have hd : ((k : Nat) : Int) < 0 := hd
                  omega
                · rw [fin_other hid] at hd ⊢
                  exact h o' ho' hd
              · cases hs
            · cases hs
    · split at hs
      · split at hs
        · cases hs
          exact h
        · cases hs
      · cases hs
theorem COk.to {l : List Ev} {k : Nat} {st : List Opr × Int} (h : parseTo l k = some st) : COk l st.1 := by
  induction k generalizing st with
  | zero => simp [parseTo] at h; subst h; intro o ho; simp at ho
  | succ k ih =>
    simp only [parseTo] at h
    split at h
    · cases h
    · rename_i st0 h0
      split at h
      · rename_i e he
        exact (ih h0).step he h
      · cases h
        exact ih h0

theorem filter_at {p : Ev → Bool} {l : List Ev} {k : Nat} {e : Ev} (he : l[k]? = some e) (hp : p e = true) : (l.filter p)[((l.take k).filter p).length]? = some e := by
  have hk : k < l.length := (List.getElem?_eq_some_iff.1 he).1
  have h1 : l = l.take k ++ e :: l.drop (k + 1) := by
    have h2 : l[k] = e := by rw [List.getElem?_eq_getElem hk] at he; exact Option.some.inj he
    rw [← h2, ← List.drop_eq_getElem_cons hk, List.take_append_drop]
  have h3 : l.filter p = (l.take k).filter p ++ e :: (l.drop (k + 1)).filter p := by
    conv => lhs; rw [h1]
    rw [List.filter_append, List.filter_cons, if_pos hp]
  rw [h3, List.getElem?_append_right (Nat.le_refl _), Nat.sub_self]
  rfl
theorem take_filter {p : Ev → Bool} {l : List Ev} {k : Nat} {e : Ev} (he : l[k]? = some e) : ((l.take (k + 1)).filter p).length = ((l.take k).filter p).length + (if p e then 1 else 0) := by
  rw [List.take_add_one, he, List.filter_append, List.length_append]
  cases hp : p e <;> simp [hp]

def Sim (r : Int) (st st' : List Opr × Int) : Prop := st'.2 = st.2 ∧ st'.1.map Opr.str = (st.1.filter (keepO r)).map Opr.str
theorem opr_eq {os : List Opr} (hids : (os.map (·.id)).Nodup) {o o' : Opr} (h : o ∈ os) (h' : o' ∈ os) (he : o.id = o'.id) : o = o' := by
  obtain ⟨i, hi⟩ := List.mem_iff_getElem?.1 h
  obtain ⟨j, hj⟩ := List.mem_iff_getElem?.1 h'
  have hij : i = j := (List.getElem?_inj (l := os.map (·.id)) (by rw [List.length_map]; exact (List.getElem?_eq_some_iff.1 hi).1) hids).1 (by rw [List.getElem?_map, List.getElem?_map, hi, hj]; simp [he])
  subst hij
  rw [hi] at hj
  exact Option.some.inj hj

theorem sim_skip {l : List Ev} {r : Int} {k : Nat} {st st1 st' : List Opr × Int} {e : Ev} (hids : (st.1.map (·.id)).Nodup) (hc : COk l st.1) (h : Sim r st st') (hk : keepE r e = false) (hs : pStep l k st e = some st1) : Sim r st1 st' := by
  obtain ⟨h1, h2⟩ := h
  unfold keepE at hk
  rw [Bool.or_eq_false_iff, Bool.or_eq_false_iff] at hk
  obtain ⟨⟨k1, k2⟩, k3⟩ := hk
  unfold flushB at k2
  unfold pStep at hs
  split at hs
  · split at hs
    · cases hs
    · split at hs
      · cases hs
        refine ⟨h1, h2.trans ?_⟩
        have : keepO r (Opr.of e st.2 k) = false := by unfold keepO Opr.of; simp only; rw [k2, k3]; rfl
        simp [List.filter_append, this]
      · cases hs
  · split at hs
    · split at hs
      · cases hs
      · rename_i o ho
        obtain ⟨ho1, ho2⟩ := findO_mem ho
        unfold pDone at hs
        split at hs
        · cases hs
        · rename_i hd
          split at hs
          · cases hs
          · split at hs
            · rename_i c hcl
              split at hs
              · rename_i ha
                cases hs
                refine ⟨h1, h2.trans ?_⟩
                obtain ⟨c', e1, e2, e3, e4, e5, e6⟩ := hc o ho1 (by omega)
                rw [hcl] at e1
                cases e1
                unfold ansOk at ha
                simp only [Bool.and_eq_true, beq_iff_eq] at ha
                obtain ⟨⟨⟨⟨a1, a2⟩, a3⟩, a4⟩, a5⟩ := ha
                have hko : keepO r o = false := by unfold keepO; rw [← e3, ← e4, ← e6, ← a2, ← a3, ← a5, k2, k3]; rfl
                have hf : (st.1.map (Opr.fin e k)).filter (keepO r) = st.1.filter (keepO r) := by
                  rw [List.filter_map]
                  have hcomp : (keepO r ∘ Opr.fin e k) = keepO r := by funext x; exact keep_fin r e k x
                  rw [hcomp]
                  have : ∀ x ∈ st.1.filter (keepO r), Opr.fin e k x = x := fun x hx => by
                    obtain ⟨x1, x2⟩ := List.mem_filter.1 hx
                    refine fin_other fun hid => ?_
                    have := opr_eq hids x1 ho1 (hid.trans ho2.symm)
                    subst this
                    rw [hko] at x2
                    cases x2
                  conv => rhs; rw [← List.map_id (st.1.filter (keepO r))]
                  exact List.map_congr_left this
                exact (congrArg (List.map Opr.str) hf).symm
              · cases hs
            · cases hs
    · split at hs
      · rename_i h3
        rw [h3] at k1
        simp at k1
      · cases hs

theorem sim_keep {l f : List Ev} {r : Int} {k j : Nat} {st st1 st' : List Opr × Int} {e : Ev} (hids : (st.1.map (·.id)).Nodup) (hc : COk l st.1) (hc' : COk f st'.1) (h : Sim r st st') (hk : keepE r e = true) (hs : pStep l k st e = some st1) :
    ∃ st1', pStep f j st' e = some st1' ∧ Sim r st1 st1' := by
  obtain ⟨h1, h2⟩ := h
  have hmem : ∀ o' ∈ st'.1, ∃ o ∈ st.1, keepO r o = true ∧ o.str = o'.str := fun o' ho' => by
    have : o'.str ∈ (st.1.filter (keepO r)).map Opr.str := by rw [← h2]; exact List.mem_map_of_mem ho'
    obtain ⟨o, ho, e1⟩ := List.mem_map.1 this
    exact ⟨o, (List.mem_filter.1 ho).1, (List.mem_filter.1 ho).2, e1⟩
  have hmem' : ∀ o ∈ st.1, keepO r o = true → ∃ o' ∈ st'.1, o'.str = o.str := fun o ho hko => by
    have : o.str ∈ st'.1.map Opr.str := by rw [h2]; exact List.mem_map_of_mem (List.mem_filter.2 ⟨ho, hko⟩)
    obtain ⟨o', ho', e1⟩ := List.mem_map.1 this
    exact ⟨o', ho', e1⟩
  have hid : ∀ {a b : Opr}, a.str = b.str → a.id = b.id := fun h => (str_inj h).1
  unfold pStep at hs ⊢
  by_cases hk1 : e.kind = 1
  · rw [if_pos hk1] at hs ⊢
    split at hs
    · cases hs
    · rename_i hf
      split at hs
      · rename_i hp
        cases hs
        have hf' : findO st'.1 e.op = none := by
          rcases hq : findO st'.1 e.op with _ | o'
          · rfl
          · obtain ⟨q1, q2⟩ := findO_mem hq
            obtain ⟨o, ho, -, e1⟩ := hmem o' q1
            exact absurd ((hid e1).trans q2) (findO_none hf o ho)
        rw [hf']
        refine ⟨(st'.1 ++ [Opr.of e st'.2 j], st'.2), by simp [hp], h1, ?_⟩
        have hko : keepO r (Opr.of e st.2 k) = true := by
          have hk3 : (e.kind == 3) = false := by rw [hk1]; rfl
          unfold keepE at hk
          rw [hk3, Bool.false_or] at hk
          exact hk
        simp only [List.map_append, List.filter_append, h2, List.map_cons, List.map_nil]
        rw [h1, str_of e st.2 j k]
        simp [hko]
      · cases hs
  · rw [if_neg hk1] at hs ⊢
    by_cases hk2 : e.kind = 2
    · rw [if_pos hk2] at hs ⊢
      split at hs
      · cases hs
      · rename_i o ho
        obtain ⟨ho1, ho2⟩ := findO_mem ho
        unfold pDone at hs
        split at hs
        · cases hs
        · rename_i hd
          split at hs
          · cases hs
          · rename_i her
            split at hs
            · rename_i c hcl
              split at hs
              · rename_i ha
                cases hs
                obtain ⟨c', e1, e2, e3, e4, e5, e6⟩ := hc o ho1 (by omega)
                rw [hcl] at e1
                cases e1
                have ha0 := ha
                unfold ansOk at ha
                simp only [Bool.and_eq_true, beq_iff_eq] at ha
                obtain ⟨⟨⟨⟨a1, a2⟩, a3⟩, a4⟩, a5⟩ := ha
                have hko : keepO r o = true := by
                  have hk3 : (e.kind == 3) = false := by rw [hk2]; rfl
                  unfold keepE flushB at hk
                  rw [hk3, Bool.false_or] at hk
                  unfold keepO
                  rw [← e3, ← e4, ← e6, ← a2, ← a3, ← a5]
                  exact hk
                obtain ⟨o1, ho1', hs1⟩ := hmem' o ho1 hko
                rcases hq : findO st'.1 e.op with _ | o'
                · exact absurd ((hid hs1).trans ho2) (findO_none hq o1 ho1')
                · obtain ⟨q1, q2⟩ := findO_mem hq
                  obtain ⟨o2, p1, p2, p3⟩ := hmem o' q1
                  have p4 : o2 = o := opr_eq hids p1 ho1 (((hid p3).trans q2).trans ho2.symm)
                  subst p4
                  have hdn : o'.done < 0 := by
                    have h5 : (if 0 ≤ o2.done then (1 : Int) else -1) = if 0 ≤ o'.done then 1 else -1 := (str_inj p3).2.2.2.2.2.2
                    rw [if_neg (by omega)] at h5
                    by_cases h6 : 0 ≤ o'.done
                    · rw [if_pos h6] at h5; omega
                    · omega
                  obtain ⟨c2, f1, f2, f3, f4, f5, f6⟩ := hc' o' q1 hdn
                  have g1 : o2.id = o'.id := (str_inj p3).1
                  have g2 : o2.write = o'.write := (str_inj p3).2.2.2.1
                  have g3 : o2.reg = o'.reg := (str_inj p3).2.1
                  have g4 : o2.val = o'.val := (str_inj p3).2.2.1
                  have g5 : o2.barrier = o'.barrier := (str_inj p3).2.2.2.2.1
                  have g6 : o2.era = o'.era := (str_inj p3).2.2.2.2.2.1
                  have hcc : ansOk e c2 = true := by
                    unfold ansOk at ha0 ⊢
                    rw [f2, f3, f4, f5, f6, ← g1, ← g2, ← g3, ← g4, ← g5, ← e2, ← e3, ← e4, ← e5, ← e6]
                    exact ha0
                  refine ⟨(st'.1.map (Opr.fin e j), st'.2), ?_, h1, ?_⟩
                  · show pDone f j st' e o' = _
                    unfold pDone
                    rw [if_neg (by omega), if_neg (by rw [← g6, h1]; exact her), f1]
                    simp [hcc]
                  · rw [List.filter_map]
                    have hcomp : (keepO r ∘ Opr.fin e k) = keepO r := by funext x; exact keep_fin r e k x
                    rw [hcomp, List.map_map, List.map_map]
                    have hc1 : ∀ i, (Opr.str ∘ Opr.fin e i) = Opr.finS e ∘ Opr.str := fun i => by funext x; exact str_fin e i x
                    rw [hc1, hc1, ← List.map_map, h2, List.map_map]
              · cases hs
            · cases hs
    · rw [if_neg hk2] at hs ⊢
      split at hs
      · rename_i hk3
        rw [if_pos hk3]
        split at hs
        · rename_i hcut
          cases hs
          rw [if_pos hcut]
          exact ⟨_, rfl, by show st'.2 + 1 = st.2 + 1; rw [h1], h2⟩
        · cases hs
      · cases hs

theorem split_to (l : List Ev) (r : Int) (k : Nat) : ∀ st, parseTo l k = some st → ∃ st', parseTo (l.filter (keepE r)) ((l.take k).filter (keepE r)).length = some st' ∧ Sim r st st' := by
  induction k with
  | zero =>
    intro st h
    simp [parseTo] at h
    subst h
    exact ⟨([], 0), by simp [parseTo], rfl, rfl⟩
  | succ k ih =>
    intro st h
    rcases hk : l[k]? with _ | e
    · have hk2 : l.length ≤ k := List.getElem?_eq_none_iff.1 hk
      simp only [parseTo] at h
      rcases h0 : parseTo l k with _ | st0
      · rw [h0] at h; cases h
      · rw [h0] at h
        simp only [hk] at h
        cases h
        rw [List.take_of_length_le (by omega : l.length ≤ k + 1)]
        have := ih st h0
        rwa [List.take_of_length_le hk2] at this
    · rcases h0 : parseTo l k with _ | st0
      · rw [parseTo_none h0 (Nat.le_succ k)] at h; cases h
      · rw [parseTo_at h0 hk] at h
        obtain ⟨st', h1, h2⟩ := ih st0 h0
        have hids := (PInv.to h0).ids
        have hc := COk.to h0
        have hc' := COk.to h1
        rw [take_filter hk]
        cases hp : keepE r e
        · exact ⟨st', by simpa using h1, sim_skip hids hc h2 hp h⟩
        · obtain ⟨st1, h3, h4⟩ := sim_keep (j := ((l.take k).filter (keepE r)).length) (f := l.filter (keepE r)) hids hc hc' h2 hp h
          exact ⟨st1, (parseTo_at h1 (filter_at hk hp)).trans h3, h4⟩
/-- the events of one register are a history -/
theorem split_parse {l : List Ev} {os : List Opr} (h : parseL l = some os) (r : Int) : ∃ os', parseL (l.filter (keepE r)) = some os' ∧ os'.map Opr.str = (os.filter (keepO r)).map Opr.str := by
  unfold parseL at h ⊢
  obtain ⟨st, h1, rfl⟩ := Option.map_eq_some_iff.1 h
  obtain ⟨st', h2, h3, h4⟩ := split_to l r l.length st h1
  rw [List.take_length] at h2
  exact ⟨st'.1, by rw [h2]; rfl, h4⟩
theorem eff_str (o : Opr) : effB o.str = effB o := rfl
theorem split_eff {os os' : List Opr} {r : Int} (h : os'.map Opr.str = (os.filter (keepO r)).map Opr.str) :
    (∀ o ∈ os', effB o = true → o.reg = r) ∧ (os'.filter effB).length = (os.filter fun o => effB o && o.reg == r).length := by
  have hk : ∀ o : Opr, effB o = true → (keepO r o = (o.reg == r)) := fun o ho => by
    unfold effB at ho
    unfold keepO
    cases hw : o.write <;> cases hb : o.barrier <;> simp [hw, hb] at ho ⊢
  constructor
  · intro o ho he
    have : o.str ∈ (os.filter (keepO r)).map Opr.str := by rw [← h]; exact List.mem_map_of_mem ho
    obtain ⟨o2, h2, h3⟩ := List.mem_map.1 this
    have e1 : effB o2 = true := by rw [← eff_str o2, h3, eff_str]; exact he
    have e2 := (List.mem_filter.1 h2).2
    rw [hk o2 e1] at e2
    have e3 : o2.reg = o.reg := (str_inj h3).2.1
    rw [← e3]
    simpa using e2
  · have hl : ∀ xs : List Opr, (xs.filter effB).length = ((xs.map Opr.str).filter effB).length := fun xs => by
      rw [List.filter_map, List.length_map]
      rfl
    rw [hl os', h, ← hl, List.filter_filter]
    congr 1
    refine List.filter_congr fun o _ => ?_
    cases he : effB o
    · rfl
    · rw [hk o he]
/-- the parts make up the whole -/
theorem parts_sum (ds : List Int) : ∀ (gs : List Int), gs.Nodup → ((gs.map fun g => (ds.filter (· == g)).length).sum = (ds.filter (fun d => gs.contains d)).length) := by
  intro gs
  induction gs with
  | nil =>
    intro _
    rw [show ds.filter (fun d => ([] : List Int).contains d) = [] from List.filter_eq_nil_iff.2 (by simp)]
    rfl
  | cons g gs ih =>
    intro hn
    obtain ⟨h1, h2⟩ := List.nodup_cons.1 hn
    rw [List.map_cons, List.sum_cons, ih h2]
    clear ih
    induction ds with
    | nil => simp
    | cons d ds ihd =>
      have hmem : g ∉ gs := h1
      by_cases hg : d = g
      · subst hg
        simp [hmem] at ihd ⊢
        omega
      · by_cases hd : d ∈ gs <;> simp [hg, hd] at ihd ⊢ <;> omega
end Go.Proofs.Ytcgbnlhloopnfaa
namespace Go.Proofs.Ytcgbnlhloopnfaa

def precO (a b : Opr) : Bool := decide (0 ≤ a.done) && decide (a.done < b.call)
def valTo (o : Opr) (v : Int) : Int := if o.write then o.val else v
/-- linear's follow behind n operations, whose numbers are `done`: v the value, e the value behind those that are kept -/
def runI (E : List Opr) (safe : Opr → Bool) (kept : Int) : Nat → List Int → Int → Int → List Int → Option (List Int × Int)
  | _, done, _, e, [] => some (done, e)
  | n, done, v, e, id :: ids =>
    match findO E id with
    | none => none
    | some o =>
      if done.contains id || !(E.all fun b => b.id == o.id || done.contains b.id || !precO b o) then none
      else if !o.write && (decide (o.done < 0) || !(o.val == v)) then none
      else if (n : Int) < kept then runI E safe kept (n + 1) (done ++ [id]) (valTo o v) (valTo o v) ids
      else if safe o then none
      else runI E safe kept (n + 1) (done ++ [id]) (valTo o v) e ids
def valOk : Int → List Opr → Bool
  | _, [] => true
  | v, o :: r => (o.write || o.val == v) && valOk (valTo o v) r
def keepOk (safe : Opr → Bool) (kept : Int) : Nat → List Opr → Bool
  | _, [] => true
  | n, o :: r => (decide ((n : Int) < kept) || !safe o) && keepOk safe kept (n + 1) r
def endAt (kept : Int) : Nat → Int → Int → List Opr → Int
  | _, _, e, [] => e
  | n, v, e, o :: r => endAt kept (n + 1) (valTo o v) (if (n : Int) < kept then valTo o v else e) r
/-- what an order must be, behind the operations `done` -/
structure Good (E : List Opr) (safe : Opr → Bool) (kept : Int) (n : Nat) (done : List Int) (v : Int) (ids : List Int) (xs : List Opr) : Prop where
  ids_ : xs.map (·.id) = ids
  mem : ∀ o ∈ xs, o ∈ E
  nodup : (done ++ ids).Nodup
  rd : ∀ o ∈ xs, o.write = true ∨ 0 ≤ o.done
  all : ∀ o ∈ E, 0 ≤ o.done → o.id ∈ done ++ ids
  ord : xs.Pairwise fun a b => precO b a = false
  val : valOk v xs = true
  keep : keepOk safe kept n xs = true

theorem runI_good {E : List Opr} {safe : Opr → Bool} {kept : Int} : ∀ (ids : List Int) (n : Nat) (done : List Int) (v e : Int) (d : List Int) (r : Int), done.Nodup →
    runI E safe kept n done v e ids = some (d, r) → (∀ o ∈ E, 0 ≤ o.done → o.id ∈ d) → d = done ++ ids ∧ ∃ xs, Good E safe kept n done v ids xs ∧ r = endAt kept n v e xs := by
  intro ids
  induction ids with
  | nil =>
    intro n done v e d r hd h hall
    simp only [runI, Option.some.injEq, Prod.mk.injEq] at h
    obtain ⟨rfl, rfl⟩ := h
    exact ⟨by simp, [], ⟨rfl, by simp, by simpa using hd, by simp, fun o ho h => by simpa using hall o ho h, List.Pairwise.nil, rfl, rfl⟩, rfl⟩
  | cons id ids ih =>
    intro n done v e d r hd h hall
    simp only [runI] at h
    split at h
    · cases h
    · rename_i o ho
      obtain ⟨ho1, rfl⟩ := findO_mem ho
      split at h
      · cases h
      · rename_i hr
        simp only [Bool.or_eq_true, not_or, Bool.not_eq_true, Bool.not_eq_false', List.all_eq_true] at hr
        obtain ⟨hr1, hr2⟩ := hr
        have hnin : o.id ∉ done := fun hm => by rw [List.contains_iff_mem.2 hm] at hr1; cases hr1
        have hd1 : (done ++ [o.id]).Nodup := by
          rw [List.nodup_append]
          exact ⟨hd, by simp, fun a ha b hb => by simp at hb; subst hb; rintro rfl; exact hnin ha⟩
        split at h
        · cases h
        · rename_i hv
          have hrd : o.write = true ∨ 0 ≤ o.done := by
            rcases hw : o.write with _ | _
            · rw [hw] at hv
              by_cases h0 : o.done < 0
              · simp [h0] at hv
              · exact .inr (by omega)
            · exact .inl rfl
          have hvo : (o.write || o.val == v) = true := by
            rcases hw : o.write with _ | _
            · rw [hw] at hv
              rcases hq : (o.val == v) with _ | _
              · simp [hq] at hv
              · rfl
            · rfl
          have go : ∀ e', runI E safe kept (n + 1) (done ++ [o.id]) (valTo o v) e' ids = some (d, r) → (decide ((n : Int) < kept) || !safe o) = true → (if (n : Int) < kept then valTo o v else e) = e' →
              d = done ++ o.id :: ids ∧ ∃ xs, Good E safe kept n done v (o.id :: ids) xs ∧ r = endAt kept n v e xs := by
            intro e' h' hk he
            obtain ⟨h1, xs, g, h2⟩ := ih _ _ _ _ _ _ hd1 h' hall
            refine ⟨by simpa using h1, o :: xs, ⟨by simp [g.ids_], fun x hx => ?_, by simpa using g.nodup, fun x hx => ?_, fun x hx h => by simpa using g.all x hx h, ?_, ?_, ?_⟩, ?_⟩
            · rcases List.mem_cons.1 hx with rfl | hx
              · exact ho1
              · exact g.mem x hx
            · rcases List.mem_cons.1 hx with rfl | hx
              · exact hrd
              · exact g.rd x hx
            · refine List.pairwise_cons.2 ⟨fun b hb => ?_, g.ord⟩
              have h3 := hr2 b (g.mem b hb)
              have h4 : b.id ∈ ids := by rw [← g.ids_]; exact List.mem_map_of_mem hb
              have h5 : b.id ∉ done ++ [o.id] := fun hm => (List.nodup_append.1 g.nodup).2.2 _ hm _ h4 rfl
              simp only [List.mem_append, List.mem_singleton, not_or] at h5
              have h6 : (b.id == o.id) = false := by simpa using h5.2
              have h7 : done.contains b.id = false := by
                rcases hq : done.contains b.id with _ | _
                · rfl
                · exact absurd (List.contains_iff_mem.1 hq) h5.1
              rw [h6, h7] at h3
              simpa using h3
            · simp only [valOk, hvo, g.val, Bool.and_self]
            · simp only [keepOk, hk, g.keep, Bool.and_self]
            · simp only [endAt, he]
              exact h2
          split at h
          · rename_i hk
            exact go _ h (by simp [hk]) (by rw [if_pos hk])
          · rename_i hk
            split at h
            · cases h
            · rename_i hs
              exact go _ h (by simp [hs]) (by rw [if_neg hk])
theorem findO_of {E : List Opr} (hids : (E.map (·.id)).Nodup) {o : Opr} (ho : o ∈ E) : findO E o.id = some o := by
  rcases hf : findO E o.id with _ | o'
  · exact absurd rfl (findO_none hf o ho)
  · obtain ⟨h1, h2⟩ := findO_mem hf
    rw [opr_eq hids h1 ho h2]
theorem good_runI {E : List Opr} {safe : Opr → Bool} {kept : Int} (hids : (E.map (·.id)).Nodup) : ∀ (xs : List Opr) (n : Nat) (done : List Int) (v e : Int) (ids : List Int),
    Good E safe kept n done v ids xs → runI E safe kept n done v e ids = some (done ++ ids, endAt kept n v e xs) := by
  intro xs
  induction xs with
  | nil =>
    intro n done v e ids g
    have h := g.ids_
    simp at h
    subst h
    simp [runI, endAt]
  | cons o xs ih =>
    intro n done v e ids g
    obtain ⟨h1, hmem, hnd, hrd, hall, hord, hval, hkeep⟩ := g
    rw [List.map_cons] at h1
    subst h1
    have ho := hmem o (by simp)
    obtain ⟨hp1, hp2⟩ := List.pairwise_cons.1 hord
    have hnin : o.id ∉ done := fun hm => (List.nodup_append.1 hnd).2.2 _ hm _ (by simp) rfl
    have hc : done.contains o.id = false := by
      rcases hq : done.contains o.id with _ | _
      · rfl
      · exact absurd (List.contains_iff_mem.1 hq) hnin
    have hready : (E.all fun b => b.id == o.id || done.contains b.id || !precO b o) = true := by
      rw [List.all_eq_true]
      intro b hb
      rcases hpr : precO b o with _ | _
      · simp
      · have h0 : 0 ≤ b.done := by
          unfold precO at hpr
          rw [Bool.and_eq_true] at hpr
          simpa using hpr.1
        rcases List.mem_append.1 (hall b hb h0) with hm | hm
        · rw [List.contains_iff_mem.2 hm]; simp
        · rcases List.mem_cons.1 hm with hm | hm
          · simp [hm]
          · obtain ⟨b', hb', he⟩ := List.mem_map.1 hm
            have := opr_eq hids (hmem b' (by simp [hb'])) hb he
            subst this
            rw [hp1 b' hb'] at hpr
            cases hpr
    simp only [valOk, Bool.and_eq_true] at hval
    simp only [keepOk, Bool.and_eq_true] at hkeep
    have hv : (!o.write && (decide (o.done < 0) || !(o.val == v))) = false := by
      rcases hw : o.write with _ | _
      · have h2 := hval.1
        rw [hw] at h2
        have h3 := hrd o (by simp)
        rw [hw] at h3
        have h4 : 0 ≤ o.done := by simpa using h3
        have h5 : (o.val == v) = true := by simpa using h2
        simp [h5]
        omega
      · rfl
    have tail : Good E safe kept (n + 1) (done ++ [o.id]) (valTo o v) (xs.map (·.id)) xs :=
      ⟨rfl, fun x hx => hmem x (by simp [hx]), by simpa using hnd, fun x hx => hrd x (by simp [hx]), fun x hx h => by simpa using hall x hx h, hp2, hval.2, hkeep.2⟩
    simp only [runI, findO_of hids ho, hc, hready, hv, endAt, Bool.not_true, Bool.or_self]
    by_cases hk : (n : Int) < kept
    · simp only [hk, if_true]
      rw [if_neg (by simp), if_neg (by simp), ih _ _ _ _ _ tail]
      simp
    · have hs : safe o = false := by
        have h2 := hkeep.1
        simpa [hk] using h2
      simp only [hk, hs, if_false]
      rw [if_neg (by simp), if_neg (by simp), if_neg (by simp), ih _ _ _ _ _ tail]
      simp
end Go.Proofs.Ytcgbnlhloopnfaa
namespace Go.Proofs.Ytcgbnlhloopnfaa

/-- tegularef46.order behind the operations `done` -/
def orderR (A : List Opr) : List Int → List Int → Option (List Opr)
  | done, [] => if A.all (fun o => !effB o || decide (o.done < 0) || done.contains o.id) then some [] else none
  | done, id :: r =>
    match findO A id with
    | none => none
    | some o => if done.contains id || !effB o || (!o.write && decide (o.done < 0)) then none else (orderR A (done ++ [id]) r).map (o :: ·)
/-- tegularef46.explains behind n operations xs0 -/
def explR (safe : Opr → Bool) (kept : Int) : List Opr → Nat → Int → Int → List Opr → Option Int
  | _, _, _, e, [] => some e
  | xs0, n, v, e, o :: r =>
    if xs0.any (fun k => precO o k) then none
    else if !o.write && !(o.val == v) then none
    else if (n : Int) < kept then explR safe kept (xs0 ++ [o]) (n + 1) (valTo o v) (valTo o v) r
    else if safe o then none else explR safe kept (xs0 ++ [o]) (n + 1) (valTo o v) e r

theorem orderR_good {A : List Opr} : ∀ (ids done : List Int) (xs : List Opr), done.Nodup → orderR A done ids = some xs →
    xs.map (·.id) = ids ∧ (∀ o ∈ xs, o ∈ A.filter effB) ∧ (done ++ ids).Nodup ∧ (∀ o ∈ xs, o.write = true ∨ 0 ≤ o.done) ∧ (∀ o ∈ A.filter effB, 0 ≤ o.done → o.id ∈ done ++ ids) := by
  intro ids
  induction ids with
  | nil =>
    intro done xs hd h
    simp only [orderR] at h
    split at h
    · rename_i hall
      cases h
      refine ⟨rfl, by simp, by simpa using hd, by simp, fun o ho h0 => ?_⟩
      obtain ⟨h1, h2⟩ := List.mem_filter.1 ho
      have h3 := List.all_eq_true.1 hall o h1
      rw [h2] at h3
      have h4 : decide (o.done < 0) = false := by simp; omega
      rw [h4] at h3
      have h5 : done.contains o.id = true := by simpa using h3
      simpa using List.contains_iff_mem.1 h5
    · cases h
  | cons id ids ih =>
    intro done xs hd h
    simp only [orderR] at h
    split at h
    · cases h
    · rename_i o ho
      obtain ⟨ho1, rfl⟩ := findO_mem ho
      split at h
      · cases h
      · rename_i hr
        simp only [Bool.or_eq_true, not_or, Bool.not_eq_true, Bool.not_eq_false'] at hr
        obtain ⟨⟨hr1, hr2⟩, hr3⟩ := hr
        have hnin : o.id ∉ done := fun hm => by rw [List.contains_iff_mem.2 hm] at hr1; cases hr1
        have hd1 : (done ++ [o.id]).Nodup := by
          rw [List.nodup_append]
          exact ⟨hd, by simp, fun a ha b hb => by simp at hb; subst hb; rintro rfl; exact hnin ha⟩
        obtain ⟨ys, hy, rfl⟩ := Option.map_eq_some_iff.1 h
        obtain ⟨g1, g2, g3, g4, g5⟩ := ih _ _ hd1 hy
        refine ⟨by simp [g1], fun x hx => ?_, by simpa using g3, fun x hx => ?_, fun x hx h => by simpa using g5 x hx h⟩
        · rcases List.mem_cons.1 hx with rfl | hx
          · exact List.mem_filter.2 ⟨ho1, hr2⟩
          · exact g2 x hx
        · rcases List.mem_cons.1 hx with rfl | hx
          · rcases hw : x.write with _ | _
            · rw [hw] at hr3
              right
              simpa using hr3
            · exact .inl rfl
          · exact g4 x hx
theorem good_orderR {A : List Opr} (hids : (A.map (·.id)).Nodup) : ∀ (xs : List Opr) (done : List Int), (∀ o ∈ xs, o ∈ A.filter effB) → (done ++ xs.map (·.id)).Nodup → (∀ o ∈ xs, o.write = true ∨ 0 ≤ o.done) →
    (∀ o ∈ A.filter effB, 0 ≤ o.done → o.id ∈ done ++ xs.map (·.id)) → orderR A done (xs.map (·.id)) = some xs := by
  intro xs
  induction xs with
  | nil =>
    intro done _ _ _ hall
    simp only [List.map_nil, orderR]
    rw [if_pos]
    rw [List.all_eq_true]
    intro o ho
    rcases he : effB o with _ | _
    · rfl
    · by_cases h0 : o.done < 0
      · simp [h0]
      · have := hall o (List.mem_filter.2 ⟨ho, he⟩) (by omega)
        simp at this
        simp [this]
  | cons o xs ih =>
    intro done hmem hnd hrd hall
    have ho := hmem o (by simp)
    obtain ⟨ho1, ho2⟩ := List.mem_filter.1 ho
    have hnin : o.id ∉ done := fun hm => (List.nodup_append.1 hnd).2.2 _ hm _ (by simp) rfl
    have hc : done.contains o.id = false := by
      rcases hq : done.contains o.id with _ | _
      · rfl
      · exact absurd (List.contains_iff_mem.1 hq) hnin
    have hv : (!o.write && decide (o.done < 0)) = false := by
      rcases hrd o (by simp) with h | h
      · simp [h]
      · simp; omega
    simp only [List.map_cons, orderR, findO_of hids ho1, hc, ho2, hv]
    rw [if_neg (by simp), ih (done ++ [o.id]) (fun x hx => hmem x (by simp [hx])) (by simpa using hnd) (fun x hx => hrd x (by simp [hx])) (fun x hx h => by simpa using hall x hx h)]
    rfl
theorem explR_iff {safe : Opr → Bool} {kept : Int} : ∀ (xs xs0 : List Opr) (n : Nat) (v e r : Int), explR safe kept xs0 n v e xs = some r ↔
    ((∀ a ∈ xs0, ∀ b ∈ xs, precO b a = false) ∧ xs.Pairwise (fun a b => precO b a = false) ∧ valOk v xs = true ∧ keepOk safe kept n xs = true ∧ r = endAt kept n v e xs) := by
  intro xs
  induction xs with
  | nil =>
    intro xs0 n v e r
    simp only [explR, valOk, keepOk, endAt]
    constructor
    · intro h
      cases h
      exact ⟨by simp, List.Pairwise.nil, trivial, trivial, rfl⟩
    · rintro ⟨-, -, -, -, h⟩
      rw [h]
  | cons o xs ih =>
    intro xs0 n v e r
    have hsplit : ((∀ a ∈ xs0 ++ [o], ∀ b ∈ xs, precO b a = false) ∧ xs.Pairwise (fun a b => precO b a = false)) ∧ (∀ a ∈ xs0, precO o a = false) ↔ ((∀ a ∈ xs0, ∀ b ∈ o :: xs, precO b a = false) ∧ (o :: xs).Pairwise (fun a b => precO b a = false)) := by
      rw [List.pairwise_cons]
      constructor
      · rintro ⟨⟨h1, h2⟩, h3⟩
        refine ⟨fun a ha b hb => ?_, fun b hb => h1 o (by simp) b hb, h2⟩
        rcases List.mem_cons.1 hb with rfl | hb
        · exact h3 a ha
        · exact h1 a (by simp [ha]) b hb
      · rintro ⟨h1, h2, h3⟩
        refine ⟨⟨fun a ha b hb => ?_, h3⟩, fun a ha => h1 a ha o (by simp)⟩
        rcases List.mem_append.1 ha with ha | ha
        · exact h1 a ha b (by simp [hb])
        · simp at ha
          subst ha
          exact h2 b hb
    simp only [explR, valOk, keepOk, endAt]
    by_cases h1 : xs0.any (fun k => precO o k) = true
    · rw [if_pos h1]
      obtain ⟨a, ha, hp⟩ := List.any_eq_true.1 h1
      constructor
      · intro h; cases h
      · rintro ⟨g1, -⟩
        rw [g1 a ha o (by simp)] at hp
        cases hp
    · rw [if_neg h1]
      have h1' : ∀ a ∈ xs0, precO o a = false := fun a ha => by
        rcases hq : precO o a with _ | _
        · rfl
        · exact absurd (List.any_eq_true.2 ⟨a, ha, hq⟩) h1
      rcases hv : (o.write || o.val == v) with _ | _
      · rw [if_pos (by rw [Bool.or_eq_false_iff] at hv; rw [hv.1, hv.2]; rfl)]
        constructor
        · intro h; cases h
        · rintro ⟨-, -, g, -⟩
          simp at g
      · rw [if_neg (by rcases hw : o.write with _ | _ <;> simp [hw] at hv ⊢; exact hv)]
        by_cases hk : (n : Int) < kept
        · rw [if_pos hk, ih, if_pos hk]
          simp only [hk, decide_true, Bool.true_or, Bool.true_and]
          rw [← and_assoc, ← and_assoc (a := ∀ a ∈ xs0, ∀ b ∈ o :: xs, precO b a = false), ← hsplit]
          simp
          intro _ _ _ _ _
          exact h1'
        · rw [if_neg hk, if_neg hk]
          rcases hs : safe o with _ | _
          · rw [if_neg (by simp), ih]
            simp only [hk, decide_false, Bool.false_or, Bool.not_false, Bool.true_and]
            rw [← and_assoc, ← and_assoc (a := ∀ a ∈ xs0, ∀ b ∈ o :: xs, precO b a = false), ← hsplit]
            simp
            intro _ _ _ _ _
            exact h1'
          · rw [if_pos rfl]
            simp [hk]

theorem keepOk_all {safe : Opr → Bool} {kept : Int} : ∀ (xs : List Opr) (n : Nat), (n : Int) + xs.length ≤ kept → keepOk safe kept n xs = true := by
  intro xs
  induction xs with
  | nil => intro n _; rfl
  | cons o xs ih =>
    intro n h
    rw [List.length_cons] at h
    simp only [keepOk]
    rw [ih (n + 1) (by omega)]
    have : (n : Int) < kept := by omega
    simp [this]

/-- linear's follow: every answered operation was performed -/
def followI (E : List Opr) (safe : Opr → Bool) (kept v : Int) (ids : List Int) : Option Int :=
  match runI E safe kept 0 [] v v ids with
  | none => none
  | some (d, e) => if E.all (fun o => decide (o.done < 0) || d.contains o.id) then some e else none
/-- tegularef46's order and explains -/
def followR (A : List Opr) (safe : Opr → Bool) (kept v : Int) (ids : List Int) : Option Int :=
  match orderR A [] ids with
  | none => none
  | some xs => explR safe kept [] 0 v v xs
theorem follow_eq {A : List Opr} (hids : (A.map (·.id)).Nodup) (safe : Opr → Bool) (kept v : Int) (ids : List Int) : followI (A.filter effB) safe kept v ids = followR A safe kept v ids := by
  have hE : ((A.filter effB).map (·.id)).Nodup := List.Nodup.sublist (List.Sublist.map _ List.filter_sublist) hids
  have key : ∀ r, followI (A.filter effB) safe kept v ids = some r ↔ followR A safe kept v ids = some r := by
    intro r
    unfold followI followR
    constructor
    · intro h
      rcases hr : runI (A.filter effB) safe kept 0 [] v v ids with _ | ⟨d, e⟩
      · rw [hr] at h; cases h
      · rw [hr] at h
        simp only at h
        split at h
        · rename_i hall
          cases h
          have hall' : ∀ o ∈ A.filter effB, 0 ≤ o.done → o.id ∈ d := fun o ho h0 => by
            have h1 := List.all_eq_true.1 hall o ho
            have h2 : decide (o.done < 0) = false := by simp; omega
            rw [h2] at h1
            exact List.contains_iff_mem.1 (by simpa using h1)
          obtain ⟨-, xs, g, rfl⟩ := runI_good ids 0 [] v v d _ List.nodup_nil hr hall'
          obtain ⟨g1, g2, g3, g4, g5, g6, g7, g8⟩ := g
          subst g1
          rw [good_orderR hids xs [] g2 g3 g4 g5]
          exact (explR_iff xs [] 0 v v _).2 ⟨by simp, g6, g7, g8, rfl⟩
        · cases h
    · intro h
      rcases hr : orderR A [] ids with _ | xs
      · rw [hr] at h; cases h
      · rw [hr] at h
        obtain ⟨g1, g2, g3, g4, g5⟩ := orderR_good ids [] xs List.nodup_nil hr
        obtain ⟨-, e2, e3, e4, rfl⟩ := (explR_iff xs [] 0 v v r).1 h
        rw [good_runI hE xs 0 [] v v ids ⟨g1, g2, g3, g4, g5, e2, e3, e4⟩]
        simp only
        rw [if_pos]
        rw [List.all_eq_true]
        intro o ho
        by_cases h0 : o.done < 0
        · simp [h0]
        · have := g5 o ho (by omega)
          rw [List.contains_iff_mem.2 this]
          simp
  rcases h1 : followI (A.filter effB) safe kept v ids with _ | r
  · rcases h2 : followR A safe kept v ids with _ | r
    · rfl
    · rw [(key r).2 h2] at h1
      cases h1
  · exact ((key r).1 h1).symm
/-- in the last era nothing need survive -/
theorem follow_last (A : List Opr) (safe safe' : Opr → Bool) (v : Int) (ids : List Int) : followR A safe ids.length v ids = followR A safe' ids.length v ids := by
  unfold followR
  rcases hr : orderR A [] ids with _ | xs
  · rfl
  · obtain ⟨g1, -⟩ := orderR_good ids [] xs List.nodup_nil hr
    have hl : xs.length = ids.length := by rw [← g1, List.length_map]
    simp only
    have key : ∀ (s1 s2 : Opr → Bool) (r : Int), explR s1 ids.length [] 0 v v xs = some r → explR s2 ids.length [] 0 v v xs = some r := fun s1 s2 r h => by
      obtain ⟨e1, e2, e3, -, e5⟩ := (explR_iff xs [] 0 v v r).1 h
      exact (explR_iff xs [] 0 v v r).2 ⟨e1, e2, e3, keepOk_all xs 0 (by omega), e5⟩
    rcases h1 : explR safe ids.length [] 0 v v xs with _ | r
    · rcases h2 : explR safe' ids.length [] 0 v v xs with _ | r
      · rfl
      · rw [key _ safe r h2] at h1
        cases h1
    · exact (key _ safe' r h1).symm
end Go.Proofs.Ytcgbnlhloopnfaa
namespace Go.Proofs.Ytcgbnlhloopnfaa

def eraO (os : List Opr) (i : Int) : List Opr := os.filter fun o => o.era == i
/-- linear's durable: over all operations -/
def durI (os : List Opr) (o : Opr) : Bool := decide (0 ≤ o.done) && ((o.write && o.barrier) || os.any fun b => b.barrier && decide (0 ≤ b.done) && b.era == o.era && precO o b)
/-- tegularef46's durable: over the operations of the era -/
def durR (A : List Opr) (o : Opr) : Bool := decide (0 ≤ o.done) && ((o.write && o.barrier) || A.any fun b => b.barrier && decide (0 ≤ b.done) && decide (o.done < b.call))
theorem dur_eq (os : List Opr) (o : Opr) : durI os o = durR (eraO os o.era) o := by
  unfold durI durR eraO
  rcases h0 : decide (0 ≤ o.done) with _ | _
  · rfl
  · congr 1
    congr 1
    rw [List.any_filter]
    congr 1
    funext b
    unfold precO
    rw [h0]
    cases b.barrier <;> cases decide (0 ≤ b.done) <;> cases (b.era == o.era) <;> rfl
theorem explR_congr {s1 s2 : Opr → Bool} {kept : Int} : ∀ (xs xs0 : List Opr) (n : Nat) (v e : Int), (∀ o ∈ xs, s1 o = s2 o) → explR s1 kept xs0 n v e xs = explR s2 kept xs0 n v e xs := by
  intro xs
  induction xs with
  | nil => intro xs0 n v e _; rfl
  | cons o xs ih =>
    intro xs0 n v e h
    simp only [explR]
    rw [h o (by simp), ih _ _ _ _ fun x hx => h x (by simp [hx]), ih _ _ _ _ fun x hx => h x (by simp [hx])]
theorem followR_congr {A : List Opr} {s1 s2 : Opr → Bool} (kept v : Int) (ids : List Int) (h : ∀ o ∈ A, s1 o = s2 o) : followR A s1 kept v ids = followR A s2 kept v ids := by
  unfold followR
  rcases hr : orderR A [] ids with _ | xs
  · rfl
  · obtain ⟨-, g2, -⟩ := orderR_good ids [] xs List.nodup_nil hr
    exact explR_congr xs [] 0 v v fun o ho => h o (List.mem_filter.1 (g2 o ho)).1
/-- an explanation's era: the order, the number that is kept -/
def keptOk (last : Bool) (w : List Int × Int) : Bool := !(decide (w.2 < 0) || decide ((w.1.length : Int) < w.2) || (last && !(w.2 == (w.1.length : Int))))
def accI (os : List Opr) (cuts : Nat) : Nat → Int → List (List Int × Int) → Bool
  | _, _, [] => true
  | i, v, w :: r => if keptOk (i == cuts) w then (match followI ((eraO os i).filter effB) (durI os) w.2 v w.1 with | none => false | some v' => accI os cuts (i + 1) v' r) else false
def accR (os : List Opr) (cuts : Nat) : Nat → Int → List (List Int × Int) → Bool
  | _, _, [] => true
  | i, v, w :: r => if keptOk (i == cuts) w then (match followR (eraO os i) (fun o => !(i == cuts) && durR (eraO os i) o) w.2 v w.1 with | none => false | some v' => accR os cuts (i + 1) v' r) else false
theorem acc_eq {os : List Opr} (hids : (os.map (·.id)).Nodup) (cuts : Nat) : ∀ (w : List (List Int × Int)) (i : Nat) (v : Int), accI os cuts i v w = accR os cuts i v w := by
  intro w
  induction w with
  | nil => intro i v; rfl
  | cons x w ih =>
    intro i v
    simp only [accI, accR]
    rcases hk : keptOk (i == cuts) x with _ | _
    · rfl
    · have hA : ((eraO os i).map (·.id)).Nodup := List.Nodup.sublist (List.Sublist.map _ List.filter_sublist) hids
      have hf : followI ((eraO os i).filter effB) (durI os) x.2 v x.1 = followR (eraO os i) (fun o => !(i == cuts) && durR (eraO os i) o) x.2 v x.1 := by
        rw [follow_eq hA]
        rcases hl : (i == cuts) with _ | _
        · refine followR_congr _ _ _ fun o ho => ?_
          have he : o.era = (i : Int) := by simpa using (List.mem_filter.1 ho).2
          rw [dur_eq, he]
          rfl
        · rw [hl] at hk
          have hx : x.2 = (x.1.length : Int) := by
            unfold keptOk at hk
            rcases hq : (x.2 == (x.1.length : Int)) with _ | _
            · rw [hq] at hk; simp at hk
            · simpa using hq
          rw [hx]
          exact follow_last _ _ _ _ _
      rw [hf]
      rcases followR (eraO os i) (fun o => !(i == cuts) && durR (eraO os i) o) x.2 v x.1 with _ | v'
      · rfl
      · simp only [if_true]
        exact ih (i + 1) v'
end Go.Proofs.Ytcgbnlhloopnfaa
namespace Go.Proofs.Ytcgbnlhloopnfaa

def opAt (X : List Opr) (k : Nat) : Opr := (X[k]?).getD ⟨0, 0, 0, false, false, 0, 0, 0⟩
theorem opAt_of {X : List Opr} {k : Nat} {o : Opr} (h : X[k]? = some o) : opAt X k = o := by rw [opAt, h]; rfl
theorem opAt_get {X : List Opr} {k : Nat} (h : k < X.length) : X[k]? = some (opAt X k) := by rw [opAt, List.getElem?_eq_getElem h]; rfl
theorem opAt_mem {X : List Opr} {k : Nat} (h : k < X.length) : opAt X k ∈ X := List.mem_of_getElem? (opAt_get h)
/-- a set of operations, the last write or -1 -/
abbrev St := Nat × Int
def readyS (X : List Opr) (S i : Nat) : Bool := (List.range X.length).all fun k => k == i || S.testBit k || !precO (opAt X k) (opAt X i)
def valS (X : List Opr) (st l : Int) : Int := if l < 0 then st else (opAt X l.toNat).val
def nextS (X : List Opr) (st : Int) (s : St) (i : Nat) : Option St :=
  if s.1.testBit i || !readyS X s.1 i || (!(opAt X i).write && (decide ((opAt X i).done < 0) || !((opAt X i).val == valS X st s.2))) then none
  else some (s.1 ||| 2 ^ i, if (opAt X i).write then (i : Int) else s.2)
def covS (X : List Opr) (q : Nat → Bool) (S : Nat) : Bool := (List.range X.length).all fun i => !q i || S.testBit i
def ansQ (X : List Opr) (i : Nat) : Bool := decide (0 ≤ (opAt X i).done)
inductive Path (X : List Opr) (st : Int) : St → List Nat → St → Prop
  | nil (s : St) : Path X st s [] s
  | cons {s t u : St} {i : Nat} {p : List Nat} (hi : i < X.length) (hn : nextS X st s i = some t) (hp : Path X st t p u) : Path X st s (i :: p) u
def idsOf (X : List Opr) (p : List Nat) : List Int := p.map fun i => (opAt X i).id
def Compl (X : List Opr) (st : Int) (s : St) : Prop := ∃ p u, Path X st s p u ∧ covS X (ansQ X) u.1 = true
def missS (X : List Opr) (S : Nat) : Nat := (List.range X.length).countP fun k => !S.testBit k

theorem nextS_some {X : List Opr} {st : Int} {s t : St} {i : Nat} (h : nextS X st s i = some t) :
    s.1.testBit i = false ∧ readyS X s.1 i = true ∧ ((opAt X i).write = true ∨ (0 ≤ (opAt X i).done ∧ (opAt X i).val = valS X st s.2)) ∧ t = (s.1 ||| 2 ^ i, if (opAt X i).write then (i : Int) else s.2) := by
  unfold nextS at h
  split at h
  · cases h
  · rename_i hc
    injection h with h
    rcases h1 : s.1.testBit i with _ | _
    · rcases h2 : readyS X s.1 i with _ | _
      · simp [h1, h2] at hc
      · refine ⟨rfl, rfl, ?_, h.symm⟩
        rcases hw : (opAt X i).write with _ | _
        · simp [h1, h2, hw] at hc
          exact .inr hc
        · exact .inl rfl
    · simp [h1] at hc
theorem nextS_of {X : List Opr} {st : Int} {s : St} {i : Nat} (h1 : s.1.testBit i = false) (h2 : readyS X s.1 i = true) (h3 : (opAt X i).write = true ∨ (0 ≤ (opAt X i).done ∧ (opAt X i).val = valS X st s.2)) :
    nextS X st s i = some (s.1 ||| 2 ^ i, if (opAt X i).write then (i : Int) else s.2) := by
  unfold nextS
  rw [if_neg]
  rw [h1, h2]
  rcases h3 with h3 | ⟨h3, h4⟩
  · simp [h3]
  · simp [h4]
    intro _
    omega
theorem testBit_set (S i k : Nat) : (S ||| 2 ^ i).testBit k = (S.testBit k || decide (i = k)) := by rw [Nat.testBit_or, Nat.testBit_two_pow]
theorem countP_lt {p q : Nat → Bool} {i : Nat} : ∀ (l : List Nat), (∀ x ∈ l, q x = true → p x = true) → i ∈ l → p i = true → q i = false → l.countP q < l.countP p := by
  intro l
  induction l with
  | nil => intro _ h; cases h
  | cons a l ih =>
    intro h hi hp hq
    have hle : l.countP q ≤ l.countP p := List.countP_mono_left fun x hx => h x (by simp [hx])
    simp only [List.countP_cons]
    rcases List.mem_cons.1 hi with rfl | hi
    · rw [hp, hq]; simp; omega
    · have := ih (fun x hx => h x (by simp [hx])) hi hp hq
      have ha := h a (by simp)
      rcases hqa : q a with _ | _
      · simp; split <;> omega
      · rw [ha hqa]; simp; omega
theorem miss_next {X : List Opr} {st : Int} {s t : St} {i : Nat} (hi : i < X.length) (h : nextS X st s i = some t) : missS X t.1 < missS X s.1 := by
  obtain ⟨h1, -, -, rfl⟩ := nextS_some h
  refine countP_lt (i := i) _ (fun x _ hx => ?_) (by simpa using hi) (by rw [h1]; rfl) (by rw [testBit_set]; simp)
  rw [testBit_set] at hx
  simp at hx
  simp [hx.1]
theorem Path.app {X : List Opr} {st : Int} {s t u : St} {p q : List Nat} (h : Path X st s p t) (h' : Path X st t q u) : Path X st s (p ++ q) u := by
  induction h with
  | nil => exact h'
  | cons hi hn _ ih => exact .cons hi hn (ih h')
theorem Path.snoc {X : List Opr} {st : Int} {s t u : St} {p : List Nat} {i : Nat} (h : Path X st s p t) (hi : i < X.length) (hn : nextS X st t i = some u) : Path X st s (p ++ [i]) u := h.app (.cons hi hn (.nil _))
theorem Path.split {X : List Opr} {st : Int} : ∀ {p q : List Nat} {s u : St}, Path X st s (p ++ q) u → ∃ t, Path X st s p t ∧ Path X st t q u := by
  intro p
  induction p with
  | nil => intro q s u h; exact ⟨s, .nil _, h⟩
  | cons a p ih =>
    intro q s u h
    cases h with
    | cons hi hn hp =>
      obtain ⟨t, h1, h2⟩ := ih hp
      exact ⟨t, .cons hi hn h1, h2⟩
theorem Path.miss {X : List Opr} {st : Int} {s u : St} {p : List Nat} (h : Path X st s p u) : missS X u.1 + p.length ≤ missS X s.1 := by
  induction h with
  | nil => simp
  | cons hi hn _ ih => have := miss_next hi hn; simp; omega
theorem Path.grow {X : List Opr} {st : Int} {s u : St} {p : List Nat} (h : Path X st s p u) : ∀ k, u.1.testBit k = (s.1.testBit k || p.contains k) := by
  induction h with
  | nil => intro k; simp
  | cons hi hn _ ih =>
    intro k
    obtain ⟨h1, -, -, rfl⟩ := nextS_some hn
    rw [ih k, testBit_set, List.contains_cons, Bool.or_assoc]
    congr 2
    rw [Bool.eq_iff_iff]; simp; exact eq_comm

/-! ### paths and follow's rounds -/
def SimS (X : List Opr) (done : List Int) (s : St) : Prop := ∀ k, k < X.length → done.contains (opAt X k).id = s.1.testBit k
def noSafe (X : List Opr) (safe : Opr → Bool) (p : List Nat) : Prop := ∀ i ∈ p, safe (opAt X i) = false
theorem id_inj {X : List Opr} (hids : (X.map (·.id)).Nodup) {i k : Nat} (hi : i < X.length) (hk : k < X.length) (h : (opAt X i).id = (opAt X k).id) : i = k := by
  have h1 : (X.map (·.id))[i]? = (X.map (·.id))[k]? := by rw [List.getElem?_map, List.getElem?_map, opAt_get hi, opAt_get hk]; simp [h]
  exact (List.getElem?_inj (by simpa using hi) hids).1 h1
theorem findO_at {X : List Opr} (hids : (X.map (·.id)).Nodup) {i : Nat} (hi : i < X.length) : findO X (opAt X i).id = some (opAt X i) := findO_of hids (opAt_mem hi)
theorem ready_eq {X : List Opr} (hids : (X.map (·.id)).Nodup) {done : List Int} {s : St} (hs : SimS X done s) {i : Nat} (hi : i < X.length) :
    (X.all fun b => b.id == (opAt X i).id || done.contains b.id || !precO b (opAt X i)) = readyS X s.1 i := by
  rw [Bool.eq_iff_iff]
  unfold readyS
  simp only [List.all_eq_true]
  constructor
  · intro h k hk
    have hk' : k < X.length := by simpa using hk
    have := h _ (opAt_mem hk')
    rw [hs k hk'] at this
    rcases hq : (k == i) with _ | _
    · have hne : ((opAt X k).id == (opAt X i).id) = false := by
        simp at hq ⊢
        exact fun e => hq (id_inj hids hk' hi e)
      rw [hne] at this
      simpa using this
    · rfl
  · intro h b hb
    obtain ⟨k, hk, rfl⟩ := List.getElem_of_mem hb
    have he : opAt X k = X[k] := opAt_of (List.getElem?_eq_getElem hk)
    have := h k (by simpa using hk)
    rw [← he, hs k hk]
    rcases hq : (k == i) with _ | _
    · rw [hq] at this
      simp only [Bool.false_or] at this
      rcases h1 : s.1.testBit k with _ | _
      · rw [h1] at this
        simp only [Bool.false_or] at this
        simp [this]
      · simp
    · have : k = i := by simpa using hq
      simp [this]
theorem SimS.next {X : List Opr} (hids : (X.map (·.id)).Nodup) {st : Int} {done : List Int} {s t : St} (hs : SimS X done s) {i : Nat} (hi : i < X.length) (hn : nextS X st s i = some t) : SimS X (done ++ [(opAt X i).id]) t := by
  obtain ⟨-, -, -, rfl⟩ := nextS_some hn
  intro k hk
  rw [testBit_set, ← hs k hk, List.contains_append]
  congr 1
  rw [Bool.eq_iff_iff]
  simp
  exact ⟨fun e => (id_inj hids hk hi e).symm, fun e => by rw [e]⟩
theorem val_next {X : List Opr} {st : Int} {s t : St} {i : Nat} (hn : nextS X st s i = some t) : valTo (opAt X i) (valS X st s.2) = valS X st t.2 := by
  obtain ⟨-, -, -, rfl⟩ := nextS_some hn
  unfold valTo
  cases (opAt X i).write
  · rfl
  · simp [valS]; omega
theorem runI_step {X : List Opr} (hids : (X.map (·.id)).Nodup) {safe : Opr → Bool} {kept : Int} {st : Int} {n : Nat} {done : List Int} {s t : St} {e : Int} (hs : SimS X done s) {i : Nat} (hi : i < X.length) (hn : nextS X st s i = some t) (r : List Int) :
    runI X safe kept n done (valS X st s.2) e ((opAt X i).id :: r) = if (n : Int) < kept then runI X safe kept (n + 1) (done ++ [(opAt X i).id]) (valS X st t.2) (valS X st t.2) r
      else if safe (opAt X i) then none else runI X safe kept (n + 1) (done ++ [(opAt X i).id]) (valS X st t.2) e r := by
  have hv := val_next hn
  obtain ⟨h1, h2, h3, h4⟩ := nextS_some hn
  rw [runI, findO_at hids hi]
  simp only
  rw [ready_eq hids hs hi, hs i hi, h1, h2, if_neg (by simp), if_neg, hv]
  rcases h3 with h3 | ⟨h3, h3'⟩
  · simp [h3]
  · simp [h3']
    intro _
    omega
theorem runI_kept {X : List Opr} (hids : (X.map (·.id)).Nodup) {safe : Opr → Bool} {kept : Int} {st : Int} {s u : St} {p : List Nat} (h : Path X st s p u) : ∀ (n : Nat) (done : List Int) (r : List Int), SimS X done s → (n : Int) + p.length ≤ kept →
    runI X safe kept n done (valS X st s.2) (valS X st s.2) (idsOf X p ++ r) = runI X safe kept (n + p.length) (done ++ idsOf X p) (valS X st u.2) (valS X st u.2) r ∧ SimS X (done ++ idsOf X p) u := by
  induction h with
  | nil => intro n done r hs _; simpa [idsOf] using hs
  | cons hi hn _ ih =>
    intro n done r hs hk
    simp at hk
    obtain ⟨h1, h2⟩ := ih (n + 1) _ r (hs.next hids hi hn) (by omega)
    refine ⟨?_, by simpa [idsOf] using h2⟩
    rw [show idsOf X (_ :: _) ++ r = (opAt X _).id :: (idsOf X _ ++ r) from rfl, runI_step hids hs hi hn, if_pos (by omega), h1]
    rw [show ∀ m, n + 1 + m = n + (m + 1) from fun m => by omega]
    simp [idsOf]
theorem runI_rest {X : List Opr} (hids : (X.map (·.id)).Nodup) {safe : Opr → Bool} {kept : Int} {st : Int} {s u : St} {p : List Nat} (h : Path X st s p u) : ∀ (n : Nat) (done : List Int) (e : Int), SimS X done s → kept ≤ n → noSafe X safe p →
    runI X safe kept n done (valS X st s.2) e (idsOf X p) = some (done ++ idsOf X p, e) := by
  induction h with
  | nil => intro n done e _ _ _; simp [idsOf, runI]
  | cons hi hn _ ih =>
    intro n done e hs hk hno
    rw [show idsOf X (_ :: _) = (opAt X _).id :: idsOf X _ from rfl, runI_step hids hs hi hn, if_neg (by omega), if_neg (by rw [hno _ (by simp)]; simp), ih _ _ _ (hs.next hids hi hn) (by omega) fun i hi => hno i (by simp [hi])]
    simp [idsOf]
theorem runI_path {X : List Opr} (hids : (X.map (·.id)).Nodup) {safe : Opr → Bool} {kept : Int} {st : Int} : ∀ (ids : List Int) (n : Nat) (done : List Int) (s : St) (e : Int) (d : List Int) (r : Int), SimS X done s →
    runI X safe kept n done (valS X st s.2) e ids = some (d, r) → ∃ p u, Path X st s p u ∧ ids = idsOf X p ∧ d = done ++ ids ∧ SimS X d u ∧ (∀ (j i : Nat), kept ≤ (n : Int) + j → p[j]? = some i → safe (opAt X i) = false) := by
  intro ids
  induction ids with
  | nil =>
    intro n done s e d r hs h
    simp only [runI, Option.some.injEq, Prod.mk.injEq] at h
    obtain ⟨rfl, rfl⟩ := h
    exact ⟨[], s, .nil _, rfl, by simp, hs, fun j i _ h => by simp at h⟩
  | cons id ids ih =>
    intro n done s e d r hs h
    have h0 := h
    rw [runI] at h0
    rcases hf : findO X id with _ | o
    · rw [hf] at h0; cases h0
    · rw [hf] at h0
      simp only at h0
      obtain ⟨ho, rfl⟩ := findO_mem hf
      obtain ⟨i, hi, rfl⟩ := List.getElem_of_mem ho
      have he : opAt X i = X[i] := opAt_of (List.getElem?_eq_getElem hi)
      rw [← he] at h0 h
      rw [ready_eq hids hs hi, hs i hi] at h0
      split at h0
      · cases h0
      · rename_i h1
        split at h0
        · cases h0
        · rename_i h2
          have hb1 : s.1.testBit i = false := by
            rcases hb : s.1.testBit i with _ | _
            · rfl
            · simp [hb] at h1
          have hb2 : readyS X s.1 i = true := by
            rcases hb : readyS X s.1 i with _ | _
            · simp [hb] at h1
            · rfl
          have hn : nextS X st s i = some (s.1 ||| 2 ^ i, if (opAt X i).write then (i : Int) else s.2) := by
            refine nextS_of hb1 hb2 ?_
            rcases hw : (opAt X i).write with _ | _
            · rw [hw] at h2
              simp at h2
              exact .inr ⟨by omega, h2.2⟩
            · exact .inl rfl
          rw [runI_step hids hs hi hn] at h
          have hs' := hs.next hids hi hn
          have key : ∀ e', runI X safe kept (n + 1) (done ++ [(opAt X i).id]) (valS X st (s.1 ||| 2 ^ i, if (opAt X i).write then (i : Int) else s.2).2) e' ids = some (d, r) → (kept ≤ n → safe (opAt X i) = false) →
              ∃ p u, Path X st s p u ∧ (opAt X i).id :: ids = idsOf X p ∧ d = done ++ (opAt X i).id :: ids ∧ SimS X d u ∧ (∀ (j i : Nat), kept ≤ (n : Int) + j → p[j]? = some i → safe (opAt X i) = false) := by
            intro e' hr hsf
            obtain ⟨p, u, g1, g2, g3, g4, g5⟩ := ih _ _ _ _ _ _ hs' hr
            refine ⟨i :: p, u, .cons hi hn g1, by rw [g2]; rfl, by rw [g3]; simp, g4, fun j k hj hk => ?_⟩
            rcases j with _ | j
            · simp at hk; subst hk; exact hsf (by simpa using hj)
            · exact g5 j k (by push_cast at hj ⊢; omega) (by simpa using hk)
          rw [← he]
          by_cases hk : (n : Int) < kept
          · rw [if_pos hk] at h
            exact key _ h (fun h => by omega)
          · rw [if_neg hk] at h
            split at h
            · cases h
            · rename_i hsf
              exact key _ h (fun _ => by simpa using hsf)

/-- what an era's explanation is, as a path through the states -/
theorem era_path {X : List Opr} (hids : (X.map (·.id)).Nodup) {safe : Opr → Bool} (hsafe : ∀ o, safe o = true → 0 ≤ o.done) {last : Bool} {st v : Int} {w : List Int × Int} :
    (keptOk last w = true ∧ followI X safe w.2 st w.1 = some v) ↔ ∃ p m q u, Path X st (0, -1) p m ∧ covS X (fun i => safe (opAt X i)) m.1 = true ∧ Path X st m q u ∧ covS X (ansQ X) u.1 = true ∧ (last = true → q = []) ∧ w = (idsOf X (p ++ q), (p.length : Int)) ∧ v = valS X st m.2 := by
  have hs0 : SimS X [] (0, -1) := fun k _ => by simp
  have hv0 : valS X st (-1) = st := by simp [valS]
  have hcov : ∀ (d : List Int) (u : St), SimS X d u → (X.all (fun o => decide (o.done < 0) || d.contains o.id) = covS X (ansQ X) u.1) := by
    intro d u hs
    rw [Bool.eq_iff_iff]
    unfold covS
    simp only [List.all_eq_true]
    have hdec : ∀ x : Int, decide (x < 0) = !decide (0 ≤ x) := fun x => by by_cases h : x < 0 <;> simp [h] <;> omega
    constructor
    · intro h k hk
      have hk' : k < X.length := by simpa using hk
      have := h _ (opAt_mem hk')
      rw [hs k hk', hdec] at this
      exact this
    · intro h b hb
      obtain ⟨k, hk, rfl⟩ := List.getElem_of_mem hb
      have he : opAt X k = X[k] := opAt_of (List.getElem?_eq_getElem hk)
      have := h k (by simpa using hk)
      rw [← he, hs k hk, hdec]
      exact this
  constructor
  · rintro ⟨hk, hf⟩
    unfold followI at hf
    rcases hr : runI X safe w.2 0 [] st st w.1 with _ | ⟨d, e⟩
    · rw [hr] at hf; cases hf
    · rw [hr] at hf
      simp only at hf
      split at hf
      · rename_i hall
        injection hf with hf
        subst hf
        have hr' := hr
        rw [show runI X safe w.2 0 [] st st w.1 = runI X safe w.2 0 [] (valS X st (0, -1).2) st w.1 by rw [hv0]] at hr
        obtain ⟨p, u, g1, g2, g3, g4, g5⟩ := runI_path hids _ _ _ _ _ _ _ hs0 hr
        have hlen : w.1.length = p.length := by rw [g2]; simp [idsOf]
        unfold keptOk at hk
        simp only [Bool.not_eq_true', Bool.or_eq_false_iff, decide_eq_false_iff_not] at hk
        obtain ⟨⟨hk1, hk2⟩, hk3⟩ := hk
        obtain ⟨kp, hkp⟩ := Int.eq_ofNat_of_zero_le (show 0 ≤ w.2 by omega)
        have hkl : kp ≤ p.length := by omega
        rw [show p = p.take kp ++ p.drop kp by simp] at g1
        obtain ⟨m, h1, h2⟩ := g1.split
        have htl : (p.take kp).length = kp := by simp; omega
        rw [hcov d u g4] at hall
        have hno : noSafe X safe (p.drop kp) := by
          intro i hi
          obtain ⟨j, hj⟩ := List.getElem?_of_mem hi
          rw [List.getElem?_drop] at hj
          exact g5 (kp + j) i (by push_cast; omega) hj
        refine ⟨p.take kp, m, p.drop kp, u, h1, ?_, h2, hall, fun hl => ?_, ?_, ?_⟩
        · unfold covS at hall ⊢
          rw [List.all_eq_true] at hall ⊢
          intro i hi
          show (!safe (opAt X i) || m.1.testBit i) = true
          rcases hsi : safe (opAt X i) with _ | _
          · rfl
          · have ha := hall i hi
            unfold ansQ at ha
            rw [show decide (0 ≤ (opAt X i).done) = true by simpa using hsafe _ hsi] at ha
            simp only [Bool.not_true, Bool.false_or] at ha ⊢
            rw [h2.grow] at ha
            rcases hq : (p.drop kp).contains i with _ | _
            · rw [hq, Bool.or_false] at ha; rw [ha]
            · rw [hno i (List.contains_iff_mem.1 hq)] at hsi; cases hsi
        · rw [hl] at hk3
          simp at hk3
          rw [List.drop_eq_nil_iff]
          omega
        · rw [List.take_append_drop, htl, ← g2, ← show w.2 = (kp : Int) from hkp]
        · obtain ⟨e1, e2⟩ := runI_kept (safe := safe) (kept := w.2) hids h1 0 [] (idsOf X (p.drop kp)) hs0 (by rw [htl]; push_cast; omega)
          rw [hv0] at e1
          rw [g2, show idsOf X p = idsOf X (p.take kp) ++ idsOf X (p.drop kp) by unfold idsOf; rw [← List.map_append, List.take_append_drop], e1, runI_rest hids h2 _ _ _ e2 (by rw [htl]; push_cast; omega) hno] at hr'
          injection hr' with hr'
          exact (Prod.mk.inj hr').2.symm
      · cases hf
  · rintro ⟨p, m, q, u, h1, h2, h3, h4, h5, rfl, rfl⟩
    have hno : noSafe X safe q := by
      intro i hi
      obtain ⟨q1, q2, rfl⟩ := List.append_of_mem hi
      obtain ⟨t, g1, g2⟩ := h3.split
      cases g2 with
      | cons hi' hn' _ =>
        obtain ⟨b1, -⟩ := nextS_some hn'
        rw [g1.grow] at b1
        unfold covS at h2
        have := List.all_eq_true.1 h2 i (by simpa using hi')
        change (!safe (opAt X i) || m.1.testBit i) = true at this
        rcases hs : safe (opAt X i) with _ | _
        · rfl
        · rw [hs] at this
          simp at this
          rw [this] at b1
          cases b1
    have hap : idsOf X (p ++ q) = idsOf X p ++ idsOf X q := by simp [idsOf]
    constructor
    · unfold keptOk
      simp only [Bool.not_eq_true', Bool.or_eq_false_iff, decide_eq_false_iff_not]
      refine ⟨⟨by omega, by simp [idsOf]; omega⟩, ?_⟩
      cases last
      · rfl
      · rw [h5 rfl]
        simp [idsOf]
    · obtain ⟨e1, e2⟩ := runI_kept (safe := safe) (kept := (p.length : Int)) hids h1 0 [] (idsOf X q) hs0 (by omega)
      rw [hv0] at e1
      unfold followI
      simp only
      rw [hap, e1, runI_rest hids h3 _ _ _ e2 (by omega) hno]
      simp only
      have e3 := (runI_kept (safe := safe) (kept := (p.length : Int) + q.length) hids (h1.app h3) 0 [] [] hs0 (by simp)).2
      rw [hap] at e3
      rw [show ([] : List Int) ++ idsOf X p ++ idsOf X q = [] ++ (idsOf X p ++ idsOf X q) by simp, hcov _ _ e3, h4]
      rfl
end Go.Proofs.Ytcgbnlhloopnfaa
namespace Go.Proofs.Ytcgbnlhloopnfaa

/-- the reads and writes of an era -/
def eraX (os : List Opr) (k : Nat) : List Opr := (eraO os k).filter effB
def safeX (os : List Opr) (k i : Nat) : Bool := durI os (opAt (eraX os k) i)
/-- the eras from k on have an explanation, from a value on -/
def ExpO (os : List Opr) (cuts k : Nat) (v : Int) : Prop := ∃ w, w.length + k = cuts + 1 ∧ accI os cuts k v w = true
theorem eraX_ids {os : List Opr} (hids : (os.map (·.id)).Nodup) (k : Nat) : ((eraX os k).map (·.id)).Nodup :=
  List.Nodup.sublist (List.Sublist.map _ (List.filter_sublist.trans List.filter_sublist)) hids
theorem durI_done {os : List Opr} {o : Opr} (h : durI os o = true) : 0 ≤ o.done := by
  unfold durI at h
  rcases hd : decide (0 ≤ o.done) with _ | _
  · rw [hd] at h; cases h
  · simpa using hd
/-- a state from which the search of era k goes on to the next era -/
def VisS (os : List Opr) (cuts k : Nat) (v : Int) (m : St) : Prop :=
  covS (eraX os k) (safeX os k) m.1 = true ∧ Compl (eraX os k) v m ∧ (k = cuts → covS (eraX os k) (ansQ (eraX os k)) m.1 = true) ∧ ExpO os cuts (k + 1) (valS (eraX os k) v m.2)
/-- no such state can be reached -/
def DeadS (os : List Opr) (cuts k : Nat) (v : Int) (s : St) : Prop := ∀ p m, Path (eraX os k) v s p m → ¬ VisS os cuts k v m

theorem acc_cons {os : List Opr} (hids : (os.map (·.id)).Nodup) {cuts k : Nat} {v : Int} {p q : List Nat} {m u : St} (h1 : Path (eraX os k) v (0, -1) p m) (h2 : covS (eraX os k) (safeX os k) m.1 = true)
    (h3 : Path (eraX os k) v m q u) (h4 : covS (eraX os k) (ansQ (eraX os k)) u.1 = true) (h5 : k = cuts → q = []) {r : List (List Int × Int)} (hr : accI os cuts (k + 1) (valS (eraX os k) v m.2) r = true) :
    accI os cuts k v ((idsOf (eraX os k) (p ++ q), (p.length : Int)) :: r) = true := by
  obtain ⟨g1, g2⟩ := (era_path (eraX_ids hids k) (fun o h => durI_done h) (last := k == cuts)).2 ⟨p, m, q, u, h1, h2, h3, h4, fun h => h5 (by simpa using h), rfl, rfl⟩
  rw [accI, if_pos g1, show followI ((eraO os k).filter effB) (durI os) (idsOf (eraX os k) (p ++ q), (p.length : Int)).2 v (idsOf (eraX os k) (p ++ q), (p.length : Int)).1 = some (valS (eraX os k) v m.2) from g2]
  exact hr
theorem exp_vis {os : List Opr} (hids : (os.map (·.id)).Nodup) {cuts k : Nat} (hk : k ≤ cuts) {v : Int} : ExpO os cuts k v ↔ ∃ p m, Path (eraX os k) v (0, -1) p m ∧ VisS os cuts k v m := by
  constructor
  · rintro ⟨w, hl, h⟩
    rcases w with _ | ⟨x, r⟩
    · simp at hl; omega
    · rw [accI] at h
      split at h
      · rename_i hok
        rcases hf : followI ((eraO os k).filter effB) (durI os) x.2 v x.1 with _ | v'
        · rw [hf] at h; cases h
        · rw [hf] at h
          obtain ⟨p, m, q, u, h1, h2, h3, h4, h5, -, rfl⟩ := (era_path (eraX_ids hids k) (fun o h => durI_done h) (last := k == cuts)).1 ⟨hok, hf⟩
          refine ⟨p, m, h1, h2, ⟨q, u, h3, h4⟩, fun hc => ?_, r, by simp at hl; omega, h⟩
          have := h5 (by simpa using hc)
          subst this
          cases h3
          exact h4
      · cases h
  · rintro ⟨p, m, h1, h2, ⟨q, u, h3, h4⟩, h5, r, hl, hr⟩
    by_cases hc : k = cuts
    · exact ⟨_, by simp; omega, acc_cons hids h1 h2 (.nil m) (h5 hc) (fun _ => rfl) hr⟩
    · exact ⟨_, by simp; omega, acc_cons hids h1 h2 h3 h4 (fun h => absurd h hc) hr⟩
theorem exp_end (os : List Opr) (cuts : Nat) (v : Int) : ExpO os cuts (cuts + 1) v := ⟨[], by simp, rfl⟩
theorem dead_step {os : List Opr} {cuts k : Nat} {v : Int} {s : St} (h0 : ¬ VisS os cuts k v s) (h : ∀ i t, i < (eraX os k).length → nextS (eraX os k) v s i = some t → DeadS os cuts k v t) : DeadS os cuts k v s := by
  intro p m hp
  cases hp with
  | nil => exact h0
  | cons hi hn hp => exact h _ _ hi hn _ _ hp
theorem dead_none {os : List Opr} (hids : (os.map (·.id)).Nodup) {cuts k : Nat} (hk : k ≤ cuts) {v : Int} (h : DeadS os cuts k v (0, -1)) : ¬ ExpO os cuts k v := fun he => by
  obtain ⟨p, m, h1, h2⟩ := (exp_vis hids hk).1 he
  exact h p m h1 h2
/-- a completion of a state whose answered operations are all performed needs no step -/
theorem compl_step {X : List Opr} {st : Int} {s : St} (h0 : covS X (ansQ X) s.1 = false) (h : ∀ i t, i < X.length → nextS X st s i = some t → ¬ Compl X st t) : ¬ Compl X st s := by
  rintro ⟨p, u, hp, hc⟩
  cases hp with
  | nil => rw [h0] at hc; cases hc
  | cons hi hn hp => exact h _ _ hi hn ⟨_, _, hp, hc⟩
end Go.Proofs.Ytcgbnlhloopnfaa
namespace Go.Proofs.Ytcgbnlhloopnfaa

def cutsL (l : List Ev) : Nat := l.countP fun e => e.kind == 3
theorem nd_ids {l : List Ev} (hv : validL l = true) : ((rawOps l).map (·.id)).Nodup := by
  have h := (hist_to l l.length (Nat.le_refl _)).1
  rw [show validTo l l.length = validL l from rfl, hv] at h
  exact (PInv.to h).ids
end Go.Proofs.Ytcgbnlhloopnfaa
