/- Words for memory and events: slices that read as lists of rows. Plain definitions and lemmas; nothing of the program is walked here.
What the functions of layer 45 compute, on lists. Plain: no program is walked here.
Layouts, moved pieces, places, on lists: what tegularef22 and spare compute. Plain: no program is walked here.
Moved pieces, on lists: what a further move changes; a place that is chosen fits. Plain: no program is walked here.
Moved pieces, on lists: how spare finds, inserts, sorts; it computes what tegularef22 says. Plain: no program is walked here.
The homes on a disk, the pieces on a disk, on lists. Plain: no program is walked here.
Moved pieces, on lists: a group's disks; what makes moves valid, step by step; the best disk; a return. Plain: no program is walked here.
The small layouts of tegularef21, on lists: they are valid. Plain: no program is walked here.
How Check counts the pairs of disks, on lists. Plain: no program is walked here.
What the laws of layer 22 say of moves, on lists: SpareApart, SpareReturns. Plain: no program is walked here.
The moves that bytes describe, on lists. Plain: no program is walked here. -/
import Derived.Test.YteglnekkkhpikaaGreatRows
import Derived.WalkKit
import Derived.WalkSpells
import Derived.WalkLawsBesides
import Derived.Lib.Hide
import Derived.Below
import Derived.Laws.OwnMore
import Derived.Deep.Draws
namespace Go.Proofs.YteglnekkkhpikaaGreat
open Go.RowKit

/-! ### events and operations as data -/
structure Ev where
  kind : Int
  op : Int
  write : Bool
  reg : Int
  val : Int
  barrier : Bool
  deriving DecidableEq

def Ev.cells (e : Ev) : List Value := [.int .i64 e.kind, .int .i64 e.op, .bool e.write, .int .i64 e.reg, .int .i64 e.val, .bool e.barrier]
def Ev.agg (e : Ev) : Value := .agg #[.int .i64 e.kind, .int .i64 e.op, .bool e.write, .int .i64 e.reg, .int .i64 e.val, .bool e.barrier]

structure Opr where
  id : Int
  reg : Int
  val : Int
  write : Bool
  barrier : Bool
  era : Int
  call : Int
  done : Int
  deriving DecidableEq

def Opr.cells (o : Opr) : List Value := [.int .i64 o.id, .int .i64 o.reg, .int .i64 o.val, .bool o.write, .bool o.barrier, .int .i64 o.era, .int .i64 o.call, .int .i64 o.done]
def Opr.agg (o : Opr) : Value := .agg #[.int .i64 o.id, .int .i64 o.reg, .int .i64 o.val, .bool o.write, .bool o.barrier, .int .i64 o.era, .int .i64 o.call, .int .i64 o.done]

@[simp] theorem Ev.cells_length (e : Ev) : e.cells.length = 6 := rfl
@[simp] theorem Opr.cells_length (e : Opr) : e.cells.length = 8 := rfl

/-! ### a slice that reads as rows -/
def RdS (w : World) (B size : Nat) (A : Option Addr) (rows : List (List Value)) : Prop :=
  (∀ r ∈ rows, r.length = size) ∧ (0 < rows.length → ∃ b off, A = some ⟨b, off, none⟩ ∧ b < B ∧
    ∀ i r, rows[i]? = some r → ∀ j v, r[j]? = some v → w.cell? ⟨b, off + i * size + j, none⟩ = some v)

section
variable {w w' : World} {B B' size : Nat} {A : Option Addr} {rows : List (List Value)}
theorem RdS.nil (w : World) (B size : Nat) (A : Option Addr) : RdS w B size A [] := ⟨by simp, fun h => absurd h (by simp)⟩
theorem RdS.keep (h : RdS w B size A rows) (hk : ∀ p : Addr, p.block < B → w'.cell? p = w.cell? p) : RdS w' B size A rows :=
  ⟨h.1, fun hn => by
    obtain ⟨b, off, e, hb, hc⟩ := h.2 hn
    exact ⟨b, off, e, hb, fun i r hr j v hv => (hk ⟨b, off + i * size + j, none⟩ hb).trans (hc i r hr j v hv)⟩⟩
theorem RdS.more (h : RdS w B size A rows) (hB : B ≤ B') : RdS w B' size A rows :=
  ⟨h.1, fun hn => by
    obtain ⟨b, off, e, hb, hc⟩ := h.2 hn
    exact ⟨b, off, e, by omega, hc⟩⟩
theorem RdS.below (h : RdS w B size A rows) (hb : Below B w w') : RdS w' B size A rows := h.keep fun _ hp => hb.cell hp
theorem RdS.below' {C : Nat} (h : RdS w B size A rows) (hb : Below C w w') (hBC : B ≤ C) : RdS w' B size A rows := h.keep fun _ hp => hb.cell (by omega)
theorem RdS.grown (h : RdS w B size A rows) {row : Option Nat} (hg : w.grownBy w' row) (hB : B ≤ w.heap.size) (hr : ∀ g, row = some g → B ≤ g) : RdS w' B size A rows :=
  h.keep fun p hp => World.cell?_of_block (hg.block p.block (by omega) (fun e => by have := hr _ e.symm; omega))
theorem RdS.take (h : RdS w B size A rows) (n : Nat) : RdS w B size A (rows.take n) :=
  ⟨fun r hr => h.1 r (List.mem_of_mem_take hr), fun hn => by
    obtain ⟨b, off, e, hb, hc⟩ := h.2 (by rw [List.length_take] at hn; omega)
    refine ⟨b, off, e, hb, fun i r hr j v hv => hc i r ?_ j v hv⟩
    rw [List.getElem?_take] at hr
    split at hr
    · exact hr
    · cases hr⟩

theorem flatten_get {rows : List (List Value)} (hs : ∀ r ∈ rows, r.length = size) : ∀ (i : Nat) (r : List Value), rows[i]? = some r → ∀ (j : Nat) (v : Value), r[j]? = some v → rows.flatten[i * size + j]? = some v := by
  induction rows with
  | nil => intro i r hr; simp at hr
  | cons x xs ih =>
    intro i r hr j v hv
    have hx : x.length = size := hs x (by simp)
    have hxs : ∀ r ∈ xs, r.length = size := fun r hr => hs r (by simp [hr])
    cases i with
    | zero =>
      simp at hr
      subst hr
      have hj : j < x.length := (List.getElem?_eq_some_iff.1 hv).1
      simp only [List.flatten_cons, Nat.zero_mul, Nat.zero_add]
      rw [List.getElem?_append_left hj]
      exact hv
    | succ i =>
      simp at hr
      have := ih hxs i r hr j v hv
      simp only [List.flatten_cons]
      rw [List.getElem?_append_right (by rw [hx, Nat.add_mul]; omega)]
      rw [show (i + 1) * size + j - x.length = i * size + j by rw [hx, Nat.add_mul]; omega]
      exact this

theorem flatten_length {rows : List (List Value)} (hs : ∀ r ∈ rows, r.length = size) : rows.flatten.length = rows.length * size := by
  induction rows with
  | nil => simp
  | cons x xs ih =>
    have hx : x.length = size := hs x (by simp)
    have := ih (fun r hr => hs r (by simp [hr]))
    simp only [List.flatten_cons, List.length_append, List.length_cons, this, hx, Nat.add_mul]
    omega

/-- A slice of the call's own that reads as rows. -/
def OwS (w : World) (base : Nat) (e : TypeId) (size : Nat) (v : Value) (rows : List (List Value)) : Prop :=
  (∀ r ∈ rows, r.length = size) ∧ w.ownsRow base e size v rows.length rows.flatten
theorem OwS.nil (w : World) (base : Nat) (e : TypeId) (size : Nat) : OwS w base e size (.slice none 0 0) [] := ⟨by simp, World.ownsRow_nil _ _ _ _⟩
theorem OwS.kept {base : Nat} {e : TypeId} {v : Value} (h : OwS w base e size v rows) {row : Option Nat} (hg : w.grownBy w' row) (hne : v.ownBlock = none ∨ v.ownBlock ≠ row) : OwS w' base e size v rows :=
  ⟨h.1, h.2.kept hg hne⟩
theorem OwS.alloc {base : Nat} {e : TypeId} {v : Value} (h : OwS w base e size v rows) (o : Obj) : OwS (w.alloc o) base e size v rows := ⟨h.1, h.2.alloc o⟩
theorem OwS.below {base : Nat} {e : TypeId} {v : Value} (h : OwS w base e size v rows) (hb : Below w.heap.size w w') : OwS w' base e size v rows :=
  h.kept (row := none) ⟨hb.os, hb.tape, hb.output, hb.size, fun k hk _ => hb.block k hk⟩ (by cases v.ownBlock <;> simp)
/-- Its form: nil, or a block from base on. -/
theorem OwS.form {base : Nat} {e : TypeId} {v : Value} (h : OwS w base e size v rows) : ∃ A c, v = .slice A rows.length c ∧ rows.length ≤ c ∧ c ≤ maxLen := by
  rcases h.2.2 with ⟨rfl, hn⟩ | ⟨g, cap, cur, rfl, hb, hh, hnc, hcm, _⟩
  · exact ⟨none, 0, by rw [hn], by omega, Nat.zero_le _⟩
  · exact ⟨_, _, rfl, hnc, hcm⟩
theorem OwS.reads {base : Nat} {e : TypeId} {A : Option Addr} {n c : Nat} (h : OwS w base e size (.slice A n c) rows) : RdS w w.heap.size size A rows := by
  refine ⟨h.1, fun hn => ?_⟩
  obtain ⟨hs, hl, ho⟩ := h
  rcases ho with ⟨hv, h0⟩ | ⟨g, cap, cur, hv, hb, hh, hnc, hcm, hsz, ht⟩
  · omega
  · injection hv with h1 h2 h3
    subst h1
    refine ⟨g, 0, rfl, (Array.getElem?_eq_some_iff.1 hh).1, fun i r hr j v hjv => ?_⟩
    have := flatten_get hs i r hr j v hjv
    rw [cell_of_row w g _ cur e (0, 0) hh]
    rw [← ht, List.getElem?_take] at this
    split at this
    · simpa using this
    · cases this
end

/-! ### events -/
abbrev EvS (w : World) (B : Nat) (A : Option Addr) (l : List Ev) : Prop := RdS w B 6 A (l.map Ev.cells)
abbrev OpS (w : World) (B : Nat) (A : Option Addr) (l : List Opr) : Prop := RdS w B 8 A (l.map Opr.cells)
def icell (x : Int) : List Value := [.int .i64 x]
abbrev IntS (w : World) (B : Nat) (A : Option Addr) (l : List Int) : Prop := RdS w B 1 A (l.map icell)

section
variable {w : World} {B : Nat} {A : Option Addr}
theorem EvS.at_ {l : List Ev} (h : EvS w B A l) {k : Nat} (hk : k < l.length) : ∃ b off, ∃ e : Ev, A = some ⟨b, off, none⟩ ∧ b < B ∧ l[k]? = some e ∧
    w.cell? ⟨b, off + k * 6, none⟩ = some (.int .i64 e.kind) ∧ w.cell? ⟨b, off + k * 6 + 1, none⟩ = some (.int .i64 e.op) ∧ w.cell? ⟨b, off + k * 6 + 2, none⟩ = some (.bool e.write) ∧
    w.cell? ⟨b, off + k * 6 + 3, none⟩ = some (.int .i64 e.reg) ∧ w.cell? ⟨b, off + k * 6 + 4, none⟩ = some (.int .i64 e.val) ∧ w.cell? ⟨b, off + k * 6 + 5, none⟩ = some (.bool e.barrier) := by
  obtain ⟨b, off, rfl, hb, hc⟩ := h.2 (by simp; omega)
  have he : l[k]? = some l[k] := List.getElem?_eq_getElem hk
  have hr : (l.map Ev.cells)[k]? = some l[k].cells := by simp [he]
  exact ⟨b, off, l[k], rfl, hb, he, hc k _ hr 0 _ rfl, hc k _ hr 1 _ rfl, hc k _ hr 2 _ rfl, hc k _ hr 3 _ rfl, hc k _ hr 4 _ rfl, hc k _ hr 5 _ rfl⟩
theorem OpS.at_ {l : List Opr} (h : OpS w B A l) {k : Nat} (hk : k < l.length) : ∃ b off, ∃ e : Opr, A = some ⟨b, off, none⟩ ∧ b < B ∧ l[k]? = some e ∧
    w.cell? ⟨b, off + k * 8, none⟩ = some (.int .i64 e.id) ∧ w.cell? ⟨b, off + k * 8 + 1, none⟩ = some (.int .i64 e.reg) ∧ w.cell? ⟨b, off + k * 8 + 2, none⟩ = some (.int .i64 e.val) ∧
    w.cell? ⟨b, off + k * 8 + 3, none⟩ = some (.bool e.write) ∧ w.cell? ⟨b, off + k * 8 + 4, none⟩ = some (.bool e.barrier) ∧ w.cell? ⟨b, off + k * 8 + 5, none⟩ = some (.int .i64 e.era) ∧
    w.cell? ⟨b, off + k * 8 + 6, none⟩ = some (.int .i64 e.call) ∧ w.cell? ⟨b, off + k * 8 + 7, none⟩ = some (.int .i64 e.done) := by
  obtain ⟨b, off, rfl, hb, hc⟩ := h.2 (by simp; omega)
  have he : l[k]? = some l[k] := List.getElem?_eq_getElem hk
  have hr : (l.map Opr.cells)[k]? = some l[k].cells := by simp [he]
  exact ⟨b, off, l[k], rfl, hb, he, hc k _ hr 0 _ rfl, hc k _ hr 1 _ rfl, hc k _ hr 2 _ rfl, hc k _ hr 3 _ rfl, hc k _ hr 4 _ rfl, hc k _ hr 5 _ rfl, hc k _ hr 6 _ rfl, hc k _ hr 7 _ rfl⟩
theorem IntS.at_ {l : List Int} (h : IntS w B A l) {k : Nat} (hk : k < l.length) : ∃ b off, ∃ x : Int, A = some ⟨b, off, none⟩ ∧ b < B ∧ l[k]? = some x ∧ w.cell? ⟨b, off + k, none⟩ = some (.int .i64 x) := by
  obtain ⟨b, off, rfl, hb, hc⟩ := h.2 (by simp; omega)
  have he : l[k]? = some l[k] := List.getElem?_eq_getElem hk
  have hr : (l.map icell)[k]? = some (icell l[k]) := by simp [he]
  exact ⟨b, off, l[k], rfl, hb, he, by simpa using hc k _ hr 0 _ rfl⟩
end

theorem bcell {W w1 : World} (hb : Below W.heap.size W w1) : (∀ b o, b < W.heap.size → w1.cell? ⟨b, o, none⟩ = W.cell? ⟨b, o, none⟩) ∧ (∀ b o, b < W.heap.size → w1.frozen? ⟨b, o, none⟩ = W.frozen? ⟨b, o, none⟩) :=
  ⟨fun b o h => hb.cell (p := ⟨b, o, none⟩) h, fun b o h => hb.frozen (p := ⟨b, o, none⟩) h⟩

theorem below_drewN {B : Nat} {a w : World} (h : Below B a w) (n : Nat) : Below B a (w.drewN n) := ⟨h.os, h.tape, h.output, h.size, h.block⟩

theorem below_two (w : World) (o o' : Obj) : Below w.heap.size w ((w.alloc o).alloc o') := ((Below.refl _ _).alloc (Nat.le_refl _) _).alloc (by simp) _

theorem ret_bool {a b : Bool} (h : a = b) : Ending.returned (.bool a) = .returned (.bool b) := by rw [h]
theorem ret_int {a b : Int} (h : a = b) : Ending.returned (.int .i64 a) = .returned (.int .i64 b) := by rw [h]
end Go.Proofs.YteglnekkkhpikaaGreat
namespace Go.Proofs.YteglnekkkhpikaaGreat

def hitE (kind op : Int) (e : Ev) : Bool := e.kind == kind && e.op == op
/-- find, as a number -/
def findE (l : List Ev) (kind op : Int) (before : Nat) : Int := match (l.take before).findIdx? (hitE kind op) with | some i => (i : Int) | none => -1
def cutE (l : List Ev) (i k : Nat) : Bool := ((l.take k).drop i).any fun e => e.kind == 3
def callOk (e : Ev) : Bool :=
  if e.op < 0 ∨ e.reg < 0 ∨ e.val < 0 then false else if e.write then true else e.val == 0 && (!e.barrier || e.reg == 0)
def Ev.cut : Ev := ⟨3, 0, false, 0, 0, false⟩
def doneOk (e c : Ev) : Bool := e.write == c.write && e.barrier == c.barrier && e.reg == c.reg && ((!c.write && !c.barrier) || e.val == c.val)
def doneAt (l : List Ev) (i : Nat) (e : Ev) (k1 k2 : Int) : Bool :=
  if k1 < 0 then false
  else if 0 ≤ k2 then false
  else if cutE l k1.toNat i then false
  else match l[k1.toNat]? with | some c => doneOk e c | none => false
def evOk (l : List Ev) (i : Nat) (e : Ev) : Bool :=
  if e.kind = 3 then decide (e = Ev.cut)
  else if e.kind = 1 then callOk e && decide (findE l 1 e.op i < 0)
  else if e.kind = 2 then doneAt l i e (findE l 1 e.op i) (findE l 2 e.op i)
  else false
theorem doneAt_neg {l : List Ev} {i : Nat} {e : Ev} {k1 k2 : Int} (h : k1 < 0) : doneAt l i e k1 k2 = false := by unfold doneAt; rw [if_pos h]
theorem doneAt_two {l : List Ev} {i : Nat} {e : Ev} {k1 k2 : Int} (h2 : 0 ≤ k2) : doneAt l i e k1 k2 = false := by
  unfold doneAt
  by_cases h1 : k1 < 0
  · rw [if_pos h1]
  · rw [if_neg h1, if_pos h2]
theorem doneAt_at {l : List Ev} {i : Nat} {e c : Ev} {kn : Nat} {k2 : Int} (h2 : k2 < 0) (hc : l[kn]? = some c) : doneAt l i e kn k2 = (!cutE l kn i && doneOk e c) := by
  unfold doneAt
  rw [if_neg (by omega), if_neg (by omega), Int.toNat_natCast, hc]
  cases cutE l kn i <;> simp
def validTo (l : List Ev) (n : Nat) : Bool := ((l.take n).zipIdx).all fun p => evOk l p.2 p.1
def validL (l : List Ev) : Bool := validTo l l.length

theorem find_stop {l : List Ev} {kind op : Int} {k before : Nat} (hb : before ≤ l.length) (hk : k < before) {e : Ev} (he : l[k]? = some e) (hh : hitE kind op e = true) (hno : ∀ j e', j < k → l[j]? = some e' → hitE kind op e' = false) :
    findE l kind op before = k := by
  unfold findE
  have : (l.take before).findIdx? (hitE kind op) = some k := by
    rw [List.findIdx?_eq_some_iff_getElem]
    have hkl : k < l.length := by omega
    have hek : l[k] = e := by rw [List.getElem?_eq_getElem hkl] at he; exact Option.some.inj he
    refine ⟨by simp; omega, by simp [hek, hh], fun j hj => ?_⟩
    have := hno j l[j] hj (List.getElem?_eq_getElem (by omega))
    simp [this]
  rw [this]
theorem find_none {l : List Ev} {kind op : Int} {before : Nat} (hno : ∀ j e', j < before → l[j]? = some e' → hitE kind op e' = false) : findE l kind op before = -1 := by
  unfold findE
  have : (l.take before).findIdx? (hitE kind op) = none := by
    rw [List.findIdx?_eq_none_iff]
    intro x hx
    obtain ⟨j, hj, rfl⟩ := List.getElem_of_mem hx
    simp at hj
    exact hno j _ (by omega) (by simp)
  rw [this]
theorem findE_lt (l : List Ev) (kind op : Int) (before : Nat) : -1 ≤ findE l kind op before ∧ findE l kind op before < before ∧ findE l kind op before < l.length ∨ findE l kind op before = -1 := by
  unfold findE
  split
  · rename_i i h
    have := (List.findIdx?_eq_some_iff_getElem.1 h).1
    simp at this
    omega
  · exact .inr rfl
theorem cut_stop {l : List Ev} {i k n : Nat} (hk : k < n) (hik : i ≤ k) {e : Ev} (he : l[k]? = some e) (hh : e.kind = 3) : cutE l i n = true := by
  unfold cutE
  rw [List.any_eq_true]
  refine ⟨e, ?_, by simp [hh]⟩
  rw [List.mem_iff_getElem?]
  exact ⟨k - i, by rw [List.getElem?_drop, List.getElem?_take, if_pos (by omega)]; rw [show i + (k - i) = k by omega]; exact he⟩
theorem cut_none {l : List Ev} {i n : Nat} (hno : ∀ j e', i ≤ j → j < n → l[j]? = some e' → e'.kind ≠ 3) : cutE l i n = false := by
  unfold cutE
  rw [List.any_eq_false]
  intro e he
  rw [List.mem_iff_getElem?] at he
  obtain ⟨j, hj⟩ := he
  rw [List.getElem?_drop, List.getElem?_take] at hj
  split at hj
  · simpa using hno (i + j) e (by omega) (by omega) hj
  · cases hj
end Go.Proofs.YteglnekkkhpikaaGreat
namespace Go.Proofs.YteglnekkkhpikaaGreat

structure Plc where
  disk : Int
  block : Int
  deriving DecidableEq
structure Mv where
  g : Int
  p : Int
  to : Plc
  deriving DecidableEq
/-- a layout: disks, groups of disks, tiles, spare blocks -/
structure LayD where
  disks : Nat
  gs : List (List Nat)
  tiles : Nat
  spare : Nat
def LayD.n (L : LayD) : Nat := L.gs.length
def LayD.w (L : LayD) : Nat := (L.gs.headD []).length
def LayD.r (L : LayD) : Nat := L.gs.countP fun g => g.contains 0
def LayD.G (L : LayD) : Nat := L.tiles * L.n
def LayD.homes (L : LayD) : Nat := L.tiles * L.r
def LayD.blocks (L : LayD) : Nat := L.homes + L.spare
/-- what is wanted of a valid layout -/
structure LayOk (L : LayD) : Prop where
  disks : 2 ≤ L.disks ∧ L.disks ≤ 60
  n : 1 ≤ L.n ∧ L.n ≤ 4096
  len : ∀ g ∈ L.gs, g.length = L.w
  inc : ∀ g ∈ L.gs, g.Pairwise (· < ·)
  lt : ∀ g ∈ L.gs, ∀ d ∈ g, d < L.disks
  cnt : ∀ d, d < L.disks → (L.gs.countP fun g => g.contains d) = L.r
  w : 4 ≤ L.w ∧ L.w ≤ 16
  tiles : 1 ≤ L.tiles ∧ L.tiles ≤ 256
  G : L.G ≤ 4096
  slots : L.G * (L.w - 3) ≤ 65536
  blocks : L.blocks ≤ 65536
def isP (L : LayD) (g p : Int) : Bool := decide (0 ≤ g) && decide (g < L.G) && decide (0 ≤ p) && decide (p < L.w)
/-- the disk of a piece's home -/
def hdisk (L : LayD) (g p : Nat) : Nat := ((L.gs[g % L.n]?).getD [])[(p + g / L.n) % L.w]?.getD 0
/-- how many groups in front of a group have a disk -/
def rankL (L : LayD) (g0 d : Nat) : Nat := (L.gs.take g0).countP fun g => g.contains d
def homeL (L : LayD) (g p : Nat) : Plc := ⟨hdisk L g p, ((g / L.n * L.r + rankL L (g % L.n) (hdisk L g p) : Nat) : Int)⟩
def atM (g p : Int) (m : Mv) : Bool := m.g == g && m.p == p
def whereL (L : LayD) (ms : List Mv) (g p : Int) : Plc := match ms.find? (atM g p) with | some m => m.to | none => homeL L g.toNat p.toNat
def ltM (a b : Mv) : Prop := a.g < b.g ∨ (a.g = b.g ∧ a.p < b.p)
instance (a b : Mv) : Decidable (ltM a b) := by unfold ltM; infer_instance
def toOk (L : LayD) (t : Plc) : Bool := decide (0 ≤ t.disk) && decide (t.disk < L.disks) && decide ((L.homes : Int) ≤ t.block) && decide (t.block < L.blocks)
/-- the pieces of a group lie on different disks -/
def apartL (L : LayD) (ms : List Mv) (g : Int) : Bool := (List.range L.w).all fun a => (List.range a).all fun b => !((whereL L ms g a).disk == (whereL L ms g b).disk)
structure MvOk (L : LayD) (ms : List Mv) : Prop where
  is : ∀ m ∈ ms, isP L m.g m.p = true
  to : ∀ m ∈ ms, toOk L m.to = true
  ord : ms.Pairwise ltM
  sep : ms.Pairwise fun a b => a.to ≠ b.to
  apart : ∀ m ∈ ms, apartL L ms m.g = true
instance (L : LayD) (ms : List Mv) : Decidable (MvOk L ms) :=
  decidable_of_iff ((∀ m ∈ ms, isP L m.g m.p = true) ∧ (∀ m ∈ ms, toOk L m.to = true) ∧ ms.Pairwise ltM ∧ (ms.Pairwise fun a b => a.to ≠ b.to) ∧ ∀ m ∈ ms, apartL L ms m.g = true)
    ⟨fun ⟨a, b, c, d, e⟩ => ⟨a, b, c, d, e⟩, fun ⟨a, b, c, d, e⟩ => ⟨a, b, c, d, e⟩⟩
def validM (L : LayD) (ms : List Mv) : Bool := decide (MvOk L ms)
/-- the used spare blocks of a disk -/
def usedL (L : LayD) (ms : List Mv) (d : Int) : List Int := ((List.range L.spare).map fun i => ((L.homes + i : Nat) : Int)).filter fun b => ms.any fun m => m.to == ⟨d, b⟩
/-- the first block behind an unbroken beginning -/
def firstFree (b : Int) : List Int → Int
  | [] => b
  | x :: xs => if x = b then firstFree (b + 1) xs else b
def holdsL (L : LayD) (ms : List Mv) (g : Int) (d : Int) : Bool := (List.range L.w).any fun i => (whereL L ms g i).disk == d
def okDisk (L : LayD) (ms : List Mv) (g : Int) (dead : List Bool) (d : Nat) : Bool := !(dead[d]?.getD false) && !holdsL L ms g d && decide ((usedL L ms d).length < L.spare)
/-- the best disk so far, and how many blocks it uses -/
def bestTo (L : LayD) (ms : List Mv) (g : Int) (dead : List Bool) : Nat → Option (Nat × Nat)
  | 0 => none
  | d + 1 => match bestTo L ms g dead d with
    | none => if okDisk L ms g dead d then some (d, (usedL L ms d).length) else none
    | some (x, c) => if okDisk L ms g dead d && decide ((usedL L ms d).length < c) then some (d, (usedL L ms d).length) else some (x, c)
def chooseL (L : LayD) (ms : List Mv) (g : Int) (dead : List Bool) : Option Plc := (bestTo L ms g dead L.disks).map fun x => ⟨x.1, firstFree L.homes (usedL L ms x.1)⟩
/-- the moves with another one, in order; a move to disk -1 takes the piece out -/
def withL (m : Mv) : Bool → List Mv → List Mv
  | put, [] => if put then [] else [m]
  | put, x :: xs =>
    if x.g = m.g ∧ x.p = m.p then withL m put xs
    else if put = false ∧ (m.g < x.g ∨ (x.g = m.g ∧ m.p < x.p)) then m :: x :: withL m true xs
    else x :: withL m put xs
def withM (ms : List Mv) (m : Mv) : List Mv := withL m (m.to.disk == -1) ms
/-- the moves behind a move, or the error -/
def applyL (L : LayD) (ms : List Mv) (m : Mv) : List Mv × Int :=
  if isP L m.g m.p = false then ([], 2)
  else if m.to.disk = -1 ∧ (withM ms m).length = ms.length then ([], 9)
  else if validM L (withM ms m) then (withM ms m, 0) else ([], 1)

theorem firstFree_spec : ∀ (us : List Int) (b : Int), us.Pairwise (· < ·) → (∀ x ∈ us, b ≤ x) → firstFree b us ∉ us ∧ b ≤ firstFree b us ∧ firstFree b us ≤ b + us.length := by
  intro us
  induction us with
  | nil => intro b _ _; simp [firstFree]
  | cons x xs ih =>
    intro b hp hb
    obtain ⟨h1, h2⟩ := List.pairwise_cons.1 hp
    have hxb := hb x (by simp)
    rw [firstFree]
    split
    · rename_i he
      obtain ⟨i1, i2, i3⟩ := ih (b + 1) h2 (fun y hy => by have := h1 y hy; omega)
      rw [List.length_cons]
      refine ⟨fun hm => ?_, by omega, by push_cast; omega⟩
      rcases List.mem_cons.1 hm with hm | hm
      · omega
      · exact i1 hm
    · rename_i he
      refine ⟨fun hm => ?_, by omega, by rw [List.length_cons]; push_cast; omega⟩
      rcases List.mem_cons.1 hm with hm | hm
      · exact he hm.symm
      · have := h1 _ hm
        omega
theorem usedL_sorted (L : LayD) (ms : List Mv) (d : Int) : (usedL L ms d).Pairwise (· < ·) := by
  unfold usedL
  refine List.Pairwise.filter _ ?_
  rw [List.pairwise_map]
  exact List.Pairwise.imp (fun h => by omega) List.pairwise_lt_range
theorem usedL_mem {L : LayD} {ms : List Mv} {d b : Int} : b ∈ usedL L ms d ↔ (∃ i, i < L.spare ∧ b = ((L.homes + i : Nat) : Int)) ∧ ∃ m ∈ ms, m.to = ⟨d, b⟩ := by
  unfold usedL
  rw [List.mem_filter, List.mem_map, List.any_eq_true]
  constructor
  · rintro ⟨⟨i, hi, rfl⟩, m, hm, h⟩
    exact ⟨⟨i, List.mem_range.1 hi, rfl⟩, m, hm, by simpa using h⟩
  · rintro ⟨⟨i, hi, rfl⟩, m, hm, h⟩
    exact ⟨⟨i, List.mem_range.2 hi, rfl⟩, m, hm, by simpa using h⟩
theorem best_spec {L : LayD} {ms : List Mv} {g : Int} {dead : List Bool} : ∀ {k d c : Nat}, bestTo L ms g dead k = some (d, c) → d < k ∧ okDisk L ms g dead d = true ∧ c = (usedL L ms d).length := by
  intro k
  induction k with
  | zero => intro d c h; cases h
  | succ k ih =>
    intro d c h
    rw [bestTo] at h
    split at h
    · split at h
      · rename_i ho
        cases h
        exact ⟨by omega, ho, rfl⟩
      · cases h
    · rename_i x y hb
      split at h
      · rename_i ho
        cases h
        rw [Bool.and_eq_true] at ho
        exact ⟨by omega, ho.1, rfl⟩
      · cases h
        obtain ⟨i1, i2, i3⟩ := ih hb
        exact ⟨by omega, i2, i3⟩
/-- a place that is chosen: a disk that lives and holds no piece of the group, a spare block that nobody uses -/
theorem choose_spec {L : LayD} {ms : List Mv} {g : Int} {dead : List Bool} {t : Plc} (h : chooseL L ms g dead = some t) :
    toOk L t = true ∧ dead[t.disk.toNat]?.getD false = false ∧ holdsL L ms g t.disk = false ∧ ∀ m ∈ ms, m.to ≠ t := by
  unfold chooseL at h
  obtain ⟨⟨d, c⟩, hb, rfl⟩ := Option.map_eq_some_iff.1 h
  obtain ⟨h1, h2, -⟩ := best_spec hb
  unfold okDisk at h2
  simp only [Bool.and_eq_true, Bool.not_eq_true', decide_eq_true_eq] at h2
  obtain ⟨⟨h3, h4⟩, h5⟩ := h2
  have hge : ∀ x ∈ usedL L ms (d : Int), (L.homes : Int) ≤ x := fun x hx => by
    obtain ⟨⟨i, -, rfl⟩, -⟩ := usedL_mem.1 hx
    omega
  obtain ⟨f1, f2, f3⟩ := firstFree_spec (usedL L ms (d : Int)) L.homes (usedL_sorted _ _ _) hge
  refine ⟨?_, by simpa using h3, h4, fun m hm he => f1 (usedL_mem.2 ⟨?_, m, hm, he⟩)⟩
  · unfold toOk LayD.blocks
    simp only [Bool.and_eq_true, decide_eq_true_eq]
    exact ⟨⟨⟨by omega, by omega⟩, f2⟩, by push_cast; omega⟩
  · obtain ⟨q, hq⟩ := Int.eq_ofNat_of_zero_le (show 0 ≤ firstFree L.homes (usedL L ms (d : Int)) - L.homes by omega)
    exact ⟨q, by omega, by push_cast; omega⟩
/-! ### where, behind another move -/
theorem withL_mem (m : Mv) : ∀ (xs : List Mv) (put : Bool) (x : Mv), x ∈ withL m put xs ↔ (x ∈ xs ∧ ¬ (x.g = m.g ∧ x.p = m.p)) ∨ (put = false ∧ x = m) := by
  intro xs
  induction xs with
  | nil =>
    intro put x
    rw [withL]
    cases put <;> simp
  | cons y ys ih =>
    intro put x
    rw [withL]
    split
    · rename_i he
      rw [ih, List.mem_cons]
      constructor
      · rintro (⟨h1, h2⟩ | h)
        · exact .inl ⟨.inr h1, h2⟩
        · exact .inr h
      · rintro (⟨rfl | h1, h2⟩ | h)
        · exact absurd he h2
        · exact .inl ⟨h1, h2⟩
        · exact .inr h
    · rename_i hne
      split
      · rename_i hp
        rw [List.mem_cons, List.mem_cons, ih, List.mem_cons]
        constructor
        · rintro (rfl | rfl | ⟨h1, h2⟩ | ⟨h1, -⟩)
          · exact .inr ⟨hp.1, rfl⟩
          · exact .inl ⟨.inl rfl, hne⟩
          · exact .inl ⟨.inr h1, h2⟩
          · cases h1
        · rintro (⟨rfl | h1, h2⟩ | ⟨-, rfl⟩)
          · exact .inr (.inl rfl)
          · exact .inr (.inr (.inl ⟨h1, h2⟩))
          · exact .inl rfl
      · rw [List.mem_cons, ih, List.mem_cons]
        constructor
        · rintro (rfl | ⟨h1, h2⟩ | h)
          · exact .inl ⟨.inl rfl, hne⟩
          · exact .inl ⟨.inr h1, h2⟩
          · exact .inr h
        · rintro (⟨rfl | h1, h2⟩ | h)
          · exact .inl rfl
          · exact .inr (.inl ⟨h1, h2⟩)
          · exact .inr (.inr h)
end Go.Proofs.YteglnekkkhpikaaGreat
namespace Go.Proofs.YteglnekkkhpikaaGreat

theorem ltM_irr {a : Mv} (h : ltM a a) : False := by unfold ltM at h; omega
theorem ltM_key {a b : Mv} (h : ltM a b) : ¬ (a.g = b.g ∧ a.p = b.p) := by unfold ltM at h; omega
/-- keys differ in an ordered list -/
theorem key_uniq {ms : List Mv} (h : ms.Pairwise ltM) {a b : Mv} (ha : a ∈ ms) (hb : b ∈ ms) (hg : a.g = b.g) (hp : a.p = b.p) : a = b := by
  obtain ⟨i, hi, rfl⟩ := List.getElem_of_mem ha
  obtain ⟨j, hj, rfl⟩ := List.getElem_of_mem hb
  rcases Nat.lt_trichotomy i j with hlt | rfl | hlt
  · exact absurd ⟨hg, hp⟩ (ltM_key (List.pairwise_iff_getElem.1 h i j hi hj hlt))
  · rfl
  · exact absurd ⟨hg.symm, hp.symm⟩ (ltM_key (List.pairwise_iff_getElem.1 h j i hj hi hlt))
theorem find_iff {ms : List Mv} (h : ms.Pairwise ltM) {g p : Int} {x : Mv} : ms.find? (atM g p) = some x ↔ x ∈ ms ∧ x.g = g ∧ x.p = p := by
  constructor
  · intro hf
    have h1 := List.mem_of_find?_eq_some hf
    have h2 := List.find?_some hf
    unfold atM at h2
    simp at h2
    exact ⟨h1, h2⟩
  · rintro ⟨h1, h2, h3⟩
    rcases hf : ms.find? (atM g p) with _ | y
    · have := List.find?_eq_none.1 hf x h1
      simp [atM, h2, h3] at this
    · have h4 := List.mem_of_find?_eq_some hf
      have h5 := List.find?_some hf
      unfold atM at h5
      simp at h5
      rw [key_uniq h h1 h4 (by omega) (by omega)]
theorem find_no {ms : List Mv} {g p : Int} : ms.find? (atM g p) = none ↔ ∀ x ∈ ms, ¬ (x.g = g ∧ x.p = p) := by
  rw [List.find?_eq_none]
  constructor
  · intro h x hx he
    exact h x hx (by simp [atM, he.1, he.2])
  · intro h x hx he
    unfold atM at he
    simp at he
    exact h x hx he
theorem withL_sorted (m : Mv) : ∀ (xs : List Mv) (put : Bool), xs.Pairwise ltM → (withL m put xs).Pairwise ltM := by
  intro xs
  induction xs with
  | nil => intro put _; rw [withL]; cases put <;> simp
  | cons y ys ih =>
    intro put h
    obtain ⟨h1, h2⟩ := List.pairwise_cons.1 h
    rw [withL]
    split
    · exact ih put h2
    · rename_i hne
      split
      · rename_i hp
        have hmy : ltM m y := by unfold ltM; omega
        refine List.pairwise_cons.2 ⟨fun z hz => ?_, List.pairwise_cons.2 ⟨fun z hz => ?_, ih true h2⟩⟩
        · rcases List.mem_cons.1 hz with rfl | hz
          · exact hmy
          · rcases (withL_mem m ys true z).1 hz with ⟨hz, -⟩ | ⟨hz, -⟩
            · have := h1 z hz
              unfold ltM at *
              omega
            · cases hz
        · rcases (withL_mem m ys true z).1 hz with ⟨hz, -⟩ | ⟨hz, -⟩
          · exact h1 z hz
          · cases hz
      · rename_i hp
        refine List.pairwise_cons.2 ⟨fun z hz => ?_, ih put h2⟩
        rcases (withL_mem m ys put z).1 hz with ⟨hz', -⟩ | ⟨hq, he⟩
        · exact h1 z hz'
        · rw [he]
          unfold ltM
          rw [hq] at hp
          simp only [true_and] at hp
          omega
theorem withL_true (m : Mv) : ∀ (xs : List Mv), withL m true xs = xs.filter fun x => !(x.g == m.g && x.p == m.p) := by
  intro xs
  induction xs with
  | nil => rw [withL]; rfl
  | cons y ys ih =>
    rw [withL]
    split
    · rename_i he
      rw [List.filter_cons_of_neg (by simp [he.1, he.2]), ih]
    · rename_i hne
      rw [if_neg (by simp), List.filter_cons_of_pos (by simp; omega), ih]
theorem where_with {L : LayD} {ms : List Mv} (h : ms.Pairwise ltM) (m : Mv) (g p : Int) :
    whereL L (withM ms m) g p = if g = m.g ∧ p = m.p then (if m.to.disk = -1 then homeL L g.toNat p.toNat else m.to) else whereL L ms g p := by
  have hs : (withM ms m).Pairwise ltM := withL_sorted m ms _ h
  have hm : ∀ x, x ∈ withM ms m ↔ (x ∈ ms ∧ ¬ (x.g = m.g ∧ x.p = m.p)) ∨ ((m.to.disk == -1) = false ∧ x = m) := withL_mem m ms _
  split
  · rename_i he
    split
    · rename_i hd
      have : (withM ms m).find? (atM g p) = none := find_no.2 fun x hx hk => by
        rcases (hm x).1 hx with ⟨-, h2⟩ | ⟨h1, -⟩
        · omega
        · rw [hd] at h1; simp at h1
      unfold whereL
      rw [this]
    · rename_i hd
      have : (withM ms m).find? (atM g p) = some m := (find_iff hs).2 ⟨(hm m).2 (.inr ⟨by simpa using hd, rfl⟩), he.1.symm, he.2.symm⟩
      unfold whereL
      rw [this]
  · rename_i he
    unfold whereL
    rcases hf : ms.find? (atM g p) with _ | x
    · have : (withM ms m).find? (atM g p) = none := find_no.2 fun x hx hk => by
        rcases (hm x).1 hx with ⟨h1, -⟩ | ⟨-, rfl⟩
        · exact find_no.1 hf x h1 hk
        · exact he ⟨hk.1.symm, hk.2.symm⟩
      rw [this]
    · obtain ⟨h1, h2, h3⟩ := (find_iff h).1 hf
      have : (withM ms m).find? (atM g p) = some x := (find_iff hs).2 ⟨(hm x).2 (.inl ⟨h1, by omega⟩), h2, h3⟩
      rw [this]
theorem sep_of {ms : List Mv} (h : ms.Pairwise ltM) (hs : ∀ a ∈ ms, ∀ b ∈ ms, a.to = b.to → a = b) : ms.Pairwise fun a b => a.to ≠ b.to :=
  List.Pairwise.imp_of_mem (fun {a b} ha hb hlt he => by
    have := hs a ha b hb he
    subst this
    exact ltM_irr hlt) h
theorem sep_eq {ms : List Mv} (h : ms.Pairwise fun a b => a.to ≠ b.to) {a b : Mv} (ha : a ∈ ms) (hb : b ∈ ms) (he : a.to = b.to) : a = b := by
  obtain ⟨i, hi, rfl⟩ := List.getElem_of_mem ha
  obtain ⟨j, hj, rfl⟩ := List.getElem_of_mem hb
  rcases Nat.lt_trichotomy i j with hlt | rfl | hlt
  · exact absurd he (List.pairwise_iff_getElem.1 h i j hi hj hlt)
  · rfl
  · exact absurd he.symm (List.pairwise_iff_getElem.1 h j i hj hi hlt)
theorem apart_iff {L : LayD} {ms : List Mv} {g : Int} : apartL L ms g = true ↔ ∀ a b : Nat, a < L.w → b < a → (whereL L ms g a).disk ≠ (whereL L ms g b).disk := by
  unfold apartL
  simp only [List.all_eq_true, List.mem_range, Bool.not_eq_true', beq_eq_false_iff_ne]
  exact ⟨fun h a b ha hb => h a ha b hb, fun h a ha b hb => h a b ha hb⟩
theorem apart_ne {L : LayD} {ms : List Mv} {g : Int} (h : apartL L ms g = true) {a b : Nat} (ha : a < L.w) (hb : b < L.w) (hab : a ≠ b) : (whereL L ms g a).disk ≠ (whereL L ms g b).disk := by
  rcases Nat.lt_or_gt_of_ne hab with h1 | h1
  · exact fun e => apart_iff.1 h b a hb h1 e.symm
  · exact apart_iff.1 h a b ha h1
/-- a group's row of disks -/
theorem row_of {L : LayD} (ok : LayOk L) (g : Nat) : ∃ row, L.gs[g % L.n]? = some row ∧ row.length = L.w ∧ row.Pairwise (· < ·) ∧ ∀ d ∈ row, d < L.disks := by
  have hn : 0 < L.n := by have := ok.n; omega
  have hlt : g % L.n < L.gs.length := Nat.mod_lt _ hn
  have hm : L.gs[g % L.n] ∈ L.gs := List.getElem_mem hlt
  exact ⟨L.gs[g % L.n], List.getElem?_eq_getElem hlt, ok.len _ hm, ok.inc _ hm, ok.lt _ hm⟩
theorem hdisk_at {L : LayD} {g p : Nat} {row : List Nat} (hr : L.gs[g % L.n]? = some row) (hl : row.length = L.w) (hw : 0 < L.w) : row[(p + g / L.n) % L.w]? = some (hdisk L g p) := by
  unfold hdisk
  rw [hr]
  have : (p + g / L.n) % L.w < row.length := by rw [hl]; exact Nat.mod_lt _ hw
  simp only [Option.getD_some]
  rw [List.getElem?_eq_getElem this]
  rfl
theorem hdisk_inj {L : LayD} (ok : LayOk L) {g a b : Nat} (ha : a < L.w) (hb : b < L.w) (h : hdisk L g a = hdisk L g b) : a = b := by
  obtain ⟨row, h1, h2, h3, -⟩ := row_of ok g
  have hw : 0 < L.w := by omega
  have e1 := hdisk_at (p := a) h1 h2 hw
  have e2 := hdisk_at (p := b) h1 h2 hw
  rw [h] at e1
  obtain ⟨l1, e1⟩ := List.getElem?_eq_some_iff.1 e1
  obtain ⟨l2, e2⟩ := List.getElem?_eq_some_iff.1 e2
  have hidx : (a + g / L.n) % L.w = (b + g / L.n) % L.w := by
    rcases Nat.lt_trichotomy ((a + g / L.n) % L.w) ((b + g / L.n) % L.w) with hlt | he | hlt
    · have := List.pairwise_iff_getElem.1 h3 _ _ l1 l2 hlt
      omega
    · exact he
    · have := List.pairwise_iff_getElem.1 h3 _ _ l2 l1 hlt
      omega
  generalize g / L.n = t at hidx
  rw [Nat.add_mod a, Nat.add_mod b, Nat.mod_eq_of_lt ha, Nat.mod_eq_of_lt hb] at hidx
  have ht : t % L.w < L.w := Nat.mod_lt _ hw
  generalize t % L.w = u at *
  have key : ∀ x, x < L.w → (x + u) % L.w = if x + u < L.w then x + u else x + u - L.w := fun x hx => by
    split
    · rename_i h; exact Nat.mod_eq_of_lt h
    · rename_i h
      rw [Nat.mod_eq_sub_mod (by omega)]
      exact Nat.mod_eq_of_lt (by omega)
  rw [key a ha, key b hb] at hidx
  split at hidx <;> split at hidx <;> omega
theorem hdisk_lt {L : LayD} (ok : LayOk L) (g p : Nat) : hdisk L g p < L.disks := by
  obtain ⟨row, h1, h2, -, h4⟩ := row_of ok g
  have hw : 0 < L.w := by have := ok.w; omega
  exact h4 _ (List.mem_of_getElem? (hdisk_at (p := p) h1 h2 hw))
/-- with valid moves, the pieces of every group lie on different disks -/
theorem apart_all {L : LayD} (ok : LayOk L) {ms : List Mv} (h : MvOk L ms) (g : Int) : apartL L ms g = true := by
  by_cases hex : ∃ m ∈ ms, m.g = g
  · obtain ⟨m, hm, rfl⟩ := hex
    exact h.apart m hm
  · have hno : ∀ p : Int, whereL L ms g p = homeL L g.toNat p.toNat := fun p => by
      have : ms.find? (atM g p) = none := find_no.2 fun x hx hk => hex ⟨x, hx, hk.1⟩
      unfold whereL
      rw [this]
    refine apart_iff.2 fun a b ha hb he => ?_
    rw [hno, hno] at he
    have he' : (hdisk L g.toNat a : Int) = hdisk L g.toNat b := he
    have := hdisk_inj ok ha (by omega) (show hdisk L g.toNat a = hdisk L g.toNat b by exact_mod_cast he')
    omega
theorem where_ok {L : LayD} (ok : LayOk L) {ms : List Mv} (h : MvOk L ms) (g p : Int) : 0 ≤ (whereL L ms g p).disk ∧ (whereL L ms g p).disk < L.disks := by
  unfold whereL
  rcases hf : ms.find? (atM g p) with _ | x
  · have := hdisk_lt ok g.toNat p.toNat
    show 0 ≤ (hdisk L g.toNat p.toNat : Int) ∧ (hdisk L g.toNat p.toNat : Int) < L.disks
    omega
  · have := h.to x (List.mem_of_find?_eq_some hf)
    unfold toOk at this
    simp only [Bool.and_eq_true, decide_eq_true_eq] at this
    exact ⟨this.1.1.1, this.1.1.2⟩
theorem holds_iff {L : LayD} {ms : List Mv} {g d : Int} : holdsL L ms g d = false ↔ ∀ i : Nat, i < L.w → (whereL L ms g i).disk ≠ d := by
  unfold holdsL
  rw [List.any_eq_false]
  constructor
  · intro h i hi he
    exact h i (List.mem_range.2 hi) (by simpa using he)
  · intro h i hi he
    exact h i (List.mem_range.1 hi) (by simpa using he)
/-- a move to a place that nobody uses, on a disk without a piece of the group, is valid -/
theorem fits_ok {L : LayD} (ok : LayOk L) {ms : List Mv} (h : MvOk L ms) {m : Mv} (hp : isP L m.g m.p = true) (ht : toOk L m.to = true) (hh : holdsL L ms m.g m.to.disk = false) (hf : ∀ x ∈ ms, x.to ≠ m.to) : MvOk L (withM ms m) := by
  have hd : ¬ m.to.disk = -1 := fun e => by
    unfold toOk at ht
    rw [e] at ht
    simp at ht
  have hs : (withM ms m).Pairwise ltM := withL_sorted m ms _ h.ord
  have hm : ∀ x, x ∈ withM ms m ↔ (x ∈ ms ∧ ¬ (x.g = m.g ∧ x.p = m.p)) ∨ ((m.to.disk == -1) = false ∧ x = m) := withL_mem m ms _
  refine ⟨fun x hx => ?_, fun x hx => ?_, hs, sep_of hs fun a ha b hb he => ?_, fun x hx => ?_⟩
  · rcases (hm x).1 hx with ⟨h1, -⟩ | ⟨-, rfl⟩
    · exact h.is x h1
    · exact hp
  · rcases (hm x).1 hx with ⟨h1, -⟩ | ⟨-, rfl⟩
    · exact h.to x h1
    · exact ht
  · rcases (hm a).1 ha with ⟨h1, -⟩ | ⟨-, rfl⟩
    · rcases (hm b).1 hb with ⟨h2, -⟩ | ⟨-, rfl⟩
      · exact sep_eq h.sep h1 h2 he
      · exact absurd he (hf a h1)
    · rcases (hm b).1 hb with ⟨h2, -⟩ | ⟨-, rfl⟩
      · exact absurd he.symm (hf b h2)
      · rfl
  · refine apart_iff.2 fun a b ha hb => ?_
    have hab := apart_all ok h x.g
    rw [where_with h.ord, where_with h.ord]
    rw [if_neg hd]
    rw [holds_iff] at hh
    split
    · rename_i h1
      rw [if_neg (by omega), h1.1]
      exact fun e => hh b (by omega) e.symm
    · split
      · rename_i h2
        rw [h2.1]
        exact hh a ha
      · exact apart_iff.1 hab a b ha hb
theorem fits_apply {L : LayD} (ok : LayOk L) {ms : List Mv} (h : MvOk L ms) {g i : Int} {dead : List Bool} {t : Plc} (hp : isP L g i = true) (hc : chooseL L ms g dead = some t) :
    applyL L ms ⟨g, i, t⟩ = (withM ms ⟨g, i, t⟩, 0) ∧ MvOk L (withM ms ⟨g, i, t⟩) := by
  obtain ⟨h1, h2, h3, h4⟩ := choose_spec hc
  have hv := fits_ok ok h (m := ⟨g, i, t⟩) hp h1 h3 h4
  have hd : ¬ t.disk = -1 := fun e => by
    unfold toOk at h1
    rw [e] at h1
    simp at h1
  unfold applyL validM
  rw [if_neg (by rw [hp]; simp), if_neg (fun e => hd e.1), if_pos (by simpa using hv)]
  exact ⟨rfl, hv⟩
end Go.Proofs.YteglnekkkhpikaaGreat
namespace Go.Proofs.YteglnekkkhpikaaGreat

def cmp3 (a b : Int) : Int := if a < b then -1 else if b < a then 1 else 0
/-- spare's order of a move and a piece -/
def ordM (g p : Int) (m : Mv) : Int := if cmp3 m.g g = 0 then cmp3 m.p p else cmp3 m.g g
theorem ord_neg {g p : Int} {m : Mv} : ordM g p m < 0 ↔ m.g < g ∨ (m.g = g ∧ m.p < p) := by
  unfold ordM cmp3
  split <;> (split <;> try split) <;> (try split) <;> omega
theorem ord_zero {g p : Int} {m : Mv} : ordM g p m = 0 ↔ m.g = g ∧ m.p = p := by
  unfold ordM cmp3
  split <;> (split <;> try split) <;> (try split) <;> omega
def posM (ms : List Mv) (g p : Int) : Nat := ms.countP fun m => decide (ordM g p m < 0)
/-- the place of a piece among ordered moves -/
theorem pos_split {ms : List Mv} {g p : Int} (h : ms.Pairwise ltM) : (∀ x ∈ ms.take (posM ms g p), ordM g p x < 0) ∧ ∀ x ∈ ms.drop (posM ms g p), ¬ ordM g p x < 0 := by
  unfold posM
  induction ms with
  | nil => simp
  | cons y ys ih =>
    obtain ⟨h1, h2⟩ := List.pairwise_cons.1 h
    obtain ⟨i1, i2⟩ := ih h2
    by_cases hy : ordM g p y < 0
    · rw [List.countP_cons_of_pos (by simpa using hy)]
      refine ⟨fun x hx => ?_, fun x hx => i2 x (by simpa using hx)⟩
      rw [List.take_succ_cons] at hx
      rcases List.mem_cons.1 hx with rfl | hx
      · exact hy
      · exact i1 x hx
    · have h0 : ys.countP (fun m => decide (ordM g p m < 0)) = 0 := by
        rw [List.countP_eq_zero]
        intro x hx hn
        have hn' : ordM g p x < 0 := by simpa using hn
        rw [ord_neg] at hn' hy
        have := h1 x hx
        unfold ltM at this
        omega
      rw [List.countP_cons_of_neg (by simpa using hy), h0]
      refine ⟨by simp, fun x hx => ?_⟩
      rw [List.drop_zero] at hx
      rcases List.mem_cons.1 hx with rfl | hx
      · exact hy
      · have := List.countP_eq_zero.1 h0 x hx
        simpa using this
theorem pos_le (ms : List Mv) (g p : Int) : posM ms g p ≤ ms.length := List.countP_le_length
theorem pos_has {ms : List Mv} {g p : Int} (h : ms.Pairwise ltM) : (∃ x, ms[posM ms g p]? = some x ∧ ordM g p x = 0) ↔ ∃ x ∈ ms, x.g = g ∧ x.p = p := by
  obtain ⟨h1, h2⟩ := pos_split (g := g) (p := p) h
  constructor
  · rintro ⟨x, hx, ho⟩
    exact ⟨x, List.mem_of_getElem? hx, ord_zero.1 ho⟩
  · rintro ⟨x, hx, hk⟩
    obtain ⟨i, hi⟩ := List.mem_iff_getElem?.1 hx
    have hge : posM ms g p ≤ i := by
      rcases Nat.lt_or_ge i (posM ms g p) with hlt | hge
      · have := h1 x (List.mem_of_getElem? (i := i) (by rw [List.getElem?_take, if_pos hlt]; exact hi))
        rw [ord_zero.2 hk] at this
        omega
      · exact hge
    have hil := (List.getElem?_eq_some_iff.1 hi).1
    obtain ⟨y, hy⟩ : ∃ y, ms[posM ms g p]? = some y := ⟨ms[posM ms g p]'(by omega), List.getElem?_eq_getElem _⟩
    refine ⟨y, hy, ?_⟩
    rcases Nat.lt_or_eq_of_le hge with hlt | rfl
    · exfalso
      have hyd : ¬ ordM g p y < 0 := h2 y (List.mem_of_getElem? (i := 0) (by rw [List.getElem?_drop]; exact hy))
      have hlm := List.pairwise_iff_getElem.1 h _ _ (List.getElem?_eq_some_iff.1 hy).1 hil hlt
      rw [(List.getElem?_eq_some_iff.1 hy).2, (List.getElem?_eq_some_iff.1 hi).2] at hlm
      rw [ord_neg] at hyd
      unfold ltM at hlm
      omega
    · rw [hy] at hi
      cases hi
      exact ord_zero.2 hk
/-- spare's where -/
theorem where_pos {L : LayD} {ms : List Mv} {g p : Int} (h : ms.Pairwise ltM) : whereL L ms g p = match ms[posM ms g p]? with | some x => if ordM g p x = 0 then x.to else homeL L g.toNat p.toNat | none => homeL L g.toNat p.toNat := by
  unfold whereL
  rcases hf : ms.find? (atM g p) with _ | y
  · simp only
    rcases hx : ms[posM ms g p]? with _ | x
    · rfl
    · simp only
      rw [if_neg]
      intro ho
      exact find_no.1 hf x (List.mem_of_getElem? hx) (ord_zero.1 ho)
  · obtain ⟨h1, h2, h3⟩ := (find_iff h).1 hf
    obtain ⟨x, hx, ho⟩ := (pos_has h).2 ⟨y, h1, h2, h3⟩
    rw [hx]
    simp only
    rw [if_pos ho]
    obtain ⟨k1, k2⟩ := ord_zero.1 ho
    rw [key_uniq h h1 (List.mem_of_getElem? hx) (by omega) (by omega)]
theorem withL_true_no {m : Mv} {ys : List Mv} (h : ∀ x ∈ ys, ¬ (x.g = m.g ∧ x.p = m.p)) : withL m true ys = ys := by
  rw [withL_true, List.filter_eq_self]
  intro x hx
  have := h x hx
  simp
  omega
/-- a new piece is inserted at its place -/
theorem with_insert {m : Mv} : ∀ {ms : List Mv}, ms.Pairwise ltM → (∀ x ∈ ms, ¬ (x.g = m.g ∧ x.p = m.p)) → withL m false ms = ms.take (posM ms m.g m.p) ++ m :: ms.drop (posM ms m.g m.p) := by
  intro ms
  induction ms with
  | nil => intro _ _; rfl
  | cons y ys ih =>
    intro h hno
    obtain ⟨h1, h2⟩ := List.pairwise_cons.1 h
    have hy := hno y (by simp)
    rw [withL, if_neg hy]
    have hys : ∀ x ∈ ys, ¬ (x.g = m.g ∧ x.p = m.p) := fun x hx => hno x (by simp [hx])
    split
    · rename_i hp
      have hpos : posM (y :: ys) m.g m.p = 0 := by
        unfold posM
        rw [List.countP_eq_zero]
        intro x hx hn
        have hn' : ordM m.g m.p x < 0 := by simpa using hn
        rw [ord_neg] at hn'
        rcases List.mem_cons.1 hx with rfl | hx
        · omega
        · have := h1 x hx
          unfold ltM at this
          omega
      rw [hpos, withL_true_no hys]
      rfl
    · rename_i hp
      have hneg : ordM m.g m.p y < 0 := by rw [ord_neg]; simp only [true_and] at hp; omega
      have hpos : posM (y :: ys) m.g m.p = posM ys m.g m.p + 1 := by
        unfold posM
        rw [List.countP_cons_of_pos (by simpa using hneg)]
      rw [hpos, ih h2 hys]
      rfl
/-- a piece that was moved is replaced at its place -/
theorem with_set {m : Mv} : ∀ {ms : List Mv}, ms.Pairwise ltM → (∃ x ∈ ms, x.g = m.g ∧ x.p = m.p) → withL m false ms = ms.set (posM ms m.g m.p) m := by
  intro ms
  induction ms with
  | nil => rintro _ ⟨x, hx, -⟩; cases hx
  | cons y ys ih =>
    intro h hex
    obtain ⟨h1, h2⟩ := List.pairwise_cons.1 h
    rw [withL]
    split
    · rename_i hk
      have hpos : posM (y :: ys) m.g m.p = 0 := by
        unfold posM
        rw [List.countP_eq_zero]
        intro x hx hn
        have hn' : ordM m.g m.p x < 0 := by simpa using hn
        rw [ord_neg] at hn'
        rcases List.mem_cons.1 hx with rfl | hx
        · omega
        · have := h1 x hx
          unfold ltM at this
          omega
      have hno : ∀ x ∈ ys, ¬ (x.g = m.g ∧ x.p = m.p) := fun x hx => by
        have := h1 x hx
        unfold ltM at this
        omega
      have hpos2 : posM ys m.g m.p = 0 := by
        unfold posM at hpos ⊢
        rw [List.countP_cons] at hpos
        omega
      rw [hpos, with_insert h2 hno, hpos2]
      rfl
    · rename_i hk
      obtain ⟨x, hx, hxk⟩ := hex
      have hx' : x ∈ ys := by
        rcases List.mem_cons.1 hx with rfl | hx
        · exact absurd hxk hk
        · exact hx
      have hlt := h1 x hx'
      unfold ltM at hlt
      rw [if_neg (by omega)]
      have hneg : ordM m.g m.p y < 0 := by rw [ord_neg]; omega
      have hpos : posM (y :: ys) m.g m.p = posM ys m.g m.p + 1 := by
        unfold posM
        rw [List.countP_cons_of_pos (by simpa using hneg)]
      rw [hpos, ih h2 ⟨x, hx', hxk⟩]
      rfl
/-- a piece that is returned is taken out at its place -/
theorem with_del {m : Mv} : ∀ {ms : List Mv}, ms.Pairwise ltM → (∃ x ∈ ms, x.g = m.g ∧ x.p = m.p) → withL m true ms = ms.take (posM ms m.g m.p) ++ ms.drop (posM ms m.g m.p + 1) := by
  intro ms
  induction ms with
  | nil => rintro _ ⟨x, hx, -⟩; cases hx
  | cons y ys ih =>
    intro h hex
    obtain ⟨h1, h2⟩ := List.pairwise_cons.1 h
    rw [withL]
    split
    · rename_i hk
      have hpos : posM (y :: ys) m.g m.p = 0 := by
        unfold posM
        rw [List.countP_eq_zero]
        intro x hx hn
        have hn' : ordM m.g m.p x < 0 := by simpa using hn
        rw [ord_neg] at hn'
        rcases List.mem_cons.1 hx with rfl | hx
        · omega
        · have := h1 x hx
          unfold ltM at this
          omega
      have hno : ∀ x ∈ ys, ¬ (x.g = m.g ∧ x.p = m.p) := fun x hx => by
        have := h1 x hx
        unfold ltM at this
        omega
      rw [hpos, withL_true_no hno]
      rfl
    · rename_i hk
      obtain ⟨x, hx, hxk⟩ := hex
      have hx' : x ∈ ys := by
        rcases List.mem_cons.1 hx with rfl | hx
        · exact absurd hxk hk
        · exact hx
      have hlt := h1 x hx'
      unfold ltM at hlt
      rw [if_neg (by simp)]
      have hneg : ordM m.g m.p y < 0 := by rw [ord_neg]; omega
      have hpos : posM (y :: ys) m.g m.p = posM ys m.g m.p + 1 := by
        unfold posM
        rw [List.countP_cons_of_pos (by simpa using hneg)]
      rw [hpos, ih h2 ⟨x, hx', hxk⟩]
      rfl
/-- spare's search of the first free block -/
theorem free_fold : ∀ (us : List Int) (b : Int), us.Pairwise (· < ·) → (∀ x ∈ us, b ≤ x) → us.foldl (fun k x => if x = k then k + 1 else k) b = firstFree b us := by
  intro us
  induction us with
  | nil => intro b _ _; rfl
  | cons x xs ih =>
    intro b hp hb
    obtain ⟨h1, h2⟩ := List.pairwise_cons.1 hp
    have hxb := hb x (by simp)
    rw [List.foldl_cons, firstFree]
    split
    · exact ih (b + 1) h2 fun y hy => by have := h1 y hy; omega
    · have hoff : ∀ (ys : List Int), (∀ y ∈ ys, b < y) → ys.foldl (fun k x => if x = k then k + 1 else k) b = b := by
        intro ys
        induction ys with
        | nil => intro _; rfl
        | cons y ys ihy =>
          intro hy
          rw [List.foldl_cons, if_neg (by have := hy y (by simp); omega)]
          exact ihy fun z hz => hy z (by simp [hz])
      exact hoff xs fun y hy => by have := h1 y hy; omega
/-- two increasing lists of the same numbers are equal -/
theorem inc_eq : ∀ {xs ys : List Int}, xs.Pairwise (· < ·) → ys.Pairwise (· < ·) → (∀ x, x ∈ xs ↔ x ∈ ys) → xs = ys := by
  intro xs
  induction xs with
  | nil =>
    intro ys _ _ h
    cases ys with
    | nil => rfl
    | cons y ys => exact absurd ((h y).2 (by simp)) (by simp)
  | cons x xs ih =>
    intro ys hx hy h
    cases ys with
    | nil => exact absurd ((h x).1 (by simp)) (by simp)
    | cons y ys =>
      obtain ⟨x1, x2⟩ := List.pairwise_cons.1 hx
      obtain ⟨y1, y2⟩ := List.pairwise_cons.1 hy
      have hxy : x = y := by
        rcases List.mem_cons.1 ((h x).1 (by simp)) with h1 | h1
        · exact h1
        · rcases List.mem_cons.1 ((h y).2 (by simp)) with h2 | h2
          · exact h2.symm
          · have := x1 y h2
            have := y1 x h1
            omega
      subst hxy
      rw [ih x2 y2 fun z => ?_]
      constructor
      · intro hz
        rcases List.mem_cons.1 ((h z).1 (by simp [hz])) with rfl | h1
        · exact absurd (x1 z hz) (by omega)
        · exact h1
      · intro hz
        rcases List.mem_cons.1 ((h z).2 (by simp [hz])) with rfl | h1
        · exact absurd (y1 z hz) (by omega)
        · exact h1
/-- spare's used: the blocks of the moves to a disk, sorted -/
theorem used_sorted {L : LayD} {ms : List Mv} (h : MvOk L ms) {d : Int} {ts : List Int} (hs : ts.Pairwise (· ≤ ·)) (hp : ts.Perm ((ms.filter fun m => m.to.disk == d).map fun m => m.to.block)) : ts = usedL L ms d := by
  have hnd : ((ms.filter fun m => m.to.disk == d).map fun m => m.to.block).Nodup := by
    show List.Pairwise (· ≠ ·) _
    rw [List.pairwise_map]
    refine List.Pairwise.imp_of_mem (fun {a b} ha hb hne he => ?_) (List.Pairwise.filter _ h.sep)
    have h1 : a.to.disk = d := by simpa using (List.mem_filter.1 ha).2
    have h2 : b.to.disk = d := by simpa using (List.mem_filter.1 hb).2
    apply hne
    cases ha' : a.to
    cases hb' : b.to
    rw [ha'] at h1 he
    rw [hb'] at h2 he
    simp only at h1 h2 he
    rw [h1, h2, he]
  have hnt : ts.Nodup := (hp.nodup_iff).2 hnd
  refine inc_eq (List.Pairwise.imp₂ (R := (· ≤ ·)) (S := (· ≠ ·)) (fun a b h1 h2 => by omega) hs hnt) (usedL_sorted L ms d) fun x => ?_
  rw [hp.mem_iff, usedL_mem, List.mem_map]
  constructor
  · rintro ⟨m, hm, rfl⟩
    obtain ⟨h1, h2⟩ := List.mem_filter.1 hm
    have h2' : m.to.disk = d := by simpa using h2
    have h3 := h.to m h1
    unfold toOk LayD.blocks at h3
    simp only [Bool.and_eq_true, decide_eq_true_eq] at h3
    refine ⟨⟨(m.to.block - L.homes).toNat, by omega, by push_cast; omega⟩, m, h1, ?_⟩
    rw [← h2']
  · rintro ⟨-, m, hm, he⟩
    exact ⟨m, List.mem_filter.2 ⟨hm, by rw [he]; simp⟩, by rw [he]⟩
end Go.Proofs.YteglnekkkhpikaaGreat
namespace Go.Proofs.YteglnekkkhpikaaGreat

/-- the groups of the design with a disk -/
def onD (L : LayD) (d : Nat) : List Nat := (List.range L.n).filter fun g => ((L.gs[g]?).getD []).contains d
/-- the piece whose home is a block -/
def homeAt (L : LayD) (d b : Nat) : Nat × Nat :=
  ((b / L.r) * L.n + (onD L d)[b % L.r]?.getD 0, ((((((L.gs[(onD L d)[b % L.r]?.getD 0]?).getD []).findIdx (· == d) : Nat) : Int) - ((b / L.r : Nat) : Int)) % (L.w : Int)).toNat)
def homeOn (L : LayD) (d : Nat) : List (Nat × Nat) := (List.range L.homes).map (homeAt L d)
theorem countP_range (l : List (List Nat)) (q : List Nat → Bool) : ((List.range l.length).filter fun i => q ((l[i]?).getD [])).length = l.countP q := by
  induction l with
  | nil => rfl
  | cons a l ih =>
    rw [List.length_cons, List.range_succ_eq_map, List.filter_cons, List.countP_cons]
    have : ((List.range l.length).map Nat.succ).filter (fun i => q (((a :: l)[i]?).getD [])) = ((List.range l.length).filter fun i => q ((l[i]?).getD [])).map Nat.succ := by
      rw [List.filter_map]
      congr 1
    rw [this]
    split
    · rename_i h
      rw [List.length_cons, List.length_map, ih, if_pos (by simpa using h)]
    · rename_i h
      rw [List.length_map, ih, if_neg (by simpa using h)]
      rfl
section
variable {L : LayD}
theorem onD_len (ok : LayOk L) {d : Nat} (hd : d < L.disks) : (onD L d).length = L.r := by
  rw [← ok.cnt d hd]
  exact countP_range L.gs fun g => g.contains d
theorem onD_mem {d g : Nat} : g ∈ onD L d ↔ ∃ row, L.gs[g]? = some row ∧ d ∈ row := by
  unfold onD LayD.n
  rw [List.mem_filter, List.mem_range]
  constructor
  · rintro ⟨h1, h2⟩
    exact ⟨L.gs[g], List.getElem?_eq_getElem h1, by rw [List.getElem?_eq_getElem h1] at h2; simpa using h2⟩
  · rintro ⟨row, h1, h2⟩
    exact ⟨(List.getElem?_eq_some_iff.1 h1).1, by rw [h1]; simpa using h2⟩
theorem onD_inc (d : Nat) : (onD L d).Pairwise (· < ·) := List.Pairwise.filter _ List.pairwise_lt_range
theorem r_pos (ok : LayOk L) (hl : ∃ g ∈ L.gs, g ≠ []) : 0 < L.r := by
  obtain ⟨g, hg, hne⟩ := hl
  obtain ⟨d, hd⟩ := List.exists_mem_of_ne_nil g hne
  rw [← ok.cnt d (ok.lt g hg d hd), List.countP_pos_iff]
  exact ⟨g, hg, by simpa using hd⟩
theorem rpos (ok : LayOk L) : 0 < L.r := by
  have hn := ok.n
  unfold LayD.n at hn
  have hm : L.gs[0]'(by omega) ∈ L.gs := List.getElem_mem _
  refine r_pos ok ⟨_, hm, fun e => ?_⟩
  have := ok.len _ hm
  rw [e] at this
  have := ok.w
  simp at *
  omega
theorem emod_back {w i t : Nat} (hi : i < w) : (((((i + t) % w : Nat) : Int) - (t : Int)) % (w : Int)).toNat = i := by
  have : ((((i + t) % w : Nat) : Int) - (t : Int)) % (w : Int) = i := by
    rw [Int.natCast_emod, Int.emod_sub_emod]
    push_cast
    rw [show ((i : Int) + t - t) = i by omega]
    exact Int.emod_eq_of_lt (by omega) (by omega)
  rw [this]
  rfl
theorem emod_fwd {w a t : Nat} (hw : 0 < w) (ha : a < w) : ((((a : Int) - (t : Int)) % (w : Int)).toNat + t) % w = a ∧ (((a : Int) - (t : Int)) % (w : Int)).toNat < w := by
  have h0 := Int.emod_nonneg ((a : Int) - t) (show (w : Int) ≠ 0 by omega)
  have h1 := Int.emod_lt_of_pos ((a : Int) - t) (show (0 : Int) < w by omega)
  refine ⟨?_, by omega⟩
  have : (((((a : Int) - (t : Int)) % (w : Int)).toNat + t) % w : Nat) = (((a : Int) - t) % w + t) % w := by
    push_cast
    rw [Int.toNat_of_nonneg h0]
  have h2 : (((a : Int) - t) % w + t) % w = a := by
    rw [Int.emod_add_emod, show ((a : Int) - t + t) = a by omega]
    exact Int.emod_eq_of_lt (by omega) (by omega)
  omega
theorem findIdx_at {row : List Nat} (hn : row.Pairwise (· < ·)) {a d : Nat} (h : row[a]? = some d) : row.findIdx (· == d) = a := by
  obtain ⟨hl, he⟩ := List.getElem?_eq_some_iff.1 h
  rw [List.findIdx_eq (by exact hl)]
  refine ⟨by simpa using he, fun j hj => ?_⟩
  have := List.pairwise_iff_getElem.1 hn j a (by omega) hl hj
  simp
  omega
theorem findIdx_has {row : List Nat} {d : Nat} (h : d ∈ row) : row.findIdx (· == d) < row.length ∧ row[row.findIdx (· == d)]? = some d := by
  have h1 : row.findIdx (· == d) < row.length := List.findIdx_lt_length_of_exists ⟨d, h, by simp⟩
  refine ⟨h1, ?_⟩
  rw [List.getElem?_eq_getElem h1]
  have := List.findIdx_getElem (w := h1)
  simp at this
  rw [this]
theorem homeAt_spec (ok : LayOk L) {d b : Nat} (hd : d < L.disks) (hb : b < L.homes) : (homeAt L d b).1 < L.G ∧ (homeAt L d b).2 < L.w ∧ hdisk L (homeAt L d b).1 (homeAt L d b).2 = d ∧ (homeAt L d b).1 / L.n = b / L.r ∧ (homeAt L d b).1 % L.n = (onD L d)[b % L.r]?.getD 0 := by
  have hr := rpos ok
  have hw : 0 < L.w := by have := ok.w; omega
  have hn : 0 < L.n := by have := ok.n; omega
  have hk : b % L.r < (onD L d).length := by rw [onD_len ok hd]; exact Nat.mod_lt _ hr
  unfold homeAt
  rw [List.getElem?_eq_getElem hk]
  simp only [Option.getD_some]
  obtain ⟨row, h1, h2⟩ := onD_mem.1 (List.getElem_mem hk)
  generalize (onD L d)[b % L.r] = g0 at *
  have hg0 : g0 < L.n := (List.getElem?_eq_some_iff.1 h1).1
  have ht : b / L.r < L.tiles := Nat.div_lt_of_lt_mul (by unfold LayD.homes at hb; rw [Nat.mul_comm]; exact hb)
  generalize b / L.r = t at *
  rw [h1]
  simp only [Option.getD_some]
  have hrow := ok.len row (List.mem_of_getElem? h1)
  obtain ⟨f1, f2⟩ := findIdx_has h2
  rw [hrow] at f1
  generalize row.findIdx (· == d) = a at *
  obtain ⟨e1, e2⟩ := emod_fwd (t := t) hw f1
  have hdiv : (t * L.n + g0) / L.n = t := by
    rw [Nat.mul_comm, Nat.mul_add_div hn, Nat.div_eq_of_lt hg0]
    rfl
  have hmod : (t * L.n + g0) % L.n = g0 := by
    rw [Nat.mul_comm, Nat.mul_add_mod, Nat.mod_eq_of_lt hg0]
  refine ⟨?_, e2, ?_, hdiv, hmod⟩
  · unfold LayD.G
    calc t * L.n + g0 < t * L.n + L.n := by omega
      _ = (t + 1) * L.n := by rw [Nat.add_mul, Nat.one_mul]
      _ ≤ L.tiles * L.n := Nat.mul_le_mul_right _ ht
  · unfold hdisk
    rw [hdiv, hmod, h1, e1]
    simp only [Option.getD_some, f2]
theorem homeOn_mem (ok : LayOk L) {d g i : Nat} (hd : d < L.disks) : (g, i) ∈ homeOn L d ↔ g < L.G ∧ i < L.w ∧ hdisk L g i = d := by
  unfold homeOn
  rw [List.mem_map]
  constructor
  · rintro ⟨b, hb, he⟩
    obtain ⟨h1, h2, h3, -, -⟩ := homeAt_spec ok hd (List.mem_range.1 hb)
    rw [he] at h1 h2 h3
    exact ⟨h1, h2, h3⟩
  · rintro ⟨hg, hi, hdk⟩
    have hr := rpos ok
    have hw : 0 < L.w := by omega
    have hn : 0 < L.n := by have := ok.n; omega
    obtain ⟨row, r1, r2, r3, -⟩ := row_of ok g
    have hat := hdisk_at (p := i) r1 r2 hw
    rw [hdk] at hat
    have hmem : g % L.n ∈ onD L d := onD_mem.2 ⟨row, r1, List.mem_of_getElem? hat⟩
    obtain ⟨k, hk⟩ := List.mem_iff_getElem?.1 hmem
    have hkl : k < L.r := by rw [← onD_len ok hd]; exact (List.getElem?_eq_some_iff.1 hk).1
    have ht : g / L.n < L.tiles := Nat.div_lt_of_lt_mul (by unfold LayD.G at hg; rw [Nat.mul_comm]; exact hg)
    refine ⟨g / L.n * L.r + k, List.mem_range.2 ?_, ?_⟩
    · unfold LayD.homes
      calc g / L.n * L.r + k < g / L.n * L.r + L.r := by omega
        _ = (g / L.n + 1) * L.r := by rw [Nat.add_mul, Nat.one_mul]
        _ ≤ L.tiles * L.r := Nat.mul_le_mul_right _ ht
    · unfold homeAt
      have hdiv : (g / L.n * L.r + k) / L.r = g / L.n := by
        rw [Nat.mul_comm, Nat.mul_add_div hr, Nat.div_eq_of_lt hkl]
        rfl
      have hmod : (g / L.n * L.r + k) % L.r = k := by
        rw [Nat.mul_comm, Nat.mul_add_mod, Nat.mod_eq_of_lt hkl]
      rw [hdiv, hmod, hk]
      simp only [Option.getD_some, r1]
      rw [findIdx_at r3 hat, emod_back hi]
      refine Prod.ext ?_ rfl
      show g / L.n * L.n + g % L.n = g
      have := Nat.div_add_mod g L.n
      rw [Nat.mul_comm] at this
      omega
/-- the groups grow from home to home -/
theorem homeOn_inc (ok : LayOk L) {d : Nat} (hd : d < L.disks) : (homeOn L d).Pairwise fun a b => a.1 < b.1 := by
  unfold homeOn
  rw [List.pairwise_map]
  refine List.Pairwise.imp_of_mem (fun {a b} ha hb hab => ?_) List.pairwise_lt_range
  have hr := rpos ok
  have hn : 0 < L.n := by have := ok.n; omega
  obtain ⟨-, -, -, a1, a2⟩ := homeAt_spec ok hd (List.mem_range.1 ha)
  obtain ⟨-, -, -, b1, b2⟩ := homeAt_spec ok hd (List.mem_range.1 hb)
  have ea := Nat.div_add_mod (homeAt L d a).1 L.n
  have eb := Nat.div_add_mod (homeAt L d b).1 L.n
  have la := Nat.mod_lt (homeAt L d a).1 hn
  have lb := Nat.mod_lt (homeAt L d b).1 hn
  have hle : a / L.r ≤ b / L.r := Nat.div_le_div_right (Nat.le_of_lt hab)
  rw [a1] at ea
  rw [b1] at eb
  rcases Nat.lt_or_eq_of_le hle with h | h
  · have : L.n * (a / L.r) + L.n ≤ L.n * (b / L.r) := by
      rw [← Nat.mul_succ]
      exact Nat.mul_le_mul_left _ h
    omega
  · have ha' := Nat.div_add_mod a L.r
    have hb' := Nat.div_add_mod b L.r
    rw [h] at ha'
    have hk : a % L.r < b % L.r := by omega
    have hkb : b % L.r < (onD L d).length := by rw [onD_len ok hd]; exact Nat.mod_lt _ hr
    have := List.pairwise_iff_getElem.1 (onD_inc (L := L) d) (a % L.r) (b % L.r) (by omega) hkb hk
    rw [List.getElem?_eq_getElem (show a % L.r < (onD L d).length by omega)] at a2
    rw [List.getElem?_eq_getElem hkb] at b2
    simp only [Option.getD_some] at a2 b2
    rw [a2] at ea
    rw [b2] at eb
    rw [h] at ea
    omega
/-- the pieces on a disk, as tegularef22 lists them -/
def onL (L : LayD) (ms : List Mv) (d : Int) : List (Nat × Nat) := (List.range L.G).flatMap fun (g : Nat) => ((List.range L.w).filter fun (i : Nat) => (whereL L ms g i).disk == d).map fun i => (g, i)
theorem onL_mem {ms : List Mv} {d : Int} {g i : Nat} : (g, i) ∈ onL L ms d ↔ g < L.G ∧ i < L.w ∧ (whereL L ms g i).disk = d := by
  unfold onL
  simp only [List.mem_flatMap, List.mem_range, List.mem_map, List.mem_filter, beq_iff_eq, Prod.mk.injEq]
  constructor
  · rintro ⟨g', h1, i', ⟨h2, h3⟩, rfl, rfl⟩
    exact ⟨h1, h2, h3⟩
  · rintro ⟨h1, h2, h3⟩
    exact ⟨g, h1, i, ⟨h2, h3⟩, rfl, rfl⟩
theorem onL_inc (ok : LayOk L) {ms : List Mv} (h : MvOk L ms) (d : Int) : (onL L ms d).Pairwise fun a b => a.1 < b.1 := by
  unfold onL
  rw [List.pairwise_flatMap]
  refine ⟨fun g hg => ?_, ?_⟩
  · rw [List.pairwise_map]
    refine List.Pairwise.imp_of_mem (fun {a b} ha hb hab => ?_) (List.Pairwise.filter _ List.pairwise_lt_range)
    exfalso
    obtain ⟨a1, a2⟩ := List.mem_filter.1 ha
    obtain ⟨b1, b2⟩ := List.mem_filter.1 hb
    have := apart_ne (apart_all ok h (g : Int)) (List.mem_range.1 a1) (List.mem_range.1 b1) (by omega)
    simp only [beq_iff_eq] at a2 b2
    exact this (a2.trans b2.symm)
  · refine List.Pairwise.imp (fun {a b} hab x hx y hy => ?_) List.pairwise_lt_range
    obtain ⟨i, -, rfl⟩ := List.mem_map.1 hx
    obtain ⟨j, -, rfl⟩ := List.mem_map.1 hy
    exact hab
theorem inc_eq2 : ∀ {xs ys : List (Nat × Nat)}, (xs.Pairwise fun a b => a.1 < b.1) → (ys.Pairwise fun a b => a.1 < b.1) → (∀ x, x ∈ xs ↔ x ∈ ys) → xs = ys := by
  intro xs
  induction xs with
  | nil =>
    intro ys _ _ h
    cases ys with
    | nil => rfl
    | cons y ys => exact absurd ((h y).2 (by simp)) (by simp)
  | cons x xs ih =>
    intro ys hx hy h
    cases ys with
    | nil => exact absurd ((h x).1 (by simp)) (by simp)
    | cons y ys =>
      obtain ⟨x1, x2⟩ := List.pairwise_cons.1 hx
      obtain ⟨y1, y2⟩ := List.pairwise_cons.1 hy
      have hxy : x = y := by
        rcases List.mem_cons.1 ((h x).1 (by simp)) with h1 | h1
        · exact h1
        · rcases List.mem_cons.1 ((h y).2 (by simp)) with h2 | h2
          · exact h2.symm
          · have := x1 y h2
            have := y1 x h1
            omega
      subst hxy
      rw [ih x2 y2 fun z => ?_]
      constructor
      · intro hz
        rcases List.mem_cons.1 ((h z).1 (by simp [hz])) with rfl | h1
        · exact absurd (x1 z hz) (by omega)
        · exact h1
      · intro hz
        rcases List.mem_cons.1 ((h z).2 (by simp [hz])) with rfl | h1
        · exact absurd (y1 z hz) (by omega)
        · exact h1
/-- what spare's OnDisk collects, ahead of its sort -/
def rawOn (L : LayD) (ms : List Mv) (d : Nat) : List (Nat × Nat) := (homeOn L d).filter (fun x => !(ms.any (atM x.1 x.2))) ++ (ms.filter fun m => m.to.disk == (d : Int)).map fun m => (m.g.toNat, m.p.toNat)
theorem rawOn_mem (ok : LayOk L) {ms : List Mv} (h : MvOk L ms) {d : Nat} (hd : d < L.disks) (x : Nat × Nat) : x ∈ rawOn L ms d ↔ x ∈ onL L ms d := by
  obtain ⟨g, i⟩ := x
  rw [onL_mem]
  unfold rawOn
  rw [List.mem_append, List.mem_filter, homeOn_mem ok hd, List.mem_map]
  have hany : ms.any (atM g i) = true ↔ ∃ m ∈ ms, m.g = g ∧ m.p = i := by
    rw [List.any_eq_true]
    constructor
    · rintro ⟨m, hm, hk⟩
      exact ⟨m, hm, by simpa [atM] using hk⟩
    · rintro ⟨m, hm, hk⟩
      exact ⟨m, hm, by simpa [atM] using hk⟩
  constructor
  · rintro (⟨⟨h1, h2, h3⟩, h4⟩ | ⟨m, hm, he⟩)
    · refine ⟨h1, h2, ?_⟩
      have hno : ms.find? (atM g i) = none := find_no.2 fun m hm hk => by
        rw [hany.2 ⟨m, hm, hk⟩] at h4
        cases h4
      unfold whereL
      rw [hno]
      show (hdisk L g i : Int) = d
      rw [h3]
    · obtain ⟨h1, h2⟩ := List.mem_filter.1 hm
      have h3 := h.is m h1
      unfold isP at h3
      simp only [Bool.and_eq_true, decide_eq_true_eq] at h3
      have e1 : m.g.toNat = g := congrArg Prod.fst he
      have e2 : m.p.toNat = i := congrArg Prod.snd he
      have hg : m.g = (g : Int) := by omega
      have hp : m.p = (i : Int) := by omega
      refine ⟨by omega, by omega, ?_⟩
      have hf : ms.find? (atM g i) = some m := (find_iff h.ord).2 ⟨h1, hg, hp⟩
      unfold whereL
      rw [hf]
      simpa using h2
  · rintro ⟨h1, h2, h3⟩
    unfold whereL at h3
    rcases hf : ms.find? (atM g i) with _ | m
    · rw [hf] at h3
      have h3' : (hdisk L g i : Int) = d := h3
      refine .inl ⟨⟨h1, h2, by omega⟩, ?_⟩
      rcases hb : ms.any (atM (g : Int) (i : Int)) with _ | _
      · rfl
      · obtain ⟨m, hm, hk⟩ := hany.1 hb
        exact absurd hk (find_no.1 hf m hm)
    · rw [hf] at h3
      obtain ⟨k1, k2, k3⟩ := (find_iff h.ord).1 hf
      exact .inr ⟨m, List.mem_filter.2 ⟨k1, by simpa using h3⟩, by rw [k2, k3]; rfl⟩
/-- the groups of what is collected differ -/
theorem rawOn_nd (ok : LayOk L) {ms : List Mv} (h : MvOk L ms) {d : Nat} (hd : d < L.disks) {x y : Nat × Nat} (hx : x ∈ rawOn L ms d) (hy : y ∈ rawOn L ms d) (he : x.1 = y.1) : x = y := by
  rw [rawOn_mem ok h hd] at hx hy
  obtain ⟨g, i⟩ := x
  obtain ⟨g', j⟩ := y
  simp only at he
  subst he
  obtain ⟨h1, h2, h3⟩ := onL_mem.1 hx
  obtain ⟨h4, h5, h6⟩ := onL_mem.1 hy
  by_cases hij : i = j
  · rw [hij]
  · exact absurd (h3.trans h6.symm) (apart_ne (apart_all ok h (g : Int)) h2 h5 hij)
end
end Go.Proofs.YteglnekkkhpikaaGreat
namespace Go.Proofs.YteglnekkkhpikaaGreat

/-! ### the disks of a group -/
def disksL (L : LayD) (ms : List Mv) (g : Int) : List Int := (List.range L.w).map fun (i : Nat) => (whereL L ms g i).disk
theorem apart_nodup {L : LayD} {ms : List Mv} {g : Int} : apartL L ms g = true ↔ (disksL L ms g).Nodup := by
  rw [apart_iff]
  unfold disksL
  show _ ↔ List.Pairwise (· ≠ ·) _
  rw [List.pairwise_map]
  constructor
  · intro h
    refine List.Pairwise.imp_of_mem (fun {a b} ha hb hab => ?_) List.pairwise_lt_range
    exact fun e => h b a (List.mem_range.1 hb) hab e.symm
  · intro h a b ha hb e
    have := List.pairwise_iff_getElem.1 h b a (by simp; omega) (by simpa using ha) hb
    simp only [List.getElem_range] at this
    exact this e.symm
theorem whereL_congr {L : LayD} {ms ms' : List Mv} {g p : Int} (h : ms.find? (atM g p) = ms'.find? (atM g p)) : whereL L ms g p = whereL L ms' g p := by unfold whereL; rw [h]
/-- ahead of the group's moves -/
theorem disks_start {L : LayD} {ms : List Mv} {g : Int} (h : ms.Pairwise ltM) (hp : ∀ m ∈ ms, 0 ≤ m.p) : disksL L (ms.take (posM ms g 0)) g = (List.range L.w).map fun (i : Nat) => (homeL L g.toNat i).disk := by
  unfold disksL
  refine List.map_congr_left fun i hi => ?_
  have : (ms.take (posM ms g 0)).find? (atM g i) = none := find_no.2 fun x hx hk => by
    have h1 := (pos_split (g := g) (p := 0) h).1 x hx
    rw [ord_neg] at h1
    have := hp x (List.mem_of_mem_take hx)
    omega
  unfold whereL
  rw [this]
  rfl
/-- one move of the group -/
theorem disks_step {L : LayD} {ms : List Mv} {g : Int} {k : Nat} {m : Mv} (h : ms.Pairwise ltM) (hm : ms[k]? = some m) (hg : m.g = g) {p : Nat} (hp : m.p = (p : Int)) : disksL L (ms.take (k + 1)) g = (disksL L (ms.take k) g).set p m.to.disk := by
  unfold disksL
  refine List.ext_getElem? fun i => ?_
  rw [List.getElem?_set, List.getElem?_map, List.getElem?_map, List.length_map, List.length_range]
  have ht : ms.take (k + 1) = ms.take k ++ [m] := by rw [List.take_add_one, hm]; rfl
  by_cases hi : i < L.w
  · rw [List.getElem?_range hi]
    simp only [Option.map_some]
    by_cases hip : p = i
    · subst hip
      rw [if_pos rfl, if_pos hi]
      congr 1
      have hsub : (ms.take (k + 1)).Pairwise ltM := List.Pairwise.sublist (List.take_sublist _ _) h
      have hf : (ms.take (k + 1)).find? (atM g p) = some m := (find_iff hsub).2 ⟨by rw [ht]; simp, hg, hp⟩
      unfold whereL
      rw [hf]
    · rw [if_neg hip]
      congr 2
      refine whereL_congr ?_
      rw [ht, List.find?_append]
      have : [m].find? (atM g i) = none := find_no.2 fun x hx hk => by
        have : x = m := by simpa using hx
        subst this
        omega
      rw [this]
      simp
  · rw [List.getElem?_eq_none (by simpa using hi)]
    simp only [Option.map_none]
    split
    · rename_i h1
      subst h1
      rw [if_neg hi]
    · rfl
/-- behind the group's moves -/
theorem disks_end {L : LayD} {ms : List Mv} {g : Int} {k : Nat} (h : ms.Pairwise ltM) (hp : ∀ m ∈ ms, 0 ≤ m.p) (hk : posM ms g 0 ≤ k) (hm : ∀ m, ms[k]? = some m → m.g ≠ g) : disksL L (ms.take k) g = disksL L ms g := by
  unfold disksL
  refine List.map_congr_left fun i hi => ?_
  congr 1
  refine whereL_congr ?_
  rcases hf : ms.find? (atM g i) with _ | x
  · exact find_no.2 fun y hy hk => find_no.1 hf y (List.mem_of_mem_take hy) hk
  · obtain ⟨h1, h2, h3⟩ := (find_iff h).1 hf
    have hsub : (ms.take k).Pairwise ltM := List.Pairwise.sublist (List.take_sublist _ _) h
    refine (find_iff hsub).2 ⟨?_, h2, h3⟩
    obtain ⟨j, hj⟩ := List.mem_iff_getElem?.1 h1
    rcases Nat.lt_or_ge j k with hlt | hge
    · exact List.mem_of_getElem? (i := j) (by rw [List.getElem?_take, if_pos hlt]; exact hj)
    · exfalso
      have hjl := (List.getElem?_eq_some_iff.1 hj).1
      obtain ⟨y, hy⟩ : ∃ y, ms[k]? = some y := ⟨ms[k]'(by omega), List.getElem?_eq_getElem _⟩
      have hyg := hm y hy
      have hyd : ¬ ordM g 0 y < 0 := (pos_split (g := g) (p := 0) h).2 y (List.mem_of_getElem? (i := k - posM ms g 0) (by rw [List.getElem?_drop]; rw [show posM ms g 0 + (k - posM ms g 0) = k by omega]; exact hy))
      rw [ord_neg] at hyd
      have hy0 := hp y (List.mem_of_getElem? hy)
      rcases Nat.lt_or_eq_of_le hge with hlt | rfl
      · have := List.pairwise_iff_getElem.1 h k j (List.getElem?_eq_some_iff.1 hy).1 hjl hlt
        rw [(List.getElem?_eq_some_iff.1 hy).2, (List.getElem?_eq_some_iff.1 hj).2] at this
        unfold ltM at this
        omega
      · rw [hy] at hj
        cases hj
        exact hyg h2

/-! ### valid, step by step -/
structure StepOk (L : LayD) (ms : List Mv) (i : Nat) (m : Mv) : Prop where
  is : isP L m.g m.p = true
  to : toOk L m.to = true
  ord : ∀ x, 0 < i → ms[i - 1]? = some x → ltM x m
  sep : ∀ j x, j < i → ms[j]? = some x → x.to ≠ m.to
theorem ltM_trans {a b c : Mv} (h1 : ltM a b) (h2 : ltM b c) : ltM a c := by unfold ltM at *; omega
theorem adj_pairwise {ms : List Mv} (h : ∀ i x y, ms[i]? = some x → ms[i + 1]? = some y → ltM x y) : ms.Pairwise ltM := by
  rw [List.pairwise_iff_getElem]
  intro i j hi hj hij
  induction j with
  | zero => omega
  | succ j ih =>
    have hlast := h j ms[j] ms[j + 1] (List.getElem?_eq_getElem (by omega)) (List.getElem?_eq_getElem hj)
    rcases Nat.lt_or_eq_of_le (Nat.le_of_lt_succ hij) with hlt | rfl
    · exact ltM_trans (ih (by omega) hlt) hlast
    · exact hlast
theorem valid_iff {L : LayD} {ms : List Mv} : validM L ms = true ↔ (∀ i m, ms[i]? = some m → StepOk L ms i m) ∧ ∀ m ∈ ms, apartL L ms m.g = true := by
  unfold validM
  rw [decide_eq_true_eq]
  constructor
  · intro h
    refine ⟨fun i m hm => ⟨h.is m (List.mem_of_getElem? hm), h.to m (List.mem_of_getElem? hm), fun x hi hx => ?_, fun j x hj hx => ?_⟩, h.apart⟩
    · have := List.pairwise_iff_getElem.1 h.ord (i - 1) i (List.getElem?_eq_some_iff.1 hx).1 (List.getElem?_eq_some_iff.1 hm).1 (by omega)
      rwa [(List.getElem?_eq_some_iff.1 hx).2, (List.getElem?_eq_some_iff.1 hm).2] at this
    · have := List.pairwise_iff_getElem.1 h.sep j i (List.getElem?_eq_some_iff.1 hx).1 (List.getElem?_eq_some_iff.1 hm).1 hj
      rwa [(List.getElem?_eq_some_iff.1 hx).2, (List.getElem?_eq_some_iff.1 hm).2] at this
  · rintro ⟨h, ha⟩
    refine ⟨fun m hm => ?_, fun m hm => ?_, adj_pairwise fun i x y hx hy => (h (i + 1) y hy).ord x (by omega) hx, ?_, ha⟩
    · obtain ⟨i, hi⟩ := List.mem_iff_getElem?.1 hm
      exact (h i m hi).is
    · obtain ⟨i, hi⟩ := List.mem_iff_getElem?.1 hm
      exact (h i m hi).to
    · rw [List.pairwise_iff_getElem]
      intro i j hi hj hij
      exact (h j ms[j] (List.getElem?_eq_getElem hj)).sep i ms[i] hij (List.getElem?_eq_getElem hi)
theorem valid_ok {L : LayD} {ms : List Mv} (h : validM L ms = true) : MvOk L ms := by unfold validM at h; simpa using h
theorem ok_valid {L : LayD} {ms : List Mv} (h : MvOk L ms) : validM L ms = true := by unfold validM; simpa using h
theorem ok_nil (L : LayD) : MvOk L [] := ⟨by simp, by simp, List.Pairwise.nil, List.Pairwise.nil, by simp⟩

/-! ### the best disk, as spare keeps it -/
def bestP (L : LayD) (ms : List Mv) (g : Int) (dead : List Bool) (k : Nat) : Int × Int := match bestTo L ms g dead k with | none => (-1, L.spare) | some (x, c) => (x, c)
theorem best_lt {L : LayD} {ms : List Mv} {g : Int} {dead : List Bool} {k d c : Nat} (h : bestTo L ms g dead k = some (d, c)) : c < L.spare := by
  obtain ⟨-, h2, rfl⟩ := best_spec h
  unfold okDisk at h2
  simp only [Bool.and_eq_true, decide_eq_true_eq] at h2
  exact h2.2
theorem bestP_step {L : LayD} {ms : List Mv} {g : Int} {dead : List Bool} {k : Nat} : bestP L ms g dead (k + 1) =
    if dead[k]?.getD false = false ∧ holdsL L ms g k = false ∧ ((usedL L ms k).length : Int) < (bestP L ms g dead k).2 then ((k : Int), ((usedL L ms k).length : Int)) else bestP L ms g dead k := by
  unfold bestP
  rw [bestTo]
  rcases hb : bestTo L ms g dead k with _ | ⟨x, c⟩
  · simp only
    unfold okDisk
    by_cases h : dead[k]?.getD false = false ∧ holdsL L ms g k = false ∧ ((usedL L ms k).length : Int) < (L.spare : Int)
    · rw [if_pos h, if_pos (by simp [h.1, h.2.1]; omega)]
    · rw [if_neg h, if_neg]
      intro h2
      simp only [Bool.and_eq_true, Bool.not_eq_true', decide_eq_true_eq] at h2
      exact h ⟨h2.1.1, h2.1.2, by omega⟩
  · simp only
    have hc := best_lt hb
    unfold okDisk
    by_cases h : dead[k]?.getD false = false ∧ holdsL L ms g k = false ∧ ((usedL L ms k).length : Int) < (c : Int)
    · rw [if_pos h, if_pos (by simp [h.1, h.2.1]; omega)]
    · rw [if_neg h, if_neg]
      intro h2
      simp only [Bool.and_eq_true, Bool.not_eq_true', decide_eq_true_eq] at h2
      exact h ⟨h2.1.1.1, h2.1.1.2, by omega⟩

/-! ### a return -/
def backM (m : Mv) : Mv := ⟨m.g, m.p, ⟨-1, m.to.block⟩⟩
def without (ms : List Mv) (g p : Int) : List Mv := ms.filter fun x => !(x.g == g && x.p == p)
theorem with_back (ms : List Mv) (m : Mv) : withM ms (backM m) = without ms m.g m.p := by
  unfold withM without
  have : ((backM m).to.disk == -1) = true := rfl
  rw [this, withL_true]
  rfl
theorem without_with (ms : List Mv) (m : Mv) : without (withM ms m) m.g m.p = without ms m.g m.p := by
  unfold withM without
  generalize (m.to.disk == -1) = put
  induction ms generalizing put with
  | nil => rw [withL]; cases put <;> simp [List.filter]
  | cons y ys ih =>
    rw [withL]
    split
    · rename_i hk
      rw [ih, List.filter_cons_of_neg (by simp [hk.1, hk.2])]
    · rename_i hk
      have hky : (!(y.g == m.g && y.p == m.p)) = true := by simp; omega
      have hcons : ∀ zs : List Mv, (y :: zs).filter (fun x => !(x.g == m.g && x.p == m.p)) = y :: zs.filter fun x => !(x.g == m.g && x.p == m.p) := fun zs => by rw [List.filter_cons, if_pos hky]
      split
      · rw [List.filter_cons_of_neg (by simp), hcons, ih, hcons]
      · rw [hcons, ih, hcons]
theorem without_len {ms : List Mv} {g p : Int} : (without ms g p).length = ms.length ↔ ∀ x ∈ ms, ¬ (x.g = g ∧ x.p = p) := by
  unfold without
  rw [List.length_filter_eq_length_iff]
  constructor
  · intro h x hx hk
    have := h x hx
    simp [hk.1, hk.2] at this
  · intro h x hx
    have := h x hx
    simp
    omega
theorem where_without {L : LayD} {ms : List Mv} (h : ms.Pairwise ltM) (g p a b : Int) : whereL L (without ms g p) a b = if a = g ∧ b = p then homeL L a.toNat b.toNat else whereL L ms a b := by
  have := where_with (L := L) h ⟨g, p, ⟨-1, 0⟩⟩ a b
  have hw : withM ms ⟨g, p, ⟨-1, 0⟩⟩ = without ms g p := with_back ms ⟨g, p, ⟨0, 0⟩⟩
  rw [hw] at this
  rw [this]
  simp
/-- the moves without a piece are valid, unless another piece of its group lies on its home disk -/
theorem without_ok {L : LayD} (ok : LayOk L) {ms : List Mv} (h : MvOk L ms) {g p : Nat} (hp : p < L.w) (hno : ∀ k : Nat, k < L.w → k ≠ p → (whereL L ms g k).disk ≠ (homeL L g p).disk) : MvOk L (without ms g p) := by
  have hs : (without ms (g : Int) (p : Int)).Sublist ms := List.filter_sublist
  refine ⟨fun m hm => h.is m (hs.mem hm), fun m hm => h.to m (hs.mem hm), h.ord.sublist hs, h.sep.sublist hs, fun m hm => apart_iff.2 fun a b ha hb => ?_⟩
  have hab := apart_iff.1 (apart_all ok h m.g) a b ha hb
  rw [where_without h.ord, where_without h.ord]
  split
  · rename_i h1
    rw [if_neg (by omega), h1.1]
    have e : a = p := by omega
    subst e
    exact fun e => hno b (by omega) (by omega) (by simpa using e.symm)
  · split
    · rename_i h2
      rw [h2.1]
      have e : b = p := by omega
      subst e
      exact fun e => hno a ha (by omega) (by simpa using e)
    · exact hab
/-- .. and if one does, they are not -/
theorem without_bad {L : LayD} (ok : LayOk L) {ms : List Mv} (h : MvOk L ms) {g p k : Nat} (hp : p < L.w) (hk : k < L.w) (hkp : k ≠ p) (he : (whereL L ms g k).disk = (homeL L g p).disk) : validM L (without ms g p) = false := by
  rcases hv : validM L (without ms (g : Int) (p : Int)) with _ | _
  · rfl
  · exfalso
    have hok := valid_ok hv
    have := apart_ne (apart_all ok hok (g : Int)) hp hk (by omega)
    rw [where_without h.ord, where_without h.ord, if_pos ⟨rfl, rfl⟩, if_neg (by omega)] at this
    exact this (by simpa using he.symm)
end Go.Proofs.YteglnekkkhpikaaGreat
namespace Go.Proofs.YteglnekkkhpikaaGreat

/-- the increasing lists of k numbers from lo on, below hi, in order -/
def comb (hi : Nat) : Nat → Nat → Nat → List (List Nat)
  | 0, _, _ => []
  | _ + 1, _, 0 => [[]]
  | f + 1, lo, k + 1 => if hi ≤ lo then [] else (comb hi f (lo + 1) k).map (lo :: ·) ++ comb hi f (lo + 1) (k + 1)
def compL (d k : Nat) : List (List Nat) := comb d (d + 2) 0 k
/-- the list that follows in Complete: the place that grows, counted from the right -/
def growAt (d k : Nat) (l : List Nat) : Nat → Option Nat
  | 0 => none
  | i + 1 => if l[i]?.getD 0 = d - k + i then growAt d k l i else some i
def nextC (d k : Nat) (l : List Nat) : Option (List Nat) := (growAt d k l k).map fun i => (l.take i) ++ (List.range (k - i)).map fun j => l[i]?.getD 0 + 1 + j
def chainC (d k : Nat) : List (List Nat) → Bool
  | [] => false
  | [x] => nextC d k x == none
  | x :: y :: r => nextC d k x == some y && chainC d k (y :: r)
/-- the coordinates of the plane of size 3 -/
def coord3 : List (Nat × Nat × Nat) := (List.range 3).flatMap fun x => (List.range 3).flatMap fun y => (List.range 3).filterMap fun z => if x = 1 ∨ (x = 0 ∧ y = 1) ∨ (x = 0 ∧ y = 0 ∧ z = 1) then some (x, y, z) else none
def dot3 (a b : Nat × Nat × Nat) : Nat := (a.1 * b.1 % 3 + a.2.1 * b.2.1 % 3 + a.2.2 * b.2.2 % 3) % 3
def proj3 : List (List Nat) := coord3.map fun a => (List.range 13).filter fun k => dot3 a (coord3[k]?.getD (0, 0, 0)) == 0
/-- what is wanted of a design: disks, width, how many groups have a disk, and two disks -/
def desB (d w r lam : Nat) (gs : List (List Nat)) : Bool :=
  decide (1 ≤ gs.length) && gs.all (fun g => g.length == w && decide (g.Pairwise (· < ·)) && g.all fun x => decide (x < d)) &&
    (List.range d).all fun a => (gs.countP fun g => g.contains a) == r && (List.range d).all fun b => a == b || (gs.countP fun g => g.contains a && g.contains b) == lam
def smallDes (k : Nat) : Nat × List (List Nat) :=
  if k % 8 < 3 then (5, compL 5 4) else if k % 8 = 3 then (6, compL 6 4) else if k % 8 = 4 then (6, compL 6 5)
  else if k % 8 = 5 then (if k / 8 % 2 = 0 then (4, compL 4 4) else (5, compL 5 5)) else if k % 8 = 6 then (13, proj3) else (7, compL 7 5)
def smallL (n : Nat) : LayD := ⟨(smallDes n).1, (smallDes n).2, 1 + n / 16 % 5, n / 80 % 8⟩
theorem des_lay {d w r lam t s : Nat} {gs : List (List Nat)} (h : desB d w r lam gs = true) (hd : 2 ≤ d ∧ d ≤ 60) (hw : 4 ≤ w ∧ w ≤ 16) (hn : gs.length ≤ 30) (hr : r ≤ 30) (ht : 1 ≤ t ∧ t ≤ 5) (hs : s ≤ 1000) :
    LayOk ⟨d, gs, t, s⟩ ∧ (⟨d, gs, t, s⟩ : LayD).w = w ∧ (⟨d, gs, t, s⟩ : LayD).r = r := by
  unfold desB at h
  simp only [Bool.and_eq_true, List.all_eq_true, decide_eq_true_eq, beq_iff_eq, List.mem_range, Bool.or_eq_true] at h
  obtain ⟨⟨h1, h2⟩, h3⟩ := h
  have hW : (⟨d, gs, t, s⟩ : LayD).w = w := by
    unfold LayD.w
    cases gs with
    | nil => simp at h1
    | cons g gs => exact (h2 g (by simp)).1.1
  have hR : (⟨d, gs, t, s⟩ : LayD).r = r := (h3 0 (by omega)).1
  have hG : (⟨d, gs, t, s⟩ : LayD).G ≤ 150 := by
    show t * gs.length ≤ 150
    exact Nat.le_trans (Nat.mul_le_mul ht.2 hn) (by decide)
  refine ⟨⟨hd, ⟨h1, Nat.le_trans hn (by decide)⟩, fun g hg => ?_, fun g hg => (h2 g hg).1.2, fun g hg x hx => (h2 g hg).2 x hx, fun a ha => ?_, by rw [hW]; exact hw, ⟨ht.1, Nat.le_trans ht.2 (by decide)⟩, by omega, ?_, ?_⟩, hW, hR⟩
  · rw [hW]; exact (h2 g hg).1.1
  · rw [hR]; exact (h3 a ha).1
  · rw [hW]
    exact Nat.le_trans (Nat.mul_le_mul hG (show w - 3 ≤ 13 by omega)) (by decide)
  · unfold LayD.blocks LayD.homes
    rw [hR]
    have : t * r ≤ 5 * 30 := Nat.mul_le_mul ht.2 hr
    simp only
    omega
theorem des_54 : desB 5 4 4 3 (compL 5 4) = true := by decide +kernel
theorem des_64 : desB 6 4 10 6 (compL 6 4) = true := by decide +kernel
theorem des_65 : desB 6 5 5 4 (compL 6 5) = true := by decide +kernel
theorem des_44 : desB 4 4 1 1 (compL 4 4) = true := by decide +kernel
theorem des_55 : desB 5 5 1 1 (compL 5 5) = true := by decide +kernel
theorem des_75 : desB 7 5 15 10 (compL 7 5) = true := by decide +kernel
theorem des_p3 : desB 13 4 4 1 proj3 = true := by decide +kernel
theorem chain_54 : chainC 5 4 (compL 5 4) = true := by decide +kernel
theorem chain_64 : chainC 6 4 (compL 6 4) = true := by decide +kernel
theorem chain_65 : chainC 6 5 (compL 6 5) = true := by decide +kernel
theorem chain_44 : chainC 4 4 (compL 4 4) = true := by decide +kernel
theorem chain_55 : chainC 5 5 (compL 5 5) = true := by decide +kernel
theorem chain_75 : chainC 7 5 (compL 7 5) = true := by decide +kernel
/-- the seven designs: width, groups with a disk, groups with two disks -/
theorem small_des (n : Nat) : ∃ w r lam, desB (smallDes n).1 w r lam (smallDes n).2 = true ∧ 4 ≤ w ∧ w ≤ 5 ∧ r ≤ 15 ∧ 1 ≤ lam ∧ lam ≤ 10 ∧ (smallDes n).2.length ≤ 21 ∧ 4 ≤ (smallDes n).1 ∧ (smallDes n).1 ≤ 13 := by
  unfold smallDes
  split
  · exact ⟨4, 4, 3, des_54, by decide⟩
  · split
    · exact ⟨4, 10, 6, des_64, by decide +kernel⟩
    · split
      · exact ⟨5, 5, 4, des_65, by decide⟩
      · split
        · split
          · exact ⟨4, 1, 1, des_44, by decide⟩
          · exact ⟨5, 1, 1, des_55, by decide⟩
        · split
          · exact ⟨4, 4, 1, des_p3, by decide +kernel⟩
          · exact ⟨5, 15, 10, des_75, by decide +kernel⟩
theorem small_ok (n : Nat) : LayOk (smallL n) := by
  obtain ⟨w, r, lam, h1, h2, h3, h4, -, -, h5, h6, h7⟩ := small_des n
  exact (des_lay h1 ⟨by omega, by omega⟩ ⟨h2, by omega⟩ (by omega) (by omega) (t := 1 + n / 16 % 5) (s := n / 80 % 8) ⟨by omega, by omega⟩ (by omega)).1
end Go.Proofs.YteglnekkkhpikaaGreat
namespace Go.Proofs.YteglnekkkhpikaaGreat

def incF (f : Nat → Nat → Nat) (x : Nat × Nat) : Nat → Nat → Nat := fun a b => if a = x.1 ∧ b = x.2 then f a b + 1 else f a b
/-- the pairs of a row, in the order of the two loops -/
def prodP (l : List Nat) : List (Nat × Nat) := l.flatMap fun x => l.map fun y => (x, y)
/-- .. those ahead of place i, k -/
def prodTo (l : List Nat) (i k : Nat) : List (Nat × Nat) := ((l.take i).flatMap fun x => l.map fun y => (x, y)) ++ (l.take k).map fun y => (l[i]?.getD 0, y)
theorem prodTo_next {l : List Nat} {i k : Nat} {x y : Nat} (hx : l[i]? = some x) (hy : l[k]? = some y) : prodTo l i (k + 1) = prodTo l i k ++ [(x, y)] := by
  unfold prodTo
  rw [List.take_add_one, hy, hx, List.append_assoc]
  simp
theorem prodTo_row {l : List Nat} {i : Nat} (hi : i < l.length) : prodTo l i l.length = prodTo l (i + 1) 0 := by
  unfold prodTo
  rw [List.take_length, List.take_add_one, List.getElem?_eq_getElem hi, List.flatMap_append]
  simp
theorem prodTo_all (l : List Nat) : prodTo l l.length 0 = prodP l := by unfold prodTo prodP; simp
theorem prodTo_zero (l : List Nat) : prodTo l 0 0 = [] := by unfold prodTo; simp
theorem fold_inc (ps : List (Nat × Nat)) : ∀ f a b, ps.foldl incF f a b = f a b + ps.count (a, b) := by
  induction ps with
  | nil => intro f a b; rfl
  | cons p ps ih =>
    intro f a b
    rw [List.foldl_cons, ih, List.count_cons]
    unfold incF
    by_cases h : a = p.1 ∧ b = p.2
    · rw [if_pos h]
      have : (p == (a, b)) = true := by rw [beq_iff_eq]; exact Prod.ext h.1.symm h.2.symm
      rw [this]
      simp
      omega
    · rw [if_neg h]
      have : (p == (a, b)) = false := by
        rw [beq_eq_false_iff_ne]
        rintro rfl
        exact h ⟨rfl, rfl⟩
      rw [this]
      simp
theorem count_map (l : List Nat) (x a b : Nat) : (l.map fun y => (x, y)).count (a, b) = if x = a then l.count b else 0 := by
  induction l with
  | nil => simp
  | cons y l ih =>
    rw [List.map_cons, List.count_cons, ih, List.count_cons]
    by_cases hx : x = a
    · subst hx
      by_cases hy : y = b
      · subst hy; simp
      · have : ((x, y) == (x, b)) = false := by rw [beq_eq_false_iff_ne]; intro e; exact hy (congrArg Prod.snd e)
        simp [this, hy]
    · have : ((x, y) == (a, b)) = false := by rw [beq_eq_false_iff_ne]; intro e; exact hx (congrArg Prod.fst e)
      simp [this, hx]
theorem count_prod (l : List Nat) (a b : Nat) : (prodP l).count (a, b) = l.count a * l.count b := by
  have key : ∀ m : List Nat, (m.flatMap fun x => l.map fun y => (x, y)).count (a, b) = m.count a * l.count b := by
    intro m
    induction m with
    | nil => simp
    | cons x m ih =>
      rw [List.flatMap_cons, List.count_append, ih, count_map, List.count_cons]
      by_cases hx : x = a
      · subst hx
        simp [Nat.add_mul, Nat.add_comm]
      · simp [hx]
  exact key l
theorem count_inc {l : List Nat} (h : l.Pairwise (· < ·)) (a : Nat) : l.count a = if l.contains a then 1 else 0 := by
  have hn : l.Nodup := List.Pairwise.imp (fun h => by omega) h
  by_cases ha : a ∈ l
  · rw [if_pos (by simpa using ha)]
    clear h
    induction l with
    | nil => cases ha
    | cons x l ih =>
      obtain ⟨n1, n2⟩ := List.nodup_cons.1 hn
      rw [List.count_cons]
      by_cases hx : x = a
      · subst hx
        rw [List.count_eq_zero_of_not_mem n1]
        simp
      · have := ih n2 (by rcases List.mem_cons.1 ha with h | h; exact absurd h.symm hx; exact h)
        simp [this, hx]
  · rw [if_neg (by simpa using ha)]
    exact List.count_eq_zero_of_not_mem ha
/-- the pairs of the first k groups -/
def pairTo (gs : List (List Nat)) (k : Nat) : Nat → Nat → Nat := fun a b => (gs.take k).countP fun g => g.contains a && g.contains b
theorem pair_next {gs : List (List Nat)} {k : Nat} {l : List Nat} (hl : gs[k]? = some l) (hi : l.Pairwise (· < ·)) : (prodP l).foldl incF (pairTo gs k) = pairTo gs (k + 1) := by
  funext a b
  rw [fold_inc, count_prod, count_inc hi, count_inc hi]
  unfold pairTo
  rw [List.take_add_one, hl, List.countP_append]
  simp only [Option.toList_some, List.countP_cons, List.countP_nil, Nat.zero_add]
  congr 1
  rcases l.contains a with _ | _ <;> rcases l.contains b with _ | _ <;> rfl
theorem pair_zero (gs : List (List Nat)) : pairTo gs 0 = fun _ _ => 0 := by funext a b; simp [pairTo]
theorem pair_bd (gs : List (List Nat)) (k a b : Nat) : pairTo gs k a b ≤ k := by
  unfold pairTo
  exact Nat.le_trans List.countP_le_length (by rw [List.length_take]; omega)
/-- at the end -/
theorem pair_all {d w r lam : Nat} {gs : List (List Nat)} (h : desB d w r lam gs = true) {a b : Nat} (ha : a < d) (hb : b < d) : pairTo gs gs.length a b = if a = b then r else lam := by
  unfold desB at h
  simp only [Bool.and_eq_true, List.all_eq_true, decide_eq_true_eq, beq_iff_eq, List.mem_range, Bool.or_eq_true] at h
  obtain ⟨-, h3⟩ := h
  obtain ⟨h4, h5⟩ := h3 a ha
  unfold pairTo
  rw [List.take_length]
  split
  · rename_i he
    subst he
    rw [← h4]
    congr 1
    funext g
    simp
  · rename_i hne
    rcases h5 b hb with h | h
    · exact absurd h hne
    · exact h
end Go.Proofs.YteglnekkkhpikaaGreat
namespace Go.Proofs.YteglnekkkhpikaaGreat

/-- the disk of a piece lists its group once -/
theorem on_one {L : LayD} (ok : LayOk L) {ms : List Mv} (h : MvOk L ms) {g i : Nat} (hg : g < L.G) (hi : i < L.w) : (onL L ms (whereL L ms g i).disk).filter (fun x => x.1 == g) = [(g, i)] := by
  refine inc_eq2 (List.Pairwise.filter _ (onL_inc ok h _)) (List.pairwise_singleton _ _) fun x => ?_
  rw [List.mem_filter, List.mem_singleton]
  obtain ⟨a, b⟩ := x
  rw [onL_mem]
  constructor
  · rintro ⟨⟨-, h2, h3⟩, h4⟩
    have e : a = g := by simpa using h4
    subst e
    by_cases hb : b = i
    · rw [hb]
    · exact absurd h3 (apart_ne (apart_all ok h (a : Int)) h2 hi hb)
  · intro e
    cases e
    exact ⟨⟨hg, hi, rfl⟩, by simp⟩
theorem apply_ok {L : LayD} {ms out : List Mv} {m : Mv} (h : applyL L ms m = (out, 0)) : isP L m.g m.p = true ∧ out = withM ms m ∧ MvOk L out ∧ ¬ (m.to.disk = -1 ∧ (withM ms m).length = ms.length) := by
  unfold applyL at h
  split at h
  · cases h
  · rename_i hp
    split at h
    · cases h
    · rename_i hn
      split at h
      · rename_i hv
        cases h
        exact ⟨by simpa using hp, rfl, valid_ok hv, hn⟩
      · cases h
theorem apply_err {L : LayD} {ms out : List Mv} {m : Mv} {e : Int} (h : applyL L ms m = (out, e)) (he : e ≠ 0) : out = [] := by
  unfold applyL at h
  split at h
  · exact (congrArg Prod.fst h).symm
  · split at h
    · exact (congrArg Prod.fst h).symm
    · split at h
      · exact absurd (congrArg Prod.snd h).symm he
      · exact (congrArg Prod.fst h).symm
theorem isP_nat {L : LayD} {g p : Int} (h : isP L g p = true) : ∃ a b : Nat, g = a ∧ p = b ∧ a < L.G ∧ b < L.w := by
  unfold isP at h
  simp only [Bool.and_eq_true, decide_eq_true_eq] at h
  exact ⟨g.toNat, p.toNat, by omega, by omega, by omega, by omega⟩
/-- a move back of a piece that lies at home -/
theorem back_none {L : LayD} {ms : List Mv} {m : Mv} (hp : isP L m.g m.p = true) (hno : ∀ x ∈ ms, ¬ (x.g = m.g ∧ x.p = m.p)) : applyL L ms (backM m) = ([], 9) := by
  unfold applyL
  rw [if_neg (by show ¬ isP L m.g m.p = false; rw [hp]; simp), if_pos ⟨rfl, by rw [with_back]; exact without_len.2 hno⟩]
theorem without_no (ms : List Mv) (g p : Int) : ∀ x ∈ without ms g p, ¬ (x.g = g ∧ x.p = p) := fun x hx hk => by
  have := (List.mem_filter.1 hx).2
  simp [hk.1, hk.2] at this
/-- a return, by itself -/
theorem ret_self {L : LayD} {ms out : List Mv} {m : Mv} (h : applyL L ms m = (out, 0)) (hms : ms.Pairwise ltM) (hd : m.to.disk = -1) :
    out = without ms m.g m.p ∧ whereL L out m.g m.p = homeL L m.g.toNat m.p.toNat ∧ applyL L out (backM m) = ([], 9) := by
  obtain ⟨hp, rfl, -, -⟩ := apply_ok h
  have hw : withM ms m = without ms m.g m.p := by
    unfold withM without
    rw [hd, show ((-1 : Int) == -1) = true from rfl, withL_true]
  rw [hw]
  exact ⟨rfl, by rw [where_without hms, if_pos ⟨rfl, rfl⟩], back_none hp (without_no _ _ _)⟩
/-- a return, behind a move -/
theorem ret_back {L : LayD} (ok : LayOk L) {ms out : List Mv} {m : Mv} (h : applyL L ms m = (out, 0)) (hms : ms.Pairwise ltM) (hd : m.to.disk ≠ -1) :
    applyL L out (backM m) = (if (List.range L.w).any (fun (k : Nat) => !((k : Int) == m.p) && (whereL L out m.g k).disk == (homeL L m.g.toNat m.p.toNat).disk) then ([], 1) else (without ms m.g m.p, 0)) ∧
      whereL L (without ms m.g m.p) m.g m.p = homeL L m.g.toNat m.p.toNat ∧ applyL L (without ms m.g m.p) (backM m) = ([], 9) := by
  obtain ⟨hp, rfl, hok, -⟩ := apply_ok h
  refine ⟨?_, by rw [where_without hms, if_pos ⟨rfl, rfl⟩], back_none hp (without_no _ _ _)⟩
  have hwb : withM (withM ms m) (backM m) = without ms m.g m.p := by rw [with_back, without_with]
  have hin : m ∈ withM ms m := (withL_mem m ms _ m).2 (.inr ⟨by simpa using hd, rfl⟩)
  have hlen : ¬ (without ms m.g m.p).length = (withM ms m).length := by
    rw [← without_with ms m]
    intro e
    exact without_len.1 e m hin ⟨rfl, rfl⟩
  obtain ⟨g, p, hg, hpp, hgl, hpl⟩ := isP_nat hp
  unfold applyL
  rw [if_neg (by show ¬ isP L m.g m.p = false; rw [hp]; simp), hwb, if_neg (fun e => hlen e.2)]
  have hwo : without ms m.g m.p = without (withM ms m) (g : Int) (p : Int) := by rw [← hg, ← hpp, without_with]
  rcases hany : (List.range L.w).any (fun (k : Nat) => !((k : Int) == m.p) && (whereL L (withM ms m) m.g k).disk == (homeL L m.g.toNat m.p.toNat).disk) with _ | _
  · rw [if_pos]
    · simp
    · rw [hwo]
      refine ok_valid (without_ok ok hok hpl fun k hk hkp he => ?_)
      rw [List.any_eq_false] at hany
      refine hany k (List.mem_range.2 hk) ?_
      have e1 : ((k : Int) == m.p) = false := by rw [beq_eq_false_iff_ne]; omega
      rw [e1, hg, hpp]
      simpa using he
  · rw [if_neg]
    · simp
    · rw [hwo]
      obtain ⟨k, hk, hkk⟩ := List.any_eq_true.1 hany
      simp only [Bool.and_eq_true, Bool.not_eq_true', beq_eq_false_iff_ne, beq_iff_eq] at hkk
      have := without_bad ok hok (g := g) (p := p) (k := k) hpl (List.mem_range.1 hk) (by omega) (by rw [hg, hpp] at hkk; simpa using hkk.2)
      rw [this]
      simp
end Go.Proofs.YteglnekkkhpikaaGreat
namespace Go.Proofs.YteglnekkkhpikaaGreat

def deadAt (D d : Nat) : List Bool := (List.replicate D false).set d true
/-- the move that a byte describes -/
def byteMv (L : LayD) (ms : List Mv) (x : Nat) : Mv :=
  ⟨((x * 7 % (L.G * L.w) / L.w : Nat) : Int), ((x * 7 % (L.G * L.w) % L.w : Nat) : Int), (chooseL L ms ((x * 7 % (L.G * L.w) / L.w : Nat) : Int) (deadAt L.disks (x / 2 % L.disks))).getD ⟨-1, 0⟩⟩
def movesStep (L : LayD) (ms : List Mv) (x : Nat) : List Mv := if (applyL L ms (byteMv L ms x)).2 = 0 then (applyL L ms (byteMv L ms x)).1 else ms
def movesL (L : LayD) (raw : List Nat) : List Mv := raw.foldl (movesStep L) []
theorem moves_step_ok {L : LayD} {ms : List Mv} (h : MvOk L ms) (x : Nat) : MvOk L (movesStep L ms x) := by
  unfold movesStep
  split
  · rename_i he
    exact (apply_ok (Prod.ext rfl he : applyL L ms (byteMv L ms x) = ((applyL L ms (byteMv L ms x)).1, 0))).2.2.1
  · exact h
theorem moves_ok (L : LayD) (raw : List Nat) : MvOk L (movesL L raw) := by
  have : ∀ (raw : List Nat) (ms : List Mv), MvOk L ms → MvOk L (raw.foldl (movesStep L) ms) := by
    intro raw
    induction raw with
    | nil => intro ms h; exact h
    | cons x raw ih =>
      intro ms h
      rw [List.foldl_cons]
      exact ih _ (moves_step_ok h x)
  exact this raw [] (ok_nil L)
theorem moves_take {L : LayD} {raw : List Nat} {k x : Nat} (h : raw[k]? = some x) : movesL L (raw.take (k + 1)) = movesStep L (movesL L (raw.take k)) x := by
  unfold movesL
  rw [List.take_add_one, h, List.foldl_append]
  rfl
theorem withL_len (m : Mv) : ∀ (xs : List Mv) (put : Bool), (withL m put xs).length ≤ xs.length + 1 := by
  intro xs
  induction xs with
  | nil => intro put; rw [withL]; cases put <;> simp
  | cons y ys ih =>
    intro put
    rw [withL]
    split
    · have := ih put
      rw [List.length_cons]
      omega
    · split
      · rw [withL_true]
        have := List.length_filter_le (fun x : Mv => !(x.g == m.g && x.p == m.p)) ys
        simp only [List.length_cons]
        omega
      · have := ih put
        simp only [List.length_cons]
        omega
theorem moves_len (L : LayD) (raw : List Nat) : (movesL L raw).length ≤ raw.length := by
  have : ∀ (raw : List Nat) (ms : List Mv), (raw.foldl (movesStep L) ms).length ≤ ms.length + raw.length := by
    intro raw
    induction raw with
    | nil => intro ms; simp
    | cons x raw ih =>
      intro ms
      rw [List.foldl_cons]
      have h1 := ih (movesStep L ms x)
      have h2 : (movesStep L ms x).length ≤ ms.length + 1 := by
        unfold movesStep
        split
        · unfold applyL
          split
          · simp
          · split
            · simp
            · split
              · exact withL_len _ _ _
              · simp
        · omega
      rw [List.length_cons]
      omega
  have := this raw []
  simpa [movesL] using this
/-- the dead disks of a law: the bits of a number, at most three -/
def marksTo (which : Nat) : Nat → List Bool × Nat
  | 0 => ([], 0)
  | d + 1 => let (l, n) := marksTo which d; if d < 16 ∧ which.testBit d = true ∧ n < 3 then (l ++ [true], n + 1) else (l ++ [false], n)
def marksL (D which : Nat) : List Bool := (marksTo which D).1
theorem marks_len (which D : Nat) : (marksTo which D).1.length = D := by
  induction D with
  | zero => rfl
  | succ D ih =>
    rw [marksTo]
    simp only
    split <;> simp [ih]
end Go.Proofs.YteglnekkkhpikaaGreat
