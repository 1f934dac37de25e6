/- Words for memory and events: slices that read as lists of rows. Plain definitions and lemmas; nothing of the program is walked here. -/
import Derived.Test.YtcgbnlhloopnfaaRows
import Derived.WalkKit
import Derived.WalkSpells
import Derived.WalkLawsBesides
import Derived.Lib.Hide
import Derived.Below
import Derived.Laws.OwnMore
import Derived.Deep.Draws
namespace Go.Proofs.Ytcgbnlhloopnfaa
open Go.RowKit

/-! ### events and operations as data -/
structure Ev where
  kind : Int
  op : Int
  write : Bool
  reg : Int
  val : Int
  barrier : Bool
  deriving DecidableEq

def Ev.cells (e : Ev) : List Value := [.int .i64 e.kind, .int .i64 e.op, .bool e.write, .int .i64 e.reg, .int .i64 e.val, .bool e.barrier]
def Ev.agg (e : Ev) : Value := .agg #[.int .i64 e.kind, .int .i64 e.op, .bool e.write, .int .i64 e.reg, .int .i64 e.val, .bool e.barrier]

structure Opr where
  id : Int
  reg : Int
  val : Int
  write : Bool
  barrier : Bool
  era : Int
  call : Int
  done : Int
  deriving DecidableEq

def Opr.cells (o : Opr) : List Value := [.int .i64 o.id, .int .i64 o.reg, .int .i64 o.val, .bool o.write, .bool o.barrier, .int .i64 o.era, .int .i64 o.call, .int .i64 o.done]
def Opr.agg (o : Opr) : Value := .agg #[.int .i64 o.id, .int .i64 o.reg, .int .i64 o.val, .bool o.write, .bool o.barrier, .int .i64 o.era, .int .i64 o.call, .int .i64 o.done]

@[simp] theorem Ev.cells_length (e : Ev) : e.cells.length = 6 := rfl
@[simp] theorem Opr.cells_length (e : Opr) : e.cells.length = 8 := rfl

/-! ### a slice that reads as rows -/
def RdS (w : World) (B size : Nat) (A : Option Addr) (rows : List (List Value)) : Prop :=
  (∀ r ∈ rows, r.length = size) ∧ (0 < rows.length → ∃ b off, A = some ⟨b, off, none⟩ ∧ b < B ∧
    ∀ i r, rows[i]? = some r → ∀ j v, r[j]? = some v → w.cell? ⟨b, off + i * size + j, none⟩ = some v)

section
variable {w w' : World} {B B' size : Nat} {A : Option Addr} {rows : List (List Value)}
theorem RdS.nil (w : World) (B size : Nat) (A : Option Addr) : RdS w B size A [] := ⟨by simp, fun h => absurd h (by simp)⟩
theorem RdS.keep (h : RdS w B size A rows) (hk : ∀ p : Addr, p.block < B → w'.cell? p = w.cell? p) : RdS w' B size A rows :=
  ⟨h.1, fun hn => by
    obtain ⟨b, off, e, hb, hc⟩ := h.2 hn
    exact ⟨b, off, e, hb, fun i r hr j v hv => (hk ⟨b, off + i * size + j, none⟩ hb).trans (hc i r hr j v hv)⟩⟩
theorem RdS.more (h : RdS w B size A rows) (hB : B ≤ B') : RdS w B' size A rows :=
  ⟨h.1, fun hn => by
    obtain ⟨b, off, e, hb, hc⟩ := h.2 hn
    exact ⟨b, off, e, by omega, hc⟩⟩
theorem RdS.below (h : RdS w B size A rows) (hb : Below B w w') : RdS w' B size A rows := h.keep fun _ hp => hb.cell hp
theorem RdS.below' {C : Nat} (h : RdS w B size A rows) (hb : Below C w w') (hBC : B ≤ C) : RdS w' B size A rows := h.keep fun _ hp => hb.cell (by omega)
theorem RdS.grown (h : RdS w B size A rows) {row : Option Nat} (hg : w.grownBy w' row) (hB : B ≤ w.heap.size) (hr : ∀ g, row = some g → B ≤ g) : RdS w' B size A rows :=
  h.keep fun p hp => World.cell?_of_block (hg.block p.block (by omega) (fun e => by have := hr _ e.symm; omega))
theorem RdS.take (h : RdS w B size A rows) (n : Nat) : RdS w B size A (rows.take n) :=
  ⟨fun r hr => h.1 r (List.mem_of_mem_take hr), fun hn => by
    obtain ⟨b, off, e, hb, hc⟩ := h.2 (by rw [List.length_take] at hn; omega)
    refine ⟨b, off, e, hb, fun i r hr j v hv => hc i r ?_ j v hv⟩
    rw [List.getElem?_take] at hr
    split at hr
    · exact hr
    · cases hr⟩

theorem flatten_get {rows : List (List Value)} (hs : ∀ r ∈ rows, r.length = size) : ∀ (i : Nat) (r : List Value), rows[i]? = some r → ∀ (j : Nat) (v : Value), r[j]? = some v → rows.flatten[i * size + j]? = some v := by
  induction rows with
  | nil => intro i r hr; simp at hr
  | cons x xs ih =>
    intro i r hr j v hv
    have hx : x.length = size := hs x (by simp)
    have hxs : ∀ r ∈ xs, r.length = size := fun r hr => hs r (by simp [hr])
    cases i with
    | zero =>
      simp at hr
      subst hr
      have hj : j < x.length := (List.getElem?_eq_some_iff.1 hv).1
      simp only [List.flatten_cons, Nat.zero_mul, Nat.zero_add]
      rw [List.getElem?_append_left hj]
      exact hv
    | succ i =>
      simp at hr
      have := ih hxs i r hr j v hv
      simp only [List.flatten_cons]
      rw [List.getElem?_append_right (by rw [hx, Nat.add_mul]; omega)]
      rw [show (i + 1) * size + j - x.length = i * size + j by rw [hx, Nat.add_mul]; omega]
      exact this

theorem flatten_length {rows : List (List Value)} (hs : ∀ r ∈ rows, r.length = size) : rows.flatten.length = rows.length * size := by
  induction rows with
  | nil => simp
  | cons x xs ih =>
    have hx : x.length = size := hs x (by simp)
    have := ih (fun r hr => hs r (by simp [hr]))
    simp only [List.flatten_cons, List.length_append, List.length_cons, this, hx, Nat.add_mul]
    omega

/-- A slice of the call's own that reads as rows. -/
def OwS (w : World) (base : Nat) (e : TypeId) (size : Nat) (v : Value) (rows : List (List Value)) : Prop :=
  (∀ r ∈ rows, r.length = size) ∧ w.ownsRow base e size v rows.length rows.flatten
theorem OwS.nil (w : World) (base : Nat) (e : TypeId) (size : Nat) : OwS w base e size (.slice none 0 0) [] := ⟨by simp, World.ownsRow_nil _ _ _ _⟩
theorem OwS.kept {base : Nat} {e : TypeId} {v : Value} (h : OwS w base e size v rows) {row : Option Nat} (hg : w.grownBy w' row) (hne : v.ownBlock = none ∨ v.ownBlock ≠ row) : OwS w' base e size v rows :=
  ⟨h.1, h.2.kept hg hne⟩
theorem OwS.alloc {base : Nat} {e : TypeId} {v : Value} (h : OwS w base e size v rows) (o : Obj) : OwS (w.alloc o) base e size v rows := ⟨h.1, h.2.alloc o⟩
theorem OwS.below {base : Nat} {e : TypeId} {v : Value} (h : OwS w base e size v rows) (hb : Below w.heap.size w w') : OwS w' base e size v rows :=
  h.kept (row := none) ⟨hb.os, hb.tape, hb.output, hb.size, fun k hk _ => hb.block k hk⟩ (by cases v.ownBlock <;> simp)
/-- Its form: nil, or a block from base on. -/
theorem OwS.form {base : Nat} {e : TypeId} {v : Value} (h : OwS w base e size v rows) : ∃ A c, v = .slice A rows.length c ∧ rows.length ≤ c ∧ c ≤ maxLen := by
  rcases h.2.2 with ⟨rfl, hn⟩ | ⟨g, cap, cur, rfl, hb, hh, hnc, hcm, _⟩
  · exact ⟨none, 0, by rw [hn], by omega, Nat.zero_le _⟩
  · exact ⟨_, _, rfl, hnc, hcm⟩
theorem OwS.reads {base : Nat} {e : TypeId} {A : Option Addr} {n c : Nat} (h : OwS w base e size (.slice A n c) rows) : RdS w w.heap.size size A rows := by
  refine ⟨h.1, fun hn => ?_⟩
  obtain ⟨hs, hl, ho⟩ := h
  rcases ho with ⟨hv, h0⟩ | ⟨g, cap, cur, hv, hb, hh, hnc, hcm, hsz, ht⟩
  · omega
  · injection hv with h1 h2 h3
    subst h1
    refine ⟨g, 0, rfl, (Array.getElem?_eq_some_iff.1 hh).1, fun i r hr j v hjv => ?_⟩
    have := flatten_get hs i r hr j v hjv
    rw [cell_of_row w g _ cur e (0, 0) hh]
    rw [← ht, List.getElem?_take] at this
    split at this
    · simpa using this
    · cases this
end

/-! ### events -/
abbrev EvS (w : World) (B : Nat) (A : Option Addr) (l : List Ev) : Prop := RdS w B 6 A (l.map Ev.cells)
abbrev OpS (w : World) (B : Nat) (A : Option Addr) (l : List Opr) : Prop := RdS w B 8 A (l.map Opr.cells)
def icell (x : Int) : List Value := [.int .i64 x]
abbrev IntS (w : World) (B : Nat) (A : Option Addr) (l : List Int) : Prop := RdS w B 1 A (l.map icell)

section
variable {w : World} {B : Nat} {A : Option Addr}
theorem EvS.at_ {l : List Ev} (h : EvS w B A l) {k : Nat} (hk : k < l.length) : ∃ b off, ∃ e : Ev, A = some ⟨b, off, none⟩ ∧ b < B ∧ l[k]? = some e ∧
    w.cell? ⟨b, off + k * 6, none⟩ = some (.int .i64 e.kind) ∧ w.cell? ⟨b, off + k * 6 + 1, none⟩ = some (.int .i64 e.op) ∧ w.cell? ⟨b, off + k * 6 + 2, none⟩ = some (.bool e.write) ∧
    w.cell? ⟨b, off + k * 6 + 3, none⟩ = some (.int .i64 e.reg) ∧ w.cell? ⟨b, off + k * 6 + 4, none⟩ = some (.int .i64 e.val) ∧ w.cell? ⟨b, off + k * 6 + 5, none⟩ = some (.bool e.barrier) := by
  obtain ⟨b, off, rfl, hb, hc⟩ := h.2 (by simp; omega)
  have he : l[k]? = some l[k] := List.getElem?_eq_getElem hk
  have hr : (l.map Ev.cells)[k]? = some l[k].cells := by simp [he]
  exact ⟨b, off, l[k], rfl, hb, he, hc k _ hr 0 _ rfl, hc k _ hr 1 _ rfl, hc k _ hr 2 _ rfl, hc k _ hr 3 _ rfl, hc k _ hr 4 _ rfl, hc k _ hr 5 _ rfl⟩
theorem OpS.at_ {l : List Opr} (h : OpS w B A l) {k : Nat} (hk : k < l.length) : ∃ b off, ∃ e : Opr, A = some ⟨b, off, none⟩ ∧ b < B ∧ l[k]? = some e ∧
    w.cell? ⟨b, off + k * 8, none⟩ = some (.int .i64 e.id) ∧ w.cell? ⟨b, off + k * 8 + 1, none⟩ = some (.int .i64 e.reg) ∧ w.cell? ⟨b, off + k * 8 + 2, none⟩ = some (.int .i64 e.val) ∧
    w.cell? ⟨b, off + k * 8 + 3, none⟩ = some (.bool e.write) ∧ w.cell? ⟨b, off + k * 8 + 4, none⟩ = some (.bool e.barrier) ∧ w.cell? ⟨b, off + k * 8 + 5, none⟩ = some (.int .i64 e.era) ∧
    w.cell? ⟨b, off + k * 8 + 6, none⟩ = some (.int .i64 e.call) ∧ w.cell? ⟨b, off + k * 8 + 7, none⟩ = some (.int .i64 e.done) := by
  obtain ⟨b, off, rfl, hb, hc⟩ := h.2 (by simp; omega)
  have he : l[k]? = some l[k] := List.getElem?_eq_getElem hk
  have hr : (l.map Opr.cells)[k]? = some l[k].cells := by simp [he]
  exact ⟨b, off, l[k], rfl, hb, he, hc k _ hr 0 _ rfl, hc k _ hr 1 _ rfl, hc k _ hr 2 _ rfl, hc k _ hr 3 _ rfl, hc k _ hr 4 _ rfl, hc k _ hr 5 _ rfl, hc k _ hr 6 _ rfl, hc k _ hr 7 _ rfl⟩
theorem IntS.at_ {l : List Int} (h : IntS w B A l) {k : Nat} (hk : k < l.length) : ∃ b off, ∃ x : Int, A = some ⟨b, off, none⟩ ∧ b < B ∧ l[k]? = some x ∧ w.cell? ⟨b, off + k, none⟩ = some (.int .i64 x) := by
  obtain ⟨b, off, rfl, hb, hc⟩ := h.2 (by simp; omega)
  have he : l[k]? = some l[k] := List.getElem?_eq_getElem hk
  have hr : (l.map icell)[k]? = some (icell l[k]) := by simp [he]
  exact ⟨b, off, l[k], rfl, hb, he, by simpa using hc k _ hr 0 _ rfl⟩
end

theorem bcell {W w1 : World} (hb : Below W.heap.size W w1) : (∀ b o, b < W.heap.size → w1.cell? ⟨b, o, none⟩ = W.cell? ⟨b, o, none⟩) ∧ (∀ b o, b < W.heap.size → w1.frozen? ⟨b, o, none⟩ = W.frozen? ⟨b, o, none⟩) :=
  ⟨fun b o h => hb.cell (p := ⟨b, o, none⟩) h, fun b o h => hb.frozen (p := ⟨b, o, none⟩) h⟩

theorem below_drewN {B : Nat} {a w : World} (h : Below B a w) (n : Nat) : Below B a (w.drewN n) := ⟨h.os, h.tape, h.output, h.size, h.block⟩

theorem below_two (w : World) (o o' : Obj) : Below w.heap.size w ((w.alloc o).alloc o') := ((Below.refl _ _).alloc (Nat.le_refl _) _).alloc (by simp) _

theorem ret_bool {a b : Bool} (h : a = b) : Ending.returned (.bool a) = .returned (.bool b) := by rw [h]
theorem ret_int {a b : Int} (h : a = b) : Ending.returned (.int .i64 a) = .returned (.int .i64 b) := by rw [h]
end Go.Proofs.Ytcgbnlhloopnfaa
