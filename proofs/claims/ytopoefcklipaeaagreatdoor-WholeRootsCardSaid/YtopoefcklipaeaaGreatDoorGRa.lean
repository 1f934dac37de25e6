/- Words for memory and events: slices that read as lists of rows. Plain definitions and lemmas; nothing of the program is walked here.
Layouts, moved pieces, places, on lists: what tegularef22 and spare compute. Plain: no program is walked here.
Moved pieces, on lists: what a further move changes; a place that is chosen fits. Plain: no program is walked here.
Moved pieces, on lists: how spare finds, inserts, sorts; it computes what tegularef22 says. Plain: no program is walked here.
The homes on a disk, the pieces on a disk, on lists. Plain: no program is walked here.
Moved pieces, on lists: a group's disks; what makes moves valid, step by step; the best disk; a return. Plain: no program is walked here. -/
import Derived.Test.YtopoefcklipaeaaGreatDoorRows
import Derived.WalkKit
import Derived.WalkSpells
import Derived.WalkLawsBesides
import Derived.Lib.Hide
import Derived.Below
import Derived.Laws.OwnMore
import Derived.Deep.Draws
namespace Go.Proofs.YtopoefcklipaeaaGreatDoor
open Go.RowKit
/-! ### events and operations as data -/
structure Ev where
 kind : Int
 op : Int
 write : Bool
 reg : Int
 val : Int
 barrier : Bool
 deriving DecidableEq
def Ev.cells (e : Ev) : List Value := [.int .i64 e.kind, .int .i64 e.op, .bool e.write, .int .i64 e.reg, .int .i64 e.val, .bool e.barrier]
def Ev.agg (e : Ev) : Value := .agg #[.int .i64 e.kind, .int .i64 e.op, .bool e.write, .int .i64 e.reg, .int .i64 e.val, .bool e.barrier]
structure Opr where
 id : Int
 reg : Int
 val : Int
 write : Bool
 barrier : Bool
 era : Int
 call : Int
 done : Int
 deriving DecidableEq
def Opr.cells (o : Opr) : List Value := [.int .i64 o.id, .int .i64 o.reg, .int .i64 o.val, .bool o.write, .bool o.barrier, .int .i64 o.era, .int .i64 o.call, .int .i64 o.done]
def Opr.agg (o : Opr) : Value := .agg #[.int .i64 o.id, .int .i64 o.reg, .int .i64 o.val, .bool o.write, .bool o.barrier, .int .i64 o.era, .int .i64 o.call, .int .i64 o.done]
/-! ### a slice that reads as rows -/
def RdS (w : World) (B size : Nat) (A : Option Addr) (rows : List (List Value)) : Prop :=
 (∀ r ∈ rows, r.length = size) ∧ (0 < rows.length → ∃ b off, A = some ⟨b, off, none⟩ ∧ b < B ∧
  ∀ i r, rows[i]? = some r → ∀ j v, r[j]? = some v → w.cell? ⟨b, off + i * size + j, none⟩ = some v)
section
variable {w w' : World} {B B' size : Nat} {A : Option Addr} {rows : List (List Value)}
theorem RdS.nil (w : World) (B size : Nat) (A : Option Addr) : RdS w B size A [] := ⟨by simp, fun h => absurd h (by simp)⟩
theorem RdS.keep (h : RdS w B size A rows) (hk : ∀ p : Addr, p.block < B → w'.cell? p = w.cell? p) : RdS w' B size A rows :=
 ⟨h.1, fun hn => by
  obtain ⟨b, off, e, hb, hc⟩ := h.2 hn
  exact ⟨b, off, e, hb, fun i r hr j v hv => (hk ⟨b, off + i * size + j, none⟩ hb).trans (hc i r hr j v hv)⟩⟩
theorem RdS.more (h : RdS w B size A rows) (hB : B ≤ B') : RdS w B' size A rows :=
 ⟨h.1, fun hn => by
  obtain ⟨b, off, e, hb, hc⟩ := h.2 hn
  exact ⟨b, off, e, by omega, hc⟩⟩
theorem RdS.below (h : RdS w B size A rows) (hb : Below B w w') : RdS w' B size A rows := h.keep fun _ hp => hb.cell hp
theorem RdS.below' {C : Nat} (h : RdS w B size A rows) (hb : Below C w w') (hBC : B ≤ C) : RdS w' B size A rows := h.keep fun _ hp => hb.cell (by omega)
theorem RdS.grown (h : RdS w B size A rows) {row : Option Nat} (hg : w.grownBy w' row) (hB : B ≤ w.heap.size) (hr : ∀ g, row = some g → B ≤ g) : RdS w' B size A rows :=
 h.keep fun p hp => World.cell?_of_block (hg.block p.block (by omega) (fun e => by have := hr _ e.symm; omega))
theorem RdS.take (h : RdS w B size A rows) (n : Nat) : RdS w B size A (rows.take n) :=
 ⟨fun r hr => h.1 r (List.mem_of_mem_take hr), fun hn => by
  obtain ⟨b, off, e, hb, hc⟩ := h.2 (by rw [List.length_take] at hn; omega)
  refine ⟨b, off, e, hb, fun i r hr j v hv => hc i r ?_ j v hv⟩
  rw [List.getElem?_take] at hr
  split at hr
  ·exact hr
  ·cases hr⟩
theorem flatten_get {rows : List (List Value)} (hs : ∀ r ∈ rows, r.length = size) : ∀ (i : Nat) (r : List Value), rows[i]? = some r → ∀ (j : Nat) (v : Value), r[j]? = some v → rows.flatten[i * size + j]? = some v := by
 induction rows with
 | nil => intro i r hr; simp at hr
 | cons x xs ih =>
  intro i r hr j v hv
  have hx : x.length = size := hs x (by simp)
  have hxs : ∀ r ∈ xs, r.length = size := fun r hr => hs r (by simp [hr])
  cases i with
  | zero =>
   simp at hr
   subst hr
   have hj : j < x.length := (List.getElem?_eq_some_iff.1 hv).1
   simp only [List.flatten_cons, Nat.zero_mul, Nat.zero_add]
   rw [List.getElem?_append_left hj]
   exact hv
  | succ i =>
   simp at hr
   have := ih hxs i r hr j v hv
   simp only [List.flatten_cons]
   rw [List.getElem?_append_right (by rw [hx, Nat.add_mul]; omega)]
   rw [show (i + 1) * size + j - x.length = i * size + j by rw [hx, Nat.add_mul]; omega]
   exact this
theorem flatten_length {rows : List (List Value)} (hs : ∀ r ∈ rows, r.length = size) : rows.flatten.length = rows.length * size := by
 induction rows with
 | nil => simp
 | cons x xs ih =>
  have hx : x.length = size := hs x (by simp)
  have := ih (fun r hr => hs r (by simp [hr]))
  simp only [List.flatten_cons, List.length_append, List.length_cons, this, hx, Nat.add_mul]
  omega
def OwS (w : World) (base : Nat) (e : TypeId) (size : Nat) (v : Value) (rows : List (List Value)) : Prop :=
 (∀ r ∈ rows, r.length = size) ∧ w.ownsRow base e size v rows.length rows.flatten
theorem OwS.nil (w : World) (base : Nat) (e : TypeId) (size : Nat) : OwS w base e size (.slice none 0 0) [] := ⟨by simp, World.ownsRow_nil _ _ _ _⟩
theorem OwS.kept {base : Nat} {e : TypeId} {v : Value} (h : OwS w base e size v rows) {row : Option Nat} (hg : w.grownBy w' row) (hne : v.ownBlock = none ∨ v.ownBlock ≠ row) : OwS w' base e size v rows :=
 ⟨h.1, h.2.kept hg hne⟩
theorem OwS.alloc {base : Nat} {e : TypeId} {v : Value} (h : OwS w base e size v rows) (o : Obj) : OwS (w.alloc o) base e size v rows := ⟨h.1, h.2.alloc o⟩
theorem OwS.below {base : Nat} {e : TypeId} {v : Value} (h : OwS w base e size v rows) (hb : Below w.heap.size w w') : OwS w' base e size v rows :=
 h.kept (row := none) ⟨hb.os, hb.tape, hb.output, hb.size, fun k hk _ => hb.block k hk⟩ (by cases v.ownBlock <;> simp)
theorem OwS.form {base : Nat} {e : TypeId} {v : Value} (h : OwS w base e size v rows) : ∃ A c, v = .slice A rows.length c ∧ rows.length ≤ c ∧ c ≤ maxLen := by
 rcases h.2.2 with ⟨rfl, hn⟩ | ⟨g, cap, cur, rfl, hb, hh, hnc, hcm, _⟩
 ·exact ⟨none, 0, by rw [hn], by omega, Nat.zero_le _⟩
 ·exact ⟨_, _, rfl, hnc, hcm⟩
theorem OwS.reads {base : Nat} {e : TypeId} {A : Option Addr} {n c : Nat} (h : OwS w base e size (.slice A n c) rows) : RdS w w.heap.size size A rows := by
 refine ⟨h.1, fun hn => ?_⟩
 obtain ⟨hs, hl, ho⟩ := h
 rcases ho with ⟨hv, h0⟩ | ⟨g, cap, cur, hv, hb, hh, hnc, hcm, hsz, ht⟩
 ·omega
 ·injection hv with h1 h2 h3
  subst h1
  refine ⟨g, 0, rfl, (Array.getElem?_eq_some_iff.1 hh).1, fun i r hr j v hjv => ?_⟩
  have := flatten_get hs i r hr j v hjv
  rw [cell_of_row w g _ cur e (0, 0) hh]
  rw [← ht, List.getElem?_take] at this
  split at this
  ·simpa using this
  ·cases this
end
/-! ### events -/
abbrev EvS (w : World) (B : Nat) (A : Option Addr) (l : List Ev) : Prop := RdS w B 6 A (l.map Ev.cells)
abbrev OpS (w : World) (B : Nat) (A : Option Addr) (l : List Opr) : Prop := RdS w B 8 A (l.map Opr.cells)
def icell (x : Int) : List Value := [.int .i64 x]
abbrev IntS (w : World) (B : Nat) (A : Option Addr) (l : List Int) : Prop := RdS w B 1 A (l.map icell)
section
variable {w : World} {B : Nat} {A : Option Addr}
theorem EvS.at_ {l : List Ev} (h : EvS w B A l) {k : Nat} (hk : k < l.length) : ∃ b off, ∃ e : Ev, A = some ⟨b, off, none⟩ ∧ b < B ∧ l[k]? = some e ∧
  w.cell? ⟨b, off + k * 6, none⟩ = some (.int .i64 e.kind) ∧ w.cell? ⟨b, off + k * 6 + 1, none⟩ = some (.int .i64 e.op) ∧ w.cell? ⟨b, off + k * 6 + 2, none⟩ = some (.bool e.write) ∧
  w.cell? ⟨b, off + k * 6 + 3, none⟩ = some (.int .i64 e.reg) ∧ w.cell? ⟨b, off + k * 6 + 4, none⟩ = some (.int .i64 e.val) ∧ w.cell? ⟨b, off + k * 6 + 5, none⟩ = some (.bool e.barrier) := by
 obtain ⟨b, off, rfl, hb, hc⟩ := h.2 (by simp; omega)
 have he : l[k]? = some l[k] := List.getElem?_eq_getElem hk
 have hr : (l.map Ev.cells)[k]? = some l[k].cells := by simp [he]
 exact ⟨b, off, l[k], rfl, hb, he, hc k _ hr 0 _ rfl, hc k _ hr 1 _ rfl, hc k _ hr 2 _ rfl, hc k _ hr 3 _ rfl, hc k _ hr 4 _ rfl, hc k _ hr 5 _ rfl⟩
theorem OpS.at_ {l : List Opr} (h : OpS w B A l) {k : Nat} (hk : k < l.length) : ∃ b off, ∃ e : Opr, A = some ⟨b, off, none⟩ ∧ b < B ∧ l[k]? = some e ∧
  w.cell? ⟨b, off + k * 8, none⟩ = some (.int .i64 e.id) ∧ w.cell? ⟨b, off + k * 8 + 1, none⟩ = some (.int .i64 e.reg) ∧ w.cell? ⟨b, off + k * 8 + 2, none⟩ = some (.int .i64 e.val) ∧
  w.cell? ⟨b, off + k * 8 + 3, none⟩ = some (.bool e.write) ∧ w.cell? ⟨b, off + k * 8 + 4, none⟩ = some (.bool e.barrier) ∧ w.cell? ⟨b, off + k * 8 + 5, none⟩ = some (.int .i64 e.era) ∧
  w.cell? ⟨b, off + k * 8 + 6, none⟩ = some (.int .i64 e.call) ∧ w.cell? ⟨b, off + k * 8 + 7, none⟩ = some (.int .i64 e.done) := by
 obtain ⟨b, off, rfl, hb, hc⟩ := h.2 (by simp; omega)
 have he : l[k]? = some l[k] := List.getElem?_eq_getElem hk
 have hr : (l.map Opr.cells)[k]? = some l[k].cells := by simp [he]
 exact ⟨b, off, l[k], rfl, hb, he, hc k _ hr 0 _ rfl, hc k _ hr 1 _ rfl, hc k _ hr 2 _ rfl, hc k _ hr 3 _ rfl, hc k _ hr 4 _ rfl, hc k _ hr 5 _ rfl, hc k _ hr 6 _ rfl, hc k _ hr 7 _ rfl⟩
theorem IntS.at_ {l : List Int} (h : IntS w B A l) {k : Nat} (hk : k < l.length) : ∃ b off, ∃ x : Int, A = some ⟨b, off, none⟩ ∧ b < B ∧ l[k]? = some x ∧ w.cell? ⟨b, off + k, none⟩ = some (.int .i64 x) := by
 obtain ⟨b, off, rfl, hb, hc⟩ := h.2 (by simp; omega)
 have he : l[k]? = some l[k] := List.getElem?_eq_getElem hk
 have hr : (l.map icell)[k]? = some (icell l[k]) := by simp [he]
 exact ⟨b, off, l[k], rfl, hb, he, by simpa using hc k _ hr 0 _ rfl⟩
end
theorem below_drewN {B : Nat} {a w : World} (h : Below B a w) (n : Nat) : Below B a (w.drewN n) := ⟨h.os, h.tape, h.output, h.size, h.block⟩
theorem ret_bool {a b : Bool} (h : a = b) : Ending.returned (.bool a) = .returned (.bool b) := by rw [h]
theorem ret_int {a b : Int} (h : a = b) : Ending.returned (.int .i64 a) = .returned (.int .i64 b) := by rw [h]
end Go.Proofs.YtopoefcklipaeaaGreatDoor
namespace Go.Proofs.YtopoefcklipaeaaGreatDoor
structure Plc where
 disk : Int
 block : Int
 deriving DecidableEq
structure Mv where
 g : Int
 p : Int
 to : Plc
 deriving DecidableEq
structure LayD where
 disks : Nat
 gs : List (List Nat)
 tiles : Nat
 spare : Nat
def LayD.n (L : LayD) : Nat := L.gs.length
def LayD.w (L : LayD) : Nat := (L.gs.headD []).length
def LayD.r (L : LayD) : Nat := L.gs.countP fun g => g.contains 0
def LayD.G (L : LayD) : Nat := L.tiles * L.n
def LayD.homes (L : LayD) : Nat := L.tiles * L.r
def LayD.blocks (L : LayD) : Nat := L.homes + L.spare
structure LayOk (L : LayD) : Prop where
 disks : 2 ≤ L.disks ∧ L.disks ≤ 60
 n : 1 ≤ L.n ∧ L.n ≤ 4096
 len : ∀ g ∈ L.gs, g.length = L.w
 inc : ∀ g ∈ L.gs, g.Pairwise (· < ·)
 lt : ∀ g ∈ L.gs, ∀ d ∈ g, d < L.disks
 cnt : ∀ d, d < L.disks → (L.gs.countP fun g => g.contains d) = L.r
 w : 4 ≤ L.w ∧ L.w ≤ 16
 tiles : 1 ≤ L.tiles ∧ L.tiles ≤ 256
 G : L.G ≤ 4096
 slots : L.G * (L.w - 3) ≤ 65536
 blocks : L.blocks ≤ 65536
def isP (L : LayD) (g p : Int) : Bool := decide (0 ≤ g) && decide (g < L.G) && decide (0 ≤ p) && decide (p < L.w)
def hdisk (L : LayD) (g p : Nat) : Nat := ((L.gs[g % L.n]?).getD [])[(p + g / L.n) % L.w]?.getD 0
def rankL (L : LayD) (g0 d : Nat) : Nat := (L.gs.take g0).countP fun g => g.contains d
def homeL (L : LayD) (g p : Nat) : Plc := ⟨hdisk L g p, ((g / L.n * L.r + rankL L (g % L.n) (hdisk L g p) : Nat) : Int)⟩
def atM (g p : Int) (m : Mv) : Bool := m.g == g && m.p == p
def whereL (L : LayD) (ms : List Mv) (g p : Int) : Plc := match ms.find? (atM g p) with | some m => m.to | none => homeL L g.toNat p.toNat
def ltM (a b : Mv) : Prop := a.g < b.g ∨ (a.g = b.g ∧ a.p < b.p)
instance (a b : Mv) : Decidable (ltM a b) := by unfold ltM; infer_instance
def toOk (L : LayD) (t : Plc) : Bool := decide (0 ≤ t.disk) && decide (t.disk < L.disks) && decide ((L.homes : Int) ≤ t.block) && decide (t.block < L.blocks)
def apartL (L : LayD) (ms : List Mv) (g : Int) : Bool := (List.range L.w).all fun a => (List.range a).all fun b => !((whereL L ms g a).disk == (whereL L ms g b).disk)
structure MvOk (L : LayD) (ms : List Mv) : Prop where
 is : ∀ m ∈ ms, isP L m.g m.p = true
 to : ∀ m ∈ ms, toOk L m.to = true
 ord : ms.Pairwise ltM
 sep : ms.Pairwise fun a b => a.to ≠ b.to
 apart : ∀ m ∈ ms, apartL L ms m.g = true
instance (L : LayD) (ms : List Mv) : Decidable (MvOk L ms) :=
 decidable_of_iff ((∀ m ∈ ms, isP L m.g m.p = true) ∧ (∀ m ∈ ms, toOk L m.to = true) ∧ ms.Pairwise ltM ∧ (ms.Pairwise fun a b => a.to ≠ b.to) ∧ ∀ m ∈ ms, apartL L ms m.g = true)
  ⟨fun ⟨a, b, c, d, e⟩ => ⟨a, b, c, d, e⟩, fun ⟨a, b, c, d, e⟩ => ⟨a, b, c, d, e⟩⟩
def validM (L : LayD) (ms : List Mv) : Bool := decide (MvOk L ms)
def withL (m : Mv) : Bool → List Mv → List Mv
 | put, [] => if put then [] else [m]
 | put, x :: xs =>
  if x.g = m.g ∧ x.p = m.p then withL m put xs
  else if put = false ∧ (m.g < x.g ∨ (x.g = m.g ∧ m.p < x.p)) then m :: x :: withL m true xs
  else x :: withL m put xs
def withM (ms : List Mv) (m : Mv) : List Mv := withL m (m.to.disk == -1) ms
def applyL (L : LayD) (ms : List Mv) (m : Mv) : List Mv × Int :=
 if isP L m.g m.p = false then ([], 2)
 else if m.to.disk = -1 ∧ (withM ms m).length = ms.length then ([], 9)
 else if validM L (withM ms m) then (withM ms m, 0) else ([], 1)
/-! ### where, behind another move -/
theorem withL_mem (m : Mv) : ∀ (xs : List Mv) (put : Bool) (x : Mv), x ∈ withL m put xs ↔ (x ∈ xs ∧ ¬ (x.g = m.g ∧ x.p = m.p)) ∨ (put = false ∧ x = m) := by
 intro xs
 induction xs with
 | nil =>
  intro put x
  rw [withL]
  cases put <;> simp
 | cons y ys ih =>
  intro put x
  rw [withL]
  split
  ·rename_i he
   rw [ih, List.mem_cons]
   constructor
   ·rintro (⟨h1, h2⟩ | h)
    ·exact .inl ⟨.inr h1, h2⟩
    ·exact .inr h
   ·rintro (⟨rfl | h1, h2⟩ | h)
    ·exact absurd he h2
    ·exact .inl ⟨h1, h2⟩
    ·exact .inr h
  ·rename_i hne
   split
   ·rename_i hp
    rw [List.mem_cons, List.mem_cons, ih, List.mem_cons]
    constructor
    ·rintro (rfl | rfl | ⟨h1, h2⟩ | ⟨h1, -⟩)
     ·exact .inr ⟨hp.1, rfl⟩
     ·exact .inl ⟨.inl rfl, hne⟩
     ·exact .inl ⟨.inr h1, h2⟩
     ·cases h1
    ·rintro (⟨rfl | h1, h2⟩ | ⟨-, rfl⟩)
     ·exact .inr (.inl rfl)
     ·exact .inr (.inr (.inl ⟨h1, h2⟩))
     ·exact .inl rfl
   ·rw [List.mem_cons, ih, List.mem_cons]
    constructor
    ·rintro (rfl | ⟨h1, h2⟩ | h)
     ·exact .inl ⟨.inl rfl, hne⟩
     ·exact .inl ⟨.inr h1, h2⟩
     ·exact .inr h
    ·rintro (⟨rfl | h1, h2⟩ | h)
     ·exact .inl rfl
     ·exact .inr (.inl ⟨h1, h2⟩)
     ·exact .inr (.inr h)
end Go.Proofs.YtopoefcklipaeaaGreatDoor
namespace Go.Proofs.YtopoefcklipaeaaGreatDoor
theorem ltM_key {a b : Mv} (h : ltM a b) : ¬ (a.g = b.g ∧ a.p = b.p) := by unfold ltM at h; omega
theorem key_uniq {ms : List Mv} (h : ms.Pairwise ltM) {a b : Mv} (ha : a ∈ ms) (hb : b ∈ ms) (hg : a.g = b.g) (hp : a.p = b.p) : a = b := by
 obtain ⟨i, hi, rfl⟩ := List.getElem_of_mem ha
 obtain ⟨j, hj, rfl⟩ := List.getElem_of_mem hb
 rcases Nat.lt_trichotomy i j with hlt | rfl | hlt
 ·exact absurd ⟨hg, hp⟩ (ltM_key (List.pairwise_iff_getElem.1 h i j hi hj hlt))
 ·rfl
 ·exact absurd ⟨hg.symm, hp.symm⟩ (ltM_key (List.pairwise_iff_getElem.1 h j i hj hi hlt))
theorem find_iff {ms : List Mv} (h : ms.Pairwise ltM) {g p : Int} {x : Mv} : ms.find? (atM g p) = some x ↔ x ∈ ms ∧ x.g = g ∧ x.p = p := by
 constructor
 ·intro hf
  have h1 := List.mem_of_find?_eq_some hf
  have h2 := List.find?_some hf
  unfold atM at h2
  simp at h2
  exact ⟨h1, h2⟩
 ·rintro ⟨h1, h2, h3⟩
  rcases hf : ms.find? (atM g p) with _ | y
  ·have := List.find?_eq_none.1 hf x h1
   simp [atM, h2, h3] at this
  ·have h4 := List.mem_of_find?_eq_some hf
   have h5 := List.find?_some hf
   unfold atM at h5
   simp at h5
   rw [key_uniq h h1 h4 (by omega) (by omega)]
theorem find_no {ms : List Mv} {g p : Int} : ms.find? (atM g p) = none ↔ ∀ x ∈ ms, ¬ (x.g = g ∧ x.p = p) := by
 rw [List.find?_eq_none]
 constructor
 ·intro h x hx he
  exact h x hx (by simp [atM, he.1, he.2])
 ·intro h x hx he
  unfold atM at he
  simp at he
  exact h x hx he
theorem withL_true (m : Mv) : ∀ (xs : List Mv), withL m true xs = xs.filter fun x => !(x.g == m.g && x.p == m.p) := by
 intro xs
 induction xs with
 | nil => rw [withL]; rfl
 | cons y ys ih =>
  rw [withL]
  split
  ·rename_i he
   rw [List.filter_cons_of_neg (by simp [he.1, he.2]), ih]
  ·rename_i hne
   rw [if_neg (by simp), List.filter_cons_of_pos (by simp; omega), ih]
theorem apart_iff {L : LayD} {ms : List Mv} {g : Int} : apartL L ms g = true ↔ ∀ a b : Nat, a < L.w → b < a → (whereL L ms g a).disk ≠ (whereL L ms g b).disk := by
 unfold apartL
 simp only [List.all_eq_true, List.mem_range, Bool.not_eq_true', beq_eq_false_iff_ne]
 exact ⟨fun h a b ha hb => h a ha b hb, fun h a ha b hb => h a b ha hb⟩
theorem row_of {L : LayD} (ok : LayOk L) (g : Nat) : ∃ row, L.gs[g % L.n]? = some row ∧ row.length = L.w ∧ row.Pairwise (· < ·) ∧ ∀ d ∈ row, d < L.disks := by
 have hn : 0 < L.n := by have := ok.n; omega
 have hlt : g % L.n < L.gs.length := Nat.mod_lt _ hn
 have hm : L.gs[g % L.n] ∈ L.gs := List.getElem_mem hlt
 exact ⟨L.gs[g % L.n], List.getElem?_eq_getElem hlt, ok.len _ hm, ok.inc _ hm, ok.lt _ hm⟩
theorem hdisk_at {L : LayD} {g p : Nat} {row : List Nat} (hr : L.gs[g % L.n]? = some row) (hl : row.length = L.w) (hw : 0 < L.w) : row[(p + g / L.n) % L.w]? = some (hdisk L g p) := by
 unfold hdisk
 rw [hr]
 have : (p + g / L.n) % L.w < row.length := by rw [hl]; exact Nat.mod_lt _ hw
 simp only [Option.getD_some]
 rw [List.getElem?_eq_getElem this]
 rfl
theorem hdisk_inj {L : LayD} (ok : LayOk L) {g a b : Nat} (ha : a < L.w) (hb : b < L.w) (h : hdisk L g a = hdisk L g b) : a = b := by
 obtain ⟨row, h1, h2, h3, -⟩ := row_of ok g
 have hw : 0 < L.w := by omega
 have e1 := hdisk_at (p := a) h1 h2 hw
 have e2 := hdisk_at (p := b) h1 h2 hw
 rw [h] at e1
 obtain ⟨l1, e1⟩ := List.getElem?_eq_some_iff.1 e1
 obtain ⟨l2, e2⟩ := List.getElem?_eq_some_iff.1 e2
 have hidx : (a + g / L.n) % L.w = (b + g / L.n) % L.w := by
  rcases Nat.lt_trichotomy ((a + g / L.n) % L.w) ((b + g / L.n) % L.w) with hlt | he | hlt
  ·have := List.pairwise_iff_getElem.1 h3 _ _ l1 l2 hlt
   omega
  ·exact he
  ·have := List.pairwise_iff_getElem.1 h3 _ _ l2 l1 hlt
   omega
 generalize g / L.n = t at hidx
 rw [Nat.add_mod a, Nat.add_mod b, Nat.mod_eq_of_lt ha, Nat.mod_eq_of_lt hb] at hidx
 have ht : t % L.w < L.w := Nat.mod_lt _ hw
 generalize t % L.w = u at *
 have key : ∀ x, x < L.w → (x + u) % L.w = if x + u < L.w then x + u else x + u - L.w := fun x hx => by
  split
  ·rename_i h; exact Nat.mod_eq_of_lt h
  ·rename_i h
   rw [Nat.mod_eq_sub_mod (by omega)]
   exact Nat.mod_eq_of_lt (by omega)
 rw [key a ha, key b hb] at hidx
 split at hidx <;> split at hidx <;> omega
theorem apart_all {L : LayD} (ok : LayOk L) {ms : List Mv} (h : MvOk L ms) (g : Int) : apartL L ms g = true := by
 by_cases hex : ∃ m ∈ ms, m.g = g
 ·obtain ⟨m, hm, rfl⟩ := hex
  exact h.apart m hm
 ·have hno : ∀ p : Int, whereL L ms g p = homeL L g.toNat p.toNat := fun p => by
   have : ms.find? (atM g p) = none := find_no.2 fun x hx hk => hex ⟨x, hx, hk.1⟩
   unfold whereL
   rw [this]
  refine apart_iff.2 fun a b ha hb he => ?_
  rw [hno, hno] at he
  have he' : (hdisk L g.toNat a : Int) = hdisk L g.toNat b := he
  have := hdisk_inj ok ha (by omega) (show hdisk L g.toNat a = hdisk L g.toNat b by exact_mod_cast he')
  omega
end Go.Proofs.YtopoefcklipaeaaGreatDoor
namespace Go.Proofs.YtopoefcklipaeaaGreatDoor
def cmp3 (a b : Int) : Int := if a < b then -1 else if b < a then 1 else 0
def ordM (g p : Int) (m : Mv) : Int := if cmp3 m.g g = 0 then cmp3 m.p p else cmp3 m.g g
theorem ord_neg {g p : Int} {m : Mv} : ordM g p m < 0 ↔ m.g < g ∨ (m.g = g ∧ m.p < p) := by
 unfold ordM cmp3
 split <;> (split <;> try split) <;> (try split) <;> omega
theorem ord_zero {g p : Int} {m : Mv} : ordM g p m = 0 ↔ m.g = g ∧ m.p = p := by
 unfold ordM cmp3
 split <;> (split <;> try split) <;> (try split) <;> omega
def posM (ms : List Mv) (g p : Int) : Nat := ms.countP fun m => decide (ordM g p m < 0)
theorem pos_split {ms : List Mv} {g p : Int} (h : ms.Pairwise ltM) : (∀ x ∈ ms.take (posM ms g p), ordM g p x < 0) ∧ ∀ x ∈ ms.drop (posM ms g p), ¬ ordM g p x < 0 := by
 unfold posM
 induction ms with
 | nil => simp
 | cons y ys ih =>
  obtain ⟨h1, h2⟩ := List.pairwise_cons.1 h
  obtain ⟨i1, i2⟩ := ih h2
  by_cases hy : ordM g p y < 0
  ·rw [List.countP_cons_of_pos (by simpa using hy)]
   refine ⟨fun x hx => ?_, fun x hx => i2 x (by simpa using hx)⟩
   rw [List.take_succ_cons] at hx
   rcases List.mem_cons.1 hx with rfl | hx
   ·exact hy
   ·exact i1 x hx
  ·have h0 : ys.countP (fun m => decide (ordM g p m < 0)) = 0 := by
    rw [List.countP_eq_zero]
    intro x hx hn
    have hn' : ordM g p x < 0 := by simpa using hn
    rw [ord_neg] at hn' hy
    have := h1 x hx
    unfold ltM at this
    omega
   rw [List.countP_cons_of_neg (by simpa using hy), h0]
   refine ⟨by simp, fun x hx => ?_⟩
   rw [List.drop_zero] at hx
   rcases List.mem_cons.1 hx with rfl | hx
   ·exact hy
   ·have := List.countP_eq_zero.1 h0 x hx
    simpa using this
theorem pos_le (ms : List Mv) (g p : Int) : posM ms g p ≤ ms.length := List.countP_le_length
theorem pos_has {ms : List Mv} {g p : Int} (h : ms.Pairwise ltM) : (∃ x, ms[posM ms g p]? = some x ∧ ordM g p x = 0) ↔ ∃ x ∈ ms, x.g = g ∧ x.p = p := by
 obtain ⟨h1, h2⟩ := pos_split (g := g) (p := p) h
 constructor
 ·rintro ⟨x, hx, ho⟩
  exact ⟨x, List.mem_of_getElem? hx, ord_zero.1 ho⟩
 ·rintro ⟨x, hx, hk⟩
  obtain ⟨i, hi⟩ := List.mem_iff_getElem?.1 hx
  have hge : posM ms g p ≤ i := by
   rcases Nat.lt_or_ge i (posM ms g p) with hlt | hge
   ·have := h1 x (List.mem_of_getElem? (i := i) (by rw [List.getElem?_take, if_pos hlt]; exact hi))
    rw [ord_zero.2 hk] at this
    omega
   ·exact hge
  have hil := (List.getElem?_eq_some_iff.1 hi).1
  obtain ⟨y, hy⟩ : ∃ y, ms[posM ms g p]? = some y := ⟨ms[posM ms g p]'(by omega), List.getElem?_eq_getElem _⟩
  refine ⟨y, hy, ?_⟩
  rcases Nat.lt_or_eq_of_le hge with hlt | rfl
  ·exfalso
   have hyd : ¬ ordM g p y < 0 := h2 y (List.mem_of_getElem? (i := 0) (by rw [List.getElem?_drop]; exact hy))
   have hlm := List.pairwise_iff_getElem.1 h _ _ (List.getElem?_eq_some_iff.1 hy).1 hil hlt
   rw [(List.getElem?_eq_some_iff.1 hy).2, (List.getElem?_eq_some_iff.1 hi).2] at hlm
   rw [ord_neg] at hyd
   unfold ltM at hlm
   omega
  ·rw [hy] at hi
   cases hi
   exact ord_zero.2 hk
theorem withL_true_no {m : Mv} {ys : List Mv} (h : ∀ x ∈ ys, ¬ (x.g = m.g ∧ x.p = m.p)) : withL m true ys = ys := by
 rw [withL_true, List.filter_eq_self]
 intro x hx
 have := h x hx
 simp
 omega
theorem with_insert {m : Mv} : ∀ {ms : List Mv}, ms.Pairwise ltM → (∀ x ∈ ms, ¬ (x.g = m.g ∧ x.p = m.p)) → withL m false ms = ms.take (posM ms m.g m.p) ++ m :: ms.drop (posM ms m.g m.p) := by
 intro ms
 induction ms with
 | nil => intro _ _; rfl
 | cons y ys ih =>
  intro h hno
  obtain ⟨h1, h2⟩ := List.pairwise_cons.1 h
  have hy := hno y (by simp)
  rw [withL, if_neg hy]
  have hys : ∀ x ∈ ys, ¬ (x.g = m.g ∧ x.p = m.p) := fun x hx => hno x (by simp [hx])
  split
  ·rename_i hp
   have hpos : posM (y :: ys) m.g m.p = 0 := by
    unfold posM
    rw [List.countP_eq_zero]
    intro x hx hn
    have hn' : ordM m.g m.p x < 0 := by simpa using hn
    rw [ord_neg] at hn'
    rcases List.mem_cons.1 hx with rfl | hx
    ·omega
    ·have := h1 x hx
     unfold ltM at this
     omega
   rw [hpos, withL_true_no hys]
   rfl
  ·rename_i hp
   have hneg : ordM m.g m.p y < 0 := by rw [ord_neg]; simp only [true_and] at hp; omega
   have hpos : posM (y :: ys) m.g m.p = posM ys m.g m.p + 1 := by
    unfold posM
    rw [List.countP_cons_of_pos (by simpa using hneg)]
   rw [hpos, ih h2 hys]
   rfl
theorem with_set {m : Mv} : ∀ {ms : List Mv}, ms.Pairwise ltM → (∃ x ∈ ms, x.g = m.g ∧ x.p = m.p) → withL m false ms = ms.set (posM ms m.g m.p) m := by
 intro ms
 induction ms with
 | nil => rintro _ ⟨x, hx, -⟩; cases hx
 | cons y ys ih =>
  intro h hex
  obtain ⟨h1, h2⟩ := List.pairwise_cons.1 h
  rw [withL]
  split
  ·rename_i hk
   have hpos : posM (y :: ys) m.g m.p = 0 := by
    unfold posM
    rw [List.countP_eq_zero]
    intro x hx hn
    have hn' : ordM m.g m.p x < 0 := by simpa using hn
    rw [ord_neg] at hn'
    rcases List.mem_cons.1 hx with rfl | hx
    ·omega
    ·have := h1 x hx
     unfold ltM at this
     omega
   have hno : ∀ x ∈ ys, ¬ (x.g = m.g ∧ x.p = m.p) := fun x hx => by
    have := h1 x hx
    unfold ltM at this
    omega
   have hpos2 : posM ys m.g m.p = 0 := by
    unfold posM at hpos ⊢
    rw [List.countP_cons] at hpos
    omega
   rw [hpos, with_insert h2 hno, hpos2]
   rfl
  ·rename_i hk
   obtain ⟨x, hx, hxk⟩ := hex
   have hx' : x ∈ ys := by
    rcases List.mem_cons.1 hx with rfl | hx
    ·exact absurd hxk hk
    ·exact hx
   have hlt := h1 x hx'
   unfold ltM at hlt
   rw [if_neg (by omega)]
   have hneg : ordM m.g m.p y < 0 := by rw [ord_neg]; omega
   have hpos : posM (y :: ys) m.g m.p = posM ys m.g m.p + 1 := by
    unfold posM
    rw [List.countP_cons_of_pos (by simpa using hneg)]
   rw [hpos, ih h2 ⟨x, hx', hxk⟩]
   rfl
theorem with_del {m : Mv} : ∀ {ms : List Mv}, ms.Pairwise ltM → (∃ x ∈ ms, x.g = m.g ∧ x.p = m.p) → withL m true ms = ms.take (posM ms m.g m.p) ++ ms.drop (posM ms m.g m.p + 1) := by
 intro ms
 induction ms with
 | nil => rintro _ ⟨x, hx, -⟩; cases hx
 | cons y ys ih =>
  intro h hex
  obtain ⟨h1, h2⟩ := List.pairwise_cons.1 h
  rw [withL]
  split
  ·rename_i hk
   have hpos : posM (y :: ys) m.g m.p = 0 := by
    unfold posM
    rw [List.countP_eq_zero]
    intro x hx hn
    have hn' : ordM m.g m.p x < 0 := by simpa using hn
    rw [ord_neg] at hn'
    rcases List.mem_cons.1 hx with rfl | hx
    ·omega
    ·have := h1 x hx
     unfold ltM at this
     omega
   have hno : ∀ x ∈ ys, ¬ (x.g = m.g ∧ x.p = m.p) := fun x hx => by
    have := h1 x hx
    unfold ltM at this
    omega
   rw [hpos, withL_true_no hno]
   rfl
  ·rename_i hk
   obtain ⟨x, hx, hxk⟩ := hex
   have hx' : x ∈ ys := by
    rcases List.mem_cons.1 hx with rfl | hx
    ·exact absurd hxk hk
    ·exact hx
   have hlt := h1 x hx'
   unfold ltM at hlt
   rw [if_neg (by simp)]
   have hneg : ordM m.g m.p y < 0 := by rw [ord_neg]; omega
   have hpos : posM (y :: ys) m.g m.p = posM ys m.g m.p + 1 := by
    unfold posM
    rw [List.countP_cons_of_pos (by simpa using hneg)]
   rw [hpos, ih h2 ⟨x, hx', hxk⟩]
   rfl
end Go.Proofs.YtopoefcklipaeaaGreatDoor
namespace Go.Proofs.YtopoefcklipaeaaGreatDoor
def onD (L : LayD) (d : Nat) : List Nat := (List.range L.n).filter fun g => ((L.gs[g]?).getD []).contains d
theorem countP_range (l : List (List Nat)) (q : List Nat → Bool) : ((List.range l.length).filter fun i => q ((l[i]?).getD [])).length = l.countP q := by
 induction l with
 | nil => rfl
 | cons a l ih =>
  rw [List.length_cons, List.range_succ_eq_map, List.filter_cons, List.countP_cons]
  have : ((List.range l.length).map Nat.succ).filter (fun i => q (((a :: l)[i]?).getD [])) = ((List.range l.length).filter fun i => q ((l[i]?).getD [])).map Nat.succ := by
   rw [List.filter_map]
   congr 1
  rw [this]
  split
  ·rename_i h
   rw [List.length_cons, List.length_map, ih, if_pos (by simpa using h)]
  ·rename_i h
   rw [List.length_map, ih, if_neg (by simpa using h)]
   rfl
section
variable {L : LayD}
theorem r_pos (ok : LayOk L) (hl : ∃ g ∈ L.gs, g ≠ []) : 0 < L.r := by
 obtain ⟨g, hg, hne⟩ := hl
 obtain ⟨d, hd⟩ := List.exists_mem_of_ne_nil g hne
 rw [← ok.cnt d (ok.lt g hg d hd), List.countP_pos_iff]
 exact ⟨g, hg, by simpa using hd⟩
theorem rpos (ok : LayOk L) : 0 < L.r := by
 have hn := ok.n
 unfold LayD.n at hn
 have hm : L.gs[0]'(by omega) ∈ L.gs := List.getElem_mem _
 refine r_pos ok ⟨_, hm, fun e => ?_⟩
 have := ok.len _ hm
 rw [e] at this
 have := ok.w
 simp at *
 omega
end
end Go.Proofs.YtopoefcklipaeaaGreatDoor
namespace Go.Proofs.YtopoefcklipaeaaGreatDoor
/-! ### the disks of a group -/
def disksL (L : LayD) (ms : List Mv) (g : Int) : List Int := (List.range L.w).map fun (i : Nat) => (whereL L ms g i).disk
theorem apart_nodup {L : LayD} {ms : List Mv} {g : Int} : apartL L ms g = true ↔ (disksL L ms g).Nodup := by
 rw [apart_iff]
 unfold disksL
 show _ ↔ List.Pairwise (· ≠ ·) _
 rw [List.pairwise_map]
 constructor
 ·intro h
  refine List.Pairwise.imp_of_mem (fun {a b} ha hb hab => ?_) List.pairwise_lt_range
  exact fun e => h b a (List.mem_range.1 hb) hab e.symm
 ·intro h a b ha hb e
  have := List.pairwise_iff_getElem.1 h b a (by simp; omega) (by simpa using ha) hb
  simp only [List.getElem_range] at this
  exact this e.symm
theorem whereL_congr {L : LayD} {ms ms' : List Mv} {g p : Int} (h : ms.find? (atM g p) = ms'.find? (atM g p)) : whereL L ms g p = whereL L ms' g p := by unfold whereL; rw [h]
theorem disks_start {L : LayD} {ms : List Mv} {g : Int} (h : ms.Pairwise ltM) (hp : ∀ m ∈ ms, 0 ≤ m.p) : disksL L (ms.take (posM ms g 0)) g = (List.range L.w).map fun (i : Nat) => (homeL L g.toNat i).disk := by
 unfold disksL
 refine List.map_congr_left fun i hi => ?_
 have : (ms.take (posM ms g 0)).find? (atM g i) = none := find_no.2 fun x hx hk => by
  have h1 := (pos_split (g := g) (p := 0) h).1 x hx
  rw [ord_neg] at h1
  have := hp x (List.mem_of_mem_take hx)
  omega
 unfold whereL
 rw [this]
 rfl
theorem disks_step {L : LayD} {ms : List Mv} {g : Int} {k : Nat} {m : Mv} (h : ms.Pairwise ltM) (hm : ms[k]? = some m) (hg : m.g = g) {p : Nat} (hp : m.p = (p : Int)) : disksL L (ms.take (k + 1)) g = (disksL L (ms.take k) g).set p m.to.disk := by
 unfold disksL
 refine List.ext_getElem? fun i => ?_
 rw [List.getElem?_set, List.getElem?_map, List.getElem?_map, List.length_map, List.length_range]
 have ht : ms.take (k + 1) = ms.take k ++ [m] := by rw [List.take_add_one, hm]; rfl
 by_cases hi : i < L.w
 ·rw [List.getElem?_range hi]
  simp only [Option.map_some]
  by_cases hip : p = i
  ·subst hip
   rw [if_pos rfl, if_pos hi]
   congr 1
   have hsub : (ms.take (k + 1)).Pairwise ltM := List.Pairwise.sublist (List.take_sublist _ _) h
   have hf : (ms.take (k + 1)).find? (atM g p) = some m := (find_iff hsub).2 ⟨by rw [ht]; simp, hg, hp⟩
   unfold whereL
   rw [hf]
  ·rw [if_neg hip]
   congr 2
   refine whereL_congr ?_
   rw [ht, List.find?_append]
   have : [m].find? (atM g i) = none := find_no.2 fun x hx hk => by
    have : x = m := by simpa using hx
    subst this
    omega
   rw [this]
   simp
 ·rw [List.getElem?_eq_none (by simpa using hi)]
  simp only [Option.map_none]
  split
  ·rename_i h1
   subst h1
   rw [if_neg hi]
  ·rfl
theorem disks_end {L : LayD} {ms : List Mv} {g : Int} {k : Nat} (h : ms.Pairwise ltM) (hp : ∀ m ∈ ms, 0 ≤ m.p) (hk : posM ms g 0 ≤ k) (hm : ∀ m, ms[k]? = some m → m.g ≠ g) : disksL L (ms.take k) g = disksL L ms g := by
 unfold disksL
 refine List.map_congr_left fun i hi => ?_
 congr 1
 refine whereL_congr ?_
 rcases hf : ms.find? (atM g i) with _ | x
 ·exact find_no.2 fun y hy hk => find_no.1 hf y (List.mem_of_mem_take hy) hk
 ·obtain ⟨h1, h2, h3⟩ := (find_iff h).1 hf
  have hsub : (ms.take k).Pairwise ltM := List.Pairwise.sublist (List.take_sublist _ _) h
  refine (find_iff hsub).2 ⟨?_, h2, h3⟩
  obtain ⟨j, hj⟩ := List.mem_iff_getElem?.1 h1
  rcases Nat.lt_or_ge j k with hlt | hge
  ·exact List.mem_of_getElem? (i := j) (by rw [List.getElem?_take, if_pos hlt]; exact hj)
  ·exfalso
   have hjl := (List.getElem?_eq_some_iff.1 hj).1
   obtain ⟨y, hy⟩ : ∃ y, ms[k]? = some y := ⟨ms[k]'(by omega), List.getElem?_eq_getElem _⟩
   have hyg := hm y hy
   have hyd : ¬ ordM g 0 y < 0 := (pos_split (g := g) (p := 0) h).2 y (List.mem_of_getElem? (i := k - posM ms g 0) (by rw [List.getElem?_drop]; rw [show posM ms g 0 + (k - posM ms g 0) = k by omega]; exact hy))
   rw [ord_neg] at hyd
   have hy0 := hp y (List.mem_of_getElem? hy)
   rcases Nat.lt_or_eq_of_le hge with hlt | rfl
   ·have := List.pairwise_iff_getElem.1 h k j (List.getElem?_eq_some_iff.1 hy).1 hjl hlt
    rw [(List.getElem?_eq_some_iff.1 hy).2, (List.getElem?_eq_some_iff.1 hj).2] at this
    unfold ltM at this
    omega
   ·rw [hy] at hj
    cases hj
    exact hyg h2
/-! ### valid, step by step -/
structure StepOk (L : LayD) (ms : List Mv) (i : Nat) (m : Mv) : Prop where
 is : isP L m.g m.p = true
 to : toOk L m.to = true
 ord : ∀ x, 0 < i → ms[i - 1]? = some x → ltM x m
 sep : ∀ j x, j < i → ms[j]? = some x → x.to ≠ m.to
theorem ltM_trans {a b c : Mv} (h1 : ltM a b) (h2 : ltM b c) : ltM a c := by unfold ltM at *; omega
theorem adj_pairwise {ms : List Mv} (h : ∀ i x y, ms[i]? = some x → ms[i + 1]? = some y → ltM x y) : ms.Pairwise ltM := by
 rw [List.pairwise_iff_getElem]
 intro i j hi hj hij
 induction j with
 | zero => omega
 | succ j ih =>
  have hlast := h j ms[j] ms[j + 1] (List.getElem?_eq_getElem (by omega)) (List.getElem?_eq_getElem hj)
  rcases Nat.lt_or_eq_of_le (Nat.le_of_lt_succ hij) with hlt | rfl
  ·exact ltM_trans (ih (by omega) hlt) hlast
  ·exact hlast
theorem valid_iff {L : LayD} {ms : List Mv} : validM L ms = true ↔ (∀ i m, ms[i]? = some m → StepOk L ms i m) ∧ ∀ m ∈ ms, apartL L ms m.g = true := by
 unfold validM
 rw [decide_eq_true_eq]
 constructor
 ·intro h
  refine ⟨fun i m hm => ⟨h.is m (List.mem_of_getElem? hm), h.to m (List.mem_of_getElem? hm), fun x hi hx => ?_, fun j x hj hx => ?_⟩, h.apart⟩
  ·have := List.pairwise_iff_getElem.1 h.ord (i - 1) i (List.getElem?_eq_some_iff.1 hx).1 (List.getElem?_eq_some_iff.1 hm).1 (by omega)
   rwa [(List.getElem?_eq_some_iff.1 hx).2, (List.getElem?_eq_some_iff.1 hm).2] at this
  ·have := List.pairwise_iff_getElem.1 h.sep j i (List.getElem?_eq_some_iff.1 hx).1 (List.getElem?_eq_some_iff.1 hm).1 hj
   rwa [(List.getElem?_eq_some_iff.1 hx).2, (List.getElem?_eq_some_iff.1 hm).2] at this
 ·rintro ⟨h, ha⟩
  refine ⟨fun m hm => ?_, fun m hm => ?_, adj_pairwise fun i x y hx hy => (h (i + 1) y hy).ord x (by omega) hx, ?_, ha⟩
  ·obtain ⟨i, hi⟩ := List.mem_iff_getElem?.1 hm
   exact (h i m hi).is
  ·obtain ⟨i, hi⟩ := List.mem_iff_getElem?.1 hm
   exact (h i m hi).to
  ·rw [List.pairwise_iff_getElem]
   intro i j hi hj hij
   exact (h j ms[j] (List.getElem?_eq_getElem hj)).sep i ms[i] hij (List.getElem?_eq_getElem hi)
theorem valid_ok {L : LayD} {ms : List Mv} (h : validM L ms = true) : MvOk L ms := by unfold validM at h; simpa using h
theorem ok_nil (L : LayD) : MvOk L [] := ⟨by simp, by simp, List.Pairwise.nil, List.Pairwise.nil, by simp⟩
/-! ### the best disk, as spare keeps it -/
/-! ### a return -/
def without (ms : List Mv) (g p : Int) : List Mv := ms.filter fun x => !(x.g == g && x.p == p)
end Go.Proofs.YtopoefcklipaeaaGreatDoor
