/- Maps of the call's own, by what they answer: pointers and bools as elements. Nothing of the program is walked here. -/
import Derived.Test.YtcgbnlhloopnfaaWords
import Derived.Maps.Own
import Derived.Maps.OwnOps
import Derived.Maps.OwnSet
namespace Go.Proofs.Ytcgbnlhloopnfaa
open Go.RowKit
open Go.Maps (Keyed)

structure Codec (α : Type) where
  R : Value → Option (DataW Unit × List MemPlace)
  val : α → Value
  dat : α → DataW Unit
  zero : α
  rval : ∀ a, R (val a) = some (dat a, [])
  inv : ∀ v a ps, R v = some (dat a, ps) → v = val a

def ptrV : Option (Nat × Nat) → Value
  | none => .pointer none
  | some (b, o) => .pointer (some ⟨b, o, none⟩)
def ptrD : Option (Nat × Nat) → DataW Unit
  | none => .nil
  | some (b, o) => .agg [.lit (.int .i64 b), .lit (.int .i64 o)]
def ptrR : Value → Option (DataW Unit × List MemPlace)
  | .pointer none => some (.nil, [])
  | .pointer (some ⟨b, o, none⟩) => some (.agg [.lit (.int .i64 b), .lit (.int .i64 o)], [])
  | _ => none
def ptrC : Codec (Option (Nat × Nat)) where
  R := ptrR
  val := ptrV
  dat := ptrD
  zero := none
  rval a := by rcases a with _ | ⟨b, o⟩ <;> rfl
  inv v a ps h := by
    unfold ptrR at h
    split at h
    · rcases a with _ | ⟨b, o⟩
      · rfl
      · simp [ptrD] at h
    · rcases a with _ | ⟨b', o'⟩
      · simp [ptrD] at h
      · simp [ptrD] at h
        obtain ⟨⟨h1, h2⟩, _⟩ := h
        obtain rfl := Int.ofNat_inj.1 h1
        obtain rfl := Int.ofNat_inj.1 h2
        rfl
    · cases h
def boolR : Value → Option (DataW Unit × List MemPlace)
  | .bool x => some (.lit (.bool x), [])
  | _ => none
def boolC : Codec Bool where
  R := boolR
  val := .bool
  dat x := .lit (.bool x)
  zero := false
  rval a := rfl
  inv v a ps h := by
    unfold boolR at h
    split at h
    · simp at h; rw [h.1]
    · cases h

section
variable {α : Type} {C : Codec α} {P : Program} {k : TypeId} {w w' : World} {b n : Nat} {f : Lit → α}

def updK (f : Lit → α) (kl : Lit) (a : α) : Lit → α := fun x => if x.sameKey kl then a else f x

def MapG (C : Codec α) (w : World) (P : Program) (k : TypeId) (b n : Nat) (f : Lit → α) : Prop :=
  ∃ D, w.ownsMap P k C.R b n D ∧ Maps.IsMap D ∧ ∀ kl, WideAt.IsKeyLit kl → D.atKey kl (C.dat C.zero) = C.dat (f kl)

theorem MapG.made (w : World) (P : Program) (k : TypeId) : MapG C (w.alloc (.map #[] 0)) P k w.heap.size 0 (fun _ => C.zero) :=
  ⟨.map [], World.ownsMap_made w P k C.R, Maps.isMap_empty, fun _ _ => rfl⟩
theorem MapG.lt (h : MapG C w P k b n f) : b < w.heap.size := by obtain ⟨D, h1, _⟩ := h; exact h1.lt
theorem MapG.kept (h : MapG C w P k b n f) {row : Option Nat} (hg : w.grownBy w' row) (hne : some b ≠ row) : MapG C w' P k b n f := by
  obtain ⟨D, h1, h2⟩ := h; exact ⟨D, h1.kept hg hne, h2⟩
theorem MapG.alloc (h : MapG C w P k b n f) (o : Obj) : MapG C (w.alloc o) P k b n f := by
  obtain ⟨D, h1, h2⟩ := h; exact ⟨D, h1.alloc o, h2⟩
theorem MapG.drewN (h : MapG C w P k b n f) (m : Nat) : MapG C (w.drewN m) P k b n f := h
theorem MapG.below (h : MapG C w P k b n f) (hb : Below w.heap.size w w') : MapG C w' P k b n f :=
  h.kept (row := none) ⟨hb.os, hb.tape, hb.output, hb.size, fun k hk _ => hb.block k hk⟩ (by simp)
theorem MapG.block (h : MapG C w P k b n f) (hb : w'.heap[b]? = w.heap[b]?) : MapG C w' P k b n f := by
  obtain ⟨D, ⟨es, clock, h0, h1⟩, h2⟩ := h
  exact ⟨D, ⟨es, clock, hb.trans h0, h1⟩, h2⟩
theorem MapG.look (h : MapG C w P k b n f) {t e : TypeId} (K : Keyed P k) (ht : P.underlying t = some (.map k e)) (hz : (zeroValue e).run P w = .ok (C.val C.zero) w)
    {key : Value} {kl : Lit} (hkey : keyOf P k key = some kl) (hk : WideAt.IsKeyLit kl) : (Instr.lookup t (.map (some b)) key false).run P w = .ok (C.val (f kl)) w := by
  obtain ⟨D, h1, _, h3⟩ := h
  obtain ⟨v, ps, hrun, hv⟩ := h1.lookup K ht hz (C.rval C.zero) hkey
  rw [h3 kl hk] at hv
  rw [hrun, C.inv v (f kl) ps hv]
theorem MapG.put {D : DataW Unit} {kl : Lit} {a : α} (hkl : WideAt.IsKeyLit kl) (h1 : w.ownsMap P k C.R b n (D.put kl (C.dat a))) (h2 : Maps.IsMap D) (h3 : ∀ kl, WideAt.IsKeyLit kl → D.atKey kl (C.dat C.zero) = C.dat (f kl)) :
    MapG C w P k b n (updK f kl a) := by
  refine ⟨_, h1, h2.put _ _, fun x hx => ?_⟩
  by_cases hxk : x = kl
  · subst hxk
    rw [Maps.atKey_put_same h2 hx, updK, WideAt.sameKey_self hx]
    rfl
  · rw [Maps.atKey_put_other hxk, h3 x hx, updK, Maps.sameKey_ne hxk]
    rfl
theorem wpList_lookG {ops : Array Oper} {rest : List Oper} {o : Oper} {a : Act} {Q : Exit → Act → World → Prop} (hg : o.guard = none) (m x : Operand) (t : TypeId) (hop : o.op = Op.lookup t m x false)
    {e : TypeId} (K : Keyed P k) (ht : P.underlying t = some (.map k e)) (hz : (zeroValue e).run P w = .ok (C.val C.zero) w) (hm : a.eval m = .map (some b)) (h : MapG C w P k b n f)
    (key : Value) (kl : Lit) (hx : a.eval x = key) (hkey : keyOf P k key = some kl) (hk : WideAt.IsKeyLit kl)
    (hK : wpList P ops Q rest (a.put o.dst (C.val (f kl))) w) : wpList P ops Q (o :: rest) a w := by
  refine wpList_plain hg fun K' hK' => ?_
  have hrun := h.look K ht hz hkey hk
  unfold Oper.wp
  simp [execOp, hop, hm, hx, hrun, Result.andThen]
  exact hK' _ _ hK
theorem wpList_putG {ops : Array Oper} {rest : List Oper} {o : Oper} {a : Act} {Q : Exit → Act → World → Prop} (hg : o.guard = none) (m x v : Operand) (t : TypeId) (hop : o.op = Op.mapUpdate t m x v)
    {e : TypeId} (K : Keyed P k) (ht : P.underlying t = some (.map k e)) (hm : a.eval m = .map (some b)) (h : MapG C w P k b n f) (hn : n < maxLen) (key : Value) (kl : Lit) (hx : a.eval x = key) (hkey : keyOf P k key = some kl) (hkl : WideAt.IsKeyLit kl)
    (y : α) (hv : a.eval v = C.val y)
    (hK : ∀ w', MapG C w' P k b (n + 1) (updK f kl y) → w.grownBy w' (some b) → wpList P ops Q rest (a.put o.dst undef) w') : wpList P ops Q (o :: rest) a w := by
  obtain ⟨D, h1, h2, h3⟩ := h
  exact wpList_mapUpdate_own w hg m x v t hop k e K ht C.R b n D hm h1 hn key _ kl hx hv hkey (C.dat y) [] (C.rval y) fun w' h1' hg' => hK w' (MapG.put hkl h1' h2 h3) hg'
end
end Go.Proofs.Ytcgbnlhloopnfaa
