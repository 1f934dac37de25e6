/- The values and the steps of an evaluator of the model's code; first part of the proof that it is sound. -/
import Derived.Calls
import Derived.KernelRfl
import Derived.Orders
import Derived.Below
import Derived.Laws.Cells
import Derived.Laws.Tables
import Derived.IntWalk
import Derived.ChangeKeysEq
import Derived.Laws.Cover3
import Derived.Laws.Small
import Derived.Laws.Pointers
import Derived.Laws.StructEq
import Derived.Laws.BytesString
import Derived.Laws.Strings
namespace Go.Ev

/-! values -/
inductive V where
  | bool (b : Bool)
  | int (k : IntKind) (n : Int)
  | str (s : List UInt8)
  | nilp
  | ptr (b off : Nat)
  | nils
  | slice (b off len cap : Nat)
  | grow (b off k len : Nat)
  | nilm
  | map (b : Nat)
  | nilf
  | func (f : Nat) (first captured : List V)
  | yield (l : Nat)
  | nili
  | iface (t : Nat) (v : V)
  | agg (cs : List V)
  | tup (vs : List V)
  /-- a slice of length 0 that is not nil, wherever it lies -/
  | void
  deriving Inhabited

abbrev Th := Nat → Option (Nat × Nat)

mutual
def VR (θ : Th) : V → Value → Prop
  | .bool b, v => v = .bool b
  | .int k n, v => v = .int k n
  | .str s, v => v = .string ⟨s.toArray⟩
  | .nilp, v => v = .pointer none
  | .ptr b o, v => ∃ c, θ b = some c ∧ v = .pointer (some ⟨c.1, o, none⟩)
  | .nils, v => v = .slice none 0 0
  | .slice b o n m, v => ∃ c, θ b = some c ∧ v = .slice (some ⟨c.1, o, none⟩) n m
  | .grow b o k n, v => ∃ c, θ b = some c ∧ v = .slice (some ⟨c.1, o, none⟩) n (c.2 - k)
  | .nilm, v => v = .map none
  | .map b, v => ∃ c, θ b = some c ∧ v = .map (some c.1)
  | .nilf, v => v = .nilFunc
  | .func f xs ys, v => ∃ as bs, v = .func (.func f) as bs ∧ VRL θ xs as.toList ∧ VRL θ ys bs.toList
  | .yield l, v => ∃ c, θ l = some c ∧ v = .func (.yield c.1) #[] #[]
  | .nili, v => v = .nilIface
  | .iface t x, v => ∃ y, v = .iface t y ∧ VR θ x y
  | .agg xs, v => ∃ cs, v = .agg cs ∧ VRL θ xs cs.toList
  | .tup xs, v => ∃ cs, v = .tuple cs ∧ VRL θ xs cs.toList
  | .void, v => ∃ a n, v = .slice (some a) 0 n
def VRL (θ : Th) : List V → List Value → Prop
  | [], l => l = []
  | x :: xs, l => ∃ y ys, l = y :: ys ∧ VR θ x y ∧ VRL θ xs ys
end

def Le (θ θ' : Th) : Prop := ∀ b c, θ b = some c → θ' b = some c

mutual
theorem VR.mono {θ θ' : Th} (h : Le θ θ') : ∀ (x : V) (v : Value), VR θ x v → VR θ' x v
  | .bool _, _ | .int _ _, _ | .str _, _ | .void, _ | .nilp, _ | .nils, _ | .nilm, _ | .nilf, _ | .nili, _ => by simp only [VR]; exact id
  | .ptr .., _ | .slice .., _ | .grow .., _ | .map _, _ | .yield _, _ => by
    simp only [VR]; rintro ⟨c, hc, rfl⟩; exact ⟨c, h _ _ hc, rfl⟩
  | .func _ xs ys, _ => by simp only [VR]; rintro ⟨a, b, rfl, ha, hb⟩; exact ⟨a, b, rfl, VRL.mono h _ _ ha, VRL.mono h _ _ hb⟩
  | .iface _ x, _ => by simp only [VR]; rintro ⟨y, rfl, hy⟩; exact ⟨y, rfl, VR.mono h _ _ hy⟩
  | .agg xs, _ | .tup xs, _ => by simp only [VR]; rintro ⟨c, rfl, hc⟩; exact ⟨c, rfl, VRL.mono h _ _ hc⟩
theorem VRL.mono {θ θ' : Th} (h : Le θ θ') : ∀ (xs : List V) (l : List Value), VRL θ xs l → VRL θ' xs l
  | [], _ => by simp only [VRL]; exact id
  | x :: xs, _ => by simp only [VRL]; rintro ⟨y, ys, rfl, hy, hys⟩; exact ⟨y, ys, rfl, VR.mono h _ _ hy, VRL.mono h _ _ hys⟩
end

/-! tries -/
inductive Tr (α : Type) where
  | nil
  | node (l : Tr α) (v : Option α) (r : Tr α)
  deriving Inhabited

/-- a choice that the kernel makes in one step -/
noncomputable def sel {α : Type} (b : Bool) (t e : α) : α := Bool.rec e t b
theorem sel_true {α : Type} (t e : α) : sel true t e = t := rfl
theorem sel_false {α : Type} (t e : α) : sel false t e = e := rfl

noncomputable def Tr.get {α : Type} (t : Tr α) : Nat → Option α :=
  Tr.rec (fun _ => none) (fun _ v _ gl gr n => @Bool.rec (fun _ => Option α) (@Bool.rec (fun _ => Option α) (gr (Nat.sub (Nat.div n 2) 1)) (gl (Nat.div n 2)) (Nat.beq (Nat.mod n 2) 1)) v (Nat.beq n 0)) t
theorem Tr.get_nil {α : Type} (n : Nat) : Tr.get (.nil : Tr α) n = none := rfl
theorem Tr.get_node {α : Type} (l r : Tr α) (v : Option α) (n : Nat) : Tr.get (.node l v r) n = sel (Nat.beq n 0) v (sel (Nat.beq (n % 2) 1) (l.get (n / 2)) (r.get (n / 2 - 1))) := rfl

noncomputable def Tr.set {α : Type} (f : Nat) : Tr α → Nat → Option α → Tr α :=
  @Nat.rec (fun _ => Tr α → Nat → Option α → Tr α) (fun t _ _ => t)
    (fun _ ih t n x => @Tr.rec α (fun _ => Tr α)
      (@Bool.rec (fun _ => Tr α) (@Bool.rec (fun _ => Tr α) (.node .nil none (ih .nil (Nat.sub (Nat.div n 2) 1) x)) (.node (ih .nil (Nat.div n 2) x) none .nil) (Nat.beq (Nat.mod n 2) 1)) (.node .nil x .nil) (Nat.beq n 0))
      (fun l v r _ _ => @Bool.rec (fun _ => Tr α) (@Bool.rec (fun _ => Tr α) (.node l v (ih r (Nat.sub (Nat.div n 2) 1) x)) (.node (ih l (Nat.div n 2) x) v r) (Nat.beq (Nat.mod n 2) 1)) (.node l x r) (Nat.beq n 0)) t) f
theorem Tr.set_zero {α : Type} (t : Tr α) (n : Nat) (x : Option α) : Tr.set 0 t n x = t := rfl
theorem Tr.set_nil {α : Type} (f n : Nat) (x : Option α) : Tr.set (f + 1) .nil n x = sel (Nat.beq n 0) (.node .nil x .nil) (sel (Nat.beq (n % 2) 1) (.node (Tr.set f .nil (n / 2) x) none .nil) (.node .nil none (Tr.set f .nil (n / 2 - 1) x))) := rfl
theorem Tr.set_node {α : Type} (f n : Nat) (x : Option α) (l r : Tr α) (v : Option α) : Tr.set (f + 1) (.node l v r) n x = sel (Nat.beq n 0) (.node l x r) (sel (Nat.beq (n % 2) 1) (.node (Tr.set f l (n / 2) x) v r) (.node l v (Tr.set f r (n / 2 - 1) x))) := rfl

end Go.Ev

namespace Go.Ev

theorem beq_zero {m : Nat} (h : m ≠ 0) : Nat.beq m 0 = false := by cases m with | zero => exact absurd rfl h | succ n => rfl
theorem Tr.get_set {α : Type} : ∀ (f : Nat) (t : Tr α) (n : Nat) (x : Option α), n + 1 < 2 ^ f → ∀ m, (Tr.set f t n x).get m = if m = n then x else t.get m
  | 0, _, _, _, h, _ => by simp at h
  | f + 1, t, n, x, h, m => by
    have ih := fun (t : Tr α) => Tr.get_set f t
    have h2 : n < 2 ^ f * 2 := by rw [← Nat.pow_succ]; omega
    have e0 : Nat.beq 0 0 = true := rfl
    have hmm : ∀ m, m ≠ 0 → Nat.beq m 0 = false := fun m h => beq_zero h
    have hm1 : ∀ m, m % 2 = 1 → Nat.beq (m % 2) 1 = true := by intro m h; rw [h]; rfl
    have hm0 : ∀ m, m % 2 = 0 → Nat.beq (m % 2) 1 = false := by intro m h; rw [h]; rfl
    rcases Nat.eq_zero_or_pos n with rfl | hn
    · cases t with
      | nil =>
        simp only [Tr.set_nil, e0, sel_true, Tr.get_node, Tr.get_nil]
        by_cases hm : m = 0
        · subst hm; rfl
        · simp only [hmm m hm, sel_false, hm, if_false]; cases Nat.beq (m % 2) 1 <;> rfl
      | node l v r =>
        simp only [Tr.set_node, e0, sel_true, Tr.get_node]
        by_cases hm : m = 0
        · subst hm; rfl
        · simp only [hmm m hm, sel_false, hm, if_false]
    · have hnz : Nat.beq n 0 = false := beq_zero (by omega)
      rcases Nat.mod_two_eq_zero_or_one n with hp | hp
      · have ihn : ∀ t : Tr α, ∀ m, (Tr.set f t (n / 2 - 1) x).get m = if m = n / 2 - 1 then x else t.get m := fun t m => ih t _ x (by omega) m
        have key : ∀ (l r : Tr α) (v : Option α), (Tr.node l v (Tr.set f r (n / 2 - 1) x)).get m = if m = n then x else (Tr.node l v r).get m := by
          intro l r v
          simp only [Tr.get_node]
          by_cases hm : m = 0
          · subst hm; have : (0 : Nat) ≠ n := by omega
            simp only [e0, sel_true, this, if_false]
          · simp only [hmm m hm, sel_false]
            rcases Nat.mod_two_eq_zero_or_one m with hq | hq
            · simp only [hm0 m hq, sel_false, ihn]
              by_cases e : m = n
              · subst e; simp
              · have : m / 2 - 1 ≠ n / 2 - 1 := by omega
                simp only [this, e, if_false]
            · simp only [hm1 m hq, sel_true]
              have : m ≠ n := by omega
              simp only [this, if_false]
        cases t with
        | nil =>
          simp only [Tr.set_nil, hnz, hm0 n hp, sel_false]
          rw [key]
          simp only [Tr.get_node, Tr.get_nil]
          cases Nat.beq m 0 <;> cases Nat.beq (m % 2) 1 <;> rfl
        | node l v r => simp only [Tr.set_node, hnz, hm0 n hp, sel_false]; exact key l r v
      · have ihn : ∀ t : Tr α, ∀ m, (Tr.set f t (n / 2) x).get m = if m = n / 2 then x else t.get m := fun t m => ih t _ x (by omega) m
        have key : ∀ (l r : Tr α) (v : Option α), (Tr.node (Tr.set f l (n / 2) x) v r).get m = if m = n then x else (Tr.node l v r).get m := by
          intro l r v
          simp only [Tr.get_node]
          by_cases hm : m = 0
          · subst hm; have : (0 : Nat) ≠ n := by omega
            simp only [e0, sel_true, this, if_false]
          · simp only [hmm m hm, sel_false]
            rcases Nat.mod_two_eq_zero_or_one m with hq | hq
            · simp only [hm0 m hq, sel_false]
              have : m ≠ n := by omega
              simp only [this, if_false]
            · simp only [hm1 m hq, sel_true, ihn]
              by_cases e : m = n
              · subst e; simp
              · have : m / 2 ≠ n / 2 := by omega
                simp only [this, e, if_false]
        cases t with
        | nil =>
          simp only [Tr.set_nil, hnz, hm1 n hp, sel_false, sel_true]
          rw [key]
          simp only [Tr.get_node, Tr.get_nil]
          cases Nat.beq m 0 <;> cases Nat.beq (m % 2) 1 <;> rfl
        | node l v r => simp only [Tr.set_node, hnz, hm1 n hp, sel_false, sel_true]; exact key l r v

/-! objects and the state -/
structure Lp where
  state : LoopState
  pending : Option Code
  fn : Nat
  tmps : Tr V
  size : Nat
  params : List Nat
  assign : Code
  body : Code
  defers : Nat

inductive O where
  /-- a row whose cells are all known -/
  | cells (elem : Nat) (c : List V)
  /-- a row made by append: known cells, then some unknown ones -/
  | grown (elem : Nat) (size : Nat) (c : List V)
  | map (es : List (V × V × Nat)) (clock : Nat)
  | iter (m : Option Nat) (since : Nat) (seen : List Nat) (stepped : Nat)
  | loop (l : Lp)
  | deferred (open_ : Bool)

structure St where
  next : Nat
  heap : Tr O
  rd : Nat
  wr : Nat

noncomputable def St.at (s : St) (i : Nat) : Option O := s.heap.get i

inductive Rs (α : Type) where
  | no
  | ok (a : α) (s : St)

def Framed {α : Type} (m : St → Rs α) : Prop :=
  ∀ s r s', m s = .ok r s' → s.next ≤ s'.next ∧ ∃ R W : Nat, s'.rd = s.rd ||| R ∧ s'.wr = s.wr ||| W ∧
    (∀ i, W.testBit i = false → s'.at i = s.at i) ∧
    ∀ t : St, t.next = s.next → (∀ i, R.testBit i = true ∨ W.testBit i = true → t.at i = s.at i) →
      ∃ t', m t = .ok r t' ∧ t'.next = s'.next ∧ t'.rd = t.rd ||| R ∧ t'.wr = t.wr ||| W ∧
        (∀ i, W.testBit i = true → t'.at i = s'.at i) ∧ (∀ i, W.testBit i = false → t'.at i = t.at i)

structure FM (α : Type) where
  run : St → Rs α
  framed : Framed run

namespace FM
def pure {α : Type} (a : α) : FM α := ⟨fun s => .ok a s, by
  intro s r s' h
  obtain ⟨rfl, rfl⟩ : a = r ∧ s = s' := by simpa using h
  exact ⟨Nat.le_refl _, 0, 0, by simp, by simp, by simp, fun t ht _ => ⟨t, rfl, ht, by simp, by simp, by simp, by simp⟩⟩⟩
def fail {α : Type} : FM α := ⟨fun _ => .no, by intro s r s' h; cases h⟩

noncomputable def bindR {α β : Type} (f : α → FM β) (r : Rs α) : Rs β := @Rs.rec α (fun _ => Rs β) .no (fun a s => (f a).run s) r
theorem bindR_no {α β : Type} (f : α → FM β) : bindR f .no = .no := rfl
theorem bindR_ok {α β : Type} (f : α → FM β) (a : α) (s : St) : bindR f (.ok a s) = (f a).run s := rfl

theorem bind_framed {α β : Type} (m : FM α) (f : α → FM β) : Framed fun s => bindR f (m.run s) := by
  intro s r s' h
  cases hm : m.run s with
  | no => simp [hm, bindR_no] at h
  | ok a s1 =>
    simp only [hm, bindR_ok] at h
    obtain ⟨hn1, R1, W1, hr1, hw1, hk1, ht1⟩ := m.framed s a s1 hm
    obtain ⟨hn2, R2, W2, hr2, hw2, hk2, ht2⟩ := (f a).framed s1 r s' h
    refine ⟨Nat.le_trans hn1 hn2, R1 ||| R2, W1 ||| W2, ?_, ?_, ?_, ?_⟩
    · rw [hr2, hr1, Nat.or_assoc]
    · rw [hw2, hw1, Nat.or_assoc]
    · intro i hi
      simp only [Nat.testBit_or, Bool.or_eq_false_iff] at hi
      rw [hk2 i hi.2, hk1 i hi.1]
    · intro t htn hag
      simp only [Nat.testBit_or, Bool.or_eq_true] at hag
      obtain ⟨t1, hmt, hn, hr, hw, hin, hout⟩ := ht1 t htn (fun i hi => hag i (by rcases hi with h | h <;> simp [h]))
      have hag2 : ∀ i, R2.testBit i = true ∨ W2.testBit i = true → t1.at i = s1.at i := by
        intro i hi
        by_cases hwi : W1.testBit i = true
        · exact hin i hwi
        · have hwi' : W1.testBit i = false := by simpa using hwi
          rw [hout i hwi', hk1 i hwi', hag i (by rcases hi with h | h <;> simp [h])]
      obtain ⟨t', hft, hn', hr', hw', hin', hout'⟩ := ht2 t1 hn hag2
      refine ⟨t', by simp only [hmt, bindR_ok]; exact hft, hn', by rw [hr', hr, Nat.or_assoc], by rw [hw', hw, Nat.or_assoc], ?_, ?_⟩
      · intro i hi
        by_cases hwi : W2.testBit i = true
        · exact hin' i hwi
        · have hwi' : W2.testBit i = false := by simpa using hwi
          have hw1i : W1.testBit i = true := by
            simp only [Nat.testBit_or, Bool.or_eq_true] at hi
            rcases hi with h | h
            · exact h
            · exact absurd h hwi
          rw [hout' i hwi', hk2 i hwi', hin i hw1i]
      · intro i hi
        simp only [Nat.testBit_or, Bool.or_eq_false_iff] at hi
        rw [hout' i hi.2, hout i hi.1]
noncomputable def bind {α β : Type} (m : FM α) (f : α → FM β) : FM β := ⟨fun s => bindR f (m.run s), bind_framed m f⟩

theorem run_pure {α : Type} (a : α) (s : St) : (pure a).run s = .ok a s := rfl
theorem run_fail {α : Type} (s : St) : (fail : FM α).run s = .no := rfl
theorem run_bind {α β : Type} (m : FM α) (f : α → FM β) (s : St) (r : β) (s' : St) :
    (m.bind f).run s = .ok r s' ↔ ∃ a s1, m.run s = .ok a s1 ∧ (f a).run s1 = .ok r s' := by
  show bindR f (m.run s) = _ ↔ _
  cases h : m.run s with
  | no => simp [bindR_no]
  | ok a s1 =>
    simp only [bindR_ok, Rs.ok.injEq]
    exact ⟨fun h => ⟨a, s1, ⟨rfl, rfl⟩, h⟩, fun ⟨_, _, ⟨rfl, rfl⟩, h⟩ => h⟩

noncomputable def getR (i : Nat) (s : St) (r : Option O) : Rs O := @Option.rec O (fun _ => Rs O) .no (fun o => .ok o ⟨s.next, s.heap, Nat.lor s.rd (Nat.pow 2 i), s.wr⟩) r
theorem get_framed (i : Nat) : Framed fun s => getR i s (s.heap.get i) := by
  intro s r s' h
  cases ho : s.heap.get i with
  | none => simp [ho, getR] at h
  | some o =>
    simp only [ho, getR, Rs.ok.injEq] at h
    obtain ⟨rfl, rfl⟩ := h
    refine ⟨Nat.le_refl _, 2 ^ i, 0, rfl, by simp, fun _ _ => rfl, ?_⟩
    intro t ht hag
    have : t.heap.get i = some o := by rw [← ho]; exact hag i (by simp [Nat.testBit_two_pow_self])
    exact ⟨⟨t.next, t.heap, t.rd ||| 2 ^ i, t.wr⟩, by simp only [this]; rfl, ht, rfl, by simp, by simp, fun _ _ => rfl⟩
/-- the object of a block -/
noncomputable def get (i : Nat) : FM O := ⟨fun s => getR i s (s.heap.get i), get_framed i⟩
theorem run_get (i : Nat) (s : St) (o : O) (s' : St) (h : (get i).run s = .ok o s') : s.at i = some o ∧ s'.next = s.next ∧ s'.heap = s.heap := by
  simp only [get] at h
  cases ho : s.heap.get i with
  | none => simp [ho, getR] at h
  | some q =>
    simp only [ho, getR, Rs.ok.injEq] at h
    obtain ⟨rfl, rfl⟩ := h
    exact ⟨ho, rfl, rfl⟩

abbrev depth : Nat := 40
/-- the numbers below are those of the package's variables, which are read only -/
abbrev base : Nat := 1000
noncomputable def putR (i : Nat) (o : Option O) (s : St) (r : Option O) : Rs Unit :=
  @Option.rec O (fun _ => Rs Unit) .no (fun _ => sel (and (Nat.ble base i) (Nat.blt i (2 ^ 30))) (.ok () ⟨s.next, Tr.set depth s.heap i o, s.rd, Nat.lor s.wr (Nat.pow 2 i)⟩) .no) r
theorem putR_some (i : Nat) (o : Option O) (s : St) (q : O) (s' : St) (u : Unit) (h : putR i o s (some q) = .ok u s') :
    base ≤ i ∧ i < 2 ^ 30 ∧ s' = ⟨s.next, Tr.set depth s.heap i o, s.rd, s.wr ||| 2 ^ i⟩ := by
  simp only [putR] at h
  cases hb : and (Nat.ble base i) (Nat.blt i (2 ^ 30)) with
  | false => simp [hb, sel_false] at h
  | true =>
    simp only [hb, sel_true, Rs.ok.injEq] at h
    simp only [Bool.and_eq_true] at hb
    exact ⟨by simpa using hb.1, by simpa using hb.2, h.2.symm⟩
theorem put_framed (i : Nat) (o : Option O) : Framed fun s => putR i o s (s.heap.get i) := by
  intro s r s' h
  cases ho : s.heap.get i with
  | none => simp [ho, putR] at h
  | some q =>
    simp only [ho] at h
    obtain ⟨h1, h2, rfl⟩ := putR_some _ _ _ _ _ _ h
    have hlt : i + 1 < 2 ^ depth := by simp only [depth]; omega
    have hc : and (Nat.ble base i) (Nat.blt i (2 ^ 30)) = true := by simp only [Bool.and_eq_true]; exact ⟨by simpa using h1, by simpa using h2⟩
    refine ⟨Nat.le_refl _, 0, 2 ^ i, by simp, rfl, ?_, ?_⟩
    · intro j hj
      have : j ≠ i := by rintro rfl; simp [Nat.testBit_two_pow_self] at hj
      simp only [St.at, Tr.get_set depth _ _ _ hlt, this, if_false]
    · intro t ht hag
      have : t.heap.get i = some q := by rw [← ho]; exact hag i (by simp [Nat.testBit_two_pow_self])
      refine ⟨⟨t.next, Tr.set depth t.heap i o, t.rd, t.wr ||| 2 ^ i⟩, by simp only [this, putR, hc, sel_true]; rfl, ht, by simp, rfl, ?_, ?_⟩
      · intro j hj
        have : j = i := by
          rw [Nat.testBit_two_pow] at hj; simpa using (of_decide_eq_true hj).symm
        subst this
        simp only [St.at, Tr.get_set depth _ _ _ hlt, if_true]
      · intro j hj
        have : j ≠ i := by rintro rfl; simp [Nat.testBit_two_pow_self] at hj
        simp only [St.at, Tr.get_set depth _ _ _ hlt, this, if_false]
/-- another object in the place of one that lies there (none: it is gone) -/
noncomputable def put (i : Nat) (o : Option O) : FM Unit := ⟨fun s => putR i o s (s.heap.get i), put_framed i o⟩
theorem run_put (i : Nat) (o : Option O) (s : St) (u : Unit) (s' : St) (h : (put i o).run s = .ok u s') :
    base ≤ i ∧ (∃ q, s.at i = some q) ∧ s'.next = s.next ∧ ∀ j, s'.at j = if j = i then o else s.at j := by
  simp only [put] at h
  cases ho : s.heap.get i with
  | none => simp [ho, putR] at h
  | some q =>
    rw [ho] at h
    obtain ⟨h1, h2, rfl⟩ := putR_some _ _ _ _ _ _ h
    have hlt : i + 1 < 2 ^ depth := by simp only [depth]; omega
    exact ⟨h1, ⟨q, ho⟩, rfl, fun j => by simp only [St.at, Tr.get_set depth _ _ _ hlt]⟩

/-- the number that comes next, made a literal ahead of its use -/
noncomputable def newAt (o : O) (s : St) (n : Nat) : Rs Nat :=
  @Option.rec O (fun _ => Rs Nat) (sel (and (Nat.ble base n) (Nat.blt n (2 ^ 30))) (.ok n ⟨Nat.succ n, Tr.set depth s.heap n (some o), s.rd, Nat.lor s.wr (Nat.pow 2 n)⟩) .no) (fun _ => .no) (s.heap.get n)
noncomputable def newR (o : O) (s : St) : Rs Nat := @Nat.rec (fun _ => Rs Nat) (newAt o s 0) (fun n _ => newAt o s (Nat.succ n)) s.next
theorem newR_eq (o : O) (s : St) : newR o s = newAt o s s.next := by
  unfold newR; cases s.next <;> rfl
theorem newAt_ok (o : O) (s : St) (n r : Nat) (s' : St) (h : newAt o s n = .ok r s') :
    base ≤ n ∧ n < 2 ^ 30 ∧ s.at n = none ∧ r = n ∧ s' = ⟨n + 1, Tr.set depth s.heap n (some o), s.rd, s.wr ||| 2 ^ n⟩ := by
  simp only [newAt] at h
  cases ho : s.heap.get n with
  | some q => simp [ho] at h
  | none =>
    simp only [ho] at h
    cases hb : and (Nat.ble base n) (Nat.blt n (2 ^ 30)) with
    | false => simp [hb, sel_false] at h
    | true =>
      simp only [hb, sel_true, Rs.ok.injEq] at h
      simp only [Bool.and_eq_true] at hb
      exact ⟨by simpa using hb.1, by simpa using hb.2, ho, h.1.symm, h.2.symm⟩
theorem new_framed (o : O) : Framed fun s => newR o s := by
  intro s r s' h
  simp only [newR_eq] at h
  obtain ⟨h1, h2, h3, rfl, rfl⟩ := newAt_ok _ _ _ _ _ h
  have hlt : s.next + 1 < 2 ^ depth := by simp only [depth]; omega
  have hc : and (Nat.ble base s.next) (Nat.blt s.next (2 ^ 30)) = true := by simp only [Bool.and_eq_true]; exact ⟨by simpa using h1, by simpa using h2⟩
  refine ⟨by simp, 0, 2 ^ s.next, by simp, rfl, ?_, ?_⟩
  · intro j hj
    have : j ≠ s.next := by rintro rfl; simp [Nat.testBit_two_pow_self] at hj
    simp only [St.at, Tr.get_set depth _ _ _ hlt, this, if_false]
  · intro t ht hag
    have : t.heap.get s.next = none := by rw [← show s.at s.next = none from h3]; exact hag _ (by simp [Nat.testBit_two_pow_self])
    refine ⟨⟨s.next + 1, Tr.set depth t.heap s.next (some o), t.rd, t.wr ||| 2 ^ s.next⟩, ?_, rfl, by simp, rfl, ?_, ?_⟩
    · simp only [newR_eq, ht, newAt, this, hc, sel_true]; rfl
    · intro j hj
      have : j = s.next := by
        rw [Nat.testBit_two_pow] at hj; simpa using (of_decide_eq_true hj).symm
      subst this
      simp only [St.at, Tr.get_set depth _ _ _ hlt, if_true]
    · intro j hj
      have : j ≠ s.next := by rintro rfl; simp [Nat.testBit_two_pow_self] at hj
      simp only [St.at, Tr.get_set depth _ _ _ hlt, this, if_false]
/-- a new block -/
noncomputable def new (o : O) : FM Nat := ⟨fun s => newR o s, new_framed o⟩
theorem run_new (o : O) (s : St) (i : Nat) (s' : St) (h : (new o).run s = .ok i s') :
    i = s.next ∧ base ≤ i ∧ s.at i = none ∧ s'.next = s.next + 1 ∧ ∀ j, s'.at j = if j = i then some o else s.at j := by
  simp only [new, newR_eq] at h
  obtain ⟨h1, h2, h3, rfl, rfl⟩ := newAt_ok _ _ _ _ _ h
  have hlt : s.next + 1 < 2 ^ depth := by simp only [depth]; omega
  exact ⟨rfl, h1, h3, rfl, fun j => by simp only [St.at, Tr.get_set depth _ _ _ hlt]⟩

noncomputable def seenR {α : Type} (s : St) (r : Rs α) : Rs (α × Nat × Nat) :=
  @Rs.rec α (fun _ => Rs (α × Nat × Nat)) .no (fun a s' => .ok (a, s'.rd, s'.wr) ⟨s'.next, s'.heap, Nat.lor s.rd s'.rd, Nat.lor s.wr s'.wr⟩) r
theorem seen_framed {α : Type} (m : FM α) : Framed fun s => seenR s (m.run ⟨s.next, s.heap, 0, 0⟩) := by
  intro s r s' h
  cases hm : m.run ⟨s.next, s.heap, 0, 0⟩ with
  | no => simp [hm, seenR] at h
  | ok a s1 =>
    simp only [hm, seenR, Rs.ok.injEq] at h
    obtain ⟨rfl, rfl⟩ := h
    obtain ⟨hn, R, W, hr, hw, hk, ht⟩ := m.framed _ _ _ hm
    simp only [Nat.zero_or] at hr hw
    refine ⟨hn, R, W, by rw [hr]; rfl, by rw [hw]; rfl, hk, ?_⟩
    intro t htn hag
    obtain ⟨t', h1, h2, h3, h4, h5, h6⟩ := ht ⟨t.next, t.heap, 0, 0⟩ htn hag
    simp only [Nat.zero_or] at h3 h4
    exact ⟨⟨t'.next, t'.heap, t.rd ||| t'.rd, t.wr ||| t'.wr⟩, by simp only [h1, seenR, h3, h4, hr, hw]; rfl, h2, by simp [h3], by simp [h4], h5, h6⟩
/-- with what it read and wrote -/
noncomputable def seen {α : Type} (m : FM α) : FM (α × Nat × Nat) := ⟨fun s => seenR s (m.run ⟨s.next, s.heap, 0, 0⟩), seen_framed m⟩
theorem run_seen {α : Type} (m : FM α) (s : St) (r : α × Nat × Nat) (s' : St) (h : (seen m).run s = .ok r s') :
    ∃ s1, m.run ⟨s.next, s.heap, 0, 0⟩ = .ok r.1 s1 ∧ s1.rd = r.2.1 ∧ s1.wr = r.2.2 ∧ s'.next = s1.next ∧ s'.heap = s1.heap := by
  simp only [seen] at h
  cases hm : m.run ⟨s.next, s.heap, 0, 0⟩ with
  | no => simp [hm, seenR] at h
  | ok a' s1 =>
    simp only [hm, seenR, Rs.ok.injEq] at h
    obtain ⟨rfl, rfl⟩ := h
    exact ⟨s1, rfl, rfl, rfl, rfl, rfl⟩
noncomputable def ofOption {α : Type} (o : Option α) : FM α := @Option.rec α (fun _ => FM α) fail (fun a => pure a) o
theorem run_ofOption {α : Type} (o : Option α) (s : St) (a : α) (s' : St) (h : (ofOption o).run s = .ok a s') : o = some a ∧ s' = s := by
  cases o with
  | none => cases h
  | some b => cases h; exact ⟨rfl, rfl⟩
noncomputable def guard (b : Bool) : FM Unit := sel b (pure ()) fail
theorem run_guard (b : Bool) (s : St) (a : Unit) (s' : St) (h : (guard b).run s = .ok a s') : b = true ∧ s' = s := by
  cases b with
  | false => cases h
  | true => cases h; exact ⟨rfl, rfl⟩
end FM
end Go.Ev

namespace Go.Ev

inductive D where
  | fn (f : V) (args : List V)
  | coll (b : Nat)

structure A where
  env : Tr V
  defers : List D

noncomputable def undefV : V := .tup []
noncomputable def A.tmp (a : A) (t : Nat) : V := @Option.rec V (fun _ => V) undefV (fun v => v) (a.env.get t)
/-- the slot of an operation's value; sz: how many slots there are -/
noncomputable def A.put (sz : Nat) (a : A) (d : Option Nat) (v : V) : A :=
  @Option.rec Nat (fun _ => A) a (fun d => sel (Nat.blt d sz) ⟨Tr.set 14 a.env d (some v), a.defers⟩ a) d

/-- a value without addresses, as the text's constants are -/
noncomputable def ptrC (a : Option Addr) : Option V := @Option.rec Addr (fun _ => Option V) (some .nilp) (fun _ => none) a
noncomputable def sliceC (a : Option Addr) (n m : Nat) : Option V := @Option.rec Addr (fun _ => Option V) (sel (and (Nat.beq n 0) (Nat.beq m 0)) (some .nils) none) (fun _ => none) a
noncomputable def mapC (a : Option Nat) : Option V := @Option.rec Nat (fun _ => Option V) (some .nilm) (fun _ => none) a
noncomputable def consO (v : Option V) (l : Option (List V)) : Option (List V) :=
  @Option.rec V (fun _ => Option (List V)) none (fun v => @Option.rec (List V) (fun _ => Option (List V)) none (fun vs => some (v :: vs)) l) v
noncomputable def aggO (l : Option (List V)) : Option V := @Option.rec (List V) (fun _ => Option V) none (fun vs => some (.agg vs)) l
noncomputable def tupO (l : Option (List V)) : Option V := @Option.rec (List V) (fun _ => Option V) none (fun vs => some (.tup vs)) l
noncomputable def V.of (v : Value) : Option V :=
  @Value.rec (fun _ => Option V) (fun _ => Option (List V)) (fun _ => Option (List V))
    (fun b => some (.bool b)) (fun k n => some (.int k n)) (fun _ _ => none) (fun _ _ _ => none) (fun s => some (.str s.data.toList)) ptrC sliceC mapC (fun _ => none)
    (fun _ _ _ _ _ => none) (some .nilf) (fun _ _ _ => none) (some .nili) (fun _ r => aggO r) (fun _ r => tupO r)
    (fun _ r => r) (some []) (fun _ _ r rs => consO r rs) v
noncomputable def V.ofA (v : Array Value) : Option (List V) :=
  @Value.rec_1 (fun _ => Option V) (fun _ => Option (List V)) (fun _ => Option (List V))
    (fun b => some (.bool b)) (fun k n => some (.int k n)) (fun _ _ => none) (fun _ _ _ => none) (fun s => some (.str s.data.toList)) ptrC sliceC mapC (fun _ => none)
    (fun _ _ _ _ _ => none) (some .nilf) (fun _ _ _ => none) (some .nili) (fun _ r => aggO r) (fun _ r => tupO r)
    (fun _ r => r) (some []) (fun _ _ r rs => consO r rs) v
noncomputable def V.ofL (v : List Value) : Option (List V) :=
  @Value.rec_2 (fun _ => Option V) (fun _ => Option (List V)) (fun _ => Option (List V))
    (fun b => some (.bool b)) (fun k n => some (.int k n)) (fun _ _ => none) (fun _ _ _ => none) (fun s => some (.str s.data.toList)) ptrC sliceC mapC (fun _ => none)
    (fun _ _ _ _ _ => none) (some .nilf) (fun _ _ _ => none) (some .nili) (fun _ r => aggO r) (fun _ r => tupO r)
    (fun _ r => r) (some []) (fun _ _ r rs => consO r rs) v

noncomputable def globV (g : Nat) : Option V := sel (Nat.blt g FM.base) (some (.ptr g 0)) none
noncomputable def A.eval (a : A) (x : Operand) : Option V :=
  @Operand.rec (fun _ => A → Option V) (fun t a => some (a.tmp t)) (fun v _ => V.of v) (fun g _ => globV g) (fun f _ => some (.func f [] [])) x a
noncomputable def A.evals (a : A) (l : List Operand) : Option (List V) :=
  @List.rec Operand (fun _ => Option (List V)) (some []) (fun x _ ih => consO (a.eval x) ih) l
theorem A.evals_nil (a : A) : a.evals [] = some [] := rfl
theorem A.evals_cons (a : A) (x : Operand) (l : List Operand) : a.evals (x :: l) = consO (a.eval x) (a.evals l) := rfl

/-! what a value is, by one step of the kernel -/
noncomputable def ptrOf (v : V) : Option (Nat × Nat) :=
  @V.rec (fun _ => Option (Nat × Nat)) (fun _ => Unit) (fun _ => none) (fun _ _ => none) (fun _ => none) none (fun b o => some (b, o)) none (fun _ _ _ _ => none) (fun _ _ _ _ => none) none (fun _ => none) none (fun _ _ _ _ _ => none) (fun _ => none) none (fun _ _ _ => none) (fun _ _ => none) (fun _ _ => none) none () (fun _ _ _ _ => ()) v
noncomputable def intOf (v : V) : Option (IntKind × Int) :=
  @V.rec (fun _ => Option (IntKind × Int)) (fun _ => Unit) (fun _ => none) (fun k n => some (k, n)) (fun _ => none) none (fun _ _ => none) none (fun _ _ _ _ => none) (fun _ _ _ _ => none) none (fun _ => none) none (fun _ _ _ _ _ => none) (fun _ => none) none (fun _ _ _ => none) (fun _ _ => none) (fun _ _ => none) none () (fun _ _ _ _ => ()) v
noncomputable def strOf (v : V) : Option (List UInt8) :=
  @V.rec (fun _ => Option (List UInt8)) (fun _ => Unit) (fun _ => none) (fun _ _ => none) (fun s => some s) none (fun _ _ => none) none (fun _ _ _ _ => none) (fun _ _ _ _ => none) none (fun _ => none) none (fun _ _ _ _ _ => none) (fun _ => none) none (fun _ _ _ => none) (fun _ _ => none) (fun _ _ => none) none () (fun _ _ _ _ => ()) v
noncomputable def boolOf (v : V) : Option Bool :=
  @V.rec (fun _ => Option Bool) (fun _ => Unit) (fun b => some b) (fun _ _ => none) (fun _ => none) none (fun _ _ => none) none (fun _ _ _ _ => none) (fun _ _ _ _ => none) none (fun _ => none) none (fun _ _ _ _ _ => none) (fun _ => none) none (fun _ _ _ => none) (fun _ _ => none) (fun _ _ => none) none () (fun _ _ _ _ => ()) v
noncomputable def rowOf (v : V) : Option (Nat × Nat × Nat) :=
  @V.rec (fun _ => Option (Nat × Nat × Nat)) (fun _ => Unit) (fun _ => none) (fun _ _ => none) (fun _ => none) none (fun _ _ => none) none (fun b o n _ => some (b, o, n)) (fun b o _ n => some (b, o, n)) none (fun _ => none) none (fun _ _ _ _ _ => none) (fun _ => none) none (fun _ _ _ => none) (fun _ _ => none) (fun _ _ => none) none () (fun _ _ _ _ => ()) v
noncomputable def niliB (v : V) : Bool :=
  @V.rec (fun _ => Bool) (fun _ => Unit) (fun _ => false) (fun _ _ => false) (fun _ => false) false (fun _ _ => false) false (fun _ _ _ _ => false) (fun _ _ _ _ => false) false (fun _ => false) false (fun _ _ _ _ _ => false) (fun _ => false) (true) (fun _ _ _ => false) (fun _ _ => false) (fun _ _ => false) false () (fun _ _ _ _ => ()) v
noncomputable def nilB (v : V) : Bool :=
  @V.rec (fun _ => Bool) (fun _ => Unit) (fun _ => false) (fun _ _ => false) (fun _ => false) (true) (fun _ _ => false) false (fun _ _ _ _ => false) (fun _ _ _ _ => false) false (fun _ => false) (true) (fun _ _ _ _ _ => false) (fun _ => false) (true) (fun _ _ _ => false) (fun _ _ => false) (fun _ _ => false) false () (fun _ _ _ _ => ()) v
noncomputable def cellsOf (v : V) : Option (List V) :=
  @V.rec (fun _ => Option (List V)) (fun _ => Unit) (fun _ => none) (fun _ _ => none) (fun _ => none) none (fun _ _ => none) none (fun _ _ _ _ => none) (fun _ _ _ _ => none) none (fun _ => none) none (fun _ _ _ _ _ => none) (fun _ => none) none (fun _ _ _ => none) (fun l _ => some l) (fun _ _ => none) none () (fun _ _ _ _ => ()) v
noncomputable def tupOf (v : V) : Option (List V) :=
  @V.rec (fun _ => Option (List V)) (fun _ => Unit) (fun _ => none) (fun _ _ => none) (fun _ => none) none (fun _ _ => none) none (fun _ _ _ _ => none) (fun _ _ _ _ => none) none (fun _ => none) none (fun _ _ _ _ _ => none) (fun _ => none) none (fun _ _ _ => none) (fun _ _ => none) (fun l _ => some l) none () (fun _ _ _ _ => ()) v
noncomputable def calleeOf (v : V) : Option (Nat × List V × List V) :=
  @V.rec (fun _ => Option (Nat × List V × List V)) (fun _ => Unit) (fun _ => none) (fun _ _ => none) (fun _ => none) none (fun _ _ => none) none (fun _ _ _ _ => none) (fun _ _ _ _ => none) none (fun _ => none) none (fun f x y _ _ => some (f, x, y)) (fun _ => none) none (fun _ _ _ => none) (fun _ _ => none) (fun _ _ => none) none () (fun _ _ _ _ => ()) v
noncomputable def loopOfV (v : V) : Option Nat :=
  @V.rec (fun _ => Option Nat) (fun _ => Unit) (fun _ => none) (fun _ _ => none) (fun _ => none) none (fun _ _ => none) none (fun _ _ _ _ => none) (fun _ _ _ _ => none) none (fun _ => none) none (fun _ _ _ _ _ => none) (fun l => some l) none (fun _ _ _ => none) (fun _ _ => none) (fun _ _ => none) none () (fun _ _ _ _ => ()) v
noncomputable def V.cells (v : V) : List V := @Option.rec (List V) (fun _ => List V) [v] (fun l => l) (cellsOf v)
noncomputable def V.one (v : V) : Bool :=
  @V.rec (fun _ => Bool) (fun _ => Unit) (fun _ => true) (fun _ _ => true) (fun _ => true) true (fun _ _ => true) true (fun _ _ _ _ => true) (fun _ _ _ _ => true) true (fun _ => true) true (fun _ _ _ _ _ => true) (fun _ => true) true (fun _ _ _ => true) (fun _ _ => false) (fun _ _ => false) true () (fun _ _ _ _ => ()) v
noncomputable def O.row : O → Option (List V)
  | .cells _ c => some c
  | .grown _ _ c => some c
  | _ => none
/-- another list in the place of a row's cells -/
noncomputable def O.with (o : O) (c : List V) : O :=
  match o with
  | .cells e _ => .cells e c
  | .grown e s _ => .grown e s c
  | o => o
/-! lists, by single steps of the kernel -/
noncomputable def nthO (l : List V) : Nat → Option V :=
  @List.rec V (fun _ => Nat → Option V) (fun _ => none) (fun x _ ih n => @Nat.rec (fun _ => Option V) (some x) (fun m _ => ih m) n) l
noncomputable def dropL (l : List V) : Nat → List V :=
  @List.rec V (fun _ => Nat → List V) (fun _ => []) (fun x t ih n => @Nat.rec (fun _ => List V) (x :: t) (fun m _ => ih m) n) l
noncomputable def pushO (x : V) (l : Option (List V)) : Option (List V) := @Option.rec (List V) (fun _ => Option (List V)) none (fun l => some (x :: l)) l
/-- the first n, if there are so many -/
noncomputable def takeO (l : List V) : Nat → Option (List V) :=
  @List.rec V (fun _ => Nat → Option (List V)) (fun n => @Nat.rec (fun _ => Option (List V)) (some []) (fun _ _ => none) n)
    (fun x _ ih n => @Nat.rec (fun _ => Option (List V)) (some []) (fun m _ => pushO x (ih m)) n) l
/-- vs laid over the beginning of a list that is not shorter -/
noncomputable def overO (vs : List V) : List V → Option (List V) :=
  @List.rec V (fun _ => List V → Option (List V)) (fun l => some l)
    (fun v _ ih l => @List.rec V (fun _ => Option (List V)) none (fun _ t _ => pushO v (ih t)) l) vs
noncomputable def setO (vs : List V) (l : List V) : Nat → Option (List V) :=
  @List.rec V (fun _ => Nat → Option (List V)) (fun n => @Nat.rec (fun _ => Option (List V)) (overO vs []) (fun _ _ => none) n)
    (fun x t ih n => @Nat.rec (fun _ => Option (List V)) (overO vs (x :: t)) (fun m _ => pushO x (ih m)) n) l
noncomputable def lenIs {α : Type} (l : List α) : Nat → Bool :=
  @List.rec α (fun _ => Nat → Bool) (fun n => @Nat.rec (fun _ => Bool) true (fun _ _ => false) n) (fun _ _ ih n => @Nat.rec (fun _ => Bool) false (fun m _ => ih m) n) l
noncomputable def lenGe {α : Type} (l : List α) : Nat → Bool :=
  @List.rec α (fun _ => Nat → Bool) (fun n => @Nat.rec (fun _ => Bool) true (fun _ _ => false) n) (fun _ _ ih n => @Nat.rec (fun _ => Bool) true (fun m _ => ih m) n) l
noncomputable def allOne (l : List V) : Bool := @List.rec V (fun _ => Bool) true (fun x _ ih => and (V.one x) ih) l

section
variable (P : Program)
noncomputable def infoF (t : Nat) : FM TypeInfo := FM.ofOption (P.info? t)
noncomputable def undF (t : Nat) : FM TypeDesc := FM.ofOption (P.underlying t)
noncomputable def aggB : TypeDesc → Bool
  | .struct _ => true
  | .array _ _ => true
  | _ => false
noncomputable def zeroF (t : Nat) : FM V := (infoF P t).bind fun i => FM.ofOption (i.zero.bind V.of)

noncomputable def rowF (b : Nat) : FM (O × List V) := (FM.get b).bind fun o => (FM.ofOption o.row).bind fun c => FM.pure (o, c)
noncomputable def loadN (b off n : Nat) : FM (List V) := (rowF b).bind fun oc => FM.ofOption (takeO (dropL oc.2 off) n)
noncomputable def load1 (b off : Nat) : FM V := (rowF b).bind fun oc => FM.ofOption (nthO oc.2 off)
noncomputable def storeN (b off : Nat) (vs : List V) : FM Unit :=
  (FM.guard (allOne vs)).bind fun _ => (rowF b).bind fun oc => (FM.ofOption (setO vs oc.2 off)).bind fun c => FM.put b (some (oc.1.with c))
noncomputable def loadP (t : Nat) (p : Nat × Nat) : FM V :=
  (undF P t).bind fun d => sel (aggB d) ((infoF P t).bind fun i => (loadN p.1 p.2 i.size).bind fun cs => FM.pure (.agg cs)) (load1 p.1 p.2)
noncomputable def loadT (t : Nat) (x : V) : FM V := (FM.ofOption (ptrOf x)).bind (loadP P t)
noncomputable def storeP (t : Nat) (v : V) (p : Nat × Nat) : FM V :=
  (infoF P t).bind fun i => (FM.guard (lenIs v.cells i.size)).bind fun _ => (storeN p.1 p.2 v.cells).bind fun _ => FM.pure undefV
noncomputable def storeT (t : Nat) (x v : V) : FM V := (FM.ofOption (ptrOf x)).bind (storeP P t v)

/-- fill: parts laid into cells -/
noncomputable def fillA (place : Nat → Option (Nat × Nat)) : List V → List (Nat × V) → Option (List V)
  | cs, [] => some cs
  | cs, (i, v) :: l => match place i with
    | none => none
    | some p => match sel (lenIs v.cells p.2) (setO v.cells cs p.1) none with
      | none => none
      | some cs => fillA place cs l
noncomputable def zip2 : List (Nat × Operand) → List V → List (Nat × V)
  | (i, _) :: l, v :: vs => (i, v) :: zip2 l vs
  | _, _ => []
noncomputable def placesA (l : List Field) : Option (List (Nat × Nat)) := l.mapM (fun f => (P.info? f.type).map fun i => (f.offset, i.size))
noncomputable def buildF (t : Nat) (parts : List (Nat × V)) : FM V :=
  (zeroF P t).bind fun z => (undF P t).bind fun d =>
    match d with
    | .struct fields => (FM.ofOption (placesA P fields.toList)).bind fun pl => (FM.ofOption (fillA (fun i => pl[i]?) z.cells parts)).bind fun cs => FM.pure (.agg cs)
    | .array _ e => (infoF P e).bind fun i => (FM.ofOption (fillA (fun k => some (k * i.size, i.size)) z.cells parts)).bind fun cs => FM.pure (.agg cs)
    | _ => FM.fail
noncomputable def zerosA (z : List V) : Nat → List V
  | 0 => []
  | n + 1 => z ++ zerosA z n
noncomputable def buildSliceF (t len : Nat) (parts : List (Nat × V)) : FM V :=
  (undF P t).bind fun d =>
    match d with
    | .slice e => (infoF P e).bind fun i => (FM.guard (Nat.ble (len * i.size) (2 ^ 24) && Nat.blt 0 i.size)).bind fun _ => (zeroF P e).bind fun z => (FM.guard (lenIs z.cells i.size)).bind fun _ =>
      (FM.ofOption (fillA (fun k => some (k * i.size, i.size)) (zerosA z.cells len) parts)).bind fun cs => (FM.new (.cells e cs)).bind fun b => FM.pure (.slice b 0 len len)
    | _ => FM.fail
noncomputable def makeSliceF (t : Nat) (l c : V) : FM V :=
  match l, c with
  | .int _ l, .int _ c => (undF P t).bind fun d =>
    match d with
    | .slice e => (infoF P e).bind fun i => (FM.guard (decide (0 ≤ l ∧ l ≤ c ∧ i.bytes * c ≤ 2 ^ 48 ∧ c < 2 ^ 40) && Nat.blt 0 i.size)).bind fun _ => (zeroF P e).bind fun z => (FM.guard (lenIs z.cells i.size)).bind fun _ =>
      (FM.new (.cells e (zerosA z.cells c.toNat))).bind fun b => FM.pure (.slice b 0 l.toNat c.toNat)
    | _ => FM.fail
  | _, _ => FM.fail
noncomputable def fieldOf (d : TypeDesc) (f : Nat) : Option Field :=
  match d with
  | .struct fields => fields.toList[f]?
  | _ => none
noncomputable def fieldAt (s f : Nat) : Option Field := match P.underlying s with | some d => fieldOf d f | none => none
noncomputable def fieldAddrF (s : Nat) (x : V) (f : Nat) : FM V :=
  (FM.ofOption (ptrOf x)).bind fun p => (FM.ofOption (fieldAt P s f)).bind fun f => (infoF P f.type).bind fun i => (FM.guard (Nat.blt 0 i.size)).bind fun _ => FM.pure (.ptr p.1 (p.2 + f.offset))
noncomputable def partF (t : Nat) (cs : List V) (off : Nat) : FM V :=
  (undF P t).bind fun d => sel (aggB d) ((infoF P t).bind fun i => (FM.ofOption (takeO (dropL cs off) i.size)).bind fun l => FM.pure (.agg l)) (FM.ofOption (nthO cs off))
noncomputable def fieldF (s : Nat) (x : V) (f : Nat) : FM V :=
  (FM.ofOption (cellsOf x)).bind fun cs => (FM.ofOption (fieldAt P s f)).bind fun f => partF P f.type cs f.offset
/-- the elements that an index chooses from: block, place, number, an element's type -/
noncomputable def elemsOf (d : TypeDesc) (x : V) : Option (Nat × Nat × Nat × Nat) :=
  match d with
  | .array len e => match ptrOf x with | some p => some (p.1, p.2, len, e) | none => none
  | .slice e => match rowOf x with | some p => some (p.1, p.2.1, p.2.2, e) | none => none
  | _ => none
noncomputable def inB (i : Int) (n : Nat) : Bool := and (decide (0 ≤ i)) (Nat.blt i.toNat n)
noncomputable def indexAddrF (t : Nat) (x i : V) : FM V :=
  (FM.ofOption (intOf i)).bind fun i => (undF P t).bind fun d => (FM.ofOption (elemsOf d x)).bind fun q => (infoF P q.2.2.2).bind fun j =>
    (FM.guard (inB i.2 q.2.2.1)).bind fun _ => FM.pure (.ptr q.1 (q.2.1 + i.2.toNat * j.size))
noncomputable def indexF (t : Nat) (x i : V) : FM V :=
  match i with
  | .int _ i => (undF P t).bind fun d =>
    match d, x with
    | .array len e, .agg cs => (infoF P e).bind fun j => (FM.guard (inB i len)).bind fun _ => partF P e cs (i.toNat * j.size)
    | .string, .str s => (FM.guard (decide (0 ≤ i))).bind fun _ => (FM.ofOption s[i.toNat]?).bind fun b => FM.pure (.int .u8 b.toNat)
    | _, _ => FM.fail
  | _ => FM.fail
noncomputable def boundA (d : Nat) : Option V → Option Nat
  | none => some d
  | some (.int _ i) => sel (decide (0 ≤ i)) (some i.toNat) (none)
  | some _ => none
noncomputable def sliceF (t : Nat) (x : V) (lo hi mx : Option V) : FM V :=
  (undF P t).bind fun d =>
    match d, x with
    | .string, .str s => (FM.guard mx.isNone).bind fun _ => (FM.ofOption (boundA s.length hi)).bind fun h => (FM.ofOption (boundA 0 lo)).bind fun l => (FM.guard (Nat.ble l h && Nat.ble h s.length)).bind fun _ => FM.pure (.str ((s.take h).drop l))
    | .slice e, .slice b off len cap => (infoF P e).bind fun i => (FM.ofOption (boundA cap mx)).bind fun m => (FM.ofOption (boundA len hi)).bind fun h => (FM.ofOption (boundA 0 lo)).bind fun l =>
      (FM.guard (Nat.ble l h && Nat.ble h m && Nat.ble m cap)).bind fun _ => FM.pure (.slice b (sel (Nat.beq m l) (off) (off + l * i.size)) (h - l) (m - l))
    | .slice e, .nils => (infoF P e).bind fun _ => (FM.ofOption (boundA 0 mx)).bind fun m => (FM.ofOption (boundA 0 hi)).bind fun h => (FM.ofOption (boundA 0 lo)).bind fun l => (FM.guard (Nat.beq l 0 && Nat.beq h 0 && Nat.beq m 0)).bind fun _ => FM.pure .nils
    | .slice e, .grow b off k len => (infoF P e).bind fun i => (rowF b).bind fun oc => (FM.guard (Nat.beq off (k * i.size) && lenGe oc.2 (off + len * i.size))).bind fun _ =>
      (FM.ofOption (boundA len hi)).bind fun h => (FM.ofOption (boundA 0 lo)).bind fun l => (FM.guard (Nat.ble l h && Nat.ble h len)).bind fun _ =>
        match oc.1, mx with
        | .grown _ s _, none => (FM.guard (Nat.beq s i.size && Nat.blt 0 s)).bind fun _ => FM.pure (sel (or (Nat.beq l 0) (Nat.blt l len)) (.grow b (off + l * i.size) (k + l) (h - l)) .void)
        | .grown _ s _, some _ => (FM.ofOption (boundA 0 mx)).bind fun m => (FM.guard (Nat.beq s i.size && Nat.blt 0 s && Nat.ble h m && Nat.ble m len)).bind fun _ => FM.pure (.slice b (sel (Nat.beq m l) (off) (off + l * i.size)) (h - l) (m - l))
        | _, _ => FM.fail
    | .slice e, .void => (infoF P e).bind fun _ => (FM.ofOption (boundA 0 hi)).bind fun h => (FM.ofOption (boundA 0 lo)).bind fun l => (FM.guard (Nat.beq l 0 && Nat.beq h 0 && mx.isNone)).bind fun _ => FM.pure .void
    | .array n e, .ptr b off => (infoF P e).bind fun i => (FM.ofOption (boundA n mx)).bind fun m => (FM.ofOption (boundA n hi)).bind fun h => (FM.ofOption (boundA 0 lo)).bind fun l =>
      (FM.guard (Nat.ble l h && Nat.ble h m && Nat.ble m n)).bind fun _ => FM.pure (.slice b (sel (Nat.beq m l) (off) (off + l * i.size)) (h - l) (m - l))
    | _, _ => FM.fail

noncomputable def bitsI (f : (n : Nat) → BitVec n → BitVec n → BitVec n) (k : IntKind) (x y : Int) : Option V := some (.int k (k.wrap (f k.bits (BitVec.ofInt k.bits x) (BitVec.ofInt k.bits y)).toNat))
noncomputable def andB (n : Nat) (a b : BitVec n) : BitVec n := a &&& b
noncomputable def orB (n : Nat) (a b : BitVec n) : BitVec n := a ||| b
noncomputable def xorB (n : Nat) (a b : BitVec n) : BitVec n := a ^^^ b
noncomputable def andNotB (n : Nat) (a b : BitVec n) : BitVec n := a &&& ~~~b
noncomputable def wrapI (f : Int → Int → Int) (k : IntKind) (x y : Int) : Option V := some (.int k (k.wrap (f x y)))
noncomputable def quoI (k : IntKind) (x y : Int) : Option V := sel (y == 0) (none) (some (.int k (k.wrap (x.tdiv y))))
noncomputable def remI (k : IntKind) (x y : Int) : Option V := sel (y == 0) (none) (some (.int k (x.tmod y)))
noncomputable def eqI (x y : Int) : Option V := some (.bool (x == y))
noncomputable def neI (x y : Int) : Option V := some (.bool (x != y))
noncomputable def ltI (x y : Int) : Option V := some (.bool (decide (x < y)))
noncomputable def leI (x y : Int) : Option V := some (.bool (decide (x ≤ y)))
noncomputable def binInt (op : BinOp) (k : IntKind) (x y : Int) : Option V :=
  @BinOp.rec (fun _ => IntKind → Int → Int → Option V) (wrapI Int.add) (wrapI Int.sub) (wrapI Int.mul) quoI remI (bitsI andB) (bitsI orB) (bitsI xorB) (fun _ _ _ => none) (fun _ _ _ => none) (bitsI andNotB)
    (fun _ => eqI) (fun _ => neI) (fun _ => ltI) (fun _ => leI) (fun _ x y => ltI y x) (fun _ x y => leI y x) op k x y
noncomputable def shlI (k : IntKind) (x y : Int) : Option V := some (.int k (k.wrap (x * 2 ^ (min y.toNat k.bits))))
noncomputable def shrI (k : IntKind) (x y : Int) : Option V := some (.int k (x.fdiv (2 ^ (min y.toNat k.bits))))
noncomputable def shiftInt (op : BinOp) (k : IntKind) (x y : Int) : Option V :=
  sel (decide (y < 0)) none
    (match op with
    | .shl => shlI k x y
    | .shr => shrI k x y
    | _ => none)
noncomputable def isShift : BinOp → Bool
  | .shl => true
  | .shr => true
  | _ => false
noncomputable def binStr (op : BinOp) (x y : List UInt8) : Option V :=
  match op with
  | .add => sel (Nat.blt (x.length + y.length) (2 ^ 40)) (some (.str (x ++ y))) none
  | .eql => some (.bool (x == y))
  | .neq => some (.bool (!(x == y)))
  | _ => none
/-- two rows of integers -/
noncomputable def eqInts : List V → List V → Option Bool
  | [], [] => some true
  | .int j a :: x, .int k b :: y => sel (j == k) ((match eqInts x y with | some r => some (a == b && r) | none => none)) (none)
  | _, _ => none
noncomputable def eqV (t : Nat) (x y : V) : Option Bool :=
  match P.underlying t, x, y with
  | some .bool, .bool a, .bool b => some (a == b)
  | some (.pointer _), .nilp, .nilp => some true
  | some (.pointer _), .nilp, .ptr _ _ => some false
  | some (.pointer _), .ptr _ _, .nilp => some false
  | some (.pointer e), .ptr b o, .ptr b' o' => sel (Nat.blt 0 (P.cellsOf e) && Nat.beq b b') (some (Nat.beq o o')) (none)
  | some (.interface _), .nili, .nili => some true
  | some (.interface _), .nili, .iface _ _ => some false
  | some (.interface _), .iface _ _, .nili => some false
  | some (.slice _), .nils, .nils => some true
  | some (.slice _), .nils, .slice .. => some false
  | some (.slice _), .nils, .grow .. => some false
  | some (.slice _), .nils, .void => some false
  | some (.slice _), .void, .nils => some false
  | some (.slice _), .slice .., .nils => some false
  | some (.slice _), .grow .., .nils => some false
  | some (.map _ _), .nilm, .nilm => some true
  | some (.map _ _), .nilm, .map _ => some false
  | some (.map _ _), .map _, .nilm => some false
  | some (.func ..), .nilf, .nilf => some true
  | some (.func ..), .nilf, .func .. => some false
  | some (.func ..), .func .., .nilf => some false
  | some (.array len e), .agg xs, .agg ys =>
    match P.underlying e with
    | some (.int _) => sel (Nat.beq (P.cellsOf e) 1 && lenIs xs len && !(P.eqGuardType P.depth t)) (eqInts xs ys) (none)
    | _ => none
  | _, _, _ => none
noncomputable def isConst : Operand → Bool
  | .const _ => true
  | _ => false
noncomputable def binInts (op : BinOp) (x y : IntKind × Int) : Option V :=
  sel (isShift op) (shiftInt op x.1 x.2 y.2) (sel (x.1 == y.1) (binInt op x.1 x.2 y.2) none)
noncomputable def boolV (b : Option Bool) : Option V := @Option.rec Bool (fun _ => Option V) none (fun b => some (.bool b)) b
noncomputable def notV (b : Option Bool) : Option V := @Option.rec Bool (fun _ => Option V) none (fun b => some (.bool (!b))) b
noncomputable def binEq (op : BinOp) (t : Nat) (x y : V) : Option V :=
  match op with
  | .eql => boolV (eqV P t x y)
  | .neq => notV (eqV P t x y)
  | _ => none
noncomputable def binOther (op : BinOp) (t : Nat) (ex ey : Operand) (x y : V) : Option V :=
  match strOf x, strOf y with
  | some a, some b => binStr op a b
  | none, none => sel (and (niliB x) (niliB y)) (sel (or (isConst ex) (isConst ey)) (binEq P op t x y) none) (binEq P op t x y)
  | _, _ => none
noncomputable def binA (op : BinOp) (t : Nat) (ex ey : Operand) (x y : V) : Option V :=
  @Option.rec (IntKind × Int) (fun _ => Option V) (binOther P op t ex ey x y) (fun a => @Option.rec (IntKind × Int) (fun _ => Option V) none (fun b => binInts op a b) (intOf y)) (intOf x)
noncomputable def binF (op : BinOp) (t : Nat) (ex ey : Operand) (x y : V) : FM V := FM.ofOption (binA P op t ex ey x y)
noncomputable def unA (op : UnOp) (x : V) : Option V :=
  match op, x with
  | .neg, .int k n => some (.int k (k.wrap (0 - n)))
  | .xor, .int k n => some (.int k (k.wrap (BitVec.ofInt k.bits (sel (k.signed) (-1) (k.max)) ^^^ BitVec.ofInt k.bits n).toNat))
  | .not, .bool b => some (.bool !b)
  | _, _ => none
noncomputable def bytesV : List UInt8 → List V
  | [] => []
  | b :: l => .int .u8 b.toNat :: bytesV l
noncomputable def strV : List V → Option (List UInt8)
  | [] => some []
  | .int .u8 n :: l => match strV l with | some s => some (UInt8.ofNat n.toNat :: s) | none => none
  | _ => none
noncomputable def convF (src dst : Nat) (x : V) : FM V :=
  (undF P src).bind fun _ => (undF P dst).bind fun d =>
    match d, x with
    | .int k, .int _ n => FM.pure (.int k (k.wrap n))
    | .string, .str s => FM.pure (.str s)
    | .slice e, .str s => (undF P e).bind fun de =>
      match de with
      | .int .u8 => (FM.new (.grown e 1 (bytesV s))).bind fun b => FM.pure (.grow b 0 0 s.length)
      | _ => FM.fail
    | .string, .void => (undF P src).bind fun ds =>
      match ds with
      | .slice e => (undF P e).bind fun de => match de with | .int .u8 => FM.pure (.str []) | _ => FM.fail
      | _ => FM.fail
    | .string, .nils => (undF P src).bind fun ds =>
      match ds with
      | .slice e => (undF P e).bind fun de => match de with | .int .u8 => FM.pure (.str []) | _ => FM.fail
      | _ => FM.fail
    | .string, .slice b off len _ => (undF P src).bind fun ds =>
      match ds with
      | .slice e => (undF P e).bind fun de => match de with | .int .u8 => (loadN b off len).bind fun cs => (FM.ofOption (strV cs)).bind fun s => FM.pure (.str s) | _ => FM.fail
      | _ => FM.fail
    | .string, .grow b off _ len => (undF P src).bind fun ds =>
      match ds with
      | .slice e => (undF P e).bind fun de => match de with | .int .u8 => (loadN b off len).bind fun cs => (FM.ofOption (strV cs)).bind fun s => FM.pure (.str s) | _ => FM.fail
      | _ => FM.fail
    | _, _ => FM.fail

/-! maps -/
noncomputable def sameA : TypeDesc → V → V → Option Bool
  | .int _, .int j a, .int k b => sel (j == k) (some (a == b)) (none)
  | .string, .str a, .str b => some (a == b)
  | .bool, .bool a, .bool b => some (a == b)
  | _, _, _ => none
noncomputable def findA (d : TypeDesc) (k : V) : List (V × V × Nat) → Nat → Option (Option (Nat × V × V × Nat))
  | [], _ => some none
  | e :: es, i =>
    match sameA d k e.1 with
    | some true => some (some (i, e))
    | some false => findA d k es (i + 1)
    | none => none
noncomputable def mapBOf (v : V) : Option Nat :=
  @V.rec (fun _ => Option Nat) (fun _ => Unit) (fun _ => none) (fun _ _ => none) (fun _ => none) none (fun _ _ => none) none (fun _ _ _ _ => none) (fun _ _ _ _ => none) none (fun b => some b) none (fun _ _ _ _ _ => none) (fun _ => none) none (fun _ _ _ => none) (fun _ _ => none) (fun _ _ => none) none () (fun _ _ _ _ => ()) v
noncomputable def mapAt (b : Nat) : FM (Nat × List (V × V × Nat) × Nat) := (FM.get b).bind fun o => match o with | .map es c => FM.pure (b, es, c) | _ => FM.fail
noncomputable def mapOf (m : V) : FM (Nat × List (V × V × Nat) × Nat) := (FM.ofOption (mapBOf m)).bind mapAt
noncomputable def okV (ok : Bool) (v : V) (b : Bool) : V := sel ok (.tup [v, .bool b]) v
noncomputable def keyB : TypeDesc → V → Bool
  | .int _, .int _ _ => true
  | .string, .str _ => true
  | .bool, .bool _ => true
  | _, _ => false
noncomputable def lookupF (t : Nat) (x k : V) (ok : Bool) : FM V :=
  (undF P t).bind fun d =>
    match d with
    | .map kt et => (undF P kt).bind fun kd => (FM.guard (keyB kd k)).bind fun _ =>
      match x with
      | .nilm => (zeroF P et).bind fun z => FM.pure (okV ok z false)
      | x => (mapOf x).bind fun m => (FM.ofOption (findA kd k m.2.1 0)).bind fun r =>
        match r with
        | some e => FM.pure (okV ok e.2.2.1 true)
        | none => (zeroF P et).bind fun z => FM.pure (okV ok z false)
    | _ => FM.fail
noncomputable def setAt {α : Type} : List α → Nat → α → List α
  | [], _, _ => []
  | _ :: l, 0, y => y :: l
  | x :: l, n + 1, y => x :: setAt l n y
noncomputable def mapUpdateF (t : Nat) (m k v : V) : FM V :=
  (undF P t).bind fun d =>
    match d with
    | .map kt _ => (undF P kt).bind fun kd => (FM.guard (keyB kd k)).bind fun _ => (mapOf m).bind fun q => (FM.ofOption (findA kd k q.2.1 0)).bind fun r =>
      match r with
      | some e => (FM.put q.1 (some (.map (setAt q.2.1 e.1 (k, v, e.2.2.2)) q.2.2))).bind fun _ => FM.pure undefV
      | none => (FM.put q.1 (some (.map (q.2.1 ++ [(k, v, q.2.2)]) (q.2.2 + 1)))).bind fun _ => FM.pure undefV
    | _ => FM.fail
noncomputable def mapTypeB : TypeDesc → Bool
  | .map _ _ => true
  | _ => false
noncomputable def rangeF (t : Nat) (x : V) : FM V :=
  (undF P t).bind fun d => (FM.guard (mapTypeB d)).bind fun _ =>
    match x with
    | .nilm => (FM.new (.iter none 0 [] 0)).bind fun b => FM.pure (.ptr b 0)
    | x => (FM.ofOption (mapBOf x)).bind fun m => (mapAt m).bind fun q => (FM.new (.iter (some m) q.2.2 [] q.2.2)).bind fun b => FM.pure (.ptr b 0)
noncomputable def iterOf : O → Option (Option Nat × Nat × List Nat × Nat)
  | .iter m since seen st => some (m, since, seen, st)
  | _ => none
noncomputable def leftA (es : List (V × V × Nat)) (seen : List Nat) : List (V × V × Nat) := es.filter fun e => !seen.contains e.2.2
noncomputable def nextM (b m since : Nat) (seen : List Nat) (st : Nat) : FM V :=
  (mapAt m).bind fun q =>
    match leftA q.2.1 seen with
    | [] => (FM.guard (q.2.1.isEmpty || seen.isEmpty || q.2.1.any fun e => Nat.blt e.2.2 st)).bind fun _ => FM.pure (.tup [.bool false])
    | [e] => (FM.guard (Nat.blt e.2.2 since && seen.isEmpty)).bind fun _ => (FM.put b (some (.iter (some m) since [e.2.2] q.2.2))).bind fun _ => FM.pure (.tup [.bool true, e.1, e.2.1])
    | _ => FM.fail
noncomputable def nextF (x : V) (isString : Bool) : FM V :=
  (FM.ofOption (ptrOf x)).bind fun p => (FM.guard (Nat.beq p.2 0 && !isString)).bind fun _ => (FM.get p.1).bind fun o => (FM.ofOption (iterOf o)).bind fun i =>
    match i.1 with
    | none => FM.pure (.tup [.bool false])
    | some m => nextM p.1 m i.2.1 i.2.2.1 i.2.2.2
noncomputable def bornA (n : Nat) : List (V × V × Nat) → Option (V × V × Nat)
  | [] => none
  | e :: l => sel (Nat.beq e.2.2 n) (some e) (bornA n l)
noncomputable def entryM (m n st : Nat) : FM V :=
  (mapAt m).bind fun q => (FM.guard (Nat.beq q.2.2 st)).bind fun _ => (FM.ofOption (bornA n q.2.1)).bind fun e => FM.pure (.tup [e.1, e.2.1])
noncomputable def entryF (x : V) : FM V :=
  (FM.ofOption (ptrOf x)).bind fun p => (FM.guard (Nat.beq p.2 0)).bind fun _ => (FM.get p.1).bind fun o => (FM.ofOption (iterOf o)).bind fun i =>
    match i.1, i.2.2.1 with
    | some m, [n] => entryM m n i.2.2.2
    | _, _ => FM.fail

/-! append, copy .. -/
noncomputable def srcF (i : TypeInfo) : V → FM (List V × Nat)
  | .nils => FM.pure ([], 0)
  | .void => FM.pure ([], 0)
  | .slice b off n _ => (loadN b off (n * i.size)).bind fun c => FM.pure (c, n)
  | .grow b off _ n => (loadN b off (n * i.size)).bind fun c => FM.pure (c, n)
  | .str s => FM.pure (bytesV s, s.length)
  | _ => FM.fail
noncomputable def grownOf : O → Option (Nat × Nat × List V)
  | .grown e s c => some (e, s, c)
  | _ => none
/-- nothing is appended: only the capacity is looked at -/
noncomputable def stayF (b off k n size : Nat) : FM V :=
  (rowF b).bind fun oc => (FM.ofOption (grownOf oc.1)).bind fun g => (FM.guard (Nat.beq off (k * size) && (lenGe oc.2 (off + n * size) && (Nat.beq g.2.1 size && Nat.blt 0 size)))).bind fun _ => FM.pure (.grow b off k n)
/-- append to a row that append has made: the row as it was is gone -/
noncomputable def growF (b e size n : Nat) (new : List V) (m : Nat) : FM V :=
  (FM.get b).bind fun o => (FM.ofOption (grownOf o)).bind fun g =>
    (FM.guard (Nat.beq g.1 e && (Nat.beq g.2.1 size && lenIs g.2.2 (n * size)))).bind fun _ => (FM.put b none).bind fun _ => (FM.new (.grown e size (g.2.2 ++ new))).bind fun b' => FM.pure (.grow b' 0 0 (n + m))
noncomputable def zlenB (i : TypeInfo) : Bool := match i.zero with | some z => Nat.beq z.cells.size i.size | none => false
noncomputable def rowTypeB : TypeDesc → Bool
  | .slice _ => true
  | .string => true
  | _ => false
noncomputable def appendTo (e : Nat) (i : TypeInfo) (s : V) (new : List V) (m : Nat) : FM V :=
  match s with
  | .nils => sel (Nat.beq m 0) (FM.pure .nils) ((FM.new (.grown e i.size new)).bind fun b => FM.pure (.grow b 0 0 m))
  | .slice b off n cap =>
    sel (Nat.ble (n + m) cap) ((storeN b (off + n * i.size) new).bind fun _ => FM.pure (.slice b off (n + m) cap))
      ((FM.guard (Nat.blt n 100000)).bind fun _ => (loadN b off (n * i.size)).bind fun old => (FM.new (.grown e i.size (old ++ new))).bind fun b => FM.pure (.grow b 0 0 (n + m)))
  | .grow b off k n => sel (Nat.beq m 0) (stayF b off k n i.size) ((FM.guard (Nat.blt n 100000 && (Nat.beq off 0 && Nat.beq k 0))).bind fun _ => growF b e i.size n new m)
  | _ => FM.fail
noncomputable def appendE (e : Nat) (s x : V) : FM V :=
  (infoF P e).bind fun i => (FM.guard (Nat.blt 0 i.size && (Nat.blt i.bytes 100000 && zlenB i))).bind fun _ => (srcF i x).bind fun q => (FM.guard (lenIs q.1 (q.2 * i.size) && (allOne q.1 && Nat.blt q.2 100000))).bind fun _ => appendTo e i s q.1 q.2
noncomputable def appendF (tys : List Nat) (s x : V) : FM V :=
  match tys with
  | [t, tx] => (undF P t).bind fun d => (undF P tx).bind fun dx => (FM.guard (rowTypeB dx)).bind fun _ =>
    match d with
    | .slice e => appendE P e s x
    | _ => FM.fail
  | _ => FM.fail
noncomputable def lenF (tys : List Nat) (x : V) : FM V :=
  match tys with
  | [t] => (undF P t).bind fun d =>
    match d, x with
    | .string, .str s => FM.pure (.int .i64 s.length)
    | .array n _, _ => FM.pure (.int .i64 n)
    | .slice _, .nils => FM.pure (.int .i64 0)
    | .slice _, .void => FM.pure (.int .i64 0)
    | .slice _, .slice _ _ n _ => FM.pure (.int .i64 n)
    | .slice _, .grow _ _ _ n => FM.pure (.int .i64 n)
    | .map _ _, .nilm => FM.pure (.int .i64 0)
    | .map _ _, x => (mapOf x).bind fun q => FM.pure (.int .i64 q.2.1.length)
    | _, _ => FM.fail
  | _ => FM.fail
noncomputable def lenV (v : V) : Option Nat :=
  match v with
  | .nils => some 0
  | .void => some 0
  | .slice _ _ n _ => some n
  | .grow _ _ _ n => some n
  | _ => none
noncomputable def srcN (i : TypeInfo) (m : Nat) (v : V) : FM (List V) :=
  match rowOf v with
  | some p => loadN p.1 p.2.1 (m * i.size)
  | none => (FM.guard (Nat.beq m 0)).bind fun _ => FM.pure []
noncomputable def copyTo (x : V) (c : List V) (n : Nat) : FM V :=
  match x with
  | .nils => FM.pure (.int .i64 n)
  | .slice b off _ _ => (storeN b off c).bind fun _ => FM.pure (.int .i64 n)
  | .grow b off _ _ => (storeN b off c).bind fun _ => FM.pure (.int .i64 n)
  | _ => FM.fail
noncomputable def copyF (tys : List Nat) (x y : V) : FM V :=
  match tys with
  | [t, _] => (undF P t).bind fun d =>
    match d with
    | .slice e => (infoF P e).bind fun i => (FM.ofOption (lenV y)).bind fun ny => (FM.ofOption (lenV x)).bind fun nx => (srcN i (Nat.min ny nx) y).bind fun c => copyTo x c (Nat.min ny nx)
    | _ => FM.fail
  | _ => FM.fail
noncomputable def minA (big : Bool) : V → List V → Option V
  | x, [] => some x
  | .int k a, .int _ b :: l => minA big (.int k (sel ((sel (big) (decide (b > a)) (decide (b < a)))) (b) (a))) l
  | _, _ => none
noncomputable def capF (tys : List Nat) (n : Nat) : FM V :=
  match tys with
  | [t] => (undF P t).bind fun d => match d with | .slice _ => FM.pure (.int .i64 n) | _ => FM.fail
  | _ => FM.fail
noncomputable def builtinF (inR : Bool) (b : Builtin) (tys : List Nat) (args : List V) : FM V :=
  match b, args with
  | .append, [s, x] => appendF P tys s x
  | .len, [x] => lenF P tys x
  | .copy, [x, y] => copyF P tys x y
  | .min, x :: l => FM.ofOption (minA false x l)
  | .max, x :: l => FM.ofOption (minA true x l)
  | .recover, _ => (FM.guard (!inR)).bind fun _ => FM.pure .nili
  | .cap, [.slice _ _ _ n] => capF P tys n
  | .cap, [.nils] => capF P tys 0
  | _, _ => FM.fail
noncomputable def typeAssertF (x : V) (t : Nat) (ok : Bool) : FM V :=
  (undF P t).bind fun d =>
    match x with
    | .nili => (FM.guard ok).bind fun _ => (zeroF P t).bind fun z => FM.pure (.tup [z, .bool false])
    | .iface u v => (FM.guard (match d with | .interface _ => false | _ => true)).bind fun _ =>
      sel (Nat.beq u t) (FM.pure (sel (ok) (.tup [v, .bool true]) (v))) ((FM.guard ok).bind fun _ => (zeroF P t).bind fun z => FM.pure (.tup [z, .bool false]))
    | _ => FM.fail

/-- an operation whose operands' values are known -/
noncomputable def op0 (f : FM V) : List V → FM V
  | [] => f
  | _ => FM.fail
noncomputable def op1 (f : V → FM V) : List V → FM V
  | [x] => f x
  | _ => FM.fail
noncomputable def op2 (f : V → V → FM V) : List V → FM V
  | [x, y] => f x y
  | _ => FM.fail
noncomputable def op3 (f : V → V → V → FM V) : List V → FM V
  | [x, y, z] => f x y z
  | _ => FM.fail
noncomputable def pickF (c a b : V) : FM V := (FM.ofOption (boolOf c)).bind fun c => FM.pure (sel c a b)
noncomputable def allocF (t : Nat) : FM V := (zeroF P t).bind fun z => (FM.new (.cells t z.cells)).bind fun b => FM.pure (.ptr b 0)
noncomputable def boxF (t : Nat) (x : V) : FM V := (FM.new (.cells t x.cells)).bind fun b => FM.pure (.ptr b 0)
noncomputable def nilCheckF (x : V) : FM V := sel (nilB x) FM.fail (FM.pure x)
noncomputable def makeIfaceF (t : Nat) (x : V) : FM V := (undF P t).bind fun d => (FM.guard (match d with | .interface _ => false | _ => true)).bind fun _ => FM.pure (.iface t x)
noncomputable def makeFuncF (fn : Fn) (n : Nat) (args : List V) : FM V :=
  match fn with
  | .func f => FM.pure (.func f (args.take n) (args.drop n))
  | _ => FM.fail
noncomputable def makeMapF (t : Nat) (r : Option Operand) (args : List V) : FM V :=
  match r, args with
  | none, [] => (FM.new (.map [] 0)).bind fun b => FM.pure (.map b)
  | some _, [.int _ _] => (undF P t).bind fun d => match d with | .map _ _ => (FM.new (.map [] 0)).bind fun b => FM.pure (.map b) | _ => FM.fail
  | _, _ => FM.fail
noncomputable def sliceArgsF (t : Nat) (lo hi mx : Option Operand) (args : List V) : FM V :=
  match lo, hi, mx, args with
  | none, none, none, [x] => sliceF P t x none none none
  | some _, none, none, [x, a] => sliceF P t x (some a) none none
  | none, some _, none, [x, b] => sliceF P t x none (some b) none
  | some _, some _, none, [x, a, b] => sliceF P t x (some a) (some b) none
  | none, some _, some _, [x, b, c] => sliceF P t x none (some b) (some c)
  | some _, some _, some _, [x, a, b, c] => sliceF P t x (some a) (some b) (some c)
  | _, _, _, _ => FM.fail
noncomputable def extractF (i : Nat) (x : V) : FM V := (FM.ofOption (tupOf x)).bind fun vs => FM.ofOption (nthO vs i)
noncomputable def arrayPtrF (t : Nat) (x : V) : FM V :=
  (undF P t).bind fun d =>
    match d, x with
    | .array n _, .slice b off len _ => (FM.guard (Nat.ble n len)).bind fun _ => FM.pure (.ptr b off)
    | .array n _, .grow b off _ len => (FM.guard (Nat.ble n len)).bind fun _ => FM.pure (.ptr b off)
    | _, _ => FM.fail
noncomputable def callOpF (callF : V → List V → FM V) (inR : Bool) (c : Call) (args : List V) : FM V :=
  match c.callee with
  | .builtin b => builtinF P inR b c.argTypes.toList args
  | .value _ => match args with
    | f :: args => callF f args
    | [] => FM.fail
  | _ => FM.fail
noncomputable def unF (op : UnOp) (x : V) : FM V := FM.ofOption (unA op x)
noncomputable def opF (cf : V → List V → FM V) (inR : Bool) (o : Op) (args : List V) : FM V :=
  @Op.rec (fun _ => Program → (V → List V → FM V) → Bool → List V → FM V)
    (fun _ _ _ _ args => op1 FM.pure args)
    (fun _ _ _ _ args => op1 FM.pure args)
    (fun _ _ _ _ _ _ args => op3 pickF args)
    (fun t P _ _ args => op0 (allocF P t) args)
    (fun t _ _ _ _ args => op1 (boxF t) args)
    (fun t ps P _ _ args => buildF P t (zip2 ps.toList args))
    (fun t n ps P _ _ args => buildSliceF P t n (zip2 ps.toList args))
    (fun t _ _ _ P _ _ args => op3 (mapUpdateF P t) args)
    (fun t _ P _ _ args => op1 (loadT P t) args)
    (fun t _ _ P _ _ args => op2 (storeT P t) args)
    (fun _ _ _ _ _ => FM.fail)
    (fun _ _ _ _ _ => FM.fail)
    (fun _ _ _ _ args => op1 nilCheckF args)
    (fun op t x y _ P _ _ args => op2 (binF P op t x y) args)
    (fun op _ _ _ _ _ args => op1 (unF op) args)
    (fun s d _ P _ _ args => op1 (convF P s d) args)
    (fun t _ P _ _ args => op1 (arrayPtrF P t) args)
    (fun t _ P _ _ args => op1 (makeIfaceF P t) args)
    (fun f first _ _ _ _ args => makeFuncF f first.size args)
    (fun t r P _ _ args => makeMapF P t r args)
    (fun _ _ _ _ _ _ => FM.fail)
    (fun t _ _ P _ _ args => op2 (makeSliceF P t) args)
    (fun t _ lo hi mx P _ _ args => sliceArgsF P t lo hi mx args)
    (fun s _ f P _ _ args => op1 (fun x => fieldAddrF P s x f) args)
    (fun s _ f P _ _ args => op1 (fun x => fieldF P s x f) args)
    (fun t _ _ P _ _ args => op2 (indexAddrF P t) args)
    (fun t _ _ P _ _ args => op2 (indexF P t) args)
    (fun t _ _ ok P _ _ args => op2 (fun x k => lookupF P t x k ok) args)
    (fun t _ _ _ P _ _ args => op3 (mapUpdateF P t) args)
    (fun _ _ _ _ _ _ _ => FM.fail)
    (fun _ _ _ _ _ _ _ _ => FM.fail)
    (fun t _ P _ _ args => op1 (rangeF P t) args)
    (fun _ s _ _ _ args => op1 (fun x => nextF x s) args)
    (fun _ _ _ _ args => op1 entryF args)
    (fun _ _ t ok P _ _ args => op1 (fun x => typeAssertF P x t ok) args)
    (fun _ i _ _ _ args => op1 (extractF i) args)
    (fun c P cf inR args => callOpF P cf inR c args)
    (fun _ _ _ _ _ => FM.fail)
    (fun _ _ _ _ _ => FM.fail)
    (fun _ _ _ _ _ => FM.fail)
    (fun _ _ _ _ _ _ => FM.fail)
    (fun _ _ _ _ _ _ _ => FM.fail)
    (fun _ _ _ _ _ _ => FM.fail) o P cf inR args

/-! code -/
inductive Ex where
  | normal
  | exit (id : Nat)
  | ret

noncomputable def yieldedA (ops : Array Oper) (a : A) (j : Nat) : Option Bool :=
  match ops[j]? with
  | none => none
  | some o => match o.dst with
    | none => none
    | some d => match a.tmp d with
      | .bool b => some b
      | _ => none
noncomputable def wantedA (ops : Array Oper) (a : A) (o : Oper) : Bool :=
  @Option.rec (Nat × Bool) (fun _ => Bool) true (fun g => match yieldedA ops a g.1 with | some b => b == g.2 | none => false) o.guard
noncomputable def opArgs (callF : V → List V → FM V) (inR : Bool) (o : Op) (args : Option (List V)) : FM V :=
  @Option.rec (List V) (fun _ => FM V) FM.fail (fun args => opF P callF inR o args) args
/-- the value that an operation of a region leaves -/
noncomputable def opV (callF : V → List V → FM V) (inR : Bool) (ops : Array Oper) (a : A) (o : Oper) : FM V :=
  sel (wantedA ops a o) (opArgs P callF inR o.op (a.evals o.op.operands.toList)) (FM.pure undefV)
noncomputable def deferC (a : A) (c : Call) : FM A :=
  match c.callee with
  | .value f => (FM.ofOption (a.eval f)).bind fun f => (FM.ofOption (calleeOf f)).bind fun _ => (FM.ofOption (a.evals c.args.toList)).bind fun args => FM.pure ⟨a.env, .fn f args :: a.defers⟩
  | _ => FM.fail
noncomputable def deferF (inR : Bool) (a : A) (c : Call) : FM A := sel inR FM.fail (deferC a c)
noncomputable def deferOf (o : Op) : Option Call :=
  @Op.rec (fun _ => Option Call) (fun _ => none) (fun _ => none) (fun _ _ _ => none) (fun _ => none) (fun _ _ => none) (fun _ _ => none) (fun _ _ _ => none) (fun _ _ _ _ => none) (fun _ _ => none) (fun _ _ _ => none) (fun _ => none) (fun _ => none) (fun _ => none) (fun _ _ _ _ _ => none) (fun _ _ _ => none) (fun _ _ _ => none) (fun _ _ => none) (fun _ _ => none) (fun _ _ _ => none) (fun _ _ => none) (fun _ _ => none) (fun _ _ _ => none) (fun _ _ _ _ _ => none) (fun _ _ _ => none) (fun _ _ _ => none) (fun _ _ _ => none) (fun _ _ _ => none) (fun _ _ _ _ => none) (fun _ _ _ _ => none) (fun _ _ _ => none) (fun _ _ _ _ => none) (fun _ _ => none) (fun _ _ => none) (fun _ => none) (fun _ _ _ _ => none) (fun _ _ => none) (fun _ => none) (fun _ => none) some (fun _ => none) (fun _ _ => none) (fun _ _ _ => none) (fun _ _ => none) o
noncomputable def stepF (callF : V → List V → FM V) (inR : Bool) (sz : Nat) (ops : Array Oper) (a : A) (o : Oper) : FM A :=
  @Option.rec Call (fun _ => FM A) ((opV P callF inR ops a o).bind fun v => FM.pure (a.put sz o.dst v))
    (fun c => sel (wantedA ops a o) ((deferF inR a c).bind fun a => FM.pure (a.put sz o.dst undefV)) (FM.pure (a.put sz o.dst undefV))) (deferOf o.op)
noncomputable def seqF (callF : V → List V → FM V) (inR : Bool) (sz : Nat) (ops : Array Oper) (l : List Oper) : A → FM A :=
  @List.rec Oper (fun _ => A → FM A) (fun a => FM.pure a) (fun o _ ih a => (stepF P callF inR sz ops a o).bind ih) l
theorem seqF_nil (callF : V → List V → FM V) (inR : Bool) (sz : Nat) (ops : Array Oper) (a : A) : seqF P callF inR sz ops [] a = FM.pure a := rfl
theorem seqF_cons (callF : V → List V → FM V) (inR : Bool) (sz : Nat) (ops : Array Oper) (o : Oper) (l : List Oper) (a : A) :
    seqF P callF inR sz ops (o :: l) a = (stepF P callF inR sz ops a o).bind (seqF P callF inR sz ops l) := rfl
/-- what is to be asked of an operation of a drawn region: of each one ahead of it in the text, by its distance, whether what both touch must be looked at -/
structure Plan where
  o : Oper
  asks : List Nat
noncomputable def asksOf (ops : Array Oper) (b : Nat) (o : Oper) : List Oper → Nat → Nat → Option (List Nat)
  | [], _, _ => some []
  | p :: l, j, d => match asksOf ops b o l (Nat.pred j) (Nat.succ d) with
    | none => none
    | some r => sel (Nat.testBit b (Nat.pred j)) (some r) (sel (p.apart ops o) (some (d :: r)) none)
/-- ahead: the operations ahead of those that follow, the last one first -/
noncomputable def planOf (ops : Array Oper) (B : Array Nat) : List Oper → List Oper → Nat → Option (List Plan)
  | [], _, _ => some []
  | o :: l, ahead, i => match asksOf ops (B.getD i 0) o ahead i 0 with
    | none => none
    | some r => match planOf ops B l (o :: ahead) (Nat.succ i) with
      | none => none
      | some ps => sel (deferOf o.op).isNone (some (⟨o, r⟩ :: ps)) none
noncomputable def edgesB (ops : Array Oper) : Bool := ops.toList.zipIdx.all fun x => x.1.after.toList.all fun e => !Region.binds .any e || Nat.blt e.on x.2
noncomputable def planR (ops : Array Oper) : Option (List Plan) := sel (edgesB ops) (planOf ops (Region.before ops) ops.toList [] 0) none
structure Foot where
  rd : Nat
  wr : Nat
/-- nothing that one of them writes is read or written by the other one -/
noncomputable def apartB (p q : Foot) : Bool := and (Nat.beq (Nat.land p.wr (Nat.lor q.rd q.wr)) 0) (Nat.beq (Nat.land p.rd q.wr) 0)
noncomputable def nthF (l : List Foot) : Nat → Option Foot :=
  @List.rec Foot (fun _ => Nat → Option Foot) (fun _ => none) (fun x _ ih n => @Nat.rec (fun _ => Option Foot) (some x) (fun m _ => ih m) n) l
noncomputable def allApart (q : Foot) (done : List Foot) (asks : List Nat) : Bool :=
  @List.rec Nat (fun _ => Bool) true (fun d _ ih => @Option.rec Foot (fun _ => Bool) false (fun p => and (apartB p q) ih) (nthF done d)) asks
/-- the operations of a drawn region, in the text's order; done: what those ahead read and wrote, the last one first -/
noncomputable def drawF (cf : V → List V → FM V) (inR : Bool) (sz : Nat) (ops : Array Oper) (l : List Plan) : List Foot → A → FM A :=
  @List.rec Plan (fun _ => List Foot → A → FM A) (fun _ a => FM.pure a)
    (fun p _ ih done a => (FM.seen (opV P cf inR ops a p.o)).bind fun r => sel (allApart ⟨r.2.1, r.2.2⟩ done p.asks) (ih (⟨r.2.1, r.2.2⟩ :: done) (a.put sz p.o.dst r.1)) FM.fail) l
theorem drawF_nil (cf : V → List V → FM V) (inR : Bool) (sz : Nat) (ops : Array Oper) (done : List Foot) (a : A) : drawF P cf inR sz ops [] done a = FM.pure a := rfl
theorem drawF_cons (cf : V → List V → FM V) (inR : Bool) (sz : Nat) (ops : Array Oper) (p : Plan) (l : List Plan) (done : List Foot) (a : A) :
    drawF P cf inR sz ops (p :: l) done a = (FM.seen (opV P cf inR ops a p.o)).bind fun r => sel (allApart ⟨r.2.1, r.2.2⟩ done p.asks) (drawF P cf inR sz ops l (⟨r.2.1, r.2.2⟩ :: done) (a.put sz p.o.dst r.1)) FM.fail := rfl

abbrev RA := FM (Ex × A)
noncomputable def doneA (a : A) : RA := FM.pure (.normal, a)
noncomputable def regionF (callF : V → List V → FM V) (inR : Bool) (sz : Nat) (ops : Array Oper) (draw : Bool) (a : A) : RA :=
  sel (draw) ((FM.ofOption (planR ops)).bind fun l => (drawF P callF inR sz ops l [] a).bind doneA) ((seqF P callF inR sz ops ops.toList a).bind doneA)
noncomputable def thenF (k : A → RA) (r : Ex × A) : RA := @Ex.rec (fun _ => (A → RA) → (Ex × A) → RA) (fun k r => k r.2) (fun _ _ r => FM.pure r) (fun _ r => FM.pure r) r.1 k r
noncomputable def condF (k : Code → A → RA) (a : A) (c : Operand) (x y : Code) : RA :=
  (FM.ofOption (@Option.rec V (fun _ => Option Bool) none boolOf (a.eval c))).bind fun b => k (sel b x y) a
noncomputable def blockF (id : Nat) (r : Ex × A) : RA := @Ex.rec (fun _ => Nat → (Ex × A) → RA) (fun _ r => FM.pure r) (fun j id r => FM.pure (sel (Nat.beq j id) .normal (.exit j), r.2)) (fun _ r => FM.pure r) r.1 id r
noncomputable def exOf : Option Code → Option Ex
  | none => some .normal
  | some (.exit id) => some (.exit id)
  | some .ret => some .ret
  | _ => none
noncomputable def loopOf : O → Option Lp
  | .loop L => some L
  | _ => none
noncomputable def getLoop (l : Nat) : FM Lp := (FM.get l).bind fun o => FM.ofOption (loopOf o)
noncomputable def busyB : LoopState → Bool
  | .busy => true
  | _ => false
noncomputable def readyB : LoopState → Bool
  | .ready => true
  | _ => false
noncomputable def Lp.turn (L : Lp) (s : LoopState) (p : Option Code) : Lp := ⟨s, p, L.fn, L.tmps, L.size, L.params, L.assign, L.body, L.defers⟩
noncomputable def rangeGo (callF : V → List V → FM V) (fn sz : Nat) (fv : V) (params : List Nat) (asg body : Code) (a : A) (r : Nat) : RA :=
  (FM.new (.loop ⟨.ready, none, fn, a.env, sz, params, asg, body, r⟩)).bind fun l =>
  (callF fv [.yield l]).bind fun _ => (getLoop l).bind fun L =>
  (FM.guard (!busyB L.state)).bind fun _ => (FM.put l (some (.loop (L.turn .exhausted L.pending)))).bind fun _ =>
  (FM.ofOption (exOf L.pending)).bind fun e => FM.pure (e, a)
noncomputable def rangeFuncF (callF : V → List V → FM V) (fn sz : Nat) (round : Option Nat) (a : A) (f : Operand) (params : List Nat) (asg body : Code) : RA :=
  match a.eval f with
  | none => FM.fail
  | some fv =>
    match round with
    | none => (FM.new (.deferred true)).bind fun r => rangeGo callF fn sz fv params asg body ⟨a.env, .coll r :: a.defers⟩ r
    | some l => (getLoop l).bind fun L => rangeGo callF fn sz fv params asg body a L.defers
noncomputable def nullB (l : List V) : Bool := @List.rec V (fun _ => Bool) true (fun _ _ _ => false) l
/-- a call, where K tells what some functions without arguments give back -/
noncomputable def cfK (K : Nat → Option V) (cf : V → List V → FM V) (fv : V) (args : List V) : FM V :=
  @Option.rec (Nat × List V × List V) (fun _ => FM V) (cf fv args)
    (fun q => @Option.rec V (fun _ => FM V) (cf fv args) (fun v => sel (and (nullB q.2.1) (and (nullB args) (nullB q.2.2))) (FM.pure v) FM.fail) (K q.1)) (calleeOf fv)
noncomputable def codeS (K : Nat → Option V) (cf : V → List V → FM V) (fn sz : Nat) (round : Option Nat) (rec : Code → A → RA) (c : Code) (a : A) : RA :=
  @Code.rec (fun _ => Program → (Nat → Option V) → (V → List V → FM V) → Nat → Nat → Option Nat → (Code → A → RA) → A → RA)
    (fun _ _ _ _ _ _ _ a => doneA a)
    (fun _ ops draw P K cf _ sz round _ a => regionF P (cfK K cf) round.isSome sz ops draw a)
    (fun x y _ _ _ _ _ _ _ _ rec a => (rec x a).bind (thenF (rec y)))
    (fun c x y _ _ _ _ _ _ _ _ rec a => condF rec a c x y)
    (fun id x _ _ _ _ _ _ _ rec a => (rec x a).bind (blockF id))
    (fun x _ _ _ _ _ _ _ rec a => (rec x a).bind (thenF (rec (.loop x))))
    (fun f params asg body _ _ _ _ cf fn sz round _ a => rangeFuncF cf fn sz round a f params.toList asg body)
    (fun id _ _ _ _ _ _ _ a => FM.pure (.exit id, a))
    (fun x _ _ _ _ _ _ _ rec a => rec x a)
    (fun _ _ _ _ _ _ _ _ a => doneA a)
    (fun _ _ _ _ _ _ _ _ _ => FM.fail)
    (fun _ _ _ _ _ _ _ a => FM.pure (.ret, a))
    (fun _ _ _ _ _ _ _ _ _ => FM.fail) c P K cf fn sz round rec a
noncomputable def codeF (K : Nat → Option V) (callF : V → List V → FM V) (fn sz : Nat) (round : Option Nat) (n : Nat) : Code → A → RA :=
  @Nat.rec (fun _ => Code → A → RA) (fun _ _ => FM.fail) (fun _ ih => codeS P K callF fn sz round ih) n
theorem codeF_zero (K : Nat → Option V) (callF : V → List V → FM V) (fn sz : Nat) (round : Option Nat) (c : Code) (a : A) : codeF P K callF fn sz round 0 c a = FM.fail := rfl
theorem codeF_succ (K : Nat → Option V) (callF : V → List V → FM V) (fn sz : Nat) (round : Option Nat) (n : Nat) (c : Code) (a : A) :
    codeF P K callF fn sz round (n + 1) c a = codeS P K callF fn sz round (codeF P K callF fn sz round n) c a := rfl

noncomputable def resultF (a : A) : ResultVar → FM V
  | .tmp t => FM.pure (a.tmp t)
  | .cell t ty => loadT P ty (a.tmp t)
noncomputable def resultsF (a : A) : List ResultVar → FM (List V)
  | [] => FM.pure []
  | r :: l => (resultF P a r).bind fun v => (resultsF a l).bind fun vs => FM.pure (v :: vs)
noncomputable def oneV : List V → V
  | [v] => v
  | vs => .tup vs
noncomputable def envOf : List V → Nat → Tr V → Tr V
  | [], _, e => e
  | v :: l, i, e => envOf l (i + 1) (Tr.set 14 e i (some v))
noncomputable def collF (b : Nat) : FM Unit := (FM.get b).bind fun o =>
  match o with
  | .deferred true => FM.put b (some (.deferred false))
  | _ => FM.fail
noncomputable def defersF (callF : V → List V → FM V) : List D → FM Unit
  | [] => FM.pure ()
  | .fn f args :: l => (callF f args).bind fun _ => defersF callF l
  | .coll b :: l => (collF b).bind fun _ => defersF callF l
noncomputable def exCode : Ex → Option Code
  | .normal => none
  | .exit id => some (.exit id)
  | .ret => some .ret
noncomputable def exNormal : Ex → Bool
  | .normal => true
  | _ => false
noncomputable def exEnds : Ex → Bool
  | .exit _ => false
  | _ => true
noncomputable def bindA (sz : Nat) : List Nat → List V → A → A
  | t :: ts, v :: vs, a => bindA sz ts vs (a.put sz (some t) v)
  | _, _, a => a
abbrev fuel : Nat := 1000000
noncomputable def enterF (K : Nat → Option V) (callF : V → List V → FM V) (f : Nat) (fn : Func) (args : List V) : FM V :=
  match fn.body with
  | none => FM.fail
  | some c =>
    (FM.guard (!(fn.name == "runtime.NumGoroutine") && (Nat.ble fn.ntmps 8000 && Nat.ble args.length fn.ntmps))).bind fun _ =>
    (codeF P K callF f fn.ntmps none fuel c ⟨envOf args 0 .nil, []⟩).bind fun r =>
    (FM.guard (exEnds r.1)).bind fun _ =>
    (defersF callF r.2.defers).bind fun _ =>
    (resultsF P r.2 fn.results.toList).bind fun vs => FM.pure (oneV vs)
noncomputable def roundF (K : Nat → Option V) (callF : V → List V → FM V) (l : Nat) (args : List V) : FM V :=
  (getLoop l).bind fun L => (FM.guard (Nat.beq args.length L.params.length)).bind fun _ =>
  (codeF P K callF L.fn L.size (some l) fuel L.assign (bindA L.size L.params args ⟨L.tmps, []⟩)).bind fun r =>
  (FM.guard (exNormal r.1)).bind fun _ => (getLoop l).bind fun M =>
  (FM.guard (readyB M.state)).bind fun _ => (FM.put l (some (.loop (M.turn .busy M.pending)))).bind fun _ =>
  (codeF P K callF L.fn L.size (some l) fuel L.body r.2).bind fun r => (getLoop l).bind fun M =>
  (FM.put l (some (.loop (M.turn (sel (exNormal r.1) (.ready) (.done)) (exCode r.1))))).bind fun _ => FM.pure (.bool (exNormal r.1))
noncomputable def callS (K : Nat → Option V) (cf : V → List V → FM V) (fv : V) (args : List V) : FM V :=
  match calleeOf fv with
  | some q => (FM.ofOption P.funcs[q.1]?).bind fun fn => enterF P K cf q.1 fn (q.2.1 ++ args ++ q.2.2)
  | none => match loopOfV fv with
    | some l => roundF P K cf l args
    | none => FM.fail
noncomputable def callF (K : Nat → Option V) (n : Nat) : V → List V → FM V := @Nat.rec (fun _ => V → List V → FM V) (fun _ _ => FM.fail) (fun _ ih => callS P K ih) n
theorem callF_zero (K : Nat → Option V) (fv : V) (args : List V) : callF P K 0 fv args = FM.fail := rfl
theorem callF_succ (K : Nat → Option V) (n : Nat) (fv : V) (args : List V) : callF P K (n + 1) fv args = callS P K (callF P K n) fv args := rfl
end
end Go.Ev

namespace Go.Ev
open Go.RowKit

/-! what stands for what -/
def Clear (fr : Nat × Nat) (n : Nat) : Prop := ∀ k, k < n → ¬ (fr.1 ≤ k ∧ k < fr.2)
def L2 {α β : Type} (R : α → β → Prop) : List α → List β → Prop
  | [], l => l = []
  | x :: xs, l => ∃ y ys, l = y :: ys ∧ R x y ∧ L2 R xs ys
theorem L2.mono {α β : Type} {R R' : α → β → Prop} (h : ∀ x y, R x y → R' x y) : ∀ (l : List α) (m : List β), L2 R l m → L2 R' l m
  | [], _ => id
  | _ :: l, _ => fun ⟨y, ys, e, r, t⟩ => ⟨y, ys, e, h _ _ r, L2.mono h l ys t⟩
def MR (θ : Th) (x : V × V × Nat) (e : MapEntry) : Prop := VR θ x.1 e.key ∧ VR θ x.2.1 e.val ∧ e.born = x.2.2
noncomputable def envTmp (e : Tr V) (t : Nat) : V := @Option.rec V (fun _ => V) undefV (fun v => v) (e.get t)
def ER (θ : Th) (e : Tr V) (sz : Nat) (tmps : Array Value) : Prop := sz ≤ 8000 ∧ tmps.size = sz ∧ ∀ t, VR θ (envTmp e t) (tmps.getD t undef)
def DR (θ : Th) : D → Deferred → Prop
  | .fn f args, d => ∃ n xs ys a b as, f = .func n xs ys ∧ VRL θ xs a.toList ∧ VRL θ ys b.toList ∧ VRL θ args as.toList ∧ d = { target := .fn (.func n) b, args := a ++ as }
  | .coll b, d => ∃ c, θ b = some c ∧ d = { target := .collected c.1, args := #[] }
def IterM (θ : Th) (m m' : Option Nat) : Prop := match m with | none => m' = none | some b => ∃ c, θ b = some c ∧ m' = some c.1
structure AR (θ : Th) (sz : Nat) (a : A) (c : Act) : Prop where
  env : ER θ a.env sz c.tmps
  defers : L2 (DR θ) a.defers c.defers
def OR (θ : Th) (c : Nat × Nat) : O → Obj → Prop
  | .cells e xs, o => ∃ a fr, o = .cells a e fr ∧ VRL θ xs a.toList ∧ Clear fr a.size
  | .grown e sz xs, o => ∃ a fr p q, o = .cells a e fr ∧ a.toList = p ++ q ∧ VRL θ xs p ∧ a.size = c.2 * sz ∧ Clear fr a.size
  | .map es ck, o => ∃ a, o = .map a ck ∧ L2 (MR θ) es a.toList
  | .iter m since seen st, o => ∃ m', o = .mapIter m' since seen.toArray st ∧ IterM θ m m'
  | .loop L, o => ∃ tm d, o = .loop { state := L.state, pending := L.pending, fn := L.fn, tmps := tm, params := L.params.toArray, assign := L.assign, body := L.body, defers := d.1 } ∧ ER θ L.tmps L.size tm ∧ θ L.defers = some d
  | .deferred b, o => o = .deferred (if b then some [] else none)

theorem ER.mono {θ θ' : Th} (h : Le θ θ') {e : Tr V} {sz : Nat} {t : Array Value} (x : ER θ e sz t) : ER θ' e sz t := ⟨x.1, x.2.1, fun t => (x.2.2 t).mono h _ _⟩
theorem DR.mono {θ θ' : Th} (h : Le θ θ') : ∀ (x : D) (d : Deferred), DR θ x d → DR θ' x d
  | .fn _ _, _ => fun ⟨n, xs, ys, a, b, as, e, h1, h2, h3, e2⟩ => ⟨n, xs, ys, a, b, as, e, h1.mono h _ _, h2.mono h _ _, h3.mono h _ _, e2⟩
  | .coll _, _ => fun ⟨c, hc, e⟩ => ⟨c, h _ _ hc, e⟩
theorem AR.mono {θ θ' : Th} (h : Le θ θ') {sz : Nat} {a : A} {c : Act} (x : AR θ sz a c) : AR θ' sz a c := ⟨x.env.mono h, L2.mono (fun _ _ => DR.mono h _ _) _ _ x.defers⟩
theorem IterM.mono {θ θ' : Th} (h : Le θ θ') {m m' : Option Nat} (x : IterM θ m m') : IterM θ' m m' := by
  cases m with
  | none => exact x
  | some b => obtain ⟨c, hc, e⟩ := x; exact ⟨c, h _ _ hc, e⟩
theorem OR.mono {θ θ' : Th} (h : Le θ θ') {c : Nat × Nat} : ∀ {x : O} {o : Obj}, OR θ c x o → OR θ' c x o
  | .cells _ _, _ => fun ⟨a, fr, e, v, k⟩ => ⟨a, fr, e, v.mono h _ _, k⟩
  | .grown _ _ _, _ => fun ⟨a, fr, p, q, e, e2, v, k⟩ => ⟨a, fr, p, q, e, e2, v.mono h _ _, k⟩
  | .map _ _, _ => fun ⟨a, e, v⟩ => ⟨a, e, L2.mono (fun _ _ r => ⟨r.1.mono h _ _, r.2.1.mono h _ _, r.2.2⟩) _ _ v⟩
  | .iter _ _ _ _, _ => fun ⟨m, e, k⟩ => ⟨m, e, k.mono h⟩
  | .loop _, _ => fun ⟨tm, d, e, r, k⟩ => ⟨tm, d, e, r.mono h, h _ _ k⟩
  | .deferred _, _ => id

/-- G: what the package's variables hold -/
structure Rel (G : Nat → Option O) (w0 : World) (θ : Th) (s : St) (w : World) : Prop where
  below : Below w0.heap.size w0 w
  low : ∀ i, i < FM.base → s.at i = G i
  glob : ∀ g, g < FM.base → θ g = some (g, 0)
  live : ∀ i o, s.at i = some o → ∃ c obj, θ i = some c ∧ w.heap[c.1]? = some obj ∧ OR θ c o obj
  inj : ∀ i j c d, s.at i ≠ none → s.at j ≠ none → θ i = some c → θ j = some d → c.1 = d.1 → i = j
  place : ∀ i c, θ i = some c → FM.base ≤ i → w0.heap.size ≤ c.1 ∧ c.1 < w.heap.size
  old : ∀ i, i < FM.base → s.at i ≠ none → i < w0.heap.size

def Ext (θ θ' : Th) (n m : Nat) : Prop := Le θ θ' ∧ ∀ i, θ i = none → (i < n ∨ m ≤ i) → θ' i = none
def Free (θ : Th) (n m : Nat) : Prop := ∀ i, n ≤ i → i < m → θ i = none

theorem Le.refl (θ : Th) : Le θ θ := fun _ _ h => h
theorem Le.trans {a b c : Th} (h : Le a b) (k : Le b c) : Le a c := fun i x e => k i x (h i x e)
theorem Ext.refl (θ : Th) (n m : Nat) : Ext θ θ n m := ⟨Le.refl θ, fun _ h _ => h⟩
theorem Ext.trans {a b c : Th} {n k m : Nat} (h : Ext a b n k) (h2 : Ext b c k m) (h3 : n ≤ k) (h4 : k ≤ m) : Ext a c n m :=
  ⟨h.1.trans h2.1, fun i e o => h2.2 i (h.2 i e (by omega)) (by omega)⟩
theorem Free.tail {a b : Th} {n k m : Nat} (h : Free a n m) (h2 : Ext a b n k) (h3 : n ≤ k) : Free b k m :=
  fun i x y => h2.2 i (h i (by omega) y) (.inr x)
theorem Free.head {a : Th} {n k m : Nat} (h : Free a n m) (h3 : k ≤ m) : Free a n k := fun i x y => h i x (by omega)

def upd (θ : Th) (i : Nat) (c : Nat × Nat) : Th := fun j => if j = i then some c else θ j
theorem upd_same (θ : Th) (i : Nat) (c : Nat × Nat) : upd θ i c i = some c := by simp [upd]
theorem upd_other {θ : Th} {i j : Nat} {c : Nat × Nat} (h : j ≠ i) : upd θ i c j = θ j := by simp [upd, h]
theorem upd_le {θ : Th} {i : Nat} {c : Nat × Nat} (h : θ i = none) : Le θ (upd θ i c) := fun j x e => by
  by_cases hj : j = i
  · subst hj; rw [h] at e; cases e
  · rw [upd_other hj]; exact e
theorem upd_ext {θ : Th} {i : Nat} {c : Nat × Nat} (h : θ i = none) : Ext θ (upd θ i c) i (i + 1) :=
  ⟨upd_le h, fun j e o => by rw [upd_other (by omega)]; exact e⟩

section
variable {G : Nat → Option O} {w0 : World} {θ : Th} {s s' : St} {w : World}
theorem Rel.same (h : Rel G w0 θ s w) (e : ∀ j, s'.at j = s.at j) : Rel G w0 θ s' w :=
  ⟨h.below, fun i hi => (e i).trans (h.low i hi), h.glob, fun i o ho => h.live i o ((e i).symm.trans ho), fun i j c d hi hj => h.inj i j c d (by rwa [e i] at hi) (by rwa [e j] at hj), h.place, fun i hi hn => h.old i hi (by rwa [e i] at hn)⟩
theorem Rel.drew (h : Rel G w0 θ s w) : Rel G w0 θ s w.drew := ⟨h.below.drew, h.low, h.glob, h.live, h.inj, h.place, h.old⟩
/-- a block of the run's own -/
theorem Rel.blk (h : Rel G w0 θ s w) {i : Nat} {c : Nat × Nat} (hc : θ i = some c) (hl : s.at i ≠ none) : c.1 < w.heap.size := by
  by_cases hi : FM.base ≤ i
  · exact (h.place i c hc hi).2
  · have h1 := h.glob i (by omega)
    rw [hc] at h1; cases h1
    exact Nat.lt_of_lt_of_le (h.old i (by omega) hl) h.below.size
theorem Rel.new (h : Rel G w0 θ s w) {i : Nat} {o : O} {obj : Obj} {κ : Nat} (hb : FM.base ≤ i) (hn : s.at i = none) (hθ : θ i = none) (e : ∀ j, s'.at j = if j = i then some o else s.at j)
    (ho : OR (upd θ i (w.heap.size, κ)) (w.heap.size, κ) o obj) : Rel G w0 (upd θ i (w.heap.size, κ)) s' (w.alloc obj) where
  below := h.below.alloc h.below.size obj
  low j hj := by rw [e j, if_neg (by omega)]; exact h.low j hj
  glob g hg := by rw [upd_other (by omega)]; exact h.glob g hg
  live j p hp := by
    rw [e j] at hp
    by_cases hj : j = i
    · subst hj
      rw [if_pos rfl] at hp; cases hp
      exact ⟨_, obj, upd_same _ _ _, by show (w.heap.push obj)[w.heap.size]? = some obj; simp, ho⟩
    · rw [if_neg hj] at hp
      obtain ⟨c, q, hc, hw, hr⟩ := h.live j p hp
      refine ⟨c, q, by rw [upd_other hj]; exact hc, ?_, hr.mono (upd_le hθ)⟩
      have hlt := h.blk hc (by rw [hp]; simp)
      show (w.heap.push obj)[c.1]? = _
      rw [Array.getElem?_push, if_neg (by omega)]; exact hw
  inj a b c d ha hb' hc hd hcd := by
    rw [e a] at ha; rw [e b] at hb'
    by_cases h1 : a = i <;> by_cases h2 : b = i
    · rw [h1, h2]
    · subst h1
      rw [upd_same] at hc; cases hc
      rw [upd_other h2] at hd
      rw [if_neg h2] at hb'
      have := h.blk hd hb'
      simp at hcd; omega
    · subst h2
      rw [upd_same] at hd; cases hd
      rw [upd_other h1] at hc
      rw [if_neg h1] at ha
      have := h.blk hc ha
      simp at hcd; omega
    · rw [if_neg h1] at ha; rw [if_neg h2] at hb'; rw [upd_other h1] at hc; rw [upd_other h2] at hd
      exact h.inj a b c d ha hb' hc hd hcd
  place j c hc hj := by
    by_cases h1 : j = i
    · subst h1; rw [upd_same] at hc; cases hc; exact ⟨h.below.size, by simp⟩
    · rw [upd_other h1] at hc; have := h.place j c hc hj; exact ⟨this.1, by simp; omega⟩
  old j hj hn' := by rw [e j, if_neg (by omega)] at hn'; exact h.old j hj hn'
/-- the world with another object in a block -/
def setObjW (w : World) (k : Nat) (o : Obj) : World := { w with heap := w.heap.setIfInBounds k o }
theorem Rel.put (h : Rel G w0 θ s w) {i : Nat} {c : Nat × Nat} {o q : O} {obj : Obj} (hb : FM.base ≤ i) (hq : s.at i = some q) (hc : θ i = some c) (e : ∀ j, s'.at j = if j = i then some o else s.at j)
    (ho : OR θ c o obj) : Rel G w0 θ s' (setObjW w c.1 obj) where
  below := h.below.trans ⟨rfl, rfl, rfl, by simp [setObjW], fun k hk => by
    have := (h.place i c hc hb).1
    show (w.heap.setIfInBounds c.1 obj)[k]? = _
    rw [Array.getElem?_setIfInBounds_ne (by omega)]⟩
  low j hj := by rw [e j, if_neg (by omega)]; exact h.low j hj
  glob := h.glob
  live j p hp := by
    rw [e j] at hp
    by_cases hj : j = i
    · subst hj
      rw [if_pos rfl] at hp; cases hp
      refine ⟨c, obj, hc, ?_, ho⟩
      show (w.heap.setIfInBounds c.1 obj)[c.1]? = _
      rw [Array.getElem?_setIfInBounds_self_of_lt (h.place j c hc hb).2]
    · rw [if_neg hj] at hp
      obtain ⟨d, r, hd, hw, hr⟩ := h.live j p hp
      refine ⟨d, r, hd, ?_, hr⟩
      have : c.1 ≠ d.1 := fun hcd => hj (h.inj i j c d (by rw [hq]; simp) (by rw [hp]; simp) hc hd hcd).symm
      show (w.heap.setIfInBounds c.1 obj)[d.1]? = _
      rw [Array.getElem?_setIfInBounds_ne this]; exact hw
  inj a b x y ha hb' := h.inj a b x y (by rw [e a] at ha; by_cases h1 : a = i; · rw [h1, hq]; simp
                                          · rwa [if_neg h1] at ha) (by rw [e b] at hb'; by_cases h1 : b = i; · rw [h1, hq]; simp
                                                                       · rwa [if_neg h1] at hb')
  place j d hd hj := by have := h.place j d hd hj; exact ⟨this.1, by simp [setObjW]; exact this.2⟩
  old j hj hn' := by rw [e j, if_neg (by omega)] at hn'; exact h.old j hj hn'
theorem Rel.gone (h : Rel G w0 θ s w) {i : Nat} (hb : FM.base ≤ i) (e : ∀ j, s'.at j = if j = i then none else s.at j) : Rel G w0 θ s' w where
  below := h.below
  low j hj := by rw [e j, if_neg (by omega)]; exact h.low j hj
  glob := h.glob
  live j p hp := by
    rw [e j] at hp
    by_cases hj : j = i
    · rw [if_pos hj] at hp; cases hp
    · rw [if_neg hj] at hp; exact h.live j p hp
  inj a b x y ha hb' := h.inj a b x y (by rw [e a] at ha; by_cases h1 : a = i; · rw [if_pos h1] at ha; exact absurd rfl ha
                                          · rwa [if_neg h1] at ha) (by rw [e b] at hb'; by_cases h1 : b = i; · rw [if_pos h1] at hb'; exact absurd rfl hb'
                                                                       · rwa [if_neg h1] at hb')
  place := h.place
  old j hj hn' := by rw [e j, if_neg (by omega)] at hn'; exact h.old j hj hn'
/-- a row under another number: the elder one is gone -/
theorem Rel.alias (h : Rel G w0 θ s w) {i k : Nat} {c : Nat × Nat} {o q : O} {obj : Obj} (hb : FM.base ≤ i) (hk : FM.base ≤ k) (hq : s.at i = some q) (hc : θ i = some c) (hn : s.at k = none) (hθ : θ k = none)
    (e : ∀ j, s'.at j = if j = k then some o else if j = i then none else s.at j)
    (ho : OR (upd θ k c) c o obj) : Rel G w0 (upd θ k c) s' (setObjW w c.1 obj) where
  below := h.below.trans ⟨rfl, rfl, rfl, by simp [setObjW], fun x hx => by
    have := (h.place i c hc hb).1
    show (w.heap.setIfInBounds c.1 obj)[x]? = _
    rw [Array.getElem?_setIfInBounds_ne (by omega)]⟩
  low j hj := by rw [e j, if_neg (by omega), if_neg (by omega)]; exact h.low j hj
  glob g hg := by rw [upd_other (by omega)]; exact h.glob g hg
  live j p hp := by
    rw [e j] at hp
    by_cases hj : j = k
    · subst hj
      rw [if_pos rfl] at hp; cases hp
      refine ⟨c, obj, upd_same _ _ _, ?_, ho⟩
      show (w.heap.setIfInBounds c.1 obj)[c.1]? = _
      rw [Array.getElem?_setIfInBounds_self_of_lt (h.place i c hc hb).2]
    · rw [if_neg hj] at hp
      by_cases hji : j = i
      · rw [if_pos hji] at hp; cases hp
      · rw [if_neg hji] at hp
        obtain ⟨d, r, hd, hw, hr⟩ := h.live j p hp
        refine ⟨d, r, by rw [upd_other hj]; exact hd, ?_, hr.mono (upd_le hθ)⟩
        have : c.1 ≠ d.1 := fun hcd => hji (h.inj i j c d (by rw [hq]; simp) (by rw [hp]; simp) hc hd hcd).symm
        show (w.heap.setIfInBounds c.1 obj)[d.1]? = _
        rw [Array.getElem?_setIfInBounds_ne this]; exact hw
  inj a b x y ha hb' hx hy hxy := by
    rw [e a] at ha; rw [e b] at hb'
    by_cases h1 : a = k <;> by_cases h2 : b = k
    · rw [h1, h2]
    · subst h1
      rw [upd_same] at hx; cases hx
      rw [upd_other h2] at hy
      rw [if_neg h2] at hb'
      by_cases h3 : b = i
      · rw [if_pos h3] at hb'; exact absurd rfl hb'
      · rw [if_neg h3] at hb'
        exact absurd (h.inj i b c y (by rw [hq]; simp) hb' hc hy hxy).symm h3
    · subst h2
      rw [upd_same] at hy; cases hy
      rw [upd_other h1] at hx
      rw [if_neg h1] at ha
      by_cases h3 : a = i
      · rw [if_pos h3] at ha; exact absurd rfl ha
      · rw [if_neg h3] at ha
        exact absurd (h.inj a i x c ha (by rw [hq]; simp) hx hc hxy) h3
    · rw [if_neg h1] at ha; rw [if_neg h2] at hb'; rw [upd_other h1] at hx; rw [upd_other h2] at hy
      by_cases h3 : a = i
      · rw [if_pos h3] at ha; exact absurd rfl ha
      · by_cases h4 : b = i
        · rw [if_pos h4] at hb'; exact absurd rfl hb'
        · rw [if_neg h3] at ha; rw [if_neg h4] at hb'
          exact h.inj a b x y ha hb' hx hy hxy
  place j d hd hj := by
    by_cases h1 : j = k
    · subst h1; rw [upd_same] at hd; cases hd; have := h.place i c hc hb; exact ⟨this.1, by simp [setObjW]; exact this.2⟩
    · rw [upd_other h1] at hd; have := h.place j d hd hj; exact ⟨this.1, by simp [setObjW]; exact this.2⟩
  old j hj hn' := by rw [e j, if_neg (by omega), if_neg (by omega)] at hn'; exact h.old j hj hn'
end
end Go.Ev

namespace Go.Ev
open Go.RowKit

section rules
variable {P : Program} {G : Nat → Option O} {w0 : World}

/-- what the evaluator does the model does, under names that stand for its numbers -/
def Sim (P : Program) (G : Nat → Option O) (w0 : World) {α β : Type} (θ : Th) (m : FM α) (c : Sem β) (R : Th → α → β → Prop) : Prop :=
  ∀ s a s' w, m.run s = .ok a s' → Rel G w0 θ s w → Free θ s.next s'.next →
    ∃ b w' θ', c.run P w = .ok b w' ∧ Ext θ θ' s.next s'.next ∧ Rel G w0 θ' s' w' ∧ R θ' a b

theorem FM.next_le {α : Type} {m : FM α} {s s' : St} {a : α} (h : m.run s = .ok a s') : s.next ≤ s'.next := (m.framed _ _ _ h).1

variable {θ : Th}
theorem Sim.bind {α β γ δ : Type} {m : FM α} {f : α → FM γ} {c : Sem β} {g : β → Sem δ} {R : Th → α → β → Prop} {R' : Th → γ → δ → Prop} (h : Sim P G w0 θ m c R)
    (k : ∀ θ' a b, Le θ θ' → R θ' a b → Sim P G w0 θ' (f a) (g b) R') : Sim P G w0 θ (m.bind f) (c >>= g) R' := by
  intro s r s' w hm hr hf
  obtain ⟨a, s1, h1, h2⟩ := (FM.run_bind _ _ _ _ _).1 hm
  have n1 := FM.next_le h1
  have n2 := FM.next_le h2
  obtain ⟨b, w1, θ1, hc, he, hr1, hR⟩ := h s a s1 w h1 hr (hf.head n2)
  obtain ⟨b', w', θ', hc', he', hr', hR'⟩ := k θ1 a b he.1 hR s1 r s' w1 h2 hr1 (hf.tail he n1)
  exact ⟨b', w', θ', by rw [Sem.run_bind, hc]; exact hc', he.trans he' n1 n2, hr', hR'⟩
theorem Sim.ret {α β : Type} {a : α} {b : β} {c : Sem β} {R : Th → α → β → Prop} (h : ∀ w, c.run P w = .ok b w) (r : R θ a b) : Sim P G w0 θ (FM.pure a) c R := by
  intro s x s' w hm hr _
  cases hm
  exact ⟨b, w, θ, h w, Ext.refl _ _ _, hr, r⟩
theorem Sim.fail {α β : Type} {c : Sem β} {R : Th → α → β → Prop} : Sim P G w0 θ FM.fail c R := by
  intro s x s' w hm; cases hm
theorem Sim.step {α β γ : Type} {m : FM α} {c : Sem γ} {g : γ → Sem β} {b : γ} {R : Th → α → β → Prop} (h : ∀ w, c.run P w = .ok b w) (k : Sim P G w0 θ m (g b) R) : Sim P G w0 θ m (c >>= g) R := by
  intro s x s' w hm hr hf
  obtain ⟨b', w', θ', hc, r⟩ := k s x s' w hm hr hf
  exact ⟨b', w', θ', by rw [Sem.run_bind, h]; exact hc, r⟩
theorem Sim.congr {α β : Type} {m : FM α} {c c' : Sem β} {R : Th → α → β → Prop} (h : ∀ w, c.run P w = c'.run P w) (k : Sim P G w0 θ m c' R) : Sim P G w0 θ m c R := by
  intro s x s' w hm hr hf
  obtain ⟨b', w', θ', hc, r⟩ := k s x s' w hm hr hf
  exact ⟨b', w', θ', by rw [h]; exact hc, r⟩
theorem Sim.mono {α β : Type} {m : FM α} {c : Sem β} {R R' : Th → α → β → Prop} (h : ∀ θ a b, R θ a b → R' θ a b) (k : Sim P G w0 θ m c R) : Sim P G w0 θ m c R' := by
  intro s x s' w hm hr hf
  obtain ⟨b', w', θ', hc, e, r, t⟩ := k s x s' w hm hr hf
  exact ⟨b', w', θ', hc, e, r, h _ _ _ t⟩
theorem Sim.opt {α β γ : Type} {o : Option γ} {f : γ → FM α} {c : Sem β} {R : Th → α → β → Prop} (h : ∀ a, o = some a → Sim P G w0 θ (f a) c R) : Sim P G w0 θ ((FM.ofOption o).bind f) c R := by
  intro s x s' w hm hr hf
  obtain ⟨a, s1, h1, h2⟩ := (FM.run_bind _ _ _ _ _).1 hm
  obtain ⟨rfl, rfl⟩ := FM.run_ofOption _ _ _ _ h1
  exact h a rfl s1 x s' w h2 hr hf
theorem Sim.optE {α β : Type} {o : Option α} {c : Sem β} {R : Th → α → β → Prop} (h : ∀ a, o = some a → ∃ b, (∀ w, c.run P w = .ok b w) ∧ R θ a b) : Sim P G w0 θ (FM.ofOption o) c R := by
  intro s x s' w hm hr hf
  obtain ⟨rfl, rfl⟩ := FM.run_ofOption _ _ _ _ hm
  obtain ⟨b, hc, r⟩ := h x rfl
  exact ⟨b, w, θ, hc w, Ext.refl _ _ _, hr, r⟩
theorem Sim.grd {α β : Type} {b : Bool} {f : Unit → FM α} {c : Sem β} {R : Th → α → β → Prop} (h : b = true → Sim P G w0 θ (f ()) c R) : Sim P G w0 θ ((FM.guard b).bind f) c R := by
  intro s x s' w hm hr hf
  obtain ⟨a, s1, h1, h2⟩ := (FM.run_bind _ _ _ _ _).1 hm
  obtain ⟨hb, rfl⟩ := FM.run_guard _ _ _ _ h1
  exact h hb s1 x s' w h2 hr hf
theorem Sim.sel {α β : Type} {b : Bool} {m m' : FM α} {c : Sem β} {R : Th → α → β → Prop} (h : b = true → Sim P G w0 θ m c R) (h' : b = false → Sim P G w0 θ m' c R) : Sim P G w0 θ (Ev.sel b m m') c R := by
  cases b
  · exact h' rfl
  · exact h rfl
theorem Sim.assoc {α β γ δ : Type} {m : FM γ} {f : γ → FM δ} {g : δ → FM α} {c : Sem β} {R : Th → α → β → Prop} (h : Sim P G w0 θ (m.bind fun x => (f x).bind g) c R) : Sim P G w0 θ ((m.bind f).bind g) c R := by
  intro s x s' w hm hr hf
  obtain ⟨a, s1, h1, h2⟩ := (FM.run_bind _ _ _ _ _).1 hm
  obtain ⟨b, s2, h3, h4⟩ := (FM.run_bind _ _ _ _ _).1 h1
  exact h s x s' w ((FM.run_bind _ _ _ _ _).2 ⟨b, s2, h3, (FM.run_bind _ _ _ _ _).2 ⟨a, s1, h4, h2⟩⟩) hr hf
end rules

/-! lists -/
theorem nthO_eq : ∀ (l : List V) (n : Nat), nthO l n = l[n]?
  | [], _ => by simp [nthO]
  | _ :: _, 0 => rfl
  | _ :: l, n + 1 => by show nthO l n = _; rw [nthO_eq l n]; simp
theorem dropL_eq : ∀ (l : List V) (n : Nat), dropL l n = l.drop n
  | [], _ => by simp [dropL]
  | _ :: _, 0 => rfl
  | _ :: l, n + 1 => by show dropL l n = _; rw [dropL_eq l n]; rfl
theorem takeO_eq : ∀ (l : List V) (n : Nat) (r : List V), takeO l n = some r → r = l.take n ∧ n ≤ l.length
  | [], 0, r, h => by cases h; simp
  | [], n + 1, r, h => by cases h
  | _ :: _, 0, r, h => by cases h; simp
  | x :: l, n + 1, r, h => by
    have h' : pushO x (takeO l n) = some r := h
    cases ht : takeO l n with
    | none => rw [ht] at h'; cases h'
    | some t =>
      rw [ht] at h'; cases h'
      obtain ⟨rfl, hle⟩ := takeO_eq l n t ht
      exact ⟨rfl, by simp; exact hle⟩
theorem overO_eq : ∀ (vs l r : List V), overO vs l = some r → r = vs ++ l.drop vs.length ∧ vs.length ≤ l.length
  | [], l, r, h => by cases h; simp
  | v :: vs, [], r, h => by cases h
  | v :: vs, x :: l, r, h => by
    have h' : pushO v (overO vs l) = some r := h
    cases ht : overO vs l with
    | none => rw [ht] at h'; cases h'
    | some t =>
      rw [ht] at h'; cases h'
      obtain ⟨rfl, hle⟩ := overO_eq vs l t ht
      exact ⟨rfl, by simp; exact hle⟩
theorem setO_eq : ∀ (vs l : List V) (n : Nat) (r : List V), setO vs l n = some r → r = l.take n ++ (vs ++ l.drop (n + vs.length)) ∧ n + vs.length ≤ l.length
  | vs, [], 0, r, h => by
    have h' : overO vs [] = some r := h
    obtain ⟨rfl, hle⟩ := overO_eq _ _ _ h'
    exact ⟨by simp, by simpa using hle⟩
  | vs, [], n + 1, r, h => by cases h
  | vs, x :: l, 0, r, h => by
    have h' : overO vs (x :: l) = some r := h
    obtain ⟨rfl, hle⟩ := overO_eq _ _ _ h'
    exact ⟨by simp, by simpa using hle⟩
  | vs, x :: l, n + 1, r, h => by
    have h' : pushO x (setO vs l n) = some r := h
    cases ht : setO vs l n with
    | none => rw [ht] at h'; cases h'
    | some t =>
      rw [ht] at h'; cases h'
      obtain ⟨rfl, hle⟩ := setO_eq vs l n t ht
      exact ⟨by rw [Nat.add_right_comm]; simp, by simp; omega⟩
theorem lenIs_eq {α : Type} : ∀ (l : List α) (n : Nat), lenIs l n = true → l.length = n
  | [], 0, _ => rfl
  | [], _ + 1, h => by cases h
  | _ :: _, 0, h => by cases h
  | _ :: l, n + 1, h => by have := lenIs_eq l n h; simp [this]
theorem lenGe_eq {α : Type} : ∀ (l : List α) (n : Nat), lenGe l n = true → n ≤ l.length
  | _, 0, _ => Nat.zero_le _
  | [], _ + 1, h => by cases h
  | _ :: l, n + 1, h => by have := lenGe_eq l n h; simp [this]
theorem allOne_mem : ∀ (l : List V), allOne l = true → ∀ x ∈ l, x.one = true
  | [], _, _, h => by cases h
  | y :: l, h, x, hx => by
    have h' : and (V.one y) (allOne l) = true := h
    simp only [Bool.and_eq_true] at h'
    cases hx with
    | head => exact h'.1
    | tail _ ht => exact allOne_mem l h'.2 x ht

section vrl
variable {θ : Th}
theorem VRL.nil_iff {l : List Value} : VRL θ [] l ↔ l = [] := by simp [VRL]
theorem VRL.cons {x : V} {xs : List V} {y : Value} {ys : List Value} (h : VR θ x y) (t : VRL θ xs ys) : VRL θ (x :: xs) (y :: ys) := by simp only [VRL]; exact ⟨y, ys, rfl, h, t⟩
theorem VRL.length : ∀ {xs : List V} {l : List Value}, VRL θ xs l → l.length = xs.length
  | [], l, h => by simp only [VRL] at h; subst h; rfl
  | x :: xs, l, h => by simp only [VRL] at h; obtain ⟨y, ys, rfl, _, t⟩ := h; simp [VRL.length t]
theorem VRL.get : ∀ {xs : List V} {l : List Value}, VRL θ xs l → ∀ {i : Nat} {x : V}, xs[i]? = some x → ∃ y, l[i]? = some y ∧ VR θ x y
  | [], l, h, i, x, hx => by simp at hx
  | a :: xs, l, h, i, x, hx => by
    simp only [VRL] at h
    obtain ⟨y, ys, rfl, hy, t⟩ := h
    cases i with
    | zero => simp only [List.getElem?_cons_zero, Option.some.injEq] at hx; subst hx; exact ⟨y, rfl, hy⟩
    | succ i => simp only [List.getElem?_cons_succ] at hx; obtain ⟨z, hz, r⟩ := VRL.get t hx; exact ⟨z, by simpa using hz, r⟩
theorem VRL.append : ∀ {xs : List V} {l : List Value} {ys : List V} {m : List Value}, VRL θ xs l → VRL θ ys m → VRL θ (xs ++ ys) (l ++ m)
  | [], l, ys, m, h, k => by simp only [VRL] at h; subst h; exact k
  | x :: xs, l, ys, m, h, k => by simp only [VRL] at h; obtain ⟨y, l, rfl, hy, t⟩ := h; exact VRL.cons hy (VRL.append t k)
theorem VRL.take : ∀ {xs : List V} {l : List Value} (n : Nat), VRL θ xs l → VRL θ (xs.take n) (l.take n)
  | xs, l, 0, h => by simp [VRL]
  | [], l, n + 1, h => by simp only [VRL] at h; subst h; simp [VRL]
  | x :: xs, l, n + 1, h => by simp only [VRL] at h; obtain ⟨y, l, rfl, hy, t⟩ := h; exact VRL.cons hy (VRL.take n t)
theorem VRL.drop : ∀ {xs : List V} {l : List Value} (n : Nat), VRL θ xs l → VRL θ (xs.drop n) (l.drop n)
  | xs, l, 0, h => h
  | [], l, n + 1, h => by simp only [VRL] at h; subst h; simp [VRL]
  | x :: xs, l, n + 1, h => by simp only [VRL] at h; obtain ⟨y, l, rfl, hy, t⟩ := h; exact VRL.drop n t
theorem VR.oneCell {x : V} {v : Value} (h : VR θ x v) (ho : x.one = true) : v.oneCell' = true := by
  cases x <;> simp only [VR] at h <;> first
    | (subst h; rfl)
    | (obtain ⟨c, _, rfl⟩ := h; rfl)
    | (obtain ⟨a, b, rfl, _, _⟩ := h; rfl)
    | (obtain ⟨y, rfl, _⟩ := h; first | rfl | cases ho)
    | (obtain ⟨a, n, rfl⟩ := h; rfl)
theorem VR.cells {x : V} {v : Value} (h : VR θ x v) : VRL θ x.cells v.cells.toList := by
  cases x with
  | agg l => simp only [VR] at h; obtain ⟨cs, rfl, hc⟩ := h; exact hc
  | _ =>
    have hv : v.cells = #[v] := by
      simp only [VR] at h
      first
        | (subst h; rfl)
        | (obtain ⟨c, _, rfl⟩ := h; rfl)
        | (obtain ⟨a, b, rfl, _, _⟩ := h; rfl)
        | (obtain ⟨y, rfl, _⟩ := h; rfl)
        | (obtain ⟨a, n, rfl⟩ := h; rfl)
    rw [hv]
    exact VRL.cons h (VRL.nil_iff.2 rfl)
end vrl
end Go.Ev

namespace Go.Ev
open Go.RowKit

section
variable {P : Program} {G : Nat → Option O} {w0 : World} {θ : Th} {s s' : St} {w : World}

theorem Rel.row (h : Rel G w0 θ s w) {b : Nat} {o : O} {cs : List V} (hs : s.at b = some o) (hr : o.row = some cs) :
    ∃ c a e fr p q, θ b = some c ∧ w.heap[c.1]? = some (.cells a e fr) ∧ a.toList = p ++ q ∧ VRL θ cs p ∧ Clear fr a.size := by
  obtain ⟨c, obj, hc, hw, ho⟩ := h.live b o hs
  cases o with
  | cells e xs =>
    cases hr
    obtain ⟨a, fr, rfl, v, k⟩ := ho
    exact ⟨c, a, e, fr, a.toList, [], hc, hw, by simp, v, k⟩
  | grown e sz xs =>
    cases hr
    obtain ⟨a, fr, p, q, rfl, e2, v, _, k⟩ := ho
    exact ⟨c, a, e, fr, p, q, hc, hw, e2, v, k⟩
  | _ => cases hr
theorem cell_row {k i : Nat} {a : Array Value} {e : TypeId} {fr : Nat × Nat} (h : w.heap[k]? = some (.cells a e fr)) : w.cell? ⟨k, i, none⟩ = a[i]? := by
  simp [World.cell?, h]
theorem addr_add (k o i : Nat) : (⟨k, o, none⟩ : Addr).add i = ⟨k, o + i, none⟩ := by unfold Addr.add; split <;> simp_all

theorem run_rowF {b : Nat} {s s' : St} {oc : O × List V} (h : (rowF b).run s = .ok oc s') : s.at b = some oc.1 ∧ oc.1.row = some oc.2 ∧ s'.next = s.next ∧ s'.heap = s.heap := by
  obtain ⟨o, s1, h1, h2⟩ := (FM.run_bind _ _ _ _ _).1 h
  obtain ⟨r, s2, h3, h4⟩ := (FM.run_bind _ _ _ _ _).1 h2
  obtain ⟨e1, e2, e3⟩ := FM.run_get _ _ _ _ h1
  obtain ⟨e4, rfl⟩ := FM.run_ofOption _ _ _ _ h3
  cases h4
  exact ⟨e1, e4, e2, e3⟩

theorem run_loadN {b off n : Nat} {c : Nat × Nat} {r : List V} (hb : θ b = some c) (hm : (loadN b off n).run s = .ok r s') (hr : Rel G w0 θ s w) :
    s'.next = s.next ∧ s'.heap = s.heap ∧ ∃ arr, (loadCells ⟨c.1, off, none⟩ n).run P w = .ok arr w ∧ VRL θ r arr.toList ∧ r.length = n := by
  obtain ⟨oc, s1, h1, h2⟩ := (FM.run_bind _ _ _ _ _).1 hm
  obtain ⟨e1, e2, e3, e4⟩ := run_rowF h1
  obtain ⟨e5, rfl⟩ := FM.run_ofOption _ _ _ _ h2
  rw [dropL_eq] at e5
  obtain ⟨rfl, hle⟩ := takeO_eq _ _ _ e5
  obtain ⟨c', a, e, fr, p, q, hc, hw, ha, hv, hk⟩ := hr.row e1 e2
  rw [hb] at hc; cases hc
  have hv2 := VRL.take n (VRL.drop off hv)
  have hle' : n ≤ oc.2.length - off := by simpa using hle
  have hlen : ((p.drop off).take n).length = n := by rw [VRL.length hv2]; simp; omega
  refine ⟨e3, e4, ((p.drop off).take n).toArray, ?_, by simpa using hv2, by simp; omega⟩
  have := run_loadCells_list (P := P) w ⟨c.1, off, none⟩ ((p.drop off).take n) (fun j v hj => by
    rw [addr_add, cell_row hw, ← Array.getElem?_toList, ha]
    have hj' : j < n := by
      have := (List.getElem?_eq_some_iff.1 hj).1; omega
    rw [List.getElem?_take_of_lt hj', List.getElem?_drop] at hj
    rw [List.getElem?_append_left (by exact (List.getElem?_eq_some_iff.1 hj).1)]
    exact hj)
  rw [hlen] at this
  exact this
theorem sim_loadN {b off n : Nat} {c : Nat × Nat} (hb : θ b = some c) :
    Sim P G w0 θ (loadN b off n) (loadCells ⟨c.1, off, none⟩ n) (fun θ' cs arr => VRL θ' cs arr.toList ∧ cs.length = n) := by
  intro s r s' w hm hr hf
  obtain ⟨e1, e2, arr, e3, e4, e5⟩ := run_loadN (P := P) hb hm hr
  exact ⟨arr, w, θ, e3, ⟨Le.refl θ, fun _ h _ => h⟩, hr.same (fun j => by simp [St.at, e2]), e4, e5⟩

theorem sim_load1 {b off : Nat} {c : Nat × Nat} (hb : θ b = some c) :
    Sim P G w0 θ (load1 b off) (load ⟨c.1, off, none⟩) VR := by
  intro s r s' w hm hr hf
  obtain ⟨oc, s1, h1, h2⟩ := (FM.run_bind _ _ _ _ _).1 hm
  obtain ⟨e1, e2, e3, e4⟩ := run_rowF h1
  obtain ⟨e5, rfl⟩ := FM.run_ofOption _ _ _ _ h2
  rw [nthO_eq] at e5
  obtain ⟨c', a, e, fr, p, q, hc, hw, ha, hv, hk⟩ := hr.row e1 e2
  rw [hb] at hc; cases hc
  obtain ⟨y, hy, hR⟩ := VRL.get hv e5
  refine ⟨y, w, θ, ?_, ⟨Le.refl θ, fun _ h _ => h⟩, hr.same (fun j => by simp [St.at, e4]), hR⟩
  have : w.cell? ⟨c.1, off, none⟩ = some y := by
    rw [cell_row hw, ← Array.getElem?_toList, ha, List.getElem?_append_left (by exact (List.getElem?_eq_some_iff.1 hy).1)]
    exact hy
  rw [run_load, this]

theorem setCell_row {k j : Nat} {a : Array Value} {e : TypeId} {fr : Nat × Nat} (v : Value) (h : w.heap[k]? = some (.cells a e fr)) :
    w.setCell ⟨k, j, none⟩ v = setObjW w k (.cells (a.setIfInBounds j v) e fr) := by
  unfold World.setCell setObjW
  congr 1
  apply Array.ext_getElem?
  intro i
  rw [Array.getElem?_modify, Array.getElem?_setIfInBounds]
  by_cases hi : k = i
  · subst hi
    have hlt : k < w.heap.size := (Array.getElem?_eq_some_iff.1 h).1
    rw [if_pos rfl, if_pos rfl, if_pos hlt, h]
    simp
  · simp [hi]
theorem heap_setObjW {k : Nat} {o : Obj} (h : k < w.heap.size) : (setObjW w k o).heap[k]? = some o := by
  show (w.heap.setIfInBounds k o)[k]? = _
  rw [Array.getElem?_setIfInBounds_self_of_lt h]
theorem setObjW_twice {k : Nat} {o o' : Obj} : setObjW (setObjW w k o) k o' = setObjW w k o' := by
  unfold setObjW; congr 1
  apply Array.ext_getElem?
  intro i
  simp only [Array.getElem?_setIfInBounds, Array.size_setIfInBounds]
  by_cases hi : k = i <;> simp [hi]
theorem setObjW_self {k : Nat} {o : Obj} (h : w.heap[k]? = some o) : setObjW w k o = w := by
  unfold setObjW
  have : w.heap.setIfInBounds k o = w.heap := by
    apply Array.ext_getElem?
    intro i
    rw [Array.getElem?_setIfInBounds]
    by_cases hi : k = i
    · subst hi
      have hlt : k < w.heap.size := (Array.getElem?_eq_some_iff.1 h).1
      rw [if_pos rfl, if_pos hlt, h]
    · simp [hi]
  rw [this]
theorem take_set (l : List Value) (j : Nat) (v : Value) (vs : List Value) (h : j < l.length) :
    (l.set j v).take (j + 1) ++ vs ++ (l.set j v).drop (j + 1 + vs.length) = l.take j ++ (v :: vs) ++ l.drop (j + (v :: vs).length) := by
  have h1 : (l.set j v).take (j + 1) = l.take j ++ [v] := by
    rw [List.take_set, List.take_succ_eq_append_getElem h, List.set_append_right _ _ (by simp; omega)]
    simp
    rw [Nat.min_eq_left (by omega), Nat.sub_self]; rfl
  have h2 : (l.set j v).drop (j + 1 + vs.length) = l.drop (j + 1 + vs.length) := by
    rw [List.drop_set_of_lt (by omega)]
  rw [h1, h2]
  simp
  congr 1; omega
theorem run_storeRow (k o : Nat) (e : TypeId) (fr : Nat × Nat) : ∀ (vs : List Value) (i : Nat) (cur : Array Value) (w : World), w.heap[k]? = some (.cells cur e fr) → Clear fr cur.size → o + i + vs.length ≤ cur.size →
    (∀ v ∈ vs, v.oneCell' = true) →
    (storeCells ⟨k, o, none⟩ vs i).run P w = .ok () (setObjW w k (.cells (cur.toList.take (o + i) ++ vs ++ cur.toList.drop (o + i + vs.length)).toArray e fr))
  | [], i, cur, w, hw, _, _, _ => by
    simp only [storeCells, List.append_nil, List.length_nil, Nat.add_zero, List.take_append_drop, Array.toArray_toList]
    rw [setObjW_self hw]; rfl
  | v :: rest, i, cur, w, hw, hk, hl, h1 => by
    have hi : o + i < cur.size := by simp at hl; omega
    have hcell : w.cell? ⟨k, o + i, none⟩ = some cur[o + i] := by rw [cell_row hw]; simp [hi]
    have hfro : w.frozen? ⟨k, o + i, none⟩ = false := by
      have := hk (o + i) hi
      simp only [World.frozen?, hw]
      obtain ⟨lo, hi'⟩ := fr
      simp only [Bool.and_eq_false_iff, decide_eq_false_iff_not]
      by_cases hx : lo ≤ o + i
      · exact .inr fun hy => this ⟨hx, hy⟩
      · exact .inl hx
    have hst : (store ((⟨k, o, none⟩ : Addr).add i) v).run P w = .ok () (setObjW w k (.cells (cur.setIfInBounds (o + i) v) e fr)) := by
      rw [addr_add, run_store P w _ v _ (h1 v (by simp)), hcell]
      simp [hfro, setCell_row v hw]
    have hlt : k < w.heap.size := (Array.getElem?_eq_some_iff.1 hw).1
    have ih := run_storeRow k o e fr rest (i + 1) (cur.setIfInBounds (o + i) v) (setObjW w k (.cells (cur.setIfInBounds (o + i) v) e fr)) (heap_setObjW hlt) (by simpa using hk) (by simp at hl ⊢; omega) (fun x hx => h1 x (by simp [hx]))
    simp only [storeCells, Sem.run_bind, hst, Result.andThen_ok, ih, setObjW_twice]
    congr 4
    have := take_set cur.toList (o + i) v rest (by simpa using hi)
    simp only [Array.toList_setIfInBounds]
    rw [← this]
    rfl

theorem O.with_row {o : O} {cs cs' : List V} (h : o.row = some cs) : (o.with cs').row = some cs' := by
  cases o <;> first | rfl | cases h

/-- the row that a store leaves -/
theorem OR.with {c : Nat × Nat} {o : O} {cs vs cs' : List V} {vl : List Value} {off : Nat} {obj : Obj} (ho : OR θ c o obj) (hr : o.row = some cs) (hs : setO vs cs off = some cs') (hv : VRL θ vs vl) :
    ∃ a e fr, obj = .cells a e fr ∧ Clear fr a.size ∧ off + vl.length ≤ a.size ∧
      OR θ c (o.with cs') (.cells (a.toList.take off ++ vl ++ a.toList.drop (off + vl.length)).toArray e fr) := by
  obtain ⟨rfl, hle⟩ := setO_eq _ _ _ _ hs
  have hvl := VRL.length hv
  cases o with
  | cells e xs =>
    cases hr
    obtain ⟨a, fr, rfl, v, k⟩ := ho
    have hl := VRL.length v
    have hsz : off + vl.length ≤ a.size := by rw [hvl, ← Array.length_toList, hl]; exact hle
    refine ⟨a, e, fr, rfl, k, hsz, _, fr, rfl, ?_, ?_⟩
    · rw [List.append_assoc]
      exact VRL.append (VRL.take off v) (VRL.append hv (by rw [hvl]; exact VRL.drop _ v))
    · have : (a.toList.take off ++ vl ++ a.toList.drop (off + vl.length)).toArray.size = a.size := by simp; omega
      rw [this]; exact k
  | grown e sz xs =>
    cases hr
    obtain ⟨a, fr, p, q, rfl, e2, v, hsz0, k⟩ := ho
    have hl := VRL.length v
    have hasz : a.size = p.length + q.length := by rw [← Array.length_toList, e2]; simp
    have hsz : off + vl.length ≤ a.size := by omega
    refine ⟨a, e, fr, rfl, k, hsz, _, fr, p.take off ++ (vl ++ p.drop (off + vl.length)), q, rfl, ?_, ?_, ?_, ?_⟩
    · simp only [e2]
      rw [List.take_append_of_le_length (by omega), List.drop_append_of_le_length (by omega)]
      simp
    · exact VRL.append (VRL.take off v) (VRL.append hv (by rw [hvl]; exact VRL.drop _ v))
    · have : (a.toList.take off ++ vl ++ a.toList.drop (off + vl.length)).toArray.size = a.size := by simp; omega
      rw [this]; exact hsz0
    · have : (a.toList.take off ++ vl ++ a.toList.drop (off + vl.length)).toArray.size = a.size := by simp; omega
      rw [this]; exact k
  | _ => cases hr

theorem sim_storeN {b off : Nat} {c : Nat × Nat} {vs : List V} {vl : List Value} (hb : θ b = some c) (hv : VRL θ vs vl) :
    Sim P G w0 θ (storeN b off vs) (storeCells ⟨c.1, off, none⟩ vl) (fun _ _ _ => True) := by
  refine Sim.grd fun hone => ?_
  intro s r s' w hm hr hf
  obtain ⟨oc, s1, h1, h2⟩ := (FM.run_bind _ _ _ _ _).1 hm
  obtain ⟨e1, e2, e3, e4⟩ := run_rowF h1
  obtain ⟨cs', s2, h3, h4⟩ := (FM.run_bind _ _ _ _ _).1 h2
  obtain ⟨e5, rfl⟩ := FM.run_ofOption _ _ _ _ h3
  obtain ⟨g1, g2, g3, g4⟩ := FM.run_put _ _ _ _ _ h4
  obtain ⟨c', obj, hc, hw, ho⟩ := hr.live b oc.1 e1
  rw [hb] at hc; cases hc
  obtain ⟨a, e, fr, rfl, k, hsz, ho'⟩ := OR.with ho e2 e5 hv
  have hrel : Rel G w0 θ s2 w := hr.same (fun j => by simp [St.at, e4])
  have hq : s2.at b = some oc.1 := by simp [St.at, e4]; exact e1
  have hone' : ∀ v ∈ vl, v.oneCell' = true := by
    intro v hvm
    obtain ⟨i, hi⟩ := List.getElem?_of_mem hvm
    have hlt : i < vs.length := by rw [← VRL.length hv]; exact (List.getElem?_eq_some_iff.1 hi).1
    obtain ⟨y, hy, hR⟩ := VRL.get hv (List.getElem?_eq_getElem hlt)
    rw [hi] at hy; cases hy
    exact hR.oneCell (allOne_mem _ hone _ (List.getElem_mem hlt))
  refine ⟨(), _, θ, run_storeRow c.1 off e fr vl 0 a w hw k (by simpa using hsz) hone', ⟨Le.refl θ, fun _ h _ => h⟩, ?_, trivial⟩
  exact hrel.put g1 hq hb g4 ho'
end
end Go.Ev

namespace Go.Ev
open Go.RowKit

section
variable {P : Program} {G : Nat → Option O} {w0 : World} {θ : Th}

theorem VR.of_all (θ : Th) : ∀ v x, V.of v = some x → VR θ x v := by
  intro v
  refine @Value.rec (fun v => ∀ x, V.of v = some x → VR θ x v) (fun a => ∀ xs, V.ofA a = some xs → VRL θ xs a.toList) (fun l => ∀ xs, V.ofL l = some xs → VRL θ xs l)
    ?_ ?_ ?_ ?_ ?_ ?_ ?_ ?_ ?_ ?_ ?_ ?_ ?_ ?_ ?_ ?_ ?_ ?_ v
  · intro b x h; cases h; simp [VR]
  · intro k n x h; cases h; simp [VR]
  · intro k n x h; cases h
  · intro k a b x h; cases h
  · intro s x h; cases h; simp [VR]
  · intro a x h; cases a <;> cases h; simp [VR]
  · intro a n m x h
    cases a with
    | some a => cases h
    | none =>
      have h' : sel (and (Nat.beq n 0) (Nat.beq m 0)) (some V.nils) none = some x := h
      cases hb : and (Nat.beq n 0) (Nat.beq m 0) with
      | false => rw [hb] at h'; cases h'
      | true =>
        rw [hb] at h'; cases h'
        simp only [Bool.and_eq_true] at hb
        have h1 : n = 0 := by simpa using hb.1
        have h2 : m = 0 := by simpa using hb.2
        subst h1; subst h2; simp [VR]
  · intro a x h; cases a <;> cases h; simp [VR]
  · intro a x h; cases h
  · intro f a b _ _ x h; cases h
  · intro x h; cases h; simp [VR]
  · intro t v _ x h; cases h
  · intro x h; cases h; simp [VR]
  · intro a ih x h
    have h' : aggO (V.ofA a) = some x := h
    cases ha : V.ofA a with
    | none => rw [ha] at h'; cases h'
    | some l => rw [ha] at h'; cases h'; simp only [VR]; exact ⟨a, rfl, ih l ha⟩
  · intro a ih x h
    have h' : tupO (V.ofA a) = some x := h
    cases ha : V.ofA a with
    | none => rw [ha] at h'; cases h'
    | some l => rw [ha] at h'; cases h'; simp only [VR]; exact ⟨a, rfl, ih l ha⟩
  · intro l ih xs h; exact ih xs h
  · intro xs h; cases h; simp [VRL]
  · intro v l ihv ihl xs h
    have h' : consO (V.of v) (V.ofL l) = some xs := h
    cases h1 : V.of v with
    | none => rw [h1] at h'; cases h'
    | some y =>
      cases h2 : V.ofL l with
      | none => rw [h1, h2] at h'; cases h'
      | some ys => rw [h1, h2] at h'; cases h'; exact VRL.cons (ihv y h1) (ihl ys h2)

theorem hund {t : TypeId} {d : TypeDesc} (h : P.underlying t = some d) (w : World) : (underlying t).run P w = .ok d w := by simp [underlying, h]
theorem hinfo {t : TypeId} {i : TypeInfo} (h : P.info? t = some i) (w : World) : (typeInfo t).run P w = .ok i w := by simp [typeInfo, h]
theorem hsize {t : TypeId} {i : TypeInfo} (h : P.info? t = some i) (w : World) : (sizeOf t).run P w = .ok i.size w := by simp [Go.sizeOf, hinfo h]
theorem hzero {t : TypeId} {i : TypeInfo} {z : Value} (h : P.info? t = some i) (hz : i.zero = some z) (w : World) : (zeroValue t).run P w = .ok z w := by simp [zeroValue, hinfo h, hz]
theorem hagg {t : TypeId} {d : TypeDesc} (h : P.underlying t = some d) (w : World) : (isAgg t).run P w = .ok (aggB d) w := by
  cases d <;> simp [isAgg, hund h, aggB]

theorem sim_zeroF {t : TypeId} : Sim P G w0 θ (zeroF P t) (zeroValue t) VR := by
  refine Sim.opt fun i hi => ?_
  refine Sim.optE fun x hx => ?_
  cases hz : i.zero with
  | none => rw [hz] at hx; cases hx
  | some z =>
    rw [hz] at hx
    exact ⟨z, hzero hi hz, VR.of_all θ z x hx⟩

theorem ptrOf_eq {x : V} {p : Nat × Nat} (h : ptrOf x = some p) : x = .ptr p.1 p.2 := by cases x <;> cases h; rfl
theorem intOf_eq {x : V} {p : IntKind × Int} (h : intOf x = some p) : x = .int p.1 p.2 := by cases x <;> cases h; rfl
theorem strOf_eq {x : V} {p : List UInt8} (h : strOf x = some p) : x = .str p := by cases x <;> cases h; rfl
theorem boolOf_eq {x : V} {p : Bool} (h : boolOf x = some p) : x = .bool p := by cases x <;> cases h; rfl
theorem cellsOf_eq {x : V} {p : List V} (h : cellsOf x = some p) : x = .agg p := by cases x <;> cases h; rfl
theorem tupOf_eq {x : V} {p : List V} (h : tupOf x = some p) : x = .tup p := by cases x <;> cases h; rfl
theorem rowOf_eq {x : V} {p : Nat × Nat × Nat} (h : rowOf x = some p) : (∃ m, x = .slice p.1 p.2.1 p.2.2 m) ∨ ∃ k, x = .grow p.1 p.2.1 k p.2.2 := by
  cases x <;> cases h
  · exact .inl ⟨_, rfl⟩
  · exact .inr ⟨_, rfl⟩

theorem sim_loadVar {t : TypeId} {b off : Nat} {c : Nat × Nat} (hb : θ b = some c) : Sim P G w0 θ (loadP P t (b, off)) (loadVar t ⟨c.1, off, none⟩) VR := by
  refine Sim.opt fun d hd => ?_
  unfold loadVar
  refine Sim.step (hagg hd) ?_
  cases h : aggB d with
  | false => exact sim_load1 hb
  | true =>
    refine Sim.opt fun i hi => ?_
    refine Sim.step (hsize hi) ?_
    refine Sim.bind (sim_loadN hb) fun θ' a b _ r => ?_
    exact Sim.ret (fun _ => rfl) (by simp only [VR]; exact ⟨b, rfl, r.1⟩)
theorem sim_loadT {t : TypeId} {x : V} {v : Value} (hx : VR θ x v) : Sim P G w0 θ (loadT P t x) (Instr.loadAt t v) VR := by
  refine Sim.opt fun p hp => ?_
  obtain rfl := ptrOf_eq hp
  simp only [VR] at hx
  obtain ⟨c, hc, rfl⟩ := hx
  exact sim_loadVar hc
theorem sim_storeVar {t : TypeId} {b off : Nat} {c : Nat × Nat} {x : V} {v : Value} (hb : θ b = some c) (hv : VR θ x v) :
    Sim P G w0 θ (storeP P t x (b, off)) (storeVar t ⟨c.1, off, none⟩ v) (fun _ _ _ => True) := by
  refine Sim.opt fun i hi => Sim.grd fun hl => ?_
  have hlen := lenIs_eq _ _ hl
  have hc := hv.cells
  have hsz : v.cells.size = i.size := by rw [← Array.length_toList, VRL.length hc, hlen]
  unfold storeVar
  refine Sim.step (hsize hi) ?_
  simp only [ne_eq, hsz, not_true, if_false]
  intro s a s' w hm hr hf
  obtain ⟨u, s1, h1, h2⟩ := (FM.run_bind _ _ _ _ _).1 hm
  cases h2
  exact sim_storeN hb hc s u s' w h1 hr hf
theorem sim_storeT {t : TypeId} {x y : V} {v u : Value} (hx : VR θ x v) (hy : VR θ y u) : Sim P G w0 θ (storeT P t x y) (Instr.storeAt t v u) (fun _ a _ => a = undefV) := by
  refine Sim.opt fun p hp => ?_
  obtain rfl := ptrOf_eq hp
  simp only [VR] at hx
  obtain ⟨c, hc, rfl⟩ := hx
  intro s a s' w hm hr hf
  obtain ⟨b, w', θ', h1, h2, h3, _⟩ := sim_storeVar (P := P) (t := t) hc hy s a s' w hm hr hf
  refine ⟨b, w', θ', h1, h2, h3, ?_⟩
  simp only [storeP] at hm
  obtain ⟨_, _, _, hm⟩ := (FM.run_bind _ _ _ _ _).1 hm
  obtain ⟨_, _, _, hm⟩ := (FM.run_bind _ _ _ _ _).1 hm
  obtain ⟨_, _, _, hm⟩ := (FM.run_bind _ _ _ _ _).1 hm
  cases hm; rfl

/-- a new row -/
theorem sim_newRow {o : O} {e : TypeId} {cs : Array Value} {κ : Nat} (ho : ∀ θ' c, Le θ θ' → c.2 = κ → OR θ' c o (.cells cs e (0, 0))) :
    Sim P G w0 θ (FM.new o) (newRow e cs) (fun θ' i a => θ' i = some (a.block, κ) ∧ a.off = 0 ∧ a.spot = none) := by
  intro s i s' w hm hr hf
  obtain ⟨rfl, h2, h3, h4, h5⟩ := FM.run_new _ _ _ _ hm
  have hθ := hf s.next (Nat.le_refl _) (by omega)
  refine ⟨⟨w.heap.size, 0, none⟩, w.alloc (.cells cs e), upd θ s.next (w.heap.size, κ), rfl, ?_, hr.new h2 h3 hθ h5 (ho _ _ (upd_le hθ) rfl), upd_same _ _ _, rfl, rfl⟩
  rw [h4]; exact upd_ext hθ
theorem clear_zero (n : Nat) : Clear (0, 0) n := fun k _ h => by omega
theorem sim_newVar {e : TypeId} {x : V} {v : Value} (h : VR θ x v) :
    Sim P G w0 θ (FM.new (.cells e x.cells)) (newVar e v) (fun θ' i a => θ' i = some (a.block, 0) ∧ a.off = 0 ∧ a.spot = none) :=
  sim_newRow fun _ _ hle _ => ⟨_, _, rfl, (h.mono hle _ _).cells, clear_zero _⟩
theorem sim_boxF {e : TypeId} {x : V} {v : Value} (h : VR θ x v) : Sim P G w0 θ (boxF e x) (Instr.box e v) VR := by
  refine Sim.bind (sim_newVar h) fun θ' a b _ r => ?_
  obtain ⟨r1, r2, r3⟩ := r
  refine Sim.ret (fun _ => rfl) ?_
  simp only [VR]
  exact ⟨_, r1, by cases b; simp_all⟩
theorem sim_allocF {e : TypeId} : Sim P G w0 θ (allocF P e) (Instr.alloc e true (.tuple #[])) VR := by
  refine Sim.bind sim_zeroF fun θ1 x z _ hz => ?_
  refine Sim.bind (sim_newVar hz) fun θ' a b _ r => ?_
  obtain ⟨r1, r2, r3⟩ := r
  refine Sim.ret (fun _ => rfl) ?_
  simp only [VR]
  exact ⟨_, r1, by cases b; simp_all⟩

theorem fieldAt_eq {t f : Nat} {fd : Field} (h : fieldAt P t f = some fd) : ∃ fs, P.underlying t = some (.struct fs) ∧ fs[f]? = some fd := by
  unfold fieldAt at h
  cases hd : P.underlying t with
  | none => rw [hd] at h; cases h
  | some d =>
    rw [hd] at h
    cases d with
    | struct fs => exact ⟨fs, rfl, by simpa [fieldOf] using h⟩
    | _ => cases h
theorem sim_fieldAddrF {t f : Nat} {x : V} {v : Value} (hx : VR θ x v) : Sim P G w0 θ (fieldAddrF P t x f) (Instr.fieldAt t v f) VR := by
  refine Sim.opt fun p hp => ?_
  obtain rfl := ptrOf_eq hp
  simp only [VR] at hx
  obtain ⟨c, hc, rfl⟩ := hx
  refine Sim.opt fun fd hfd => Sim.opt fun i hi => Sim.grd fun hz => ?_
  obtain ⟨fs, h1, h2⟩ := fieldAt_eq hfd
  have hz' : i.size ≠ 0 := by have : 0 < i.size := by simpa using hz
                              omega
  refine Sim.ret (b := .pointer (some ⟨c.1, p.2 + fd.offset, none⟩)) (fun w => ?_) (by simp only [VR]; exact ⟨c, hc, rfl⟩)
  simp [Instr.fieldAt, hund h1, h2, Instr.sureAddr, fieldPlace, hsize hi, hz', addr_add]
theorem sim_partF {t off : Nat} {cs : List V} {l : Array Value} (h : VRL θ cs l.toList) : Sim P G w0 θ (partF P t cs off) (part t l off) VR := by
  refine Sim.opt fun d hd => ?_
  unfold part
  refine Sim.step (hagg hd) ?_
  cases ha : aggB d with
  | false =>
    refine Sim.optE fun x hx => ?_
    rw [nthO_eq] at hx
    obtain ⟨y, hy, r⟩ := VRL.get h hx
    refine ⟨y, fun w => ?_, r⟩
    rw [Array.getElem?_toList] at hy
    simp [hy]
  | true =>
    refine Sim.opt fun i hi => Sim.opt fun r hr => ?_
    rw [dropL_eq] at hr
    obtain ⟨rfl, hle⟩ := takeO_eq _ _ _ hr
    refine Sim.ret (b := .agg (l.extract off (off + i.size))) (fun w => by simp [hsize hi]) ?_
    simp only [VR]
    refine ⟨_, rfl, ?_⟩
    have := VRL.take i.size (VRL.drop off h)
    rw [Array.toList_extract]
    simpa [List.extract_eq_take_drop] using this
theorem sim_fieldF {t f : Nat} {x : V} {v : Value} (hx : VR θ x v) : Sim P G w0 θ (fieldF P t x f) (Instr.field t v f) VR := by
  refine Sim.opt fun cs hcs => ?_
  obtain rfl := cellsOf_eq hcs
  simp only [VR] at hx
  obtain ⟨l, rfl, hl⟩ := hx
  refine Sim.opt fun fd hfd => ?_
  obtain ⟨fs, h1, h2⟩ := fieldAt_eq hfd
  unfold Instr.field
  refine Sim.step (hund h1) ?_
  simp only [h2]
  exact sim_partF hl
theorem sim_extractF {i : Nat} {x : V} {v : Value} (hx : VR θ x v) : Sim P G w0 θ (extractF i x) (Instr.extract v i) VR := by
  refine Sim.opt fun cs hcs => ?_
  obtain rfl := tupOf_eq hcs
  simp only [VR] at hx
  obtain ⟨l, rfl, hl⟩ := hx
  refine Sim.optE fun y hy => ?_
  rw [nthO_eq] at hy
  obtain ⟨z, hz, r⟩ := VRL.get hl hy
  rw [Array.getElem?_toList] at hz
  exact ⟨z, fun w => by simp [Instr.extract, hz], r⟩
end
end Go.Ev

namespace Go.Ev
open Go.RowKit

section
variable {P : Program} {G : Nat → Option O} {w0 : World} {θ : Th}

theorem inB_eq {i : Int} {n : Nat} (h : inB i n = true) : 0 ≤ i ∧ i < n ∧ i.toNat < n := by
  simp only [inB, Bool.and_eq_true, decide_eq_true_eq] at h
  have h2 : i.toNat < n := by simpa using h.2
  exact ⟨h.1, by omega, h2⟩
theorem sim_indexAddrF {t : TypeId} {x y : V} {v u : Value} (hx : VR θ x v) (hy : VR θ y u) : Sim P G w0 θ (indexAddrF P t x y) (Instr.indexAt t v u) VR := by
  refine Sim.opt fun i hi => ?_
  obtain rfl := intOf_eq hi
  simp only [VR] at hy
  subst hy
  refine Sim.opt fun d hd => Sim.opt fun q hq => Sim.opt fun j hj => Sim.grd fun hb => ?_
  obtain ⟨g1, g2, g3⟩ := inB_eq hb
  cases d with
  | array len e =>
    cases hp : ptrOf x with
    | none => simp [elemsOf, hp] at hq
    | some p =>
      simp only [elemsOf, hp, Option.some.injEq] at hq
      subst hq
      obtain rfl := ptrOf_eq hp
      simp only [VR] at hx
      obtain ⟨c, hc, rfl⟩ := hx
      refine Sim.ret (b := .pointer (some ⟨c.1, p.2 + i.2.toNat * j.size, none⟩)) (fun w => ?_) (by simp only [VR]; exact ⟨c, hc, rfl⟩)
      simp [Instr.indexAt, asIntOf, hund hd, Instr.sureAddr, g1, g2, hsize hj, addr_add]
  | slice e =>
    cases hp : rowOf x with
    | none => simp [elemsOf, hp] at hq
    | some p =>
      simp only [elemsOf, hp, Option.some.injEq] at hq
      subst hq
      rcases rowOf_eq hp with ⟨m, rfl⟩ | ⟨k, rfl⟩ <;>
      · simp only [VR] at hx
        obtain ⟨c, hc, rfl⟩ := hx
        refine Sim.ret (b := .pointer (some ⟨c.1, p.2.1 + i.2.toNat * j.size, none⟩)) (fun w => ?_) (by simp only [VR]; exact ⟨c, hc, rfl⟩)
        simp [Instr.indexAt, asIntOf, hund hd, g1, g2, hsize hj, addr_add]
  | _ => cases hq
theorem sim_indexF {t : TypeId} {x y : V} {v u : Value} (hx : VR θ x v) (hy : VR θ y u) : Sim P G w0 θ (indexF P t x y) (Instr.index t v u) VR := by
  unfold indexF
  split
  · rename_i k i
    simp only [VR] at hy
    subst hy
    refine Sim.opt fun d hd => ?_
    split
    · rename_i len e cs
      simp only [VR] at hx
      obtain ⟨l, rfl, hl⟩ := hx
      refine Sim.opt fun j hj => Sim.grd fun hb => ?_
      obtain ⟨g1, g2, g3⟩ := inB_eq hb
      unfold Instr.index
      refine Sim.step (b := (k, i)) (fun _ => rfl) ?_
      refine Sim.step (hund hd) ?_
      simp only [g1, g2, and_self, if_true]
      refine Sim.step (hsize hj) ?_
      exact sim_partF hl
    · rename_i s
      simp only [VR] at hx
      subst hx
      refine Sim.grd fun hb => Sim.opt fun b hs => ?_
      have g1 : 0 ≤ i := by simpa using hb
      refine Sim.ret (b := .int .u8 b.toNat) (fun w => ?_) (by simp [VR])
      have hlt := (List.getElem?_eq_some_iff.1 hs).1
      have : (ByteArray.mk s.toArray)[i.toNat]? = some b := by
        have h1 : i.toNat < (ByteArray.mk s.toArray).size := by simpa [ByteArray.size] using hlt
        rw [getElem?_pos (ByteArray.mk s.toArray) i.toNat h1]
        congr 1
        have := (List.getElem?_eq_some_iff.1 hs).2
        simpa [ByteArray.getElem_eq_getElem_data] using this
      simp [Instr.index, asIntOf, hund hd, g1, this]
    · exact Sim.fail
  · exact Sim.fail

/-! slices -/
def OV (θ : Th) (x : Option V) (v : Option Value) : Prop := match x with | none => v = none | some x => ∃ u, v = some u ∧ VR θ x u
theorem boundA_eq {d m : Nat} {x : Option V} {v : Option Value} (h : boundA d x = some m) (hx : OV θ x v) :
    (v = none ∧ m = d) ∨ ∃ k i, v = some (.int k i) ∧ 0 ≤ i ∧ m = i.toNat := by
  cases x with
  | none => cases h; exact .inl ⟨hx, rfl⟩
  | some x =>
    obtain ⟨u, rfl, hu⟩ := hx
    cases x with
    | int k i =>
      simp only [VR] at hu; subst hu
      have h' : sel (decide (0 ≤ i)) (some i.toNat) none = some m := h
      by_cases hi : 0 ≤ i
      · rw [decide_eq_true hi] at h'; cases h'; exact .inr ⟨k, i, rfl, hi, rfl⟩
      · rw [decide_eq_false hi] at h'; cases h'
    | _ => cases h
theorem run_bound {k : IntKind} {i : Int} {y : Nat} {code : BoundsCode} (h : 0 ≤ i) (h2 : i.toNat ≤ y) (w : World) : (Instr.sliceBound (.int k i) y code).run P w = .ok i.toNat w := by
  have : i ≤ (y : Int) := by omega
  simp [Instr.sliceBound, asIntOf, h, this]
theorem run_bounds {isS : Bool} {len cap l h m : Nat} {lo hi mx : Option V} {lo' hi' mx' : Option Value} (h1 : OV θ lo lo') (h2 : OV θ hi hi') (h3 : OV θ mx mx')
    (e1 : boundA 0 lo = some l) (e2 : boundA len hi = some h) (e3 : boundA cap mx = some m) (g1 : l ≤ h) (g2 : h ≤ m) (g3 : m ≤ cap) (hm : mx ≠ none → hi ≠ none) (w : World) :
    (Instr.sliceBounds isS len cap lo' hi' mx').run P w = .ok (l, h, m) w := by
  have n2 : hi' = none → hi = none := by cases hi with | none => simp | some x => rintro rfl; obtain ⟨u, hu, _⟩ := h2; cases hu
  have n3 : mx' ≠ none → mx ≠ none := by cases mx with | none => intro hh; exact absurd h3 hh | some x => simp
  rcases boundA_eq e1 h1 with ⟨rfl, rfl⟩ | ⟨k1, i1, rfl, p1, rfl⟩ <;>
    rcases boundA_eq e2 h2 with ⟨rfl, rfl⟩ | ⟨k2, i2, rfl, p2, rfl⟩ <;>
      rcases boundA_eq e3 h3 with ⟨rfl, rfl⟩ | ⟨k3, i3, rfl, p3, rfl⟩ <;>
        first
          | (simp [Instr.sliceBounds, run_bound, *]; done)
          | exact absurd (n2 rfl) (hm (n3 (fun hh => by cases hh)))
end
end Go.Ev

namespace Go.Ev
open Go.RowKit

section
variable {P : Program} {G : Nat → Option O} {w0 : World} {θ : Th}

theorem Sim.row {α β : Type} {b : Nat} {f : O × List V → FM α} {c : Sem β} {R : Th → α → β → Prop}
    (h : ∀ oc : O × List V, oc.1.row = some oc.2 → (∀ e sz xs c, oc.1 = .grown e sz xs → θ b = some c → xs.length ≤ c.2 * sz) → Sim P G w0 θ (f oc) c R) : Sim P G w0 θ ((rowF b).bind f) c R := by
  intro s x s' w hm hr hf
  obtain ⟨oc, s1, h1, h2⟩ := (FM.run_bind _ _ _ _ _).1 hm
  obtain ⟨e1, e2, e3, e4⟩ := run_rowF h1
  have := h oc e2 (fun e sz xs c he hc => by
    obtain ⟨c', obj, hc', hw, ho⟩ := hr.live b oc.1 e1
    rw [hc] at hc'; cases hc'
    rw [he] at ho
    obtain ⟨a, fr, p, q, rfl, g2, v, g3, _⟩ := ho
    rw [← VRL.length v, ← g3, ← Array.length_toList, g2]; simp) s1 x s' w h2 (hr.same (fun j => by simp [St.at, e4])) (by rw [e3]; exact hf)
  rw [e3] at this
  exact this

theorem extract_str (s : List UInt8) (l h : Nat) : (ByteArray.mk s.toArray).extract l h = ⟨((s.take h).drop l).toArray⟩ := by
  apply ByteArray.ext
  simp only [ByteArray.data_extract]
  apply Array.ext'
  simp [List.extract_eq_take_drop, List.drop_take]

theorem add_if (k o m l z : Nat) : (if m = l then (⟨k, o, none⟩ : Addr) else (⟨k, o, none⟩ : Addr).add (l * z)) = ⟨k, sel (Nat.beq m l) o (o + l * z), none⟩ := by
  by_cases h : m = l
  · subst h; simp [sel_true]
  · have : Nat.beq m l = false := by
      cases hb : Nat.beq m l with
      | false => rfl
      | true => exact absurd (Nat.eq_of_beq_eq_true hb) h
    rw [if_neg h, this, addr_add, sel_false]

theorem sim_sliceF {t : TypeId} {x : V} {v : Value} {lo hi mx : Option V} {lo' hi' mx' : Option Value} (hx : VR θ x v) (h1 : OV θ lo lo') (h2 : OV θ hi hi') (h3 : OV θ mx mx') (hm : mx ≠ none → hi ≠ none) :
    Sim P G w0 θ (sliceF P t x lo hi mx) (Instr.sliceAt t v lo' hi' mx') VR := by
  refine Sim.opt fun d hd => ?_
  split
  · rename_i s
    simp only [VR] at hx; subst hx
    refine Sim.grd fun hmx => Sim.opt fun h eh => Sim.opt fun l el => Sim.grd fun hg => ?_
    have hmx' : mx = none := by simpa using hmx
    subst hmx'
    simp only [OV] at h3; subst h3
    simp only [Bool.and_eq_true] at hg
    have g1 : l ≤ h := by simpa using hg.1
    have g2 : h ≤ s.length := by simpa using hg.2
    refine Sim.ret (b := .string ⟨((s.take h).drop l).toArray⟩) (fun w => ?_) (by simp [VR])
    have hsz : (ByteArray.mk s.toArray).size = s.length := by simp [ByteArray.size]
    have := run_bounds (P := P) (isS := false) (len := s.length) (cap := s.length) (mx := none) h1 h2 rfl el eh rfl g1 g2 (Nat.le_refl _) (by simp) w
    simp [Instr.sliceAt, Instr.slice, hund hd, hsz, this, extract_str]
  · rename_i e b off len cap
    simp only [VR] at hx
    obtain ⟨c, hc, rfl⟩ := hx
    refine Sim.opt fun i hi => Sim.opt fun m em => Sim.opt fun h eh => Sim.opt fun l el => Sim.grd fun hg => ?_
    simp only [Bool.and_eq_true] at hg
    have g1 : l ≤ h := by simpa using hg.1.1
    have g2 : h ≤ m := by simpa using hg.1.2
    have g3 : m ≤ cap := by simpa using hg.2
    refine Sim.ret (b := .slice (some ⟨c.1, sel (Nat.beq m l) off (off + l * i.size), none⟩) (h - l) (m - l)) (fun w => ?_) (by simp only [VR]; exact ⟨c, hc, rfl⟩)
    have := run_bounds (P := P) (isS := true) h1 h2 h3 el eh em g1 g2 g3 hm w
    simp only [Instr.sliceAt, Instr.slice, Sem.run_bind, hund hd, Result.andThen_ok, this, hsize hi, Sem.run_pure]
    rw [← add_if]
    congr 2
    split <;> rfl
  · rename_i e
    simp only [VR] at hx; subst hx
    refine Sim.opt fun i hi => Sim.opt fun m em => Sim.opt fun h eh => Sim.opt fun l el => Sim.grd fun hg => ?_
    simp only [Bool.and_eq_true] at hg
    have g1 : l = 0 := by simpa using hg.1.1
    have g2 : h = 0 := by simpa using hg.1.2
    have g3 : m = 0 := by simpa using hg.2
    subst g1; subst g2; subst g3
    refine Sim.ret (b := .slice none 0 0) (fun w => ?_) (by simp [VR])
    have := run_bounds (P := P) (isS := true) h1 h2 h3 el eh em (Nat.le_refl _) (Nat.le_refl _) (Nat.le_refl _) hm w
    simp [Instr.sliceAt, Instr.slice, hund hd, this, hsize hi]
  · rename_i e b off k len
    simp only [VR] at hx
    obtain ⟨c, hc, rfl⟩ := hx
    refine Sim.opt fun i hi => Sim.row fun oc hoc hcap => Sim.grd fun hg0 => Sim.opt fun h eh => Sim.opt fun l el => Sim.grd fun hg => ?_
    simp only [Bool.and_eq_true] at hg hg0
    have g0 : off = k * i.size := by simpa using hg0.1
    have g01 := lenGe_eq _ _ hg0.2
    have g1 : l ≤ h := by simpa using hg.1
    have g2 : h ≤ len := by simpa using hg.2
    have room : ∀ e' s xs, oc.1 = .grown e' s xs → s = i.size → 0 < s → k + len ≤ c.2 := by
      intro e' s xs ho hs hp
      have := hcap e' s xs c ho hc
      have hx : oc.2 = xs := by rw [ho] at hoc; cases hoc; rfl
      rw [hx, g0, ← hs] at g01
      have h3 : (k + len) * s ≤ c.2 * s := by rw [Nat.add_mul]; omega
      exact Nat.le_of_mul_le_mul_right h3 hp
    split
    · rename_i e' s xs ho
      simp only [OV] at h3; subst h3
      refine Sim.grd fun hs => ?_
      simp only [Bool.and_eq_true] at hs
      have s1 : s = i.size := by simpa using hs.1
      have s2 : 0 < s := by simpa using hs.2
      have hr := room e' s xs ho s1 s2
      have hb := fun w => run_bounds (P := P) (isS := true) (len := len) (cap := c.2 - k) (mx := none) h1 h2 rfl el eh rfl g1 (by omega) (Nat.le_refl _) (by simp) w
      have hrun : ∀ w, (Instr.sliceAt t (.slice (some ⟨c.1, off, none⟩) len (c.2 - k)) lo' hi' none).run P w =
          .ok (.slice (some (if c.2 - k = l then (⟨c.1, off, none⟩ : Addr) else (⟨c.1, off, none⟩ : Addr).add (l * i.size))) (h - l) (c.2 - k - l)) w := by
        intro w
        simp only [Instr.sliceAt, Instr.slice, Sem.run_bind, hund hd, Result.andThen_ok, hb w, hsize hi, Sem.run_pure]
        congr 2
        split <;> rfl
      refine Sim.ret hrun ?_
      cases ht : or (Nat.beq l 0) (Nat.blt l len) with
      | false =>
        simp only [sel_false, VR]
        simp only [Bool.or_eq_false_iff] at ht
        have hll : ¬ l < len := fun hh => by
          have : Nat.blt l len = true := by simpa using hh
          rw [this] at ht; cases ht.2
        have : h - l = 0 := by omega
        rw [this]
        exact ⟨_, _, rfl⟩
      | true =>
        simp only [sel_true, VR]
        refine ⟨c, hc, ?_⟩
        rw [Nat.sub_sub]
        congr 2
        simp only [Bool.or_eq_true] at ht
        rcases ht with ht | ht
        · have : l = 0 := by simpa using ht
          subst this
          simp [addr_add]
        · have : l < len := by simpa using ht
          rw [if_neg (by omega), addr_add]
    · rename_i e' s xs x ho
      refine Sim.opt fun m em => Sim.grd fun hs => ?_
      simp only [Bool.and_eq_true] at hs
      have s1 : s = i.size := by simpa using hs.1.1.1
      have s2 : 0 < s := by simpa using hs.1.1.2
      have s3 : h ≤ m := by simpa using hs.1.2
      have s4 : m ≤ len := by simpa using hs.2
      have hr := room e' s xs ho s1 s2
      refine Sim.ret (b := .slice (some ⟨c.1, sel (Nat.beq m l) off (off + l * i.size), none⟩) (h - l) (m - l)) (fun w => ?_) (by simp only [VR]; exact ⟨c, hc, rfl⟩)
      have em' : boundA (c.2 - k) (some x) = some m := by rw [← em]; cases x <;> rfl
      have := run_bounds (P := P) (isS := true) h1 h2 h3 el eh em' g1 s3 (by omega) hm w
      simp only [Instr.sliceAt, Instr.slice, Sem.run_bind, hund hd, Result.andThen_ok, this, hsize hi, Sem.run_pure]
      rw [← add_if]
      congr 2
      split <;> rfl
    · exact Sim.fail
  · rename_i e
    simp only [VR] at hx
    obtain ⟨a, n, rfl⟩ := hx
    refine Sim.opt fun i hi => Sim.opt fun h eh => Sim.opt fun l el => Sim.grd fun hg => ?_
    simp only [Bool.and_eq_true] at hg
    have g1 : l = 0 := by simpa using hg.1.1
    have g2 : h = 0 := by simpa using hg.1.2
    have hmx' : mx = none := by simpa using hg.2
    subst hmx'; subst g1; subst g2
    simp only [OV] at h3; subst h3
    refine Sim.ret (b := .slice (some a) 0 n) (fun w => ?_) (by simp only [VR]; exact ⟨a, n, rfl⟩)
    have := run_bounds (P := P) (isS := true) (len := 0) (cap := n) (mx := none) h1 h2 rfl el eh rfl (Nat.le_refl _) (Nat.zero_le _) (Nat.le_refl _) (by simp) w
    simp [Instr.sliceAt, Instr.slice, hund hd, this, hsize hi, Addr.add]
  · rename_i n e b off
    simp only [VR] at hx
    obtain ⟨c, hc, rfl⟩ := hx
    refine Sim.opt fun i hi => Sim.opt fun m em => Sim.opt fun h eh => Sim.opt fun l el => Sim.grd fun hg => ?_
    simp only [Bool.and_eq_true] at hg
    have g1 : l ≤ h := by simpa using hg.1.1
    have g2 : h ≤ m := by simpa using hg.1.2
    have g3 : m ≤ n := by simpa using hg.2
    refine Sim.ret (b := .slice (some ⟨c.1, sel (Nat.beq m l) off (off + l * i.size), none⟩) (h - l) (m - l)) (fun w => ?_) (by simp only [VR]; exact ⟨c, hc, rfl⟩)
    have := run_bounds (P := P) (isS := false) h1 h2 h3 el eh em g1 g2 g3 hm w
    simp only [Instr.sliceAt, Instr.sureAddr, Sem.run_bind, hund hd, Result.andThen_ok, this, hsize hi, Sem.run_pure]
    rw [← add_if]
  · exact Sim.fail
end
end Go.Ev

namespace Go.Ev
open Go.RowKit

section
variable {P : Program} {G : Nat → Option O} {w0 : World} {θ : Th}

theorem foldl_over (off : Nat) : ∀ (l : List Value) (k : Nat) (cs : Array Value), off + k + l.length ≤ cs.size →
    ((l.zipIdx k).foldl (fun cs (x : Value × Nat) => cs.setIfInBounds (off + x.2) x.1) cs).toList = cs.toList.take (off + k) ++ l ++ cs.toList.drop (off + k + l.length)
  | [], k, cs, _ => by simp
  | v :: l, k, cs, h => by
    have hi : off + k < cs.size := by simp at h; omega
    rw [List.zipIdx_cons, List.foldl_cons, foldl_over off l (k + 1) _ (by simp at h ⊢; omega)]
    simp only [Array.toList_setIfInBounds]
    exact take_set cs.toList (off + k) v l (by simpa using hi)

def PR (θ : Th) (p : Nat × V) (q : Nat × Value) : Prop := p.1 = q.1 ∧ VR θ p.2 q.2
theorem fill_sound {place place' : Nat → Option (Nat × Nat)} (hp : ∀ i q, place i = some q → place' i = some q) : ∀ (parts : List (Nat × V)) (parts' : List (Nat × Value)) (cs cs' : List V) (cells : Array Value),
    L2 (PR θ) parts parts' → VRL θ cs cells.toList → fillA place cs parts = some cs' → ∃ r, Instr.fill place' cells parts' = some r ∧ VRL θ cs' r.toList
  | [], parts', cs, cs', cells, hl, hv, h => by
    cases hl
    cases h
    exact ⟨cells, rfl, hv⟩
  | (i, x) :: l, parts', cs, cs', cells, hl, hv, h => by
    obtain ⟨⟨j, v⟩, ys, rfl, ⟨rfl, hR⟩, ht⟩ := hl
    simp only [fillA] at h
    cases hpl : place i with
    | none => simp [hpl] at h
    | some p =>
      obtain ⟨off, size⟩ := p
      simp only [hpl] at h
      cases hb : lenIs x.cells size with
      | false => simp [hb, sel_false] at h
      | true =>
        simp only [hb, sel_true] at h
        cases hs : setO x.cells cs off with
        | none => simp [hs] at h
        | some c2 =>
          simp only [hs] at h
          have hlen := lenIs_eq _ _ hb
          obtain ⟨rfl, hle⟩ := setO_eq _ _ _ _ hs
          have hc := hR.cells
          have hcl := VRL.length hc
          have hvl := VRL.length hv
          have e1 : v.cells.size = size := by rw [← Array.length_toList, hcl, hlen]
          have e2 : off + v.cells.size ≤ cells.size := by rw [e1, ← Array.length_toList, hvl, ← hlen]; exact hle
          have e3 := foldl_over off v.cells.toList 0 cells (by simpa using e2)
          have hv2 : VRL θ (cs.take off ++ (x.cells ++ cs.drop (off + x.cells.length))) (v.cells.zipIdx.foldl (fun cs (x : Value × Nat) => cs.setIfInBounds (off + x.2) x.1) cells).toList := by
            rw [← Array.foldl_toList, Array.toList_zipIdx, e3]
            simp only [Nat.add_zero, List.append_assoc]
            refine VRL.append (VRL.take off hv) (VRL.append hc ?_)
            rw [hcl]; exact VRL.drop _ hv
          obtain ⟨r, h1, h2⟩ := fill_sound hp l ys _ cs' _ ht hv2 h
          refine ⟨r, ?_, h2⟩
          simp only [Instr.fill, hp i _ hpl]
          rw [if_neg (by simp only [Bool.or_eq_true, decide_eq_true_eq, ne_eq]; omega)]
          exact h1

theorem zip2_eq : ∀ (ps : List (Nat × Operand)) (args : List V) (vals : List Value) (ρ : Operand → Value), L2 (fun (x : V) (v : Value) => VR θ x v) args vals → ps.map (fun p => ρ p.2) = vals →
    L2 (PR θ) (zip2 ps args) (ps.map fun p => (p.1, ρ p.2))
  | [], args, vals, ρ, _, _ => rfl
  | (i, x) :: ps, args, vals, ρ, h, e => by
    cases args with
    | nil => simp only [L2] at h; subst h; simp at e
    | cons a as =>
      obtain ⟨y, ys, rfl, hR, ht⟩ := h
      simp only [List.map_cons, List.cons.injEq] at e
      exact ⟨(i, ρ x), _, rfl, ⟨rfl, by rw [e.1]; exact hR⟩, zip2_eq ps as ys ρ ht e.2⟩

theorem sim_buildF {t : TypeId} {parts : List (Nat × V)} {parts' : Array (Nat × Value)} (h : L2 (PR θ) parts parts'.toList) : Sim P G w0 θ (buildF P t parts) (Instr.build t parts') VR := by
  unfold buildF zeroF
  refine Sim.assoc (Sim.opt fun it hit => ?_)
  refine Sim.opt fun z hz => Sim.opt fun d hd => ?_
  cases hiz : it.zero with
  | none => rw [hiz] at hz; cases hz
  | some zv =>
    rw [hiz] at hz
    have hzv := (VR.of_all θ zv z hz).cells
    split
    · rename_i fields
      refine Sim.opt fun pl hpl => Sim.opt fun cs hcs => ?_
      obtain ⟨r, h1, h2⟩ := fill_sound (place' := (pl.toArray[·]?)) (fun i q e => by simpa using e) _ _ _ _ _ h hzv hcs
      refine Sim.ret (fun w => run_build w t parts' r ?_) (by simp only [VR]; exact ⟨r, rfl, h2⟩)
      unfold placesA at hpl
      simp only [Program.built, hit, hd, hiz, hpl]
      exact h1
    · rename_i n e
      refine Sim.opt fun ie hie => Sim.opt fun cs hcs => ?_
      obtain ⟨r, h1, h2⟩ := fill_sound (place' := fun i => some (i * ie.size, ie.size)) (fun i q e => e) _ _ _ _ _ h hzv hcs
      refine Sim.ret (fun w => run_build w t parts' r ?_) (by simp only [VR]; exact ⟨r, rfl, h2⟩)
      simp only [Program.built, hit, hd, hiz, hie]
      exact h1
    · exact Sim.fail

/-! rows of zeros -/
theorem zerosA_eq {z : List V} {zv : Array Value} (h : VRL θ z zv.toList) : ∀ (n : Nat), VRL θ (zerosA z n) ((Array.range (n * zv.size)).map (zv[· % zv.size]!)).toList
  | 0 => by simp [zerosA, VRL]
  | n + 1 => by
    have ih := zerosA_eq h n
    have e : ((Array.range ((n + 1) * zv.size)).map (zv[· % zv.size]!)).toList = zv.toList ++ ((Array.range (n * zv.size)).map (zv[· % zv.size]!)).toList := by
      apply List.ext_getElem?
      intro i
      simp only [Array.toList_map, Array.toList_range, List.getElem?_map]
      by_cases hi : i < (n + 1) * zv.size
      · rw [List.getElem?_range hi]
        simp only [Option.map_some]
        by_cases hj : i < zv.size
        · rw [List.getElem?_append_left (by simpa using hj), Nat.mod_eq_of_lt hj]
          simp [hj]
        · have hz : 0 < zv.size := by
            rcases Nat.eq_zero_or_pos zv.size with h0 | h0
            · rw [h0] at hi; simp at hi
            · exact h0
          have hle : zv.size ≤ i := by omega
          rw [List.getElem?_append_right (by simpa using hle)]
          simp only [Array.length_toList, List.getElem?_map]
          have h2 : i - zv.size < n * zv.size := by rw [Nat.add_mul] at hi; omega
          rw [List.getElem?_range h2]
          simp only [Option.map_some]
          rw [← Nat.mod_eq_sub_mod hle]
      · rw [List.getElem?_eq_none (by simp; omega)]
        simp only [Option.map_none]
        rw [List.getElem?_eq_none]
        simp; rw [Nat.add_mul] at hi; omega
    rw [e]
    exact VRL.append h ih

theorem sim_buildSliceF {t len : Nat} {parts : List (Nat × V)} {parts' : Array (Nat × Value)} (h : L2 (PR θ) parts parts'.toList) : Sim P G w0 θ (buildSliceF P t len parts) (Instr.buildSlice t len parts') VR := by
  refine Sim.opt fun d hd => ?_
  split
  · rename_i e
    refine Sim.opt fun i hi => Sim.grd fun hg => ?_
    simp only [Bool.and_eq_true] at hg
    have g1 : len * i.size ≤ 2 ^ 24 := by simpa using hg.1
    have g2 : 0 < i.size := by simpa using hg.2
    unfold zeroF
    refine Sim.assoc (Sim.opt fun i2 hi2 => ?_)
    rw [hi] at hi2; cases hi2
    refine Sim.opt fun z hz => Sim.grd fun hl => ?_
    have hlen := lenIs_eq _ _ hl
    cases hiz : i.zero with
    | none => rw [hiz] at hz; cases hz
    | some zv =>
      rw [hiz] at hz
      have hzv := (VR.of_all θ zv z hz).cells
      have hsz : zv.cells.size = i.size := by rw [← Array.length_toList, VRL.length hzv, hlen]
      refine Sim.opt fun cs hcs => ?_
      unfold Instr.buildSlice
      refine Sim.step (hund hd) ?_
      refine Sim.step (hsize hi) ?_
      have hz0 := zerosA_eq hzv len
      rw [hsz] at hz0
      obtain ⟨r, h1, h2⟩ := fill_sound (place' := fun k => some (k * i.size, i.size)) (fun i q e => e) _ _ _ _ _ h hz0 hcs
      rw [if_neg (by omega)]
      have key : Sim P G w0 θ ((FM.new (.cells e cs)).bind fun b => FM.pure (.slice b 0 len len)) (do pure (.slice (some (← newRow e r)) len len)) VR := by
        refine Sim.bind (sim_newRow (κ := 0) fun θ' c hle _ => ⟨_, _, rfl, h2.mono hle _ _, clear_zero _⟩) fun θ' a b _ q => ?_
        obtain ⟨r1, r2, r3⟩ := q
        refine Sim.ret (fun _ => rfl) ?_
        simp only [VR]
        exact ⟨_, r1, by cases b; simp_all⟩
      by_cases h0 : len * i.size = 0
      · have hl0 : len = 0 := by
          rcases Nat.mul_eq_zero.1 h0 with h | h
          · exact h
          · omega
        subst hl0
        refine Sim.congr (fun w => ?_) key
        have e0 : Array.range 0 = #[] := rfl
        simp only [Nat.zero_mul, e0, List.map_toArray, List.map_nil] at h1
        simp [h1, e0]
      · refine Sim.congr (fun w => ?_) key
        simp only [h0, if_false, Sem.run_bind, hzero hi hiz, Result.andThen_ok, Sem.run_pure]
        have h1' := h1
        rw [hsz.symm] at h1'
        simp only [hsz] at h1'
        simp [hsz, h1']
  · exact Sim.fail

theorem sim_makeSliceF {t : Nat} {x y : V} {v u : Value} (hx : VR θ x v) (hy : VR θ y u) : Sim P G w0 θ (makeSliceF P t x y) (Instr.makeSlice t v u) VR := by
  unfold makeSliceF
  split
  · rename_i k1 l k2 c
    simp only [VR] at hx hy
    subst hx; subst hy
    refine Sim.opt fun d hd => ?_
    split
    · rename_i e
      refine Sim.opt fun i hi => Sim.grd fun hg => ?_
      simp only [Bool.and_eq_true, decide_eq_true_eq] at hg
      obtain ⟨⟨g1, g2, g3, g4⟩, g5⟩ := hg
      have g6 : 0 < i.size := by simpa using g5
      unfold zeroF
      refine Sim.assoc (Sim.opt fun i2 hi2 => ?_)
      rw [hi] at hi2; cases hi2
      refine Sim.opt fun z hz => Sim.grd fun hl => ?_
      have hlen := lenIs_eq _ _ hl
      cases hiz : i.zero with
      | none => rw [hiz] at hz; cases hz
      | some zv =>
        rw [hiz] at hz
        have hzv := (VR.of_all θ zv z hz).cells
        have hsz : zv.cells.size = i.size := by rw [← Array.length_toList, VRL.length hzv, hlen]
        have hz0 := zerosA_eq hzv c.toNat
        rw [hsz] at hz0
        have hwc : IntKind.i64.wrap c = c := IntWalk.i64_in c (by omega)
        have hwl : IntKind.i64.wrap l = l := IntWalk.i64_in l (by omega)
        have key : Sim P G w0 θ ((FM.new (.cells e (zerosA z.cells c.toNat))).bind fun b => FM.pure (.slice b 0 l.toNat c.toNat))
            (do pure (.slice (some (← newRow e ((Array.range (c.toNat * i.size)).map (zv.cells[· % i.size]!)))) l.toNat c.toNat)) VR := by
          refine Sim.bind (sim_newRow (κ := 0) fun θ' c hle _ => ⟨_, _, rfl, hz0.mono hle _ _, clear_zero _⟩) fun θ' a b _ q => ?_
          obtain ⟨r1, r2, r3⟩ := q
          refine Sim.ret (fun _ => rfl) ?_
          simp only [VR]
          exact ⟨_, r1, by cases b; simp_all⟩
        refine Sim.congr (fun w => ?_) key
        have t1 : ¬ (c < 0) := by omega
        have t2 : ¬ (l < 0) := by omega
        have t3 : ¬ (l > c) := by omega
        have t4 : ¬ ((i.bytes : Int) * c > 2 ^ 48) := by omega
        have t5 : (281474976710656 < (i.bytes : Int) * c) = False := by simp; omega
        by_cases h0 : c.toNat * i.size = 0
        · have hc0 : c.toNat = 0 := by
            rcases Nat.mul_eq_zero.1 h0 with h | h
            · exact h
            · omega
          have e0 : Array.range 0 = #[] := rfl
          simp [Instr.makeSlice, hund hd, asInt, asIntOf, hinfo hi, hwc, hwl, t1, t2, t3, t5, hsize hi, hc0, e0]
        · simp [Instr.makeSlice, hund hd, asInt, asIntOf, hinfo hi, hwc, hwl, t1, t2, t3, t5, hsize hi, h0, hzero hi hiz, hsz]
    · exact Sim.fail
  · exact Sim.fail
end
end Go.Ev

namespace Go.Ev
open Go.RowKit

section
variable {P : Program} {G : Nat → Option O} {w0 : World} {θ : Th}

theorem run_binInt {op : BinOp} {k : IntKind} {a b : Int} {r : V} {t : TypeId} (h : binInt op k a b = some r) (hs : isShift op = false) :
    ∃ v, (∀ w, (binOp op t (.int k a) (.int k b)).run P w = .ok v w) ∧ VR θ r v := by
  cases op with
  | add => cases h; exact ⟨.int k (k.wrap (a + b)), fun w => by simp [binOp, Op.intArith], by simp only [VR]; rfl⟩
  | sub => cases h; exact ⟨.int k (k.wrap (a - b)), fun w => by simp [binOp, Op.intArith], by simp only [VR]; rfl⟩
  | mul => cases h; exact ⟨.int k (k.wrap (a * b)), fun w => by simp [binOp, Op.intArith], by simp only [VR]; rfl⟩
  | quo =>
    have h' : sel (b == 0) none (some (V.int k (k.wrap (a.tdiv b)))) = some r := h
    cases hb : (b == 0) with
    | true => rw [hb] at h'; cases h'
    | false =>
      rw [hb] at h'; cases h'
      have hb' : b ≠ 0 := by simpa using hb
      exact ⟨.int k (k.wrap (a.tdiv b)), fun w => by simp [binOp, Op.intDiv, hb'], by simp only [VR]⟩
  | rem =>
    have h' : sel (b == 0) none (some (V.int k (a.tmod b))) = some r := h
    cases hb : (b == 0) with
    | true => rw [hb] at h'; cases h'
    | false =>
      rw [hb] at h'; cases h'
      have hb' : b ≠ 0 := by simpa using hb
      exact ⟨.int k (a.tmod b), fun w => by simp [binOp, Op.intDiv, hb'], by simp only [VR]⟩
  | and => cases h; exact ⟨.int k (k.wrap (BitVec.ofInt k.bits a &&& BitVec.ofInt k.bits b).toNat), fun w => by simp [binOp, Op.intBits], by simp only [VR]; rfl⟩
  | or => cases h; exact ⟨.int k (k.wrap (BitVec.ofInt k.bits a ||| BitVec.ofInt k.bits b).toNat), fun w => by simp [binOp, Op.intBits], by simp only [VR]; rfl⟩
  | xor => cases h; exact ⟨.int k (k.wrap (BitVec.ofInt k.bits a ^^^ BitVec.ofInt k.bits b).toNat), fun w => by simp [binOp, Op.intBits], by simp only [VR]; rfl⟩
  | shl => cases hs
  | shr => cases hs
  | andNot => cases h; exact ⟨.int k (k.wrap (BitVec.ofInt k.bits a &&& ~~~BitVec.ofInt k.bits b).toNat), fun w => by simp [binOp, Op.intBits], by simp only [VR]; rfl⟩
  | eql => cases h; exact ⟨.bool (a == b), fun w => by simp [binOp, Op.intCmp], by simp only [VR]⟩
  | neq => cases h; exact ⟨.bool (a != b), fun w => by simp [binOp, Op.intCmp], by simp only [VR]⟩
  | lss => cases h; exact ⟨.bool (decide (a < b)), fun w => by simp [binOp, Op.intCmp], by simp only [VR]⟩
  | leq => cases h; exact ⟨.bool (decide (a ≤ b)), fun w => by simp [binOp, Op.intCmp], by simp only [VR]⟩
  | gtr => cases h; exact ⟨.bool (decide (b < a)), fun w => by simp [binOp, Op.intCmp], by simp only [VR]⟩
  | geq => cases h; exact ⟨.bool (decide (b ≤ a)), fun w => by simp [binOp, Op.intCmp], by simp only [VR]⟩
theorem run_shiftInt {op : BinOp} {k k' : IntKind} {a b : Int} {r : V} {t : TypeId} (h : shiftInt op k a b = some r) (hs : isShift op = true) :
    ∃ v, (∀ w, (binOp op t (.int k a) (.int k' b)).run P w = .ok v w) ∧ VR θ r v := by
  unfold shiftInt at h
  cases hb : decide (b < 0) with
  | true => rw [hb] at h; cases h
  | false =>
    rw [hb] at h
    have hb' : ¬ b < 0 := by simpa using hb
    cases op with
    | shl => cases h; exact ⟨.int k (k.wrap (a * 2 ^ (min b.toNat k.bits))), fun w => by simp [binOp, Op.shift, hb'], by simp only [VR]⟩
    | shr => cases h; exact ⟨.int k (a.fdiv (2 ^ (min b.toNat k.bits))), fun w => by simp [binOp, Op.shift, hb'], by simp only [VR]⟩
    | _ => cases hs
theorem run_eqGuard_int {op : BinOp} {t : TypeId} {ex ey : Operand} {k k' : IntKind} {a b : Int} (w : World) : (eqGuard op t ex ey (.int k a) (.int k' b)).run P w = .ok () w := by
  cases op <;> simp [eqGuard]
theorem run_eqGuard_not {op : BinOp} {t : TypeId} {ex ey : Operand} {a b : Value} (h : op ≠ .eql) (h2 : op ≠ .neq) (w : World) : (eqGuard op t ex ey a b).run P w = .ok () w := by
  cases op <;> first | (exact absurd rfl h) | (exact absurd rfl h2) | simp [eqGuard]

/-- an equation: what the guard and the comparison say -/
def EqOk (P : Program) (t : TypeId) (ex ey : Operand) (a b : Value) (r : Bool) : Prop :=
  ∀ (op : BinOp), (op = .eql ∨ op = .neq) → ∀ w, (eqGuard op t ex ey a b).run P w = .ok () w ∧ (Op.equal t a b).run P w = .ok r w

theorem eqInts_eq : ∀ {xs ys : List V} {r : Bool} {as bs : List Value}, eqInts xs ys = some r → VRL θ xs as → VRL θ ys bs →
    ∃ l : List (IntKind × Int × Int), as = l.map (fun x => .int x.1 x.2.1) ∧ bs = l.map (fun x => .int x.1 x.2.2) ∧ r = l.all (fun x => x.2.1 == x.2.2)
  | [], [], r, as, bs, h, ha, hb => by
    cases h; simp only [VRL] at ha hb; subst ha; subst hb; exact ⟨[], rfl, rfl, rfl⟩
  | .int j a :: xs, .int k b :: ys, r, as, bs, h, ha, hb => by
    simp only [eqInts] at h
    cases hj : (j == k) with
    | false => rw [hj] at h; cases h
    | true =>
      rw [hj] at h
      have : j = k := by simpa using hj
      subst this
      cases hr : eqInts xs ys with
      | none => rw [hr] at h; cases h
      | some r' =>
        rw [hr] at h; cases h
        simp only [VRL] at ha hb
        obtain ⟨y, ys', rfl, hy, ta⟩ := ha
        obtain ⟨z, zs', rfl, hz, tb⟩ := hb
        simp only [VR] at hy hz; subst hy; subst hz
        obtain ⟨l, rfl, rfl, rfl⟩ := eqInts_eq hr ta tb
        exact ⟨(j, a, b) :: l, rfl, rfl, by simp⟩
  | [], _ :: _, _, _, _, h, _, _ => by cases h
  | .int _ _ :: _, [], _, _, _, h, _, _ => by cases h
  | .int _ _ :: _, .bool _ :: _, _, _, _, h, _, _ => by cases h
  | .int _ _ :: _, .str _ :: _, _, _, _, h, _, _ => by cases h
  | .int _ _ :: _, .nilp :: _, _, _, _, h, _, _ => by cases h
  | .int _ _ :: _, .ptr _ _ :: _, _, _, _, h, _, _ => by cases h
  | .int _ _ :: _, .nils :: _, _, _, _, h, _, _ => by cases h
  | .int _ _ :: _, .slice .. :: _, _, _, _, h, _, _ => by cases h
  | .int _ _ :: _, .grow .. :: _, _, _, _, h, _, _ => by cases h
  | .int _ _ :: _, .nilm :: _, _, _, _, h, _, _ => by cases h
  | .int _ _ :: _, .map _ :: _, _, _, _, h, _, _ => by cases h
  | .int _ _ :: _, .nilf :: _, _, _, _, h, _, _ => by cases h
  | .int _ _ :: _, .func .. :: _, _, _, _, h, _, _ => by cases h
  | .int _ _ :: _, .yield _ :: _, _, _, _, h, _, _ => by cases h
  | .int _ _ :: _, .nili :: _, _, _, _, h, _, _ => by cases h
  | .int _ _ :: _, .iface .. :: _, _, _, _, h, _, _ => by cases h
  | .int _ _ :: _, .agg _ :: _, _, _, _, h, _, _ => by cases h
  | .int _ _ :: _, .tup _ :: _, _, _, _, h, _, _ => by cases h
  | .int _ _ :: _, .void :: _, _, _, _, h, _, _ => by cases h
  | .bool _ :: _, _, _, _, _, h, _, _ => by cases h
  | .str _ :: _, _, _, _, _, h, _, _ => by cases h
  | .nilp :: _, _, _, _, _, h, _, _ => by cases h
  | .ptr _ _ :: _, _, _, _, _, h, _, _ => by cases h
  | .nils :: _, _, _, _, _, h, _, _ => by cases h
  | .slice .. :: _, _, _, _, _, h, _, _ => by cases h
  | .grow .. :: _, _, _, _, _, h, _, _ => by cases h
  | .nilm :: _, _, _, _, _, h, _, _ => by cases h
  | .map _ :: _, _, _, _, _, h, _, _ => by cases h
  | .nilf :: _, _, _, _, _, h, _, _ => by cases h
  | .func .. :: _, _, _, _, _, h, _, _ => by cases h
  | .yield _ :: _, _, _, _, _, h, _, _ => by cases h
  | .nili :: _, _, _, _, _, h, _, _ => by cases h
  | .iface .. :: _, _, _, _, _, h, _, _ => by cases h
  | .agg _ :: _, _, _, _, _, h, _, _ => by cases h
  | .tup _ :: _, _, _, _, _, h, _, _ => by cases h
  | .void :: _, _, _, _, _, h, _, _ => by cases h

theorem run_eqGuard {op : BinOp} {t : TypeId} {ex ey : Operand} {a b : Value} (h1 : ∀ xs ys, a = .agg xs → b = .agg ys → P.eqGuardType P.depth t = false)
    (h2 : a = .nilIface → b = .nilIface → (isConst ex || isConst ey) = true) (w : World) : (eqGuard op t ex ey a b).run P w = .ok () w := by
  unfold eqGuard
  cases hop : (!(op matches .eql | .neq)) with
  | true => simp
  | false =>
    simp only [Bool.false_eq_true, if_false]
    split
    · have h := h2 rfl rfl
      cases ex <;> cases ey <;> first
        | rfl
        | exact (Bool.false_ne_true h).elim
    · rename_i xs ys
      simp only [Sem.run_bind, run_program, Result.andThen_ok, h1 xs ys rfl rfl, Bool.not_false, if_true]
      rfl
    · rfl
theorem eq_step (t : TypeId) (a b : Value) : Op.equal t a b = Op.equalIn (9998 + 1 + 1) t a b := rfl

theorem run_eqItems_ints {d : Nat} {e : TypeId} {k0 : IntKind} {l : List (IntKind × Int × Int)} (he : P.underlying e = some (.int k0)) {w : World} :
    ∀ (is : List Nat), (∀ i ∈ is, i < l.length) →
    (Op.eqItems (d + 1) e 1 (l.map (fun x => Value.int x.1 x.2.1)).toArray (l.map (fun x => Value.int x.1 x.2.2)).toArray is).run P w = .ok (is.all fun i => match l[i]? with | some x => x.2.1 == x.2.2 | none => true) w := by
  intro is
  induction is with
  | nil => intro _; simp [Op.eqItems]
  | cons i is ih =>
    intro h
    have hi := h i (by simp)
    have ih' := ih (fun j hj => h j (by simp [hj]))
    have hp1 : (part e (l.map (fun x => Value.int x.1 x.2.1)).toArray (i * 1)).run P w = .ok (.int l[i].1 l[i].2.1) w := by
      simp [part, hagg he, aggB, hi]
    have hp2 : (part e (l.map (fun x => Value.int x.1 x.2.2)).toArray (i * 1)).run P w = .ok (.int l[i].1 l[i].2.2) w := by
      simp [part, hagg he, aggB, hi]
    simp only [Op.eqItems, Sem.run_bind, hp1, hp2, Result.andThen_ok, run_equalIn_int w d e l[i].1 k0 l[i].2.1 l[i].2.2 he]
    rw [List.all_cons, List.getElem?_eq_getElem hi]
    show _ = Result.ok ((l[i].2.1 == l[i].2.2) && is.all fun i => match l[i]? with | some x => x.2.1 == x.2.2 | none => true) w
    generalize (l[i].2.1 == l[i].2.2) = q
    cases q with
    | true => simpa using ih'
    | false => simp

theorem run_eqV {t : TypeId} {x y : V} {v u : Value} {r : Bool} {ex ey : Operand} (hx : VR θ x v) (hy : VR θ y u) (h : eqV P t x y = some r) (hc : x = .nili → y = .nili → (isConst ex || isConst ey) = true) :
    ∀ (op : BinOp) (w : World), (eqGuard op t ex ey v u).run P w = .ok () w ∧ ∀ d, (Op.equalIn (d + 1 + 1) t v u).run P w = .ok r w := by
  intro op w
  unfold eqV at h
  split at h
  · rename_i a b hd; cases h; simp only [VR] at hx hy; subst hx; subst hy
    exact ⟨run_eqGuard (by intros; contradiction) (by intros; contradiction) w, fun d => run_equalIn_bool w (d + 1) t a b hd⟩
  · rename_i e hd; cases h; simp only [VR] at hx hy; subst hx; subst hy
    exact ⟨run_eqGuard (by intros; contradiction) (by intros; contradiction) w, fun d => by generalize d + 1 = d'; simp only [Op.equalIn, Sem.run_bind, hund hd, Result.andThen_ok]; rfl⟩
  · rename_i e b o hd; cases h; simp only [VR] at hx hy; subst hx; obtain ⟨c, _, rfl⟩ := hy
    exact ⟨run_eqGuard (by intros; contradiction) (by intros; contradiction) w, fun d => by generalize d + 1 = d'; simp only [Op.equalIn, Sem.run_bind, hund hd, Result.andThen_ok]; rfl⟩
  · rename_i e b o hd; cases h; simp only [VR] at hx hy; subst hy; obtain ⟨c, _, rfl⟩ := hx
    exact ⟨run_eqGuard (by intros; contradiction) (by intros; contradiction) w, fun d => by generalize d + 1 = d'; simp only [Op.equalIn, Sem.run_bind, hund hd, Result.andThen_ok]; rfl⟩
  · rename_i e b o b' o' hd
    simp only [VR] at hx hy
    obtain ⟨c, hc1, rfl⟩ := hx
    obtain ⟨c', hc2, rfl⟩ := hy
    cases hb : (Nat.blt 0 (P.cellsOf e) && Nat.beq b b') with
    | false => rw [hb] at h; cases h
    | true =>
      rw [hb] at h; cases h
      simp only [Bool.and_eq_true] at hb
      have e1 : 0 < P.cellsOf e := by simpa using hb.1
      have e2 : b = b' := by simpa using hb.2
      subst e2
      rw [hc1] at hc2; cases hc2
      refine ⟨run_eqGuard (by intros; contradiction) (by intros; contradiction) w, ?_⟩
      cases hi : P.info? e with
      | none => simp [Program.cellsOf, hi] at e1
      | some i =>
        have e3 : i.size ≠ 0 := by simp [Program.cellsOf, hi] at e1; omega
        intro d
        generalize d + 1 = d'
        simp only [Op.equalIn, Sem.run_bind, hund hd, Result.andThen_ok, hsize hi, e3, ne_eq, not_false_eq_true, if_true, sameAddr, beq_self_eq_true, Sem.run_pure]
        congr 1
        by_cases ho : o = o'
        · subst ho; simp
        · have : Nat.beq o o' = false := by
            cases hb : Nat.beq o o' with
            | false => rfl
            | true => exact absurd (Nat.eq_of_beq_eq_true hb) ho
          rw [this]
          simp [ho]
  · rename_i m hd; cases h; simp only [VR] at hx hy; subst hx; subst hy
    exact ⟨run_eqGuard (by intros; contradiction) (fun _ _ => hc rfl rfl) w, fun d => by generalize d + 1 = d'; simp only [Op.equalIn, Sem.run_bind, hund hd, Result.andThen_ok]; rfl⟩
  · rename_i m t' y' hd; cases h; simp only [VR] at hx hy; subst hx; obtain ⟨z, rfl, _⟩ := hy
    exact ⟨run_eqGuard (by intros; contradiction) (by intros; contradiction) w, fun d => by generalize d + 1 = d'; simp only [Op.equalIn, Sem.run_bind, hund hd, Result.andThen_ok]; rfl⟩
  · rename_i m t' y' hd; cases h; simp only [VR] at hx hy; subst hy; obtain ⟨z, rfl, _⟩ := hx
    exact ⟨run_eqGuard (by intros; contradiction) (by intros; contradiction) w, fun d => by generalize d + 1 = d'; simp only [Op.equalIn, Sem.run_bind, hund hd, Result.andThen_ok]; rfl⟩
  · rename_i e hd; cases h; simp only [VR] at hx hy; subst hx; subst hy
    exact ⟨run_eqGuard (by intros; contradiction) (by intros; contradiction) w, fun d => by generalize d + 1 = d'; simp only [Op.equalIn, Sem.run_bind, hund hd, Result.andThen_ok]; rfl⟩
  · rename_i hd
    cases h
    simp only [VR] at hx hy
    subst hx
    obtain ⟨_, _, rfl⟩ := hy
    exact ⟨run_eqGuard (by intros; contradiction) (by intros; contradiction) w, fun d => by generalize d + 1 = d'; simp only [Op.equalIn, Sem.run_bind, hund hd, Result.andThen_ok]; rfl⟩
  · rename_i hd
    cases h
    simp only [VR] at hx hy
    subst hx
    obtain ⟨_, _, rfl⟩ := hy
    exact ⟨run_eqGuard (by intros; contradiction) (by intros; contradiction) w, fun d => by generalize d + 1 = d'; simp only [Op.equalIn, Sem.run_bind, hund hd, Result.andThen_ok]; rfl⟩
  · rename_i hd
    cases h
    simp only [VR] at hx hy
    subst hx
    obtain ⟨_, _, rfl⟩ := hy
    exact ⟨run_eqGuard (by intros; contradiction) (by intros; contradiction) w, fun d => by generalize d + 1 = d'; simp only [Op.equalIn, Sem.run_bind, hund hd, Result.andThen_ok]; rfl⟩
  · rename_i hd
    cases h
    simp only [VR] at hx hy
    obtain ⟨_, _, rfl⟩ := hx
    subst hy
    exact ⟨run_eqGuard (by intros; contradiction) (by intros; contradiction) w, fun d => by generalize d + 1 = d'; simp only [Op.equalIn, Sem.run_bind, hund hd, Result.andThen_ok]; rfl⟩
  · rename_i hd
    cases h
    simp only [VR] at hx hy
    obtain ⟨_, _, rfl⟩ := hx
    subst hy
    exact ⟨run_eqGuard (by intros; contradiction) (by intros; contradiction) w, fun d => by generalize d + 1 = d'; simp only [Op.equalIn, Sem.run_bind, hund hd, Result.andThen_ok]; rfl⟩
  · rename_i hd
    cases h
    simp only [VR] at hx hy
    obtain ⟨_, _, rfl⟩ := hx
    subst hy
    exact ⟨run_eqGuard (by intros; contradiction) (by intros; contradiction) w, fun d => by generalize d + 1 = d'; simp only [Op.equalIn, Sem.run_bind, hund hd, Result.andThen_ok]; rfl⟩
  · rename_i hd
    cases h
    simp only [VR] at hx hy
    subst hx
    subst hy
    exact ⟨run_eqGuard (by intros; contradiction) (by intros; contradiction) w, fun d => by generalize d + 1 = d'; simp only [Op.equalIn, Sem.run_bind, hund hd, Result.andThen_ok]; rfl⟩
  · rename_i hd
    cases h
    simp only [VR] at hx hy
    subst hx
    obtain ⟨_, _, rfl⟩ := hy
    exact ⟨run_eqGuard (by intros; contradiction) (by intros; contradiction) w, fun d => by generalize d + 1 = d'; simp only [Op.equalIn, Sem.run_bind, hund hd, Result.andThen_ok]; rfl⟩
  · rename_i hd
    cases h
    simp only [VR] at hx hy
    obtain ⟨_, _, rfl⟩ := hx
    subst hy
    exact ⟨run_eqGuard (by intros; contradiction) (by intros; contradiction) w, fun d => by generalize d + 1 = d'; simp only [Op.equalIn, Sem.run_bind, hund hd, Result.andThen_ok]; rfl⟩
  · rename_i hd
    cases h
    simp only [VR] at hx hy
    subst hx
    subst hy
    exact ⟨run_eqGuard (by intros; contradiction) (by intros; contradiction) w, fun d => by generalize d + 1 = d'; simp only [Op.equalIn, Sem.run_bind, hund hd, Result.andThen_ok]; rfl⟩
  · rename_i hd
    cases h
    simp only [VR] at hx hy
    subst hx
    obtain ⟨_, _, rfl, _, _⟩ := hy
    exact ⟨run_eqGuard (by intros; contradiction) (by intros; contradiction) w, fun d => by generalize d + 1 = d'; simp only [Op.equalIn, Sem.run_bind, hund hd, Result.andThen_ok]; rfl⟩
  · rename_i hd
    cases h
    simp only [VR] at hx hy
    obtain ⟨_, _, rfl, _, _⟩ := hx
    subst hy
    exact ⟨run_eqGuard (by intros; contradiction) (by intros; contradiction) w, fun d => by generalize d + 1 = d'; simp only [Op.equalIn, Sem.run_bind, hund hd, Result.andThen_ok]; rfl⟩
  · rename_i len e xs ys hd
    split at h
    · rename_i k0 he
      cases hb : (Nat.beq (P.cellsOf e) 1 && lenIs xs len && !(P.eqGuardType P.depth t)) with
      | false => rw [hb] at h; cases h
      | true =>
        rw [hb] at h
        have h' : eqInts xs ys = some r := h
        simp only [Bool.and_eq_true] at hb
        have e1 : P.cellsOf e = 1 := by simpa using hb.1.1
        have e2 := lenIs_eq _ _ hb.1.2
        have e3 : P.eqGuardType P.depth t = false := by simpa using hb.2
        simp only [VR] at hx hy
        obtain ⟨as, rfl, ha⟩ := hx
        obtain ⟨bs, rfl, hb'⟩ := hy
        obtain ⟨l, g1, g2, g3⟩ := eqInts_eq h' ha hb'
        refine ⟨run_eqGuard (fun _ _ _ _ => e3) (by intros; contradiction) w, ?_⟩
        cases hi : P.info? e with
        | none => simp [Program.cellsOf, hi] at e1
        | some i =>
          intro d
          rw [run_equalIn_array w (d + 1) as bs hd hi, e1]
          have ea : as = (l.map (fun x => Value.int x.1 x.2.1)).toArray := by rw [← g1]
          have eb : bs = (l.map (fun x => Value.int x.1 x.2.2)).toArray := by rw [← g2]
          have hlen : l.length = len := by rw [← e2, ← VRL.length ha, g1]; simp
          rw [ea, eb, run_eqItems_ints he (List.range len) (by simp [hlen])]
          congr 1
          rw [g3]
          rw [Bool.eq_iff_iff]
          simp only [List.all_eq_true, List.mem_range]
          constructor
          · intro hh x hxm
            obtain ⟨i, hi, rfl⟩ := List.mem_iff_getElem.1 hxm
            have := hh i (by omega)
            simpa [List.getElem?_eq_getElem hi] using this
          · intro hh i hi
            rw [List.getElem?_eq_getElem (by omega)]
            exact hh _ (List.getElem_mem _)
    · cases h
  · cases h
end
end Go.Ev

namespace Go.Ev
open Go.RowKit

section
variable {P : Program} {G : Nat → Option O} {w0 : World} {θ : Th}

theorem binOp_eqs {t : TypeId} {x : V} {v u : Value} (hx : VR θ x v) (h1 : intOf x = none) (h2 : strOf x = none) :
    binOp .eql t v u = (do pure (.bool (← Op.equal t v u))) ∧ binOp .neq t v u = (do pure (.bool (!(← Op.equal t v u)))) := by
  cases x <;> simp only [VR] at hx <;> first
    | (cases h1; done)
    | (cases h2; done)
    | (subst hx; exact ⟨rfl, rfl⟩)
    | (obtain ⟨c, _, rfl⟩ := hx; exact ⟨rfl, rfl⟩)
    | (obtain ⟨a, b, rfl, _, _⟩ := hx; exact ⟨rfl, rfl⟩)
    | (obtain ⟨y, rfl, _⟩ := hx; exact ⟨rfl, rfl⟩)
    | (obtain ⟨a, n, rfl⟩ := hx; exact ⟨rfl, rfl⟩)
theorem niliB_eq {x : V} (h : niliB x = true) : x = .nili := by cases x <;> first | rfl | cases h
theorem beq_str (a b : List UInt8) : ((ByteArray.mk a.toArray).toList == (ByteArray.mk b.toArray).toList) = (a == b) := by
  rw [ByteArray.toList_mk, ByteArray.toList_mk]

theorem run_binA {op : BinOp} {t : TypeId} {ex ey : Operand} {x y r : V} {v u : Value} (hx : VR θ x v) (hy : VR θ y u) (h : binA P op t ex ey x y = some r) :
    ∃ rv, (∀ w, ((do eqGuard op t ex ey v u; binOp op t v u : Sem Value)).run P w = .ok rv w) ∧ VR θ r rv := by
  unfold binA at h
  cases hi : intOf x with
  | some a =>
    rw [hi] at h
    cases hj : intOf y with
    | none => rw [hj] at h; cases h
    | some b =>
      rw [hj] at h
      obtain rfl := intOf_eq hi
      obtain rfl := intOf_eq hj
      simp only [VR] at hx hy
      subst hx; subst hy
      have h' : sel (isShift op) (shiftInt op a.1 a.2 b.2) (sel (a.1 == b.1) (binInt op a.1 a.2 b.2) none) = some r := h
      cases hs : isShift op with
      | true =>
        rw [hs] at h'
        obtain ⟨rv, h1, h2⟩ := run_shiftInt (P := P) (θ := θ) (k' := b.1) (t := t) h' hs
        exact ⟨rv, fun w => by simp only [Sem.run_bind, run_eqGuard_int, Result.andThen_ok, h1], h2⟩
      | false =>
        rw [hs] at h'
        cases hk : (a.1 == b.1) with
        | false => rw [hk] at h'; cases h'
        | true =>
          rw [hk] at h'
          have : a.1 = b.1 := by simpa using hk
          obtain ⟨rv, h1, h2⟩ := run_binInt (P := P) (θ := θ) (t := t) h' hs
          exact ⟨rv, fun w => by rw [← this]; simp only [Sem.run_bind, run_eqGuard_int, Result.andThen_ok, h1], h2⟩
  | none =>
    rw [hi] at h
    have h' : binOther P op t ex ey x y = some r := h
    unfold binOther at h'
    split at h'
    · rename_i a b ha hb
      obtain rfl := strOf_eq ha
      obtain rfl := strOf_eq hb
      simp only [VR] at hx hy
      subst hx; subst hy
      have hg : ∀ w, (eqGuard op t ex ey (.string ⟨a.toArray⟩) (.string ⟨b.toArray⟩)).run P w = .ok () w := fun w => run_eqGuard (by intros; contradiction) (by intros; contradiction) w
      unfold binStr at h'
      split at h'
      · cases hb' : Nat.blt (a.length + b.length) (2 ^ 40) with
        | false => rw [hb'] at h'; cases h'
        | true =>
          rw [hb'] at h'; cases h'
          have hlt : a.length + b.length < 2 ^ 40 := by simpa using hb'
          refine ⟨.string ⟨(a ++ b).toArray⟩, fun w => ?_, by simp only [VR]⟩
          have e1 : ¬ (((ByteArray.mk a.toArray).size + (ByteArray.mk b.toArray).size : Nat) : Int) > IntKind.i64.max := by
            simp [ByteArray.size, IntKind.max, IntKind.signed, IntKind.bits]; omega
          have e2 : (ByteArray.mk a.toArray) ++ (ByteArray.mk b.toArray) = ⟨(a ++ b).toArray⟩ := by
            apply ByteArray.ext
            simp [ByteArray.data_append]
          simp only [Sem.run_bind, hg, Result.andThen_ok, binOp, Op.stringOp, if_neg e1, e2, Sem.run_pure]
      · cases h'
        exact ⟨.bool (a == b), fun w => by simp only [Sem.run_bind, hg, Result.andThen_ok, binOp, Op.stringOp, beq_str, Sem.run_pure], by simp only [VR]⟩
      · cases h'
        exact ⟨.bool (!(a == b)), fun w => by simp only [Sem.run_bind, hg, Result.andThen_ok, binOp, Op.stringOp, beq_str, Sem.run_pure], by simp only [VR]⟩
      · cases h'
    · rename_i hs1 hs2
      have hc : binEq P op t x y = some r ∧ (x = .nili → y = .nili → (isConst ex || isConst ey) = true) := by
        cases hn : and (niliB x) (niliB y) with
        | true =>
          rw [hn] at h'
          cases hb : or (isConst ex) (isConst ey) with
          | true => rw [hb] at h'; exact ⟨h', fun _ _ => rfl⟩
          | false => rw [hb] at h'; cases h'
        | false =>
          rw [hn] at h'
          exact ⟨h', fun e1 e2 => by subst e1; subst e2; cases hn⟩
      obtain ⟨hb, hc⟩ := hc
      obtain ⟨q1, q2⟩ := binOp_eqs (t := t) (u := u) hx hi hs1
      unfold binEq at hb
      split at hb
      · cases he : eqV P t x y with
        | none => rw [he] at hb; cases hb
        | some e =>
          rw [he] at hb; cases hb
          have hq := run_eqV hx hy he hc .eql
          exact ⟨.bool e, fun w => by simp only [Sem.run_bind, (hq w).1, Result.andThen_ok, q1, eq_step, (hq w).2, Sem.run_pure], by simp only [VR]⟩
      · cases he : eqV P t x y with
        | none => rw [he] at hb; cases hb
        | some e =>
          rw [he] at hb; cases hb
          have hq := run_eqV hx hy he hc .neq
          exact ⟨.bool (!e), fun w => by simp only [Sem.run_bind, (hq w).1, Result.andThen_ok, q2, eq_step, (hq w).2, Sem.run_pure], by simp only [VR]⟩
      · cases hb
    · cases h'
theorem sim_binF {op : BinOp} {t : TypeId} {ex ey : Operand} {x y : V} {v u : Value} (hx : VR θ x v) (hy : VR θ y u) :
    Sim P G w0 θ (binF P op t ex ey x y) (do eqGuard op t ex ey v u; binOp op t v u) VR := Sim.optE fun _ h => run_binA hx hy h
theorem sim_unF {op : UnOp} {x : V} {v : Value} (hx : VR θ x v) : Sim P G w0 θ (unF op x) (Op.unary op v) VR := by
  refine Sim.optE fun r h => ?_
  unfold unA at h
  split at h
  · rename_i k n; simp only [VR] at hx; subst hx; cases h
    exact ⟨.int k (k.wrap (0 - n)), fun w => rfl, by simp only [VR]⟩
  · rename_i k n; simp only [VR] at hx; subst hx; cases h
    refine ⟨.int k (k.wrap (BitVec.ofInt k.bits (if k.signed then -1 else k.max) ^^^ BitVec.ofInt k.bits n).toNat), fun w => rfl, ?_⟩
    simp only [VR]
    congr 1
    cases k.signed <;> rfl
  · rename_i b; simp only [VR] at hx; subst hx; cases h
    exact ⟨.bool (!b), fun w => rfl, by simp only [VR]⟩
  · cases h

theorem sim_pickF {c x y : V} {c' v u : Value} (hc : VR θ c c') (hx : VR θ x v) (hy : VR θ y u) : Sim P G w0 θ (pickF c x y) (do pure (if ← asBool c' then v else u)) VR := by
  refine Sim.opt fun b hb => ?_
  obtain rfl := boolOf_eq hb
  simp only [VR] at hc; subst hc
  refine Sim.ret (b := if b = true then v else u) (fun w => rfl) ?_
  cases b
  · exact hy
  · exact hx
theorem sim_makeIfaceF {t : TypeId} {x : V} {v : Value} (hx : VR θ x v) : Sim P G w0 θ (makeIfaceF P t x) (Instr.makeInterface t v) VR := by
  refine Sim.opt fun d hd => Sim.grd fun hg => ?_
  refine Sim.ret (b := .iface t v) (fun w => ?_) (by simp only [VR]; exact ⟨v, rfl, hx⟩)
  cases d <;> first | (cases hg; done) | simp [Instr.makeInterface, hund hd]
theorem sim_makeMapF {t : TypeId} {r : Option Operand} {args : List V} {vals : List Value} {ρ : Operand → Value} (h : VRL θ args vals) (e : vals = r.toList.map ρ) :
    Sim P G w0 θ (makeMapF P t r args) (Instr.makeMap t (r.map ρ)) VR := by
  have key : Sim P G w0 θ ((FM.new (.map [] 0)).bind fun b => FM.pure (.map b)) (do pure (.map (some (← newObj (.map #[] 0))))) VR := by
    have h1 : Sim P G w0 θ (FM.new (.map [] 0)) (newObj (.map #[] 0)) (fun θ' i n => ∃ κ, θ' i = some (n, κ)) := by
      intro s i s' w hm hr hf
      obtain ⟨rfl, h2, h3, h4, h5⟩ := FM.run_new _ _ _ _ hm
      have hθ := hf s.next (Nat.le_refl _) (by omega)
      exact ⟨w.heap.size, w.alloc (.map #[] 0), upd θ s.next (w.heap.size, 0), rfl, by rw [h4]; exact upd_ext hθ, hr.new h2 h3 hθ h5 ⟨#[], rfl, rfl⟩, 0, upd_same _ _ _⟩
    refine Sim.bind h1 fun θ' a b _ q => ?_
    obtain ⟨κ, hq⟩ := q
    exact Sim.ret (fun _ => rfl) (by simp only [VR]; exact ⟨_, hq, rfl⟩)
  unfold makeMapF
  split
  · exact key
  · rename_i o k n
    refine Sim.opt fun d hd => ?_
    simp only [VRL, VR] at h
    obtain ⟨y, ys, rfl, rfl, rfl⟩ := h
    simp only [Option.toList_some, List.map_cons, List.map_nil, List.cons.injEq, and_true] at e
    split
    · rename_i kt et
      refine Sim.congr (fun w => ?_) key
      simp [Instr.makeMap, hund hd, ← e, asInt, asIntOf]
    · exact Sim.fail
  · exact Sim.fail
theorem sim_arrayPtrF {t : TypeId} {x : V} {v : Value} (hx : VR θ x v) : Sim P G w0 θ (arrayPtrF P t x) (Instr.arrayAt t v) VR := by
  refine Sim.opt fun d hd => ?_
  split
  · rename_i n e b off len cap
    simp only [VR] at hx
    obtain ⟨c, hc, rfl⟩ := hx
    refine Sim.grd fun hg => ?_
    have g : n ≤ len := by simpa using hg
    refine Sim.ret (b := .pointer (some ⟨c.1, off, none⟩)) (fun w => ?_) (by simp only [VR]; exact ⟨c, hc, rfl⟩)
    have : ¬ len < n := by omega
    simp [Instr.arrayAt, hund hd, this]
  · rename_i n e b off k len
    simp only [VR] at hx
    obtain ⟨c, hc, rfl⟩ := hx
    refine Sim.grd fun hg => ?_
    have g : n ≤ len := by simpa using hg
    refine Sim.ret (b := .pointer (some ⟨c.1, off, none⟩)) (fun w => ?_) (by simp only [VR]; exact ⟨c, hc, rfl⟩)
    have : ¬ len < n := by omega
    simp [Instr.arrayAt, hund hd, this]
  · exact Sim.fail
theorem sim_typeAssertF {t xt : TypeId} {ok : Bool} {x : V} {v : Value} (hx : VR θ x v) : Sim P G w0 θ (typeAssertF P x t ok) (Instr.typeAssert v xt t ok) VR := by
  refine Sim.opt fun d hd => ?_
  have zero : ∀ (c : Sem Value), (∀ w, c.run P w = (do pure (.tuple #[← zeroValue t, .bool false]) : Sem Value).run P w) → Sim P G w0 θ ((zeroF P t).bind fun z => FM.pure (.tup [z, .bool false])) c VR := by
    intro c hc
    refine Sim.congr hc (Sim.bind sim_zeroF fun θ' a b _ q => Sim.ret (fun _ => rfl) ?_)
    simp only [VR]
    exact ⟨_, rfl, VRL.cons q (VRL.cons (by simp only [VR]) (VRL.nil_iff.2 rfl))⟩
  split
  · simp only [VR] at hx; subst hx
    refine Sim.grd fun hg => ?_
    subst hg
    refine zero _ fun w => ?_
    cases d <;> simp [Instr.typeAssert, hund hd]
  · rename_i u y
    simp only [VR] at hx
    obtain ⟨z, rfl, hz⟩ := hx
    refine Sim.grd fun hg => Sim.sel (fun he => ?_) (fun he => ?_)
    · have : u = t := Nat.eq_of_beq_eq_true he
      subst this
      refine Sim.ret (b := if ok = true then .tuple #[z, .bool true] else z) (fun w => ?_) ?_
      · cases d <;> first | (cases hg; done) | simp [Instr.typeAssert, hund hd]
      · cases ok
        · exact hz
        · simp only [sel_true, VR, if_true]
          exact ⟨_, rfl, VRL.cons hz (VRL.cons (by simp only [VR]) (VRL.nil_iff.2 rfl))⟩
    · have hne : u ≠ t := fun e => by subst e; simp at he
      refine Sim.grd fun hg2 => ?_
      subst hg2
      refine zero _ fun w => ?_
      cases d <;> first | (cases hg; done) | simp [Instr.typeAssert, hund hd, hne]
  · exact Sim.fail
end
end Go.Ev

namespace Go.Ev
open Go.RowKit

section
variable {P : Program} {G : Nat → Option O} {w0 : World} {θ : Th}

/-! conversions -/
theorem bytesV_eq : ∀ (s : List UInt8), VRL θ (bytesV s) (s.map fun b => Value.int .u8 b.toNat)
  | [] => by simp [bytesV, VRL]
  | b :: s => VRL.cons (by simp only [VR]) (bytesV_eq s)
theorem bytesV_length : ∀ (s : List UInt8), (bytesV s).length = s.length
  | [] => rfl
  | _ :: s => by simp [bytesV, bytesV_length s]
theorem strV_eq : ∀ {cs : List V} {s : List UInt8} {l : List Value}, strV cs = some s → VRL θ cs l → ∃ ns : List Int, l = ns.map (Value.int .u8) ∧ s = ns.map (fun n => UInt8.ofNat n.toNat)
  | [], s, l, h, hl => by cases h; simp only [VRL] at hl; subst hl; exact ⟨[], rfl, rfl⟩
  | x :: cs, s, l, h, hl => by
    simp only [VRL] at hl
    obtain ⟨y, ys, rfl, hy, ht⟩ := hl
    unfold strV at h
    split at h
    · rename_i heq; cases heq
    · rename_i n cs' heq
      cases heq
      simp only [VR] at hy; subst hy
      cases hr : strV cs with
      | none => simp [hr] at h
      | some s' =>
        simp only [hr, Option.some.injEq] at h
        subst h
        obtain ⟨ns, rfl, rfl⟩ := strV_eq hr ht
        exact ⟨n :: ns, rfl, rfl⟩
    · cases h
theorem foldl_push (ns : List Int) : ∀ (b : ByteArray), (ns.foldl (fun r n => r.push (UInt8.ofNat n.toNat)) b).data.toList = b.data.toList ++ ns.map (fun n => UInt8.ofNat n.toNat) := by
  induction ns with
  | nil => intro b; simp
  | cons n ns ih => intro b; rw [List.foldl_cons, ih]; simp [ByteArray.push]
theorem foldl_str (ns : List Int) : ns.foldl (fun r n => r.push (UInt8.ofNat n.toNat)) ByteArray.empty = ⟨(ns.map (fun n => UInt8.ofNat n.toNat)).toArray⟩ := by
  apply ByteArray.ext
  apply Array.ext'
  rw [foldl_push]
  simp
theorem sim_str {src dst e : TypeId} {b off len cap : Nat} {c : Nat × Nat} (hb : θ b = some c) (hs : P.underlying src = some (.slice e)) (he : P.underlying e = some (.int .u8)) (hd : P.underlying dst = some .string) :
    Sim P G w0 θ ((loadN b off len).bind fun cs => (FM.ofOption (strV cs)).bind fun s => FM.pure (.str s)) (convert src dst (.slice (some ⟨c.1, off, none⟩) len cap)) VR := by
  intro s r s' w hm hr hf
  obtain ⟨cs, s1, h1, h2⟩ := (FM.run_bind _ _ _ _ _).1 hm
  obtain ⟨str, s2, h3, h4⟩ := (FM.run_bind _ _ _ _ _).1 h2
  obtain ⟨e1, rfl⟩ := FM.run_ofOption _ _ _ _ h3
  cases h4
  obtain ⟨n1, n2, arr, hc, hv, _⟩ := run_loadN (P := P) hb h1 hr
  obtain ⟨ns, g1, g2⟩ := strV_eq e1 hv
  refine ⟨.string ⟨str.toArray⟩, w, θ, ?_, ⟨Le.refl θ, fun _ h _ => h⟩, hr.same (fun j => by simp [St.at, n2]), by simp only [VR]⟩
  rw [run_convert_bytes_string w src dst e _ _ _ hs he hd]
  have hc' : (loadCells ⟨c.1, off, none⟩ len).run P w = .ok (ns.map (Value.int .u8)).toArray w := by rw [hc, ← g1]
  rw [run_bytesToString w _ _ _ ns hc', foldl_str, g2]
theorem run_mark_new (w : World) (a : Array Value) (e : TypeId) : (markStringish ⟨w.heap.size, 0, none⟩).run P (w.alloc (.cells a e)) = .ok () (w.alloc (.cells a e (a.size, a.size + 1))) := by
  have h1 : (w.alloc (.cells a e)).shape? w.heap.size = some (e, a.size) := by
    have : (w.heap.push (Obj.cells a e))[w.heap.size]? = some (Obj.cells a e) := by simp
    show (match (w.heap.push (Obj.cells a e))[w.heap.size]? with | some (.cells c elem _) => some (elem, c.size) | _ => none) = _
    rw [this]
  unfold markStringish
  simp only [Sem.run_bind, run_shape, Result.andThen_ok, h1, run_freeze]
  congr 1
  unfold World.freeze
  rw [if_neg (by omega)]
  show ({ w with heap := (w.heap.push (Obj.cells a e)).modify w.heap.size _ } : World) = { w with heap := w.heap.push (Obj.cells a e (a.size, a.size + 1)) }
  congr 1
  apply Array.ext_getElem?
  intro i
  rw [Array.getElem?_modify, Array.getElem?_push, Array.getElem?_push]
  by_cases hi : i = w.heap.size
  · subst hi; simp
  · simp [hi, Ne.symm hi]
theorem sim_toBytes {src dst e : TypeId} {d : TypeDesc} {s : List UInt8} (hs : P.underlying src = some d) (he : P.underlying e = some (.int .u8)) (hd : P.underlying dst = some (.slice e)) :
    Sim P G w0 θ ((FM.new (.grown e 1 (bytesV s))).bind fun b => FM.pure (.grow b 0 0 s.length)) (convert src dst (.string ⟨s.toArray⟩)) VR := by
  intro st r s' w hm hr hf
  obtain ⟨i, s1, h1, h2⟩ := (FM.run_bind _ _ _ _ _).1 hm
  cases h2
  obtain ⟨rfl, g2, g3, g4, g5⟩ := FM.run_new _ _ _ _ h1
  have hθ := hf st.next (Nat.le_refl _) (by omega)
  -- the capacity that is drawn
  generalize hcap : s.length + w.tape w.drawn (.appendCap s.length 0 e) % (2 ^ 63 - s.length) = cap
  have hle : s.length ≤ cap := by omega
  have hsz : (ByteArray.mk s.toArray).size = s.length := by simp [ByteArray.size]
  refine ⟨.slice (some ⟨w.heap.size, 0, none⟩) s.length cap, w.drew.alloc (.cells ((s.map fun b => Value.int .u8 b.toNat).toArray ++ Array.replicate (cap - s.length) (.int .u8 0)) e (cap, cap + 1)),
    upd θ st.next (w.heap.size, cap), ?_, by rw [g4]; exact upd_ext hθ, ?_, ?_⟩
  · have harr : (s.toArray.map fun (b : UInt8) => Value.int .u8 b.toNat) = (s.map fun b => Value.int .u8 b.toNat).toArray := by simp
    have hsize : ((s.map fun b => Value.int .u8 b.toNat).toArray ++ Array.replicate (cap - s.length) (Value.int .u8 0)).size = cap := by simp; omega
    have hmk := run_mark_new (P := P) w.drew ((s.map fun b => Value.int .u8 b.toNat).toArray ++ Array.replicate (cap - s.length) (Value.int .u8 0)) e
    rw [hsize] at hmk
    simp only [convert, Sem.run_bind, hund hs, hund hd, hund he, Result.andThen_ok, Conv.stringToBytes, run_choose, Question.forced, Question.cut, hsz, hcap, Bool.false_eq_true, if_false, newRow, run_newObj, Sem.run_pure, harr]
    exact Eq.trans (congrArg (fun r => Result.andThen r (fun _ w' => Result.ok (Value.slice (some ⟨w.heap.size, 0, none⟩) s.length cap) w')) hmk) rfl
  · refine hr.drew.new g2 g3 hθ g5 ⟨_, (cap, cap + 1), s.map (fun b => Value.int .u8 b.toNat), List.replicate (cap - s.length) (.int .u8 0), rfl, by simp, bytesV_eq s, ?_, ?_⟩
    · simp; omega
    · intro k hk hh
      have : k < cap := by simp at hk; omega
      omega
  · simp only [VR]
    exact ⟨_, upd_same _ _ _, by simp⟩

theorem sim_convF {src dst : TypeId} {x : V} {v : Value} (hx : VR θ x v) : Sim P G w0 θ (convF P src dst x) (convert src dst v) VR := by
  refine Sim.opt fun ds hs => Sim.opt fun d hd => ?_
  have empty : ∀ e, ds = .slice e → P.underlying e = some (.int .u8) → d = .string → ∀ u, (u = .slice none 0 0 ∨ ∃ a n, u = .slice (some a) 0 n) → Sim P G w0 θ (FM.pure (.str [])) (convert src dst u) VR := by
    rintro e rfl he rfl u hu
    refine Sim.ret (b := .string ⟨#[]⟩) (fun w => ?_) (by simp only [VR])
    rcases hu with rfl | ⟨a, n, rfl⟩
    · rw [run_convert_bytes_string w src dst e _ _ _ hs he hd]; rfl
    · rw [run_convert_bytes_string w src dst e _ _ _ hs he hd]
      have := run_bytesToString (P := P) w a 0 n [] rfl
      exact this
  split
  · rename_i k k' n
    simp only [VR] at hx; subst hx
    refine Sim.ret (b := .int k (k.wrap n)) (fun w => ?_) (by simp only [VR])
    simp only [convert, Sem.run_bind, hund hs, hund hd, Result.andThen_ok]
    cases ds <;> rfl
  · rename_i s
    simp only [VR] at hx; subst hx
    refine Sim.ret (b := .string ⟨s.toArray⟩) (fun w => ?_) (by simp only [VR])
    simp only [convert, Sem.run_bind, hund hs, hund hd, Result.andThen_ok]
    cases ds <;> rfl
  · rename_i e s
    simp only [VR] at hx; subst hx
    refine Sim.opt fun de he => ?_
    split
    · exact sim_toBytes hs he hd
    · exact Sim.fail
  · simp only [VR] at hx
    refine Sim.opt fun ds' hs' => ?_
    rw [hs] at hs'; cases hs'
    split
    · rename_i e
      refine Sim.opt fun de he => ?_
      split
      · exact empty e rfl he rfl _ (.inr hx)
      · exact Sim.fail
    · exact Sim.fail
  · simp only [VR] at hx; subst hx
    refine Sim.opt fun ds' hs' => ?_
    rw [hs] at hs'; cases hs'
    split
    · rename_i e
      refine Sim.opt fun de he => ?_
      split
      · exact empty e rfl he rfl _ (.inl rfl)
      · exact Sim.fail
    · exact Sim.fail
  · simp only [VR] at hx
    obtain ⟨c, hc, rfl⟩ := hx
    refine Sim.opt fun ds' hs' => ?_
    rw [hs] at hs'; cases hs'
    split
    · rename_i e
      refine Sim.opt fun de he => ?_
      split
      · exact sim_str hc hs he hd
      · exact Sim.fail
    · exact Sim.fail
  · simp only [VR] at hx
    obtain ⟨c, hc, rfl⟩ := hx
    refine Sim.opt fun ds' hs' => ?_
    rw [hs] at hs'; cases hs'
    split
    · rename_i e
      refine Sim.opt fun de he => ?_
      split
      · exact sim_str hc hs he hd
      · exact Sim.fail
    · exact Sim.fail
  · exact Sim.fail
end
end Go.Ev
