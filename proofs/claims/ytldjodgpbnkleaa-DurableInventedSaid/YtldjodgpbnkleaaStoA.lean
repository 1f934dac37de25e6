/- What tegularef47's Storage lays, on lists, and why its history has no wrong reads. Plain: no program is walked here. -/
import Derived.Test.YtldjodgpbnkleaaTracLaw
namespace Go.Proofs.Ytldjodgpbnkleaa

structure SOp where
  call : Ev
  ex : Bool
  dn : Bool
  res : Int
  at_ : Nat
structure SSt where
  l : List Ev
  ops : List SOp
  ch : List (Int × Int)
  safe : Nat
  n : Nat
structure ActN where
  kind : Nat
  reg : Nat
  which : Nat
def valC (l : List (Int × Int)) (reg : Int) : Int := l.foldl (fun v c => if c.1 = reg then c.2 else v) 0
def callE (k reg n : Nat) : Ev :=
  if k = 0 then ⟨1, n, false, reg, 0, false⟩
  else if k = 1 then ⟨1, n, true, reg, (n : Int) + 1, false⟩
  else if k = 2 then ⟨1, n, true, reg, (n : Int) + 1, true⟩
  else ⟨1, n, false, 0, 0, true⟩
def doneE (s : SOp) : Ev := ⟨2, s.call.op, s.call.write, s.call.reg, if s.call.write then s.call.val else s.res, s.call.barrier⟩
def chEx (s : SOp) (ch : List (Int × Int)) : List (Int × Int) := if s.call.write then ch ++ [(s.call.reg, s.call.val)] else ch
def opEx (s : SOp) (ch : List (Int × Int)) : SOp := ⟨s.call, true, s.dn, if !s.call.write && !s.call.barrier then valC ch s.call.reg else s.res, ch.length⟩
def stCall (st : SSt) (e : Ev) : SSt := ⟨st.l ++ [e], st.ops ++ [⟨e, false, false, 0, 0⟩], st.ch, st.safe, st.n + 1⟩
def stEx (st : SSt) (k : Nat) (s : SOp) : SSt := ⟨st.l, st.ops.set k (opEx s (chEx s st.ch)), chEx s st.ch, st.safe, st.n⟩
def stDone (st : SSt) (k : Nat) (s : SOp) : SSt := ⟨st.l ++ [doneE s], st.ops.set k ⟨s.call, s.ex, true, s.res, s.at_⟩, st.ch, if s.call.barrier then max st.safe s.at_ else st.safe, st.n⟩
def stCut (st : SSt) (m : Nat) : SSt := ⟨st.l ++ [Ev.cut], [], st.ch.take m, m, st.n⟩
def stoStep (st : SSt) (a : ActN) : SSt :=
  if a.kind % 8 < 4 then stCall st (callE (a.kind % 8) (a.reg % 4) st.n)
  else if a.kind % 8 < 6 then match st.ops[a.which % st.ops.length]? with
    | none => st
    | some s => if s.ex then st else stEx st (a.which % st.ops.length) s
  else if a.kind % 8 = 6 then match st.ops[a.which % st.ops.length]? with
    | none => st
    | some s => if s.ex && !s.dn then stDone st (a.which % st.ops.length) s else st
  else stCut st (st.safe + a.which % (st.ch.length - st.safe + 1))
def sto0 : SSt := ⟨[], [], [], 0, 0⟩
def stoTo (acts : List ActN) (k : Nat) : SSt := (acts.take k).foldl stoStep sto0
theorem stoTo_succ {acts : List ActN} {k : Nat} {a : ActN} (h : acts[k]? = some a) : stoTo acts (k + 1) = stoStep (stoTo acts k) a := by
  unfold stoTo
  rw [List.take_add_one, h]
  simp

/-! ### the invariant -/
def key (o : Opr) : Int × Int := (o.reg, o.val)
def before (s w : Opr) : Prop := (0 ≤ s.done ∧ s.done < w.call) ∨ s.era < w.era
structure OSI (os : List Opr) (era : Int) (L : Nat) (n : Nat) : Prop where
  id : ∀ o ∈ os, 0 ≤ o.id ∧ o.id < n
  val : ValId os
  cd : ∀ o ∈ os, 0 ≤ o.call ∧ o.call < L ∧ o.done < L
  er : ∀ o ∈ os, o.era ≤ era
  ord : ∀ a ∈ os, ∀ b ∈ os, 0 ≤ a.done → a.done < b.call → a.era ≤ b.era
  nd : (os.map (·.id)).Nodup
structure CHI (os : List Opr) (era : Int) (ch : List (Int × Int)) (safe : Nat) : Prop where
  src : ∀ c ∈ ch, ∃ w ∈ os, w.write = true ∧ key w = c
  nd : ch.Nodup
  i1 : ∀ w ∈ os, w.write = true → w.era = era → 0 ≤ w.done → key w ∈ ch
  i2 : ∀ (i j : Nat), ∀ s ∈ os, ∀ w ∈ os, s.write = true → w.write = true → ch[i]? = some (key s) → ch[j]? = some (key w) → w.era < s.era → j < i
  i4 : ∀ (i : Nat), ∀ s ∈ os, ∀ w ∈ os, s.write = true → w.write = true → ch[i]? = some (key s) → w.era = s.era → 0 ≤ w.done → w.done < s.call → ∃ j, j < i ∧ ch[j]? = some (key w)
  i5 : ∀ w ∈ os, w.write = true → 0 ≤ w.done → (w.barrier = true ∨ ∃ o ∈ os, o.barrier = true ∧ 0 ≤ o.done ∧ o.era = w.era ∧ w.done < o.call) → ∃ j, j < safe ∧ ch[j]? = some (key w)
  sf : safe ≤ ch.length
  i8a : ∀ r ∈ os, ansB r = true → r.val = 0 ∨ ∃ s ∈ os, s.write = true ∧ key s = key r ∧ s.call < r.done
  i8 : ∀ r ∈ os, ansB r = true → ∀ w ∈ os, w.write = true → w.reg = r.reg → 0 ≤ w.done → w.done < r.call → (∀ s ∈ os, s.write = true → key s = key r → before s w) → w.era ≠ r.era ∧ key w ∉ ch
  i9 : ∀ r ∈ os, ansB r = true → ∀ s ∈ os, s.write = true → key s = key r → s.era < r.era → ∃ j, j < safe ∧ ch[j]? = some (key s)
  i10 : ∀ (j : Nat), ∀ w ∈ os, w.write = true → ch[j]? = some (key w) → w.era < era → j < safe
/-- what is known of an executed operation -/
structure EXI (os : List Opr) (era : Int) (ch : List (Int × Int)) (s : SOp) (o : Opr) : Prop where
  le : s.at_ ≤ ch.length
  wr : o.write = true → ∃ j, j < s.at_ ∧ ch[j]? = some (key o)
  pr : ∀ w ∈ os, w.write = true → w.era = era → 0 ≤ w.done → w.done < o.call → ∃ j, j < s.at_ ∧ ch[j]? = some (key w)
  old : ∀ (j : Nat), ∀ w ∈ os, w.write = true → ch[j]? = some (key w) → w.era < era → j < s.at_
  res : o.write = false → o.barrier = false → s.res = valC (ch.take s.at_) o.reg
/-- an operation of the storage and its operation of the history -/
structure OPI (os : List Opr) (er : Int) (ch : List (Int × Int)) (s : SOp) (o : Opr) : Prop where
  mem : o ∈ os
  id : o.id = s.call.op
  era : o.era = er
  wr : o.write = s.call.write
  reg : o.reg = s.call.reg
  ba : o.barrier = s.call.barrier
  val : s.call.write = true → o.val = s.call.val
  fl : s.call.write = false → s.call.barrier = true → s.res = 0 ∧ o.val = 0
  dn : s.dn = false → o.done < 0
  nex : s.ex = false → s.dn = false ∧ (o.write = true → key o ∉ ch)
  ex : s.ex = true → EXI os er ch s o
def SOK (st : SSt) : Prop := ∃ os era, parseS st.l = some (os, era) ∧ OSI os era st.l.length st.n ∧ CHI os era st.ch st.safe ∧ (∀ s ∈ st.ops, ∃ o, OPI os era st.ch s o) ∧ (st.ops.map (·.call.op)).Nodup

theorem id_inj {os : List Opr} (h : (os.map (·.id)).Nodup) {a b : Opr} (ha : a ∈ os) (hb : b ∈ os) (hid : a.id = b.id) : a = b := by
  obtain ⟨i, hi, rfl⟩ := List.getElem_of_mem ha
  obtain ⟨j, hj, rfl⟩ := List.getElem_of_mem hb
  have : i = j := by
    refine (List.getElem_inj (xs := os.map (·.id)) (h₀ := by simpa using hi) (h₁ := by simpa using hj) h).1 ?_
    simpa using hid
  subst this
  rfl
theorem OSI.key_inj {os : List Opr} {era : Int} {L n : Nat} (h : OSI os era L n) {a b : Opr} (ha : a ∈ os) (hb : b ∈ os) (wa : a.write = true) (wb : b.write = true) (hk : key a = key b) : a = b := by
  have h1 := h.val a ha wa
  have h2 := h.val b hb wb
  have h3 : a.val = b.val := congrArg Prod.snd hk
  exact id_inj h.nd ha hb (by omega)
theorem valC_snoc (l : List (Int × Int)) (c : Int × Int) (reg : Int) : valC (l ++ [c]) reg = if c.1 = reg then c.2 else valC l reg := by
  unfold valC
  rw [List.foldl_append]
  rfl
theorem snoc_ind {α : Type} {P : List α → Prop} (l : List α) (h0 : P []) (h1 : ∀ l c, P l → P (l ++ [c])) : P l := by
  have : ∀ r : List α, P r.reverse := by
    intro r
    induction r with
    | nil => exact h0
    | cons x xs ih => rw [List.reverse_cons]; exact h1 _ _ ih
  simpa using this l.reverse
/-- the value of a register: its last change, or 0 -/
theorem valC_cases (l : List (Int × Int)) (reg : Int) : (valC l reg = 0 ∧ ∀ c ∈ l, c.1 ≠ reg) ∨ ∃ j, j < l.length ∧ l[j]? = some (reg, valC l reg) ∧ ∀ (i : Nat) c, j < i → l[i]? = some c → c.1 ≠ reg := by
  refine snoc_ind (P := fun l => (valC l reg = 0 ∧ ∀ c ∈ l, c.1 ≠ reg) ∨ ∃ j, j < l.length ∧ l[j]? = some (reg, valC l reg) ∧ ∀ (i : Nat) c, j < i → l[i]? = some c → c.1 ≠ reg) l (.inl ⟨rfl, by simp⟩) fun l c ih => ?_
  · rw [valC_snoc]
    by_cases hc : c.1 = reg
    · right
      rw [if_pos hc]
      refine ⟨l.length, by simp, by simp [← hc], fun i c' hi hc' => ?_⟩
      rw [List.getElem?_eq_none (by simp; omega)] at hc'
      cases hc'
    · rw [if_neg hc]
      rcases ih with ⟨h1, h2⟩ | ⟨j, h1, h2, h3⟩
      · exact .inl ⟨h1, fun c' hc' => by
          rcases List.mem_append.1 hc' with h | h
          · exact h2 c' h
          · simp only [List.mem_singleton] at h; subst h; exact hc⟩
      · right
        refine ⟨j, by simp; omega, by rw [List.getElem?_append_left h1]; exact h2, fun i c' hi hc' => ?_⟩
        rcases Nat.lt_or_ge i l.length with h | h
        · rw [List.getElem?_append_left h] at hc'
          exact h3 i c' hi hc'
        · rw [List.getElem?_append_right h] at hc'
          have : i - l.length = 0 := by
            have := (List.getElem?_eq_some_iff.1 hc').1
            simp at this
            omega
          rw [this] at hc'
          simp at hc'
          subst hc'
          exact hc
theorem take_at {α : Type} {l : List α} {m j : Nat} {c : α} : (l.take m)[j]? = some c ↔ j < m ∧ l[j]? = some c := by
  rw [List.getElem?_take]
  split
  · simp [*]
  · simp [*]
theorem snoc_at {α : Type} {l : List α} {d c : α} {j : Nat} (h : (l ++ [d])[j]? = some c) : (j < l.length ∧ l[j]? = some c) ∨ (j = l.length ∧ c = d) := by
  rcases Nat.lt_or_ge j l.length with h1 | h1
  · rw [List.getElem?_append_left h1] at h
    exact .inl ⟨h1, h⟩
  · rw [List.getElem?_append_right h1] at h
    have h2 : j - l.length = 0 := by
      have := (List.getElem?_eq_some_iff.1 h).1
      simp at this
      omega
    rw [h2] at h
    simp at h
    exact .inr ⟨by omega, h.symm⟩
theorem at_snoc {α : Type} {l : List α} {d c : α} {j : Nat} (h : l[j]? = some c) : (l ++ [d])[j]? = some c := by
  rw [List.getElem?_append_left (List.getElem?_eq_some_iff.1 h).1]
  exact h
theorem nodup_at {α : Type} {l : List α} (h : l.Nodup) {i j : Nat} {c : α} (hi : l[i]? = some c) (hj : l[j]? = some c) : i = j := by
  obtain ⟨h1, h2⟩ := List.getElem?_eq_some_iff.1 hi
  obtain ⟨h3, h4⟩ := List.getElem?_eq_some_iff.1 hj
  exact (List.getElem_inj (h₀ := h1) (h₁ := h3) h).1 (h2.trans h4.symm)

/-! ### a call -/
theorem callE_ok {k reg n : Nat} : (callE k reg n).kind = 1 ∧ (callE k reg n).op = n ∧ properB (callE k reg n) = true ∧ ((callE k reg n).write = true → (callE k reg n).val = (n : Int) + 1) ∧ ((callE k reg n).write = false → (callE k reg n).val = 0) := by
  unfold callE
  split
  · refine ⟨rfl, rfl, by simp [properB, flushB] <;> omega, by simp, by simp⟩
  · split
    · refine ⟨rfl, rfl, by simp [properB, flushB] <;> omega, by simp, by simp⟩
    · split
      · refine ⟨rfl, rfl, by simp [properB, flushB] <;> omega, by simp, by simp⟩
      · refine ⟨rfl, rfl, by simp [properB, flushB] <;> omega, by simp, by simp⟩

theorem SOK.call {st : SSt} (h : SOK st) {e : Ev} (hk : e.kind = 1) (ho : e.op = st.n) (hp : properB e = true) (hv : e.write = true → e.val = (st.n : Int) + 1) (hv0 : e.write = false → e.val = 0) : SOK (stCall st e) := by
  obtain ⟨os, era, hps, hos, hch, hop, hnd⟩ := h
  have hne : ∀ o ∈ os, o.id ≠ e.op := fun o h1 h2 => by have := hos.id o h1; omega
  have hfn : findO os e.op = none := by
    unfold findO
    rw [List.find?_eq_none]
    intro o h1
    simpa using hne o h1
  have hps' := parseS_call hps hfn hk hp
  simp only at hps'
  have hera0 : 0 ≤ era := (parseS_inv hps).era0
  refine ⟨_, _, hps', ?_, ?_, ?_, ?_⟩
  · refine ⟨?_, ?_, ?_, ?_, ?_, ?_⟩
    · intro o h1
      rcases List.mem_append.1 h1 with h1 | h1
      · have := hos.id o h1
        simp only [stCall]
        omega
      · simp only [List.mem_singleton] at h1
        subst h1
        simp only [Opr.of, stCall, ho]
        omega
    · intro o h1 hw
      rcases List.mem_append.1 h1 with h1 | h1
      · exact hos.val o h1 hw
      · simp only [List.mem_singleton] at h1
        subst h1
        simp only [Opr.of] at hw ⊢
        have := hv hw
        omega
    · intro o h1
      simp only [stCall, List.length_append, List.length_singleton]
      rcases List.mem_append.1 h1 with h1 | h1
      · have := hos.cd o h1
        omega
      · simp only [List.mem_singleton] at h1
        subst h1
        simp only [Opr.of]
        omega
    · intro o h1
      rcases List.mem_append.1 h1 with h1 | h1
      · exact hos.er o h1
      · simp only [List.mem_singleton] at h1
        subst h1
        simp [Opr.of]
    · intro a ha b hb h1 h2
      rcases List.mem_append.1 ha with ha | ha
      · rcases List.mem_append.1 hb with hb | hb
        · exact hos.ord a ha b hb h1 h2
        · simp only [List.mem_singleton] at hb
          subst hb
          exact hos.er a ha
      · simp only [List.mem_singleton] at ha
        subst ha
        simp [Opr.of] at h1
    · have := (parseS_inv hps').ids
      exact this
  · have hch' : ∀ c ∈ st.ch, c.2 ≤ st.n := by
      intro c hc
      obtain ⟨w, hw, hww, rfl⟩ := hch.src c hc
      have h1 := hos.val w hw hww
      have h2 := hos.id w hw
      simp only [key]
      omega
    have hnk : ∀ (i : Nat), e.write = true → st.ch[i]? ≠ some (key (Opr.of e era st.l.length)) := by
      intro i hw hi
      have := hch' _ (List.mem_of_getElem? hi)
      have := hv hw
      simp only [key, Opr.of] at *
      omega
    have hd : (Opr.of e era st.l.length).done = -1 := rfl
    refine ⟨?_, hch.nd, ?_, ?_, ?_, ?_, hch.sf, ?_, ?_, ?_, ?_⟩
    · intro c hc
      obtain ⟨w, hw, h1, h2⟩ := hch.src c hc
      exact ⟨w, List.mem_append.2 (.inl hw), h1, h2⟩
    · intro w hw h1 h2 h3
      rcases List.mem_append.1 hw with hw | hw
      · exact hch.i1 w hw h1 h2 h3
      · simp only [List.mem_singleton] at hw
        subst hw
        omega
    · intro i j s hs w hw h1 h2 h3 h4 h5
      rcases List.mem_append.1 hs with hs | hs
      · rcases List.mem_append.1 hw with hw | hw
        · exact hch.i2 i j s hs w hw h1 h2 h3 h4 h5
        · simp only [List.mem_singleton] at hw
          subst hw
          exact absurd h4 (hnk _ h2)
      · simp only [List.mem_singleton] at hs
        subst hs
        exact absurd h3 (hnk _ h1)
    · intro i s hs w hw h1 h2 h3 h4 h5 h6
      rcases List.mem_append.1 hw with hw | hw
      · rcases List.mem_append.1 hs with hs | hs
        · exact hch.i4 i s hs w hw h1 h2 h3 h4 h5 h6
        · simp only [List.mem_singleton] at hs
          subst hs
          exact absurd h3 (hnk _ h1)
      · simp only [List.mem_singleton] at hw
        subst hw
        omega
    · intro w hw h1 h2 h3
      rcases List.mem_append.1 hw with hw | hw
      · refine hch.i5 w hw h1 h2 ?_
        rcases h3 with h3 | ⟨o, ho', h4, h5, h6⟩
        · exact .inl h3
        · rcases List.mem_append.1 ho' with ho' | ho'
          · exact .inr ⟨o, ho', h4, h5, h6⟩
          · simp only [List.mem_singleton] at ho'
            subst ho'
            omega
      · simp only [List.mem_singleton] at hw
        subst hw
        omega
    all_goals
      have hrd : ∀ r ∈ os ++ [Opr.of e era st.l.length], ansB r = true → r ∈ os := by
        intro r hr ha
        rcases List.mem_append.1 hr with hr | hr
        · exact hr
        · simp only [List.mem_singleton] at hr
          subst hr
          simp [ansB, Opr.of] at ha
    · intro r hr ha
      rcases hch.i8a r (hrd r hr ha) ha with h1 | ⟨s, h1, h2⟩
      · exact .inl h1
      · exact .inr ⟨s, List.mem_append.2 (.inl h1), h2⟩
    · intro r hr ha w hw h1 h2 h3 h4 h5
      rcases List.mem_append.1 hw with hw | hw
      · exact hch.i8 r (hrd r hr ha) ha w hw h1 h2 h3 h4 (fun s hs => h5 s (List.mem_append.2 (.inl hs)))
      · simp only [List.mem_singleton] at hw
        subst hw
        omega
    · intro r hr ha s hs h1 h2 h3
      rcases List.mem_append.1 hs with hs | hs
      · exact hch.i9 r (hrd r hr ha) ha s hs h1 h2 h3
      · simp only [List.mem_singleton] at hs
        subst hs
        have := hos.er r (hrd r hr ha)
        simp only [Opr.of] at h3
        omega
    · intro j w hw h1 h2 h3
      rcases List.mem_append.1 hw with hw | hw
      · exact hch.i10 j w hw h1 h2 h3
      · simp only [List.mem_singleton] at hw
        subst hw
        exact absurd h2 (hnk _ h1)
  · have hext : ∀ w ∈ os ++ [Opr.of e era st.l.length], w ∈ os ∨ (w.done = -1 ∧ w.era = era) := by
      intro w hw
      rcases List.mem_append.1 hw with hw | hw
      · exact .inl hw
      · simp only [List.mem_singleton] at hw
        subst hw
        exact .inr ⟨rfl, rfl⟩
    intro s hs
    simp only [stCall] at hs ⊢
    rcases List.mem_append.1 hs with hs | hs
    · obtain ⟨o, h⟩ := hop s hs
      refine ⟨o, List.mem_append.2 (.inl h.mem), h.id, h.era, h.wr, h.reg, h.ba, h.val, h.fl, h.dn, h.nex, fun hx => ?_⟩
      have hE := h.ex hx
      refine ⟨hE.le, hE.wr, ?_, ?_, hE.res⟩
      · intro w hw h1 h2 h3 h4
        rcases hext w hw with hw | ⟨hw, -⟩
        · exact hE.pr w hw h1 h2 h3 h4
        · omega
      · intro j w hw h1 h2 h3
        rcases hext w hw with hw | ⟨-, hw⟩
        · exact hE.old j w hw h1 h2 h3
        · omega
    · simp only [List.mem_singleton] at hs
      subst hs
      refine ⟨Opr.of e era st.l.length, List.mem_append.2 (.inr (by simp)), rfl, rfl, rfl, rfl, rfl, fun _ => rfl, fun h1 _ => ⟨rfl, hv0 h1⟩, fun _ => by simp [Opr.of], fun _ => ⟨rfl, fun hw hk' => ?_⟩, fun hx => by simp at hx⟩
      obtain ⟨w, hwm, hww, hkk⟩ := hch.src _ hk'
      have h1 := hos.val w hwm hww
      have h2 := hos.id w hwm
      have h3 : w.val = e.val := congrArg Prod.snd hkk
      have h4 := hv hw
      omega
  · simp only [stCall, List.map_append, List.map_cons, List.map_nil]
    rw [List.nodup_append]
    refine ⟨hnd, by simp, ?_⟩
    intro a ha b hb
    simp only [List.mem_singleton] at hb
    subst hb
    obtain ⟨s, hs, rfl⟩ := List.mem_map.1 ha
    obtain ⟨o, h⟩ := hop s hs
    have := hos.id o h.mem
    have := h.id
    omega
end Go.Proofs.Ytldjodgpbnkleaa
