/- The history of a register that is driven by a script, on lists: it is valid, and the order in which its operations were executed explains each era. Plain: no program is walked here.
The history of a driven register has an explanation. Plain: no program is walked here.
A register's history in which the result of an answered read is replaced by a value that was never written: it has no explanation. Plain: no program is walked here.
tegularef46's Register: its operations in memory, its steps. No program is walked here. -/
import Derived.Test.YtcgbnlhloopnfaaDoorGPln
import Derived.Test.YtcgbnlhloopnfaaDoorGPrs
import Derived.Test.YtcgbnlhloopnfaaDoorGMem
namespace Go.Proofs.YtcgbnlhloopnfaaDoor

/-! ### an era's explanation -/
def rqO (o : Opr) : Bool := o.write || decide (0 ≤ o.done)
def runV (v : Int) (R : List Opr) : Int := R.foldl (fun v o => valTo o v) v
theorem runV_cons (v : Int) (o : Opr) (R : List Opr) : runV v (o :: R) = runV (valTo o v) R := rfl
theorem runV_app (v : Int) (R R' : List Opr) : runV v (R ++ R') = runV (runV v R) R' := by unfold runV; rw [List.foldl_append]
theorem runV_filter (R : List Opr) : ∀ v, runV v (R.filter rqO) = runV v R := by
  induction R with
  | nil => intro v; rfl
  | cons o R ih =>
    intro v
    rcases h : rqO o with _ | _
    · rw [List.filter_cons_of_neg (by simp [h]), ih, runV_cons]
      have : o.write = false := by unfold rqO at h; rw [Bool.or_eq_false_iff] at h; exact h.1
      rw [show valTo o v = v by unfold valTo; rw [this]; rfl]
    · rw [List.filter_cons_of_pos h, runV_cons, runV_cons, ih]
theorem valOk_filter (R : List Opr) : ∀ v, (∀ (m : Nat) (o : Opr), R[m]? = some o → o.write = false → 0 ≤ o.done → o.val = runV v (R.take m)) → valOk v (R.filter rqO) = true := by
  induction R with
  | nil => intro v _; rfl
  | cons o R ih =>
    intro v h
    have h' : ∀ (m : Nat) (o' : Opr), R[m]? = some o' → o'.write = false → 0 ≤ o'.done → o'.val = runV (valTo o v) (R.take m) := fun m o' h1 h2 h3 => by
      have := h (m + 1) o' (by simpa using h1) h2 h3
      rwa [List.take_succ_cons, runV_cons] at this
    rcases hq : rqO o with _ | _
    · rw [List.filter_cons_of_neg (by simp [hq])]
      have hw : o.write = false := by unfold rqO at hq; rw [Bool.or_eq_false_iff] at hq; exact hq.1
      rw [show valTo o v = v by unfold valTo; rw [hw]; rfl] at h'
      exact ih v h'
    · rw [List.filter_cons_of_pos hq]
      simp only [valOk, ih _ h', Bool.and_true]
      rcases hw : o.write with _ | _
      · have h0 : 0 ≤ o.done := by unfold rqO at hq; rw [hw] at hq; simpa using hq
        have := h 0 o rfl hw h0
        simp only [List.take_zero] at this
        rw [this]
        simp [runV]
      · rfl
theorem keepOk_off {safe : Opr → Bool} {kept : Int} (F2 : List Opr) : ∀ n : Nat, (∀ o ∈ F2, safe o = false) → keepOk safe kept n F2 = true := by
  induction F2 with
  | nil => intro n _; rfl
  | cons o F2 ih =>
    intro n h
    simp only [keepOk]
    rw [h o (by simp), ih _ fun x hx => h x (by simp [hx])]
    simp
theorem keepOk_app {safe : Opr → Bool} {kept : Int} (F1 F2 : List Opr) : ∀ n : Nat, (n : Int) + F1.length ≤ kept → (∀ o ∈ F2, safe o = false) → keepOk safe kept n (F1 ++ F2) = true := by
  induction F1 with
  | nil =>
    intro n _ h
    rw [List.nil_append]
    exact keepOk_off F2 n h
  | cons o F1 ih =>
    intro n hn h
    rw [List.length_cons] at hn
    simp only [List.cons_append, keepOk]
    rw [ih (n + 1) (by omega) h]
    have : (n : Int) < kept := by omega
    simp [this]
theorem endAt_off {kept : Int} (F : List Opr) : ∀ (n : Nat) (v e : Int), kept ≤ n → endAt kept n v e F = e := by
  induction F with
  | nil => intro n v e _; rfl
  | cons o F ih =>
    intro n v e h
    simp only [endAt]
    rw [if_neg (by omega)]
    exact ih _ _ _ (by omega)
theorem endAt_app {kept : Int} (F1 F2 : List Opr) : ∀ (n : Nat) (v : Int), (n : Int) + F1.length = kept → endAt kept n v v (F1 ++ F2) = runV v F1 := by
  induction F1 with
  | nil =>
    intro n v h
    simp only [List.length_nil] at h
    rw [List.nil_append, endAt_off _ _ _ _ (by omega)]
    rfl
  | cons o F1 ih =>
    intro n v h
    rw [List.length_cons] at h
    simp only [List.cons_append, endAt]
    rw [if_pos (by omega), ih (n + 1) _ (by omega), runV_cons]
theorem run_expl {A : List Opr} (hids : (A.map (·.id)).Nodup) (safe : Opr → Bool) (R : List Opr) (v0 : Int) (K : Nat) (h1 : ∀ o ∈ R, o ∈ A.filter effB) (h2 : (R.map (·.id)).Nodup)
    (h3 : ∀ o ∈ A.filter effB, 0 ≤ o.done → o ∈ R) (h4 : R.Pairwise fun a b => precO b a = false) (h5 : ∀ (m : Nat) (o : Opr), R[m]? = some o → o.write = false → 0 ≤ o.done → o.val = runV v0 (R.take m)) (h6 : ∀ o ∈ R.drop K, safe o = false) :
    ∃ w : List Int × Int, keptOk false w = true ∧ (R.length ≤ K → w.2 = (w.1.length : Int)) ∧ followR A safe w.2 v0 w.1 = some (runV v0 (R.take K)) := by
  have hsp : R.filter rqO = (R.take K).filter rqO ++ (R.drop K).filter rqO := by rw [← List.filter_append, List.take_append_drop]
  refine ⟨((R.filter rqO).map (·.id), (((R.take K).filter rqO).length : Int)), ?_, fun h => ?_, ?_⟩
  · unfold keptOk
    simp only [List.length_map, hsp, List.length_append]
    simp
    omega
  · simp only [List.length_map]
    rw [List.take_of_length_le h]
  · simp only
    have hor := good_orderR hids (R.filter rqO) [] (fun o ho => h1 o (List.mem_filter.1 ho).1) (by rw [List.nil_append]; exact List.Nodup.sublist (List.Sublist.map _ List.filter_sublist) h2)
      (fun o ho => by have := (List.mem_filter.1 ho).2; unfold rqO at this; simpa using this)
      (fun o ho hd => by
        rw [List.nil_append]
        refine List.mem_map.2 ⟨o, List.mem_filter.2 ⟨h3 o ho hd, ?_⟩, rfl⟩
        unfold rqO
        simp [hd])
    unfold followR
    rw [hor]
    refine (explR_iff _ [] 0 v0 v0 _).2 ⟨by simp, List.Pairwise.sublist List.filter_sublist h4, valOk_filter R v0 h5, ?_, ?_⟩
    · rw [hsp]
      exact keepOk_app _ _ 0 (by simp) fun o ho => h6 o (List.mem_filter.1 ho).1
    · rw [hsp, endAt_app _ _ 0 v0 (by simp), runV_filter]

/-! ### the register -/
structure RgA where
  kind : Nat
  which : Nat
structure RgO where
  e : Ev
  ex : Bool
  dn : Bool
  res : Int
  at_ : Nat
structure RgS where
  l : List Ev
  ops : List RgO
  vals : List Int
  safe : Nat
  n : Nat
def effE (e : Ev) : Bool := e.write || !e.barrier
def rgEv (k n : Nat) : Ev := ⟨1, n, k == 1 || k == 2, 0, if (k == 1 || k == 2) then (n : Int) + 1 else 0, k == 2 || k == 3⟩
def rgIx (s : RgS) (a : RgA) : Nat := if s.ops.length = 0 then 0 else a.which % s.ops.length
def rgLast (s : RgS) : Int := (s.vals[s.vals.length - 1]?).getD 0
def rgRes (s : RgS) (o : RgO) : Int := if o.e.write then o.e.val else rgLast s
def rgVals (s : RgS) (o : RgO) : List Int := if effE o.e then s.vals ++ [rgRes s o] else s.vals
def rgCall (s : RgS) (k : Nat) : RgS := ⟨s.l ++ [rgEv k s.n], s.ops ++ [⟨rgEv k s.n, false, false, 0, 0⟩], s.vals, s.safe, s.n + 1⟩
def exO (s : RgS) (o : RgO) : RgO := ⟨o.e, true, o.dn, rgRes s o, (rgVals s o).length - 1⟩
def rgExec (s : RgS) (k : Nat) : RgS :=
  match s.ops[k]? with
  | none => s
  | some o => if o.ex then s else ⟨s.l, s.ops.set k (exO s o), rgVals s o, s.safe, s.n⟩
def doneE (o : RgO) : Ev := ⟨2, o.e.op, o.e.write, o.e.reg, if !o.e.write && !o.e.barrier then o.res else o.e.val, o.e.barrier⟩
def rgDone (s : RgS) (k : Nat) : RgS :=
  match s.ops[k]? with
  | none => s
  | some o => if o.ex && !o.dn then ⟨s.l ++ [doneE o], s.ops.set k ⟨o.e, o.ex, true, o.res, o.at_⟩, s.vals, if o.e.barrier then max s.safe o.at_ else s.safe, s.n⟩ else s
def rgKept (s : RgS) (which : Nat) : Nat := min (s.safe + which % (s.vals.length - min s.safe (s.vals.length - 1))) (s.vals.length - 1)
def rgCut (s : RgS) (which : Nat) : RgS := ⟨s.l ++ [Ev.cut], [], [(s.vals[rgKept s which]?).getD 0], 0, s.n⟩
def rgStep (s : RgS) (a : RgA) : RgS :=
  if a.kind % 8 < 4 then rgCall s (a.kind % 8) else if a.kind % 8 < 6 then rgExec s (rgIx s a) else if a.kind % 8 = 6 then rgDone s (rgIx s a) else rgCut s a.which
def rg0 : RgS := ⟨[], [], [0], 0, 0⟩
def rgTo (sc : List RgA) : Nat → RgS
  | 0 => rg0
  | k + 1 => match sc[k]? with | some a => rgStep (rgTo sc k) a | none => rgTo sc k
theorem rgTo_succ {sc : List RgA} {k : Nat} {a : RgA} (h : sc[k]? = some a) : rgTo sc (k + 1) = rgStep (rgTo sc k) a := by simp only [rgTo, h]

/-- the eras that are over, explained: the value that they leave -/
def chainR (os : List Opr) : Nat → Int → List (List Int × Int) → Option Int
  | _, v, [] => some v
  | k, v, w :: r => if keptOk false w then (match followR (eraO os k) (durR (eraO os k)) w.2 v w.1 with | none => none | some v' => chainR os (k + 1) v' r) else none
theorem chain_same {os os' : List Opr} : ∀ (ws : List (List Int × Int)) (k : Nat) (v : Int), (∀ j : Nat, k ≤ j → j < k + ws.length → eraO os' j = eraO os j) → chainR os' k v ws = chainR os k v ws := by
  intro ws
  induction ws with
  | nil => intro k v _; rfl
  | cons w ws ih =>
    intro k v h
    simp only [chainR]
    rw [h k (Nat.le_refl _) (by simp)]
    rcases followR (eraO os k) (durR (eraO os k)) w.2 v w.1 with _ | v'
    · rfl
    · simp only
      rw [ih (k + 1) v' fun j hj hj' => h j (by omega) (by rw [List.length_cons]; omega)]
theorem chain_snoc {os : List Opr} {w : List Int × Int} {v' : Int} (hk : keptOk false w = true) : ∀ (ws : List (List Int × Int)) (k : Nat) (v u : Int), chainR os k v ws = some u →
    followR (eraO os ((k + ws.length : Nat) : Int)) (durR (eraO os ((k + ws.length : Nat) : Int))) w.2 u w.1 = some v' → chainR os k v (ws ++ [w]) = some v' := by
  intro ws
  induction ws with
  | nil =>
    intro k v u h hf
    simp only [chainR, Option.some.injEq] at h
    subst h
    simp only [List.length_nil, Nat.add_zero] at hf
    simp only [List.nil_append, chainR, hk, if_true, hf]
  | cons x ws ih =>
    intro k v u h hf
    simp only [chainR] at h
    simp only [List.cons_append, chainR]
    split at h
    · rename_i hx
      rw [if_pos hx]
      rcases hfx : followR (eraO os k) (durR (eraO os k)) x.2 v x.1 with _ | v1
      · rw [hfx] at h; cases h
      · rw [hfx] at h
        simp only at h ⊢
        exact ih (k + 1) v1 u h (by rw [List.length_cons] at hf; rwa [show k + 1 + ws.length = k + (ws.length + 1) by omega])
    · cases h
theorem accR_chain {os : List Opr} {cuts : Nat} {w : List Int × Int} {v' : Int} (hw : w.2 = (w.1.length : Int)) : ∀ (ws : List (List Int × Int)) (k : Nat) (v u : Int), k + ws.length = cuts → chainR os k v ws = some u →
    followR (eraO os (cuts : Int)) (fun _ => false) w.2 u w.1 = some v' → accR os cuts k v (ws ++ [w]) = true := by
  intro ws
  induction ws with
  | nil =>
    intro k v u hc h hf
    simp only [chainR, Option.some.injEq] at h
    subst h
    simp only [List.length_nil, Nat.add_zero] at hc
    subst hc
    have hk' : keptOk true w = true := by
      unfold keptOk
      simp [hw]
    simp only [List.nil_append, accR, beq_self_eq_true, hk', if_true, Bool.not_true, Bool.false_and, hf]
  | cons x ws ih =>
    intro k v u hc h hf
    rw [List.length_cons] at hc
    have hne : ((k : Nat) == cuts) = false := by simp; omega
    simp only [chainR] at h
    simp only [List.cons_append, accR]
    split at h
    · rename_i hx
      rw [hne, if_pos hx]
      simp only [Bool.not_false, Bool.true_and]
      rcases hfx : followR (eraO os k) (durR (eraO os k)) x.2 v x.1 with _ | v1
      · rw [hfx] at h; cases h
      · rw [hfx] at h
        simp only at h ⊢
        exact ih (k + 1) v1 u (by omega) h hf
    · cases h
/-- an operation of the era, and the operation of the history -/
structure RgM (o : RgO) (p : Opr) (i : Nat) : Prop where
  kind : o.e.kind = 1
  op : o.e.op = i
  reg : o.e.reg = 0
  w : p.write = o.e.write
  b : p.barrier = o.e.barrier
  dn : o.dn = true ↔ 0 ≤ p.done
  val : p.val = if o.dn && !o.e.write && !o.e.barrier then o.res else o.e.val
structure RgInv (s : RgS) (os : List Opr) (era base : Nat) (xs : List Nat) (ws : List (List Int × Int)) : Prop where
  parse : parseS s.l = some (os, (era : Int))
  len : os.length = s.n
  bas : base + s.ops.length = s.n
  ids : ∀ (i : Nat) (p : Opr), os[i]? = some p → p.id = i ∧ (p.era = era ↔ base ≤ i) ∧ p.reg = 0 ∧ (p.write = true → p.val = (i : Int) + 1)
  cur : ∀ (j : Nat) (o : RgO) (p : Opr), s.ops[j]? = some o → os[base + j]? = some p → RgM o p (base + j)
  vpos : xs.length + 1 = s.vals.length
  safe : s.safe ≤ xs.length
  xnd : xs.Nodup
  xmem : ∀ j, j ∈ xs ↔ ∃ o, s.ops[j]? = some o ∧ o.ex = true ∧ effE o.e = true
  xat : ∀ (m j : Nat) (o : RgO), xs[m]? = some j → s.ops[j]? = some o → o.at_ = m + 1 ∧ s.vals[m + 1]? = some o.res ∧ (o.e.write = true → o.res = o.e.val) ∧ (o.e.write = false → s.vals[m]? = some o.res)
  atb : ∀ (j : Nat) (o : RgO), s.ops[j]? = some o → o.ex = true → o.at_ ≤ xs.length
  dnx : ∀ (j : Nat) (o : RgO), s.ops[j]? = some o → o.dn = true → o.ex = true ∧ (o.e.barrier = true → o.at_ ≤ s.safe)
  prec : ∀ (j j' : Nat) (o o' : RgO) (p p' : Opr), s.ops[j]? = some o → s.ops[j']? = some o' → os[base + j]? = some p → os[base + j']? = some p' → 0 ≤ p.done → p.done < p'.call → o'.ex = true → o.at_ ≤ o'.at_ ∧ (effE o'.e = true → o.at_ < o'.at_)
  wsl : ws.length = era
  chain : ∃ v, s.vals[0]? = some v ∧ chainR os 0 0 ws = some v
theorem rg0_inv : RgInv rg0 [] 0 0 [] [] :=
  ⟨parseS_nil, rfl, rfl, by simp, by simp [rg0], rfl, Nat.le_refl _, List.nodup_nil, by simp [rg0], by simp, by simp [rg0], by simp [rg0], by simp [rg0], rfl, 0, rfl, rfl⟩
section
variable {s : RgS} {os : List Opr} {era base : Nat} {xs : List Nat} {ws : List (List Int × Int)}
theorem RgInv.op_of (h : RgInv s os era base xs ws) {j : Nat} {o : RgO} (ho : s.ops[j]? = some o) : ∃ p, os[base + j]? = some p := by
  have h1 := (List.getElem?_eq_some_iff.1 ho).1
  have h2 := h.bas
  have h3 := h.len
  exact ⟨os[base + j], List.getElem?_eq_getElem (by omega)⟩
theorem RgInv.of_op (h : RgInv s os era base xs ws) {i : Nat} {p : Opr} (hp : os[i]? = some p) (hb : base ≤ i) : ∃ j o, i = base + j ∧ s.ops[j]? = some o := by
  have h1 := (List.getElem?_eq_some_iff.1 hp).1
  have h2 := h.bas
  have h3 := h.len
  exact ⟨i - base, s.ops[i - base]'(by omega), by omega, List.getElem?_eq_getElem (by omega)⟩
theorem RgInv.find_none (h : RgInv s os era base xs ws) : findO os (s.n : Int) = none := by
  unfold findO
  rw [List.find?_eq_none]
  intro p hp
  obtain ⟨i, hi⟩ := List.mem_iff_getElem?.1 hp
  have h1 := (h.ids i p hi).1
  have h2 := (List.getElem?_eq_some_iff.1 hi).1
  have h3 := h.len
  simp
  omega
theorem RgInv.find_at (h : RgInv s os era base xs ws) {i : Nat} {p : Opr} (hi : os[i]? = some p) : findO os (i : Int) = some p := by
  rcases hf : findO os (i : Int) with _ | p'
  · exact absurd (h.ids i p hi).1 (findO_none hf p (List.mem_of_getElem? hi))
  · obtain ⟨h1, h2⟩ := findO_mem hf
    obtain ⟨j, hj⟩ := List.mem_iff_getElem?.1 h1
    have h3 := (h.ids j p' hj).1
    obtain rfl : i = j := by omega
    rw [hi] at hj
    rw [Option.some.inj hj]
theorem rgEv_proper {k n : Nat} (hk : k < 4) : properB (rgEv k n) = true := by
  have : k = 0 ∨ k = 1 ∨ k = 2 ∨ k = 3 := by omega
  have hn : ¬ ((n : Int) < 0) := by omega
  have hn' : ¬ ((n : Int) + 1 < 0) := by omega
  rcases this with rfl | rfl | rfl | rfl <;> simp [properB, rgEv, flushB, hn, hn']
theorem set_get {α : Type} {l : List α} {k : Nat} {x y z : α} {j : Nat} (hk : l[k]? = some x) (h : (l.set k y)[j]? = some z) : (j = k ∧ z = y) ∨ (j ≠ k ∧ l[j]? = some z) := by
  rw [List.getElem?_set] at h
  by_cases hj : k = j
  · subst hj
    have := (List.getElem?_eq_some_iff.1 hk).1
    rw [if_pos rfl, if_pos this] at h
    exact .inl ⟨rfl, (Option.some.inj h).symm⟩
  · rw [if_neg hj] at h
    exact .inr ⟨fun e => hj e.symm, h⟩
theorem snoc_get {α : Type} {l : List α} {y z : α} {j : Nat} (h : (l ++ [y])[j]? = some z) : (j = l.length ∧ z = y) ∨ (j < l.length ∧ l[j]? = some z) := by
  rcases Nat.lt_or_ge j l.length with hj | hj
  · rw [List.getElem?_append_left hj] at h
    exact .inr ⟨hj, h⟩
  · rw [List.getElem?_append_right hj] at h
    obtain h0 : j - l.length = 0 := by
      have := (List.getElem?_eq_some_iff.1 h).1
      simp at this
      omega
    rw [h0] at h
    exact .inl ⟨by omega, (Option.some.inj h).symm⟩
theorem RgInv.call (h : RgInv s os era base xs ws) {k : Nat} (hk : k < 4) : RgInv (rgCall s k) (os ++ [Opr.of (rgEv k s.n) era s.l.length]) era base xs ws := by
  have hlen := h.len
  have hbas := h.bas
  have hp := parseS_call h.parse (e := rgEv k s.n) h.find_none rfl (rgEv_proper hk)
  refine ⟨hp, by simp [rgCall, hlen], by simp [rgCall]; omega, fun i p hi => ?_, fun j o p ho hp => ?_, h.vpos, h.safe, h.xnd, fun j => ?_, fun m j o hm ho => ?_, fun j o ho hx => ?_, fun j o ho hx => ?_, fun j j' o o' p p' ho ho' hp hp' h1 h2 h3 => ?_, h.wsl, ?_⟩
  · rcases snoc_get hi with ⟨rfl, rfl⟩ | ⟨h1, h2⟩
    · exact ⟨by simp [Opr.of, rgEv, hlen], by simp [Opr.of]; omega, rfl, fun hw => by
        simp only [Opr.of, rgEv] at hw ⊢
        rw [if_pos hw, hlen]⟩
    · exact h.ids i p h2
  · rcases snoc_get ho with ⟨rfl, rfl⟩ | ⟨h1, h2⟩
    · rcases snoc_get hp with ⟨h3, rfl⟩ | ⟨h3, -⟩
      · exact ⟨rfl, by simp [rgEv]; omega, rfl, rfl, rfl, by simp [Opr.of], by simp [Opr.of]⟩
      · omega
    · rcases snoc_get hp with ⟨h3, rfl⟩ | ⟨h3, h4⟩
      · omega
      · exact h.cur j o p h2 h4
  · rw [h.xmem]
    constructor
    · rintro ⟨o, h1, h2⟩
      exact ⟨o, by show (s.ops ++ _)[j]? = _; rw [List.getElem?_append_left (List.getElem?_eq_some_iff.1 h1).1]; exact h1, h2⟩
    · rintro ⟨o, h1, h2⟩
      rcases snoc_get h1 with ⟨rfl, rfl⟩ | ⟨-, h3⟩
      · exact absurd h2.1 (by simp)
      · exact ⟨o, h3, h2⟩
  · obtain ⟨o', h1, h2, -⟩ := (h.xmem j).1 (List.mem_of_getElem? hm)
    rcases snoc_get ho with ⟨rfl, rfl⟩ | ⟨-, h3⟩
    · rw [List.getElem?_eq_none (Nat.le_refl _)] at h1; cases h1
    · exact h.xat m j o hm h3
  · rcases snoc_get ho with ⟨rfl, rfl⟩ | ⟨-, h3⟩
    · cases hx
    · exact h.atb j o h3 hx
  · rcases snoc_get ho with ⟨rfl, rfl⟩ | ⟨-, h3⟩
    · cases hx
    · exact h.dnx j o h3 hx
  · rcases snoc_get ho' with ⟨rfl, rfl⟩ | ⟨hj', h4⟩
    · cases h3
    · rcases snoc_get hp' with ⟨h5, rfl⟩ | ⟨-, h5⟩
      · omega
      · rcases snoc_get hp with ⟨h6, rfl⟩ | ⟨h6, h7⟩
        · exact absurd h1 (by simp [Opr.of])
        · rcases snoc_get ho with ⟨rfl, rfl⟩ | ⟨-, h8⟩
          · omega
          · exact h.prec j j' o o' p p' h8 h4 h7 h5 h1 h2 h3
  · obtain ⟨v, h1, h2⟩ := h.chain
    refine ⟨v, h1, ?_⟩
    rw [← h2]
    refine chain_same ws 0 0 fun j _ hj => ?_
    have := h.wsl
    unfold eraO
    rw [List.filter_append]
    have : ((era : Int) == (j : Int)) = false := by simp; omega
    simp [Opr.of, List.filter, this]
theorem RgInv.last (h : RgInv s os era base xs ws) : s.vals[xs.length]? = some (rgLast s) := by
  have hv := h.vpos
  unfold rgLast
  rw [show s.vals.length - 1 = xs.length by omega, List.getElem?_eq_getElem (by omega)]
  rfl
theorem RgInv.exec (h : RgInv s os era base xs ws) (k : Nat) : ∃ xs', RgInv (rgExec s k) os era base xs' ws := by
  unfold rgExec
  rcases hk : s.ops[k]? with _ | o0
  · exact ⟨xs, h⟩
  · simp only
    by_cases hxt : o0.ex = true
    · rw [if_pos hxt]
      exact ⟨xs, h⟩
    · rw [if_neg hxt]
      have hx0 : o0.ex = false := by simpa using hxt
      have hbas := h.bas
      have hvp := h.vpos
      have hkx : k ∉ xs := fun hm => by
        obtain ⟨o, h1, h2, -⟩ := (h.xmem k).1 hm
        rw [hk] at h1
        cases h1
        rw [hx0] at h2
        cases h2
      have hdn0 : o0.dn = false := by
        rcases hd : o0.dn with _ | _
        · rfl
        · have := (h.dnx k o0 hk hd).1
          rw [hx0] at this
          cases this
      refine ⟨if effE o0.e then xs ++ [k] else xs, ?_⟩
      have hlen' : (if effE o0.e then xs ++ [k] else xs).length + 1 = (rgVals s o0).length := by
        unfold rgVals
        split
        · simp; omega
        · omega
      have hat : (exO s o0).at_ = (if effE o0.e then xs ++ [k] else xs).length := by
        show (rgVals s o0).length - 1 = _
        omega
      have hge : xs.length ≤ (if effE o0.e then xs ++ [k] else xs).length := by split <;> simp
      have hvl : ∀ m : Nat, m ≤ xs.length → (rgVals s o0)[m]? = s.vals[m]? := fun m hm => by
        unfold rgVals
        split
        · rw [List.getElem?_append_left (by omega)]
        · rfl
      refine ⟨h.parse, h.len, by simp; omega, h.ids, fun j o p ho hp => ?_, hlen', Nat.le_trans h.safe hge, ?_, fun j => ?_, fun m j o hm ho => ?_, fun j o ho hx => ?_, fun j o ho hx => ?_, fun j j' o o' p p' ho ho' hp hp' h1 h2 h3 => ?_, h.wsl, ?_⟩
      · rcases set_get hk ho with ⟨rfl, rfl⟩ | ⟨-, ho⟩
        · obtain ⟨a1, a2, a3, a4, a5, a6, a7⟩ := h.cur j o0 p hk hp
          exact ⟨a1, a2, a3, a4, a5, a6, by rw [a7, hdn0]; simp [exO, hdn0]⟩
        · exact h.cur j o p ho hp
      · split
        · rw [List.nodup_append]
          refine ⟨h.xnd, by simp, fun a ha b hb => ?_⟩
          have : b = k := by simpa using hb
          subst this
          rintro rfl
          exact hkx ha
        · exact h.xnd
      · have hm' : j ∈ (if effE o0.e then xs ++ [k] else xs) ↔ j ∈ xs ∨ (j = k ∧ effE o0.e = true) := by
          split
          · rename_i he; simp [he]
          · rename_i he; simp [he]
        rw [hm', h.xmem]
        constructor
        · rintro (⟨o, h1, h2, h3⟩ | ⟨rfl, h1⟩)
          · refine ⟨o, ?_, h2, h3⟩
            show (s.ops.set k _)[j]? = _
            rw [List.getElem?_set_ne, h1]
            rintro rfl
            rw [hk] at h1
            cases h1
            rw [hx0] at h2
            cases h2
          · refine ⟨exO s o0, ?_, rfl, h1⟩
            show (s.ops.set j _)[j]? = _
            rw [List.getElem?_set_self (List.getElem?_eq_some_iff.1 hk).1]
        · rintro ⟨o, h1, h2, h3⟩
          rcases set_get hk h1 with ⟨rfl, rfl⟩ | ⟨-, h1⟩
          · exact .inr ⟨rfl, h3⟩
          · exact .inl ⟨o, h1, h2, h3⟩
      · have hold : ∀ m : Nat, xs[m]? = some j → s.ops[j]? = some o → o.at_ = m + 1 ∧ (rgVals s o0)[m + 1]? = some o.res ∧ (o.e.write = true → o.res = o.e.val) ∧ (o.e.write = false → (rgVals s o0)[m]? = some o.res) := fun m hm ho => by
          have hml := (List.getElem?_eq_some_iff.1 hm).1
          rw [hvl (m + 1) (by omega), hvl m (by omega)]
          exact h.xat m j o hm ho
        rcases set_get hk ho with ⟨rfl, rfl⟩ | ⟨hjk, ho⟩
        · split at hm
          · rename_i he
            rcases snoc_get hm with ⟨rfl, -⟩ | ⟨-, hm⟩
            · have hl := h.last
              refine ⟨by rw [hat, if_pos he]; simp, ?_, fun hw => ?_, fun hw => ?_⟩
              · show (rgVals s o0)[xs.length + 1]? = some (rgRes s o0)
                unfold rgVals
                rw [if_pos he, hvp, List.getElem?_append_right (Nat.le_refl _)]
                simp
              · show rgRes s o0 = o0.e.val
                have hw' : o0.e.write = true := hw
                unfold rgRes
                rw [if_pos hw']
              · show (rgVals s o0)[xs.length]? = some (rgRes s o0)
                have hw' : o0.e.write = false := hw
                rw [hvl _ (Nat.le_refl _), hl]
                unfold rgRes
                rw [hw']
                rfl
            · exact absurd (List.mem_of_getElem? hm) hkx
          · exact absurd (List.mem_of_getElem? hm) hkx
        · split at hm
          · rcases snoc_get hm with ⟨-, rfl⟩ | ⟨-, hm⟩
            · exact absurd rfl hjk
            · exact hold m hm ho
          · exact hold m hm ho
      · rcases set_get hk ho with ⟨rfl, rfl⟩ | ⟨-, ho⟩
        · rw [hat]
          exact Nat.le_refl _
        · exact Nat.le_trans (h.atb j o ho hx) hge
      · rcases set_get hk ho with ⟨rfl, rfl⟩ | ⟨-, ho⟩
        · exact absurd hx (by simp [exO, hdn0])
        · exact h.dnx j o ho hx
      · rcases set_get hk ho with ⟨rfl, rfl⟩ | ⟨-, ho⟩
        · obtain ⟨p0, hp0⟩ := h.op_of hk
          rw [hp] at hp0
          cases hp0
          have := (h.cur j o0 p hk hp).dn
          rw [hdn0] at this
          exact absurd (this.2 h1) (by simp)
        · have hxo : o.ex = true := (h.dnx j o ho ((h.cur j o p ho hp).dn.2 h1)).1
          have hao := h.atb j o ho hxo
          rcases set_get hk ho' with ⟨rfl, rfl⟩ | ⟨-, ho'⟩
          · rw [hat]
            refine ⟨by omega, fun he => ?_⟩
            have he' : effE o0.e = true := he
            rw [if_pos he']
            simp
            omega
          · exact h.prec j j' o o' p p' ho ho' hp hp' h1 h2 h3
      · obtain ⟨v, h1, h2⟩ := h.chain
        exact ⟨v, by show (rgVals s o0)[0]? = _; rw [hvl 0 (Nat.zero_le _)]; exact h1, h2⟩
theorem RgInv.done (h : RgInv s os era base xs ws) (k : Nat) : ∃ os', RgInv (rgDone s k) os' era base xs ws := by
  unfold rgDone
  rcases hk : s.ops[k]? with _ | o0
  · exact ⟨os, h⟩
  · simp only
    rcases hc : (o0.ex && !o0.dn) with _ | _
    · exact ⟨os, h⟩
    · simp only [if_true]
      have hx0 : o0.ex = true := by rw [Bool.and_eq_true] at hc; exact hc.1
      have hd0 : o0.dn = false := by rw [Bool.and_eq_true] at hc; simpa using hc.2
      have hbas := h.bas
      obtain ⟨p0, hp0⟩ := h.op_of hk
      obtain ⟨a1, a2, a3, a4, a5, a6, a7⟩ := h.cur k o0 p0 hk hp0
      obtain ⟨b1, b2, b3, b4⟩ := h.ids _ p0 hp0
      have hpd : p0.done < 0 := by
        rcases Int.lt_or_le p0.done 0 with hh | hh
        · exact hh
        · have := a6.2 hh
          rw [hd0] at this
          cases this
      have hf : findO os (doneE o0).op = some p0 := by
        show findO os o0.e.op = _
        rw [a2]
        exact h.find_at hp0
      have hpar := parseS_done h.parse (e := doneE o0) hf hpd (b2.2 (by omega)) rfl (by show o0.e.write = _; rw [a4]) (by show o0.e.reg = _; rw [a3, b3]) (by show o0.e.barrier = _; rw [a5])
        (by
          show (o0.e.write = false ∧ o0.e.barrier = false) ∨ (if !o0.e.write && !o0.e.barrier then o0.res else o0.e.val) = p0.val
          rw [a7, hd0]
          cases hw : o0.e.write <;> cases hb : o0.e.barrier <;> simp)
      have hfin : ∀ (i : Nat) (p : Opr), os[i]? = some p → Opr.fin (doneE o0) s.l.length p = if i = base + k then { p with val := (doneE o0).val, done := (s.l.length : Int) } else p := fun i p hi => by
        unfold Opr.fin
        have h1 := (h.ids i p hi).1
        have h2 : (doneE o0).op = ((base + k : Nat) : Int) := a2
        by_cases hik : i = base + k
        · rw [if_pos hik, if_pos (by rw [h1, h2, hik])]
        · rw [if_neg hik, if_neg (by rw [h1, h2]; omega)]
      have hget : ∀ (i : Nat) (p : Opr), (os.map (Opr.fin (doneE o0) s.l.length))[i]? = some p → ∃ q, os[i]? = some q ∧ p = if i = base + k then { q with val := (doneE o0).val, done := (s.l.length : Int) } else q := fun i p hi => by
        rw [List.getElem?_map] at hi
        obtain ⟨q, hq, rfl⟩ := Option.map_eq_some_iff.1 hi
        exact ⟨q, hq, hfin i q hq⟩
      refine ⟨_, hpar, by simp [h.len], by simp; omega, fun i p hi => ?_, fun j o p ho hp => ?_, h.vpos, ?_, h.xnd, fun j => ?_, fun m j o hm ho => ?_, fun j o ho hx => ?_, fun j o ho hx => ?_, fun j j' o o' p p' ho ho' hp hp' h1 h2 h3 => ?_, h.wsl, ?_⟩
      · obtain ⟨q, hq, rfl⟩ := hget i p hi
        have := h.ids i q hq
        split
        · rename_i hik
          subst hik
          rw [hp0] at hq
          cases hq
          refine ⟨b1, b2, b3, fun hw => ?_⟩
          have hw' : o0.e.write = true := by rw [← a4]; exact hw
          show (if !o0.e.write && !o0.e.barrier then o0.res else o0.e.val) = _
          rw [← b4 hw, a7, hd0, hw']
          simp
        · exact this
      · obtain ⟨q, hq, rfl⟩ := hget _ p hp
        rcases set_get hk ho with ⟨rfl, rfl⟩ | ⟨hne, ho⟩
        · rw [hp0] at hq
          cases hq
          rw [if_pos rfl]
          exact ⟨a1, a2, a3, a4, a5, by simp, by simp [doneE]⟩
        · rw [if_neg (by omega)]
          exact h.cur j o q ho hq
      · show (if o0.e.barrier then max s.safe o0.at_ else s.safe) ≤ _
        have h1 := h.safe
        have h2 := h.atb k o0 hk hx0
        split <;> omega
      · rw [h.xmem]
        constructor
        · rintro ⟨o, h1, h2, h3⟩
          by_cases hj : k = j
          · subst hj
            rw [hk] at h1
            cases h1
            exact ⟨⟨o0.e, o0.ex, true, o0.res, o0.at_⟩, by show (s.ops.set k _)[k]? = _; rw [List.getElem?_set_self (List.getElem?_eq_some_iff.1 hk).1], h2, h3⟩
          · exact ⟨o, by show (s.ops.set k _)[j]? = _; rw [List.getElem?_set_ne hj]; exact h1, h2, h3⟩
        · rintro ⟨o, h1, h2, h3⟩
          rcases set_get hk h1 with ⟨rfl, rfl⟩ | ⟨-, h1⟩
          · exact ⟨o0, hk, hx0, h3⟩
          · exact ⟨o, h1, h2, h3⟩
      · rcases set_get hk ho with ⟨rfl, rfl⟩ | ⟨-, ho⟩
        · exact h.xat m j o0 hm hk
        · exact h.xat m j o hm ho
      · rcases set_get hk ho with ⟨rfl, rfl⟩ | ⟨-, ho⟩
        · exact h.atb j o0 hk hx0
        · exact h.atb j o ho hx
      · rcases set_get hk ho with ⟨rfl, rfl⟩ | ⟨-, ho⟩
        · refine ⟨hx0, fun hb => ?_⟩
          show o0.at_ ≤ (if o0.e.barrier then max s.safe o0.at_ else s.safe)
          rw [if_pos hb]
          omega
        · obtain ⟨c1, c2⟩ := h.dnx j o ho hx
          refine ⟨c1, fun hb => ?_⟩
          have := c2 hb
          show o.at_ ≤ (if o0.e.barrier then max s.safe o0.at_ else s.safe)
          split <;> omega
      · obtain ⟨q, hq, rfl⟩ := hget _ p hp
        obtain ⟨q', hq', rfl⟩ := hget _ p' hp'
        have hcall := (parseS_inv h.parse).call q' (List.mem_of_getElem? hq')
        have hcl : (if base + j' = base + k then { q' with val := (doneE o0).val, done := (s.l.length : Int) } else q').call = q'.call := by split <;> rfl
        rw [hcl] at h2
        by_cases hjk : j = k
        · subst hjk
          rw [if_pos rfl] at h2
          simp only at h2
          omega
        · rw [if_neg (by omega)] at h1 h2
          have ho1 : s.ops[j]? = some o := by
            rcases set_get hk ho with ⟨rfl, -⟩ | ⟨-, ho⟩
            · exact absurd rfl hjk
            · exact ho
          rcases set_get hk ho' with ⟨rfl, rfl⟩ | ⟨-, ho'⟩
          · exact h.prec j j' o o0 q q' ho1 hk hq hq' h1 h2 hx0
          · exact h.prec j j' o o' q q' ho1 ho' hq hq' h1 h2 h3
      · obtain ⟨v, h1, h2⟩ := h.chain
        refine ⟨v, h1, ?_⟩
        rw [← h2]
        refine chain_same ws 0 0 fun j _ hj => ?_
        have hw := h.wsl
        unfold eraO
        have hera : ∀ p : Opr, (Opr.fin (doneE o0) s.l.length p).era = p.era := fun p => by unfold Opr.fin; split <;> rfl
        rw [List.filter_map]
        have : ((fun o : Opr => o.era == (j : Int)) ∘ Opr.fin (doneE o0) s.l.length) = fun o => o.era == (j : Int) := by
          funext p
          simp [hera]
        rw [this]
        refine List.map_congr_left (g := id) (fun p hp => ?_) |>.trans (List.map_id _)
        obtain ⟨hp1, hp2⟩ := List.mem_filter.1 hp
        obtain ⟨i, hi⟩ := List.mem_iff_getElem?.1 hp1
        have he : p.era = (j : Int) := by simpa using hp2
        have hib := (h.ids i p hi).2.1
        rw [hfin i p hi, if_neg]
        · rfl
        · rintro rfl
          have := hib.2 (by omega)
          omega
end
end Go.Proofs.YtcgbnlhloopnfaaDoor
namespace Go.Proofs.YtcgbnlhloopnfaaDoor

section
variable {s : RgS} {os : List Opr} {era base : Nat} {xs : List Nat} {ws : List (List Int × Int)}
theorem RgInv.nd (h : RgInv s os era base xs ws) : (os.map (·.id)).Nodup := (parseS_inv h.parse).ids
/-- the executed reads and writes of the era, in the order in which they were executed -/
def rgRun (os : List Opr) (base : Nat) (xs : List Nat) : List Opr := xs.map fun j => opAt os (base + j)
theorem rgRun_at {m j : Nat} (h : xs[m]? = some j) : (rgRun os base xs)[m]? = some (opAt os (base + j)) := by unfold rgRun; rw [List.getElem?_map, h]; rfl
theorem rgRun_of {m : Nat} {p : Opr} (h : (rgRun os base xs)[m]? = some p) : ∃ j, xs[m]? = some j ∧ p = opAt os (base + j) := by
  unfold rgRun at h
  rw [List.getElem?_map] at h
  obtain ⟨j, h1, h2⟩ := Option.map_eq_some_iff.1 h
  exact ⟨j, h1, h2.symm⟩
theorem RgInv.run_op (h : RgInv s os era base xs ws) {m j : Nat} (hm : xs[m]? = some j) : ∃ o, s.ops[j]? = some o ∧ o.ex = true ∧ effE o.e = true ∧ os[base + j]? = some (opAt os (base + j)) ∧ RgM o (opAt os (base + j)) (base + j) := by
  obtain ⟨o, h1, h2, h3⟩ := (h.xmem j).1 (List.mem_of_getElem? hm)
  obtain ⟨p, hp⟩ := h.op_of h1
  rw [opAt_of hp]
  exact ⟨o, h1, h2, h3, hp, h.cur j o p h1 hp⟩
theorem RgInv.vals_run (h : RgInv s os era base xs ws) {v0 : Int} (hv : s.vals[0]? = some v0) : ∀ m, m ≤ xs.length → s.vals[m]? = some (runV v0 ((rgRun os base xs).take m)) := by
  intro m
  induction m with
  | zero => intro _; rw [hv]; rfl
  | succ m ih =>
    intro hm
    obtain ⟨j, hj⟩ : ∃ j, xs[m]? = some j := ⟨xs[m], List.getElem?_eq_getElem (by omega)⟩
    obtain ⟨o, h1, h2, h3, h4, h5⟩ := h.run_op hj
    obtain ⟨a1, a2, a3, a4⟩ := h.xat m j o hj h1
    have hi := ih (by omega)
    rw [List.take_add_one, rgRun_at hj, runV_app, a2]
    simp only [Option.toList_some, runV_cons]
    show _ = some (runV (valTo (opAt os (base + j)) _) [])
    unfold runV valTo
    simp only [List.foldl_nil]
    rw [h5.w]
    rcases hw : o.e.write with _ | _
    · have := a4 hw
      rw [hi] at this
      simp only [Bool.false_eq_true, if_false]
      exact this.symm
    · rw [if_pos rfl, a3 hw, h5.val, hw]
      simp
theorem effE_eq {o : RgO} {p : Opr} {i : Nat} (h : RgM o p i) : effB p = effE o.e := by unfold effB effE; rw [h.w, h.b]
theorem RgInv.in_era (h : RgInv s os era base xs ws) {p : Opr} : p ∈ (eraO os (era : Int)).filter effB ↔ ∃ j o, s.ops[j]? = some o ∧ os[base + j]? = some p ∧ effE o.e = true := by
  unfold eraO
  rw [List.mem_filter, List.mem_filter]
  constructor
  · rintro ⟨⟨h1, h2⟩, h3⟩
    obtain ⟨i, hi⟩ := List.mem_iff_getElem?.1 h1
    obtain ⟨j, o, rfl, ho⟩ := h.of_op hi (((h.ids i p hi).2.1).1 (by simpa using h2))
    exact ⟨j, o, ho, hi, by rw [← effE_eq (h.cur j o p ho hi)]; exact h3⟩
  · rintro ⟨j, o, h1, h2, h3⟩
    refine ⟨⟨List.mem_of_getElem? h2, ?_⟩, by rw [effE_eq (h.cur j o p h1 h2)]; exact h3⟩
    have := ((h.ids _ p h2).2.1).2 (by omega)
    simpa using this
theorem RgInv.in_all (h : RgInv s os era base xs ws) {p : Opr} (hp : p ∈ eraO os (era : Int)) : ∃ j o, s.ops[j]? = some o ∧ os[base + j]? = some p := by
  unfold eraO at hp
  obtain ⟨h1, h2⟩ := List.mem_filter.1 hp
  obtain ⟨i, hi⟩ := List.mem_iff_getElem?.1 h1
  obtain ⟨j, o, rfl, ho⟩ := h.of_op hi (((h.ids i p hi).2.1).1 (by simpa using h2))
  exact ⟨j, o, ho, hi⟩
/-- the era so far, explained -/
theorem RgInv.expl (h : RgInv s os era base xs ws) {K : Nat} (hK : s.safe ≤ K) (hKx : K ≤ xs.length) {v0 : Int} (hv : s.vals[0]? = some v0) :
    ∃ w : List Int × Int, keptOk false w = true ∧ (xs.length ≤ K → w.2 = (w.1.length : Int)) ∧ ∃ v, s.vals[K]? = some v ∧ followR (eraO os (era : Int)) (durR (eraO os (era : Int))) w.2 v0 w.1 = some v := by
  have hlen : (rgRun os base xs).length = xs.length := by simp [rgRun]
  have hids : ((eraO os (era : Int)).map (·.id)).Nodup := List.Nodup.sublist (List.Sublist.map _ List.filter_sublist) h.nd
  have hb : ∀ (m j : Nat) (o : RgO), xs[m]? = some j → s.ops[j]? = some o → o.at_ = m + 1 := fun m j o h1 h2 => (h.xat m j o h1 h2).1
  obtain ⟨w, w1, w2, w3⟩ := run_expl hids (durR (eraO os (era : Int))) (rgRun os base xs) v0 K
    (fun p hp => by
      obtain ⟨m, hm⟩ := List.mem_iff_getElem?.1 hp
      obtain ⟨j, hj, rfl⟩ := rgRun_of hm
      obtain ⟨o, h1, h2, h3, h4, -⟩ := h.run_op hj
      exact h.in_era.2 ⟨j, o, h1, h4, h3⟩)
    (by
      show List.Pairwise (· ≠ ·) _
      unfold rgRun
      rw [List.map_map, List.pairwise_map]
      refine List.Pairwise.imp_of_mem (fun {a b} ha hb hne => ?_) h.xnd
      obtain ⟨ma, ha⟩ := List.mem_iff_getElem?.1 ha
      obtain ⟨mb, hb⟩ := List.mem_iff_getElem?.1 hb
      obtain ⟨-, -, -, -, a1, -⟩ := h.run_op ha
      obtain ⟨-, -, -, -, b1, -⟩ := h.run_op hb
      have e1 := (h.ids _ _ a1).1
      have e2 := (h.ids _ _ b1).1
      simp only [Function.comp]
      omega)
    (fun p hp hd => by
      obtain ⟨j, o, h1, h2, h3⟩ := h.in_era.1 hp
      have hx := (h.dnx j o h1 ((h.cur j o p h1 h2).dn.2 hd)).1
      have hm := (h.xmem j).2 ⟨o, h1, hx, h3⟩
      unfold rgRun
      exact List.mem_map.2 ⟨j, hm, opAt_of h2⟩)
    (by
      unfold rgRun
      rw [List.pairwise_map, List.pairwise_iff_getElem]
      intro m m' hm hm' hlt
      obtain ⟨o, h1, h2, h3, h4, h5⟩ := h.run_op (List.getElem?_eq_getElem hm)
      obtain ⟨o', h1', h2', h3', h4', h5'⟩ := h.run_op (List.getElem?_eq_getElem hm')
      rcases hp : precO (opAt os (base + xs[m'])) (opAt os (base + xs[m])) with _ | _
      · rfl
      · unfold precO at hp
        simp at hp
        have := (h.prec _ _ o' o _ _ h1' h1 h4' h4 hp.1 hp.2 h2).1
        rw [hb m' _ o' (List.getElem?_eq_getElem hm') h1', hb m _ o (List.getElem?_eq_getElem hm) h1] at this
        omega)
    (fun m p hp hw hd => by
      obtain ⟨j, hj, rfl⟩ := rgRun_of hp
      obtain ⟨o, h1, h2, h3, h4, h5⟩ := h.run_op hj
      have hml := (List.getElem?_eq_some_iff.1 hj).1
      have hvr := h.vals_run hv m (by omega)
      have hw' : o.e.write = false := by rw [← h5.w]; exact hw
      have hbr : o.e.barrier = false := by
        unfold effE at h3
        rw [hw'] at h3
        simpa using h3
      have h6 := (h.xat m j o hj h1).2.2.2 hw'
      rw [hvr] at h6
      rw [h5.val, h5.dn.2 hd, hw', hbr]
      simp
      exact (Option.some.inj h6).symm)
    (fun p hp => by
      obtain ⟨m, hm⟩ := List.mem_iff_getElem?.1 hp
      rw [List.getElem?_drop] at hm
      obtain ⟨j, hj, rfl⟩ := rgRun_of hm
      obtain ⟨o, h1, h2, h3, h4, h5⟩ := h.run_op hj
      have ha := hb _ j o hj h1
      rcases hq : durR (eraO os (era : Int)) (opAt os (base + j)) with _ | _
      · rfl
      · unfold durR at hq
        rw [Bool.and_eq_true, Bool.or_eq_true] at hq
        obtain ⟨q1, q2⟩ := hq
        have hd : 0 ≤ (opAt os (base + j)).done := by simpa using q1
        rcases q2 with q2 | q2
        · rw [Bool.and_eq_true, h5.w, h5.b] at q2
          have := (h.dnx j o h1 (h5.dn.2 hd)).2 q2.2
          omega
        · obtain ⟨b, hbm, hbq⟩ := List.any_eq_true.1 q2
          obtain ⟨j', o', c1, c2⟩ := h.in_all hbm
          have hM := h.cur j' o' b c1 c2
          simp at hbq
          have hd' := hM.dn.2 hbq.1.2
          obtain ⟨d1, d2⟩ := h.dnx j' o' c1 hd'
          have d3 := d2 (by rw [← hM.b]; exact hbq.1.1)
          have := (h.prec j j' o o' _ b h1 c1 h4 c2 hd hbq.2 d1).1
          omega)
  exact ⟨w, w1, fun hq => w2 (by rw [hlen]; exact hq), _, h.vals_run hv K hKx, w3⟩
theorem RgInv.kept (h : RgInv s os era base xs ws) (which : Nat) : s.safe ≤ rgKept s which ∧ rgKept s which ≤ xs.length := by
  have h1 := h.vpos
  have h2 := h.safe
  unfold rgKept
  have h3 := Nat.mod_lt which (show 0 < s.vals.length - min s.safe (s.vals.length - 1) by omega)
  omega
theorem RgInv.cut (h : RgInv s os era base xs ws) (which : Nat) : ∃ ws', RgInv (rgCut s which) os (era + 1) s.n [] ws' := by
  obtain ⟨k1, k2⟩ := h.kept which
  obtain ⟨v0, c1, c2⟩ := h.chain
  obtain ⟨w, w1, -, v, w3, w4⟩ := h.expl k1 k2 c1
  have hl := h.len
  have hp := parseS_cut h.parse
  refine ⟨ws ++ [w], by exact_mod_cast hp, hl, by simp [rgCut], fun i p hi => ?_, fun j o p ho hp => by simp [rgCut] at ho, rfl, Nat.zero_le _, List.nodup_nil, fun j => by simp [rgCut], by simp, fun j o ho => by simp [rgCut] at ho, fun j o ho => by simp [rgCut] at ho, fun j j' o o' p p' ho => by simp [rgCut] at ho, by simp [h.wsl], v, ?_, ?_⟩
  · obtain ⟨a1, a2, a3, a3'⟩ := h.ids i p hi
    have a4 := (List.getElem?_eq_some_iff.1 hi).1
    have hera : p.era ≤ era := by
      have := h.parse
      unfold parseS at this
      obtain ⟨b1, b2⟩ := hist_to s.l s.l.length (Nat.le_refl _)
      rw [this] at b1
      split at b1
      · rename_i hvl
        have hinv := b2 hvl
        have e := Option.some.inj b1
        have hf := h.find_at hi
        rw [← e] at hinv
        obtain ⟨-, -, -, i', -, g1, g2⟩ := hinv.op _ _ hf
        have g3 := hinv.era
        simp only at g3
        rw [g2]
        have : cutsN s.l i' ≤ cutsN s.l s.l.length := by
          unfold cutsN
          have hsub : (s.l.take i').Sublist (s.l.take s.l.length) := by
            rw [List.take_length]
            exact List.take_sublist _ _
          have := hsub.countP_le (p := fun e => e.kind == 3)
          omega
        omega
      · cases b1
    refine ⟨a1, ?_, a3, a3'⟩
    constructor
    · intro hh; omega
    · intro hh; omega
  · show [(s.vals[rgKept s which]?).getD 0][0]? = some v
    rw [w3]
    rfl
  · refine chain_snoc w1 ws 0 0 v0 c2 ?_
    rw [Nat.zero_add, h.wsl]
    exact w4
theorem RgInv.step (h : RgInv s os era base xs ws) (a : RgA) : ∃ os' era' base' xs' ws', RgInv (rgStep s a) os' era' base' xs' ws' := by
  unfold rgStep
  split
  · rename_i hk
    exact ⟨_, _, _, _, _, h.call hk⟩
  · split
    · obtain ⟨xs', h'⟩ := h.exec (rgIx s a)
      exact ⟨_, _, _, _, _, h'⟩
    · split
      · obtain ⟨os', h'⟩ := h.done (rgIx s a)
        exact ⟨_, _, _, _, _, h'⟩
      · obtain ⟨ws', h'⟩ := h.cut a.which
        exact ⟨_, _, _, _, _, h'⟩
end
theorem rg_inv (sc : List RgA) : ∀ k, ∃ os era base xs ws, RgInv (rgTo sc k) os era base xs ws := by
  intro k
  induction k with
  | zero => exact ⟨_, _, _, _, _, rg0_inv⟩
  | succ k ih =>
    obtain ⟨os, era, base, xs, ws, h⟩ := ih
    rcases hk : sc[k]? with _ | a
    · refine ⟨os, era, base, xs, ws, ?_⟩
      simp only [rgTo, hk]
      exact h
    · rw [rgTo_succ hk]
      exact h.step a
theorem rgTo_n (sc : List RgA) : ∀ k, (rgTo sc k).n ≤ k ∧ (rgTo sc k).l.length ≤ k := by
  intro k
  induction k with
  | zero => exact ⟨Nat.le_refl _, Nat.le_refl _⟩
  | succ k ih =>
    rcases hk : sc[k]? with _ | a
    · simp only [rgTo, hk]
      omega
    · rw [rgTo_succ hk]
      have : (rgStep (rgTo sc k) a).n ≤ (rgTo sc k).n + 1 ∧ (rgStep (rgTo sc k) a).l.length ≤ (rgTo sc k).l.length + 1 := by
        unfold rgStep
        split
        · simp [rgCall]
        · split
          · unfold rgExec
            split
            · simp
            · split <;> simp
          · split
            · unfold rgDone
              split
              · simp
              · split <;> simp
            · simp [rgCut]
      omega
/-- the history of a register: valid, explained; its operations all name register 0 -/
theorem rg_law (sc : List RgA) (k : Nat) : validL (rgTo sc k).l = true ∧ ExpO (rawOps (rgTo sc k).l) (cutsL (rgTo sc k).l) 0 0 ∧ ∀ p ∈ rawOps (rgTo sc k).l, p.reg = 0 ∧ (p.write = true → 1 ≤ p.val ∧ p.val ≤ k) := by
  obtain ⟨os, era, base, xs, ws, h⟩ := rg_inv sc k
  obtain ⟨b1, b2⟩ := hist_to (rgTo sc k).l (rgTo sc k).l.length (Nat.le_refl _)
  have hp := h.parse
  unfold parseS at hp
  rw [hp] at b1
  split at b1
  · rename_i hvl
    have e := Option.some.inj b1
    have hera := (b2 hvl).era
    rw [← e] at hera
    have hraw : rawOps (rgTo sc k).l = os := by unfold rawOps; rw [← e]
    have hcut : cutsL (rgTo sc k).l = era := by
      unfold cutsN at hera
      simp only [List.take_length] at hera
      unfold cutsL
      exact_mod_cast hera.symm
    refine ⟨hvl, ?_, fun p hpm => ?_⟩
    · rw [hraw, hcut]
      obtain ⟨v0, c1, c2⟩ := h.chain
      obtain ⟨w, w1, w2, v, w3, w4⟩ := h.expl h.safe (Nat.le_refl _) c1
      have w2' := w2 (Nat.le_refl _)
      refine ⟨ws ++ [w], by simp [h.wsl], ?_⟩
      rw [acc_eq h.nd]
      refine accR_chain w2' ws 0 0 v0 (by rw [h.wsl]; omega) c2 (v' := v) ?_
      rw [w2']
      rw [w2'] at w4
      rw [← follow_last (eraO os (era : Int)) (durR (eraO os (era : Int))) (fun _ => false) v0 w.1]
      exact w4
    · rw [hraw] at hpm
      obtain ⟨i, hi⟩ := List.mem_iff_getElem?.1 hpm
      obtain ⟨-, -, h3, h4⟩ := h.ids i p hi
      refine ⟨h3, fun hw => ?_⟩
      rw [h4 hw]
      have h5 := (List.getElem?_eq_some_iff.1 hi).1
      have h6 := h.len
      have h7 := rgTo_n sc k
      omega
  · cases b1
end Go.Proofs.YtcgbnlhloopnfaaDoor
namespace Go.Proofs.YtcgbnlhloopnfaaDoor

theorem mem_inj {os : List Opr} (h : (os.map (·.id)).Nodup) {a b : Opr} (ha : a ∈ os) (hb : b ∈ os) (hid : a.id = b.id) : a = b := by
  obtain ⟨i, hi, rfl⟩ := List.getElem_of_mem ha
  obtain ⟨j, hj, rfl⟩ := List.getElem_of_mem hb
  have : i = j := by
    refine (List.getElem_inj (xs := os.map (·.id)) (h₀ := by simpa using hi) (h₁ := by simpa using hj) h).1 ?_
    simpa using hid
  subst this
  rfl
def setV (op v : Int) (o : Opr) : Opr := if o.id = op then { o with val := v } else o
def chgE (e : Ev) (v : Int) : Ev := { e with val := v }
theorem setV_id (op v : Int) (o : Opr) : (setV op v o).id = o.id := by unfold setV; split <;> rfl
theorem findO_setV {os : List Opr} {op v x : Int} : findO (os.map (setV op v)) x = (findO os x).map (setV op v) := by
  unfold findO
  rw [List.find?_map]
  congr 2
  funext o
  simp [setV_id]
theorem parseTo_set_low {l : List Ev} {i : Nat} (hi : i < l.length) (e' : Ev) {k : Nat} (hk : k ≤ i) : parseTo (l.set i e') k = parseTo l k := by
  have h1 : l.set i e' = l.take i ++ e' :: l.drop (i + 1) := by rw [List.set_eq_take_append_cons_drop, if_pos hi]
  have h2 : l = l.take i ++ l.drop i := (List.take_append_drop i l).symm
  have hl : (l.take i).length = i := by rw [List.length_take]; omega
  rw [h1, parseTo_left _ _ _ (by omega)]
  conv => rhs; rw [h2]
  rw [parseTo_left _ _ _ (by omega)]
theorem fin_setV {e : Ev} {k : Nat} {op v : Int} (h : e.op ≠ op) (o : Opr) : Opr.fin e k (setV op v o) = setV op v (Opr.fin e k o) := by
  unfold Opr.fin setV
  by_cases h1 : o.id = op
  · have h2 : ¬ o.id = e.op := fun h3 => h (by rw [← h3, h1])
    have h3 : ¬ op = e.op := fun h4 => h h4.symm
    simp [h1, h3]
  · by_cases h2 : o.id = e.op
    · simp [h2, h]
    · simp [h1, h2]
theorem parse_changed {l : List Ev} {i : Nat} {e : Ev} (he : l[i]? = some e) (hk2 : e.kind = 2) (hw : e.write = false) (hb : e.barrier = false) (v : Int) (k : Nat) (hik : i < k) (hk : k ≤ l.length) {st : List Opr × Int} (h : parseTo l k = some st) :
    parseTo (l.set i (chgE e v)) k = some (st.1.map (setV e.op v), st.2) ∧ ∃ o ∈ st.1, o.id = e.op ∧ 0 ≤ o.done ∧ o.write = false ∧ o.barrier = false := by
  have hil : i < l.length := (List.getElem?_eq_some_iff.1 he).1
  induction k generalizing st with
  | zero => omega
  | succ k ih =>
    rcases hp : parseTo l k with _ | st0
    · simp only [parseTo, hp] at h
      cases h
    · have hlk : l[k]? = some l[k] := List.getElem?_eq_getElem (by omega)
      have hs := (parseTo_at hp hlk).symm.trans h
      have hinv := PInv.to hp
      rcases Nat.lt_or_ge i k with hlt | hge
      · -- behind the place
        obtain ⟨h1, o1, ho1, ho2, ho3, ho4⟩ := ih hlt (by omega) hp
        have hlk' : (l.set i (chgE e v))[k]? = some l[k] := by rw [List.getElem?_set_ne (by omega)]; exact hlk
        have hpc := pcall_to (by omega) hp
        generalize l[k] = e2 at *
        have hne : ∀ o, findO st0.1 e2.op = some o → o.done < 0 → e2.op ≠ e.op := by
          intro o h2 h3 h4
          have h5 := findO_mem h2
          have := mem_inj hinv.ids h5.1 ho1 (by rw [h5.2, h4, ho2])
          subst this
          omega
        have hne1 : findO st0.1 e2.op = none → e2.op ≠ e.op := by
          intro h2 h3
          exact findO_none h2 o1 ho1 (by rw [ho2, h3])
        rw [parseTo_at h1 hlk']
        unfold pStep at hs ⊢
        simp only [findO_setV] at *
        split at hs
        · rename_i hk1
          rw [if_pos hk1]
          split at hs
          · cases hs
          · rename_i hf
            split at hs
            · rename_i hpr
              cases hs
              rw [hf]
              simp only [Option.map_none, hpr, if_true]
              refine ⟨?_, o1, List.mem_append.2 (.inl ho1), ho2, ho3, ho4⟩
              rw [List.map_append]
              have : setV e.op v (Opr.of e2 st0.2 k) = Opr.of e2 st0.2 k := by
                unfold setV
                rw [if_neg]
                exact hne1 hf
              simp [this]
            · cases hs
        · rename_i hk1
          rw [if_neg hk1]
          split at hs
          · rename_i hk3
            rw [if_pos hk3]
            split at hs
            · cases hs
            · rename_i o hf
              rw [hf]
              simp only [Option.map_some]
              unfold pDone at hs ⊢
              split at hs
              · cases hs
              · rename_i hd
                split at hs
                · cases hs
                · rename_i her
                  have hop := hne o hf (by omega)
                  have hso : setV e.op v o = o := by
                    unfold setV
                    rw [if_neg]
                    rw [(findO_mem hf).2]
                    exact hop
                  rw [hso, if_neg hd, if_neg her]
                  have hcall := hpc o (findO_mem hf).1 (by omega)
                  have hci : o.call.toNat ≠ i := by
                    intro h2
                    rw [h2, he] at hcall
                    have := congrArg Ev.kind (Option.some.inj hcall)
                    simp only [callOf] at this
                    omega
                  rw [List.getElem?_set_ne (fun h2 => hci h2.symm)]
                  rw [hcall] at hs ⊢
                  simp only at hs ⊢
                  split at hs
                  · rename_i ha
                    cases hs
                    rw [if_pos ha]
                    refine ⟨?_, Opr.fin e2 k o1, List.mem_map.2 ⟨o1, ho1, rfl⟩, by rw [fin_id]; exact ho2, ?_, by unfold Opr.fin; split <;> exact ho4⟩
                    · simp only [List.map_map]
                      congr 2
                      refine List.map_congr_left fun x _ => ?_
                      exact fin_setV hop x
                    · unfold Opr.fin
                      split
                      · simp
                      · exact ho3
                  · cases hs
          · rename_i hk3
            rw [if_neg hk3]
            split at hs
            · rename_i hk4
              rw [if_pos hk4]
              split at hs
              · rename_i hcut
                cases hs
                rw [if_pos hcut]
                exact ⟨rfl, o1, ho1, ho2, ho3, ho4⟩
              · cases hs
            · cases hs
      · -- at the place
        obtain rfl : i = k := by omega
        have hei : l[i] = e := by rw [hlk] at he; exact Option.some.inj he
        rw [hei] at hs
        have hlk' : (l.set i (chgE e v))[i]? = some (chgE e v) := List.getElem?_set_self hil
        have hp' : parseTo (l.set i (chgE e v)) i = some st0 := by rw [parseTo_set_low hil _ (Nat.le_refl _)]; exact hp
        rw [parseTo_at hp' hlk']
        unfold pStep at hs ⊢
        have k1 : (chgE e v).kind = 2 := hk2
        have k2 : (chgE e v).op = e.op := rfl
        rw [if_neg (by omega), if_pos hk2] at hs
        rw [if_neg (by omega), if_pos k1, k2]
        split at hs
        · cases hs
        · rename_i o hf
          unfold pDone at hs ⊢
          split at hs
          · cases hs
          · rename_i hd
            split at hs
            · cases hs
            · rename_i her
              rw [if_neg hd, if_neg her]
              have hci := hinv.call o (findO_mem hf).1
              rw [List.getElem?_set_ne (by omega)]
              split at hs
              · rename_i c hc
                have ha' : ansOk (chgE e v) c = ansOk e c := by
                  unfold ansOk chgE
                  simp [hw, hb]
                rw [ha']
                split at hs
                · rename_i ha
                  have hrd : o.write = false ∧ o.barrier = false := by
                    have hcall := pcall_to (by omega) hp o (findO_mem hf).1 (by omega)
                    rw [hc] at hcall
                    have hcc := Option.some.inj hcall
                    subst hcc
                    simp only [ansOk, callOf, Bool.and_eq_true, beq_iff_eq] at ha
                    exact ⟨by rw [← ha.1.1.1.2]; exact hw, by rw [← ha.2]; exact hb⟩
                  cases hs
                  rw [if_pos ha]
                  refine ⟨?_, Opr.fin e i o, List.mem_map.2 ⟨o, (findO_mem hf).1, rfl⟩, by rw [fin_id]; exact (findO_mem hf).2, ?_, by unfold Opr.fin; split <;> exact hrd⟩
                  · simp only [List.map_map]
                    congr 2
                    refine List.map_congr_left fun x _ => ?_
                    unfold Opr.fin setV chgE
                    simp only [Function.comp]
                    by_cases hx : x.id = e.op
                    · simp [hx]
                    · simp [hx]
                  · unfold Opr.fin
                    rw [if_pos (findO_mem hf).2]
                    simp
                · cases hs
              · cases hs

theorem era_bdL {l : List Ev} (hv : validL l = true) : ∀ o ∈ rawOps l, ∃ k : Nat, o.era = (k : Int) ∧ k ≤ cutsL l := by
  intro o ho
  have h := (hist_to l l.length (Nat.le_refl _)).2 hv
  obtain ⟨-, -, -, i, -, hi, he⟩ := h.op o.id o (findO_of (nd_ids hv) ho)
  refine ⟨(l.take i).countP (fun e => e.kind == 3), by rw [he]; rfl, ?_⟩
  exact (List.take_sublist i l).countP_le
theorem acc_read {os : List Opr} (hids : (os.map (·.id)).Nodup) {cuts : Nat} {u : Int} (hw : ∀ o ∈ os, o.write = true → o.val ≠ u) {p : Opr} (hp : p ∈ os) (he : effB p = true) (hpw : p.write = false) (hd : 0 ≤ p.done) (hpu : p.val = u) :
    ∀ (ws : List (List Int × Int)) (k : Nat) (v : Int), v ≠ u → (k : Int) ≤ p.era → p.era < (k + ws.length : Nat) → accR os cuts k v ws = false := by
  intro ws
  induction ws with
  | nil => intro k v _ h1 h2; simp at h2; omega
  | cons w ws ih =>
    intro k v hv h1 h2
    simp only [accR]
    split
    · rcases hf : followR (eraO os k) (fun o => !(k == cuts) && durR (eraO os k) o) w.2 v w.1 with _ | v'
      · rfl
      · simp only
        have hA : ((eraO os (k : Int)).map (·.id)).Nodup := List.Nodup.sublist (List.Sublist.map _ List.filter_sublist) hids
        unfold followR at hf
        rcases hr : orderR (eraO os k) [] w.1 with _ | xs
        · rw [hr] at hf; cases hf
        · rw [hr] at hf
          obtain ⟨g1, g2, -, -, g5⟩ := orderR_good w.1 [] xs List.nodup_nil hr
          obtain ⟨-, -, e3, -, e5⟩ := (explR_iff xs [] 0 v v v').1 hf
          have hsub : ∀ o ∈ xs, o ∈ os := fun o ho => by
            have := (List.mem_filter.1 (g2 o ho)).1
            unfold eraO at this
            exact (List.mem_filter.1 this).1
          have hrun : ∀ (ys : List Opr) (v : Int), v ≠ u → (∀ o ∈ ys, o.write = true → o.val ≠ u) → valOk v ys = true → ∀ o ∈ ys, o.val ≠ u := by
            intro ys
            induction ys with
            | nil => intro v _ _ _ o ho; cases ho
            | cons y ys ihy =>
              intro v hv hy hok o ho
              simp only [valOk, Bool.and_eq_true, Bool.or_eq_true] at hok
              have hyv : y.val ≠ u := by
                rcases hok.1 with h | h
                · exact hy y (by simp) h
                · have : y.val = v := by simpa using h
                  rw [this]
                  exact hv
              rcases List.mem_cons.1 ho with rfl | ho
              · exact hyv
              · refine ihy (valTo y v) ?_ (fun o ho => hy o (by simp [ho])) hok.2 o ho
                unfold valTo
                split
                · exact hyv
                · exact hv
          have hend : ∀ (ys : List Opr) (n : Nat) (v e : Int), v ≠ u → e ≠ u → (∀ o ∈ ys, o.write = true → o.val ≠ u) → endAt w.2 n v e ys ≠ u := by
            intro ys
            induction ys with
            | nil => intro n v e _ he _; exact he
            | cons y ys ihy =>
              intro n v e hv he hy
              simp only [endAt]
              have h3 : valTo y v ≠ u := by
                unfold valTo
                split
                · rename_i h; exact hy y (by simp) h
                · exact hv
              refine ihy _ _ _ h3 ?_ fun o ho => hy o (by simp [ho])
              split
              · exact h3
              · exact he
          by_cases hpk : p.era = (k : Int)
          · exfalso
            have hpA : p ∈ eraO os (k : Int) := List.mem_filter.2 ⟨hp, by simpa using hpk⟩
            have h3 := g5 p (List.mem_filter.2 ⟨hpA, he⟩) hd
            rw [List.nil_append, ← g1] at h3
            obtain ⟨q, hq, hqi⟩ := List.mem_map.1 h3
            have : q = p := mem_inj hids (hsub q hq) hp hqi
            subst this
            exact hrun xs v hv (fun o ho => hw o (hsub o ho)) e3 q hq hpu
          · refine ih (k + 1) v' ?_ (by omega) (by rw [List.length_cons] at h2; omega)
            rw [e5]
            exact hend xs 0 v v hv hv fun o ho => hw o (hsub o ho)
    · rfl
/-- an answered read, by its place -/
def rdAt (l : List Ev) (i : Nat) : Prop := ∃ e, l[i]? = some e ∧ e.kind = 2 ∧ e.write = false ∧ e.barrier = false
theorem inv_law (sc : List RgA) (k : Nat) (hk : k < 1000) {i : Nat} (h : rdAt (rgTo sc k).l i) : ∃ e, (rgTo sc k).l[i]? = some e ∧ validL ((rgTo sc k).l.set i (chgE e 1000)) = true ∧ cutsL ((rgTo sc k).l.set i (chgE e 1000)) = cutsL (rgTo sc k).l ∧
    rawOps ((rgTo sc k).l.set i (chgE e 1000)) = (rawOps (rgTo sc k).l).map (setV e.op 1000) ∧ ¬ ExpO (rawOps ((rgTo sc k).l.set i (chgE e 1000))) (cutsL ((rgTo sc k).l.set i (chgE e 1000))) 0 0 := by
  obtain ⟨e, he, hk2, hw, hb⟩ := h
  obtain ⟨hv, -, hops⟩ := rg_law sc k
  have hil := (List.getElem?_eq_some_iff.1 he).1
  generalize (rgTo sc k).l = l at *
  obtain ⟨b1, b2⟩ := hist_to l l.length (Nat.le_refl _)
  have hvt : validTo l l.length = true := hv
  rw [hvt, if_pos rfl] at b1
  obtain ⟨h1, o1, ho1, ho2, ho3, ho4, ho5⟩ := parse_changed he hk2 hw hb 1000 l.length hil (Nat.le_refl _) b1
  obtain ⟨c1, -⟩ := hist_to (l.set i (chgE e 1000)) l.length (by simp)
  rw [h1] at c1
  have hcut : cutsL (l.set i (chgE e 1000)) = cutsL l := by
    unfold cutsL
    have hs : l.set i (chgE e 1000) = l.take i ++ chgE e 1000 :: l.drop (i + 1) := by rw [List.set_eq_take_append_cons_drop, if_pos hil]
    have hl : l = l.take i ++ e :: l.drop (i + 1) := by
      have h3 : l[i] = e := by rw [List.getElem?_eq_getElem hil] at he; exact Option.some.inj he
      rw [← h3]
      simp
    rw [hs]
    conv => rhs; rw [hl]
    rw [List.countP_append, List.countP_append, List.countP_cons, List.countP_cons]
    rfl
  split at c1
  · rename_i hv'
    have hraw : rawOps (l.set i (chgE e 1000)) = (rawOps l).map (setV e.op 1000) := by
      have := congrArg Prod.fst (Option.some.inj c1)
      unfold rawOps
      rw [List.length_set]
      exact this.symm
    have hval : validL (l.set i (chgE e 1000)) = true := by unfold validL; rw [List.length_set]; exact hv'
    refine ⟨e, he, hval, hcut, hraw, ?_⟩
    have hnd := nd_ids hval
    have hera := era_bdL hval
    rw [hcut] at hera ⊢
    rw [hraw] at hnd hera ⊢
    rintro ⟨ws, hl, ha⟩
    rw [acc_eq hnd] at ha
    have hset : setV e.op 1000 o1 = { o1 with val := 1000 } := by unfold setV; rw [if_pos ho2]
    have hp : setV e.op 1000 o1 ∈ (rawOps l).map (setV e.op 1000) := List.mem_map.2 ⟨o1, ho1, rfl⟩
    obtain ⟨kk, k1, k2⟩ := hera _ hp
    have := acc_read hnd (u := 1000) (cuts := cutsL l) (p := setV e.op 1000 o1) (fun o ho hw => ?_) hp (by rw [hset]; unfold effB; simp [ho5]) (by rw [hset]; exact ho4) (by rw [hset]; exact ho3) (by rw [hset]) ws 0 0 (by omega) (by omega) (by omega)
    · rw [ha] at this
      cases this
    · obtain ⟨o', ho', rfl⟩ := List.mem_map.1 ho
      unfold setV at hw ⊢
      split at hw
      · rename_i hid
        have : o' = o1 := mem_inj (nd_ids hv) ho' ho1 (by rw [hid, ho2])
        subst this
        simp only at hw
        rw [ho4] at hw
        cases hw
      · rename_i hid
        rw [if_neg hid]
        have := (hops o' ho').2 hw
        omega
  · cases c1
end Go.Proofs.YtcgbnlhloopnfaaDoor
namespace Go.Proofs.YtcgbnlhloopnfaaDoor
open Go.RowKit

theorem OwS.fresh {w : World} {base size : Nat} {e : TypeId} {v : Value} {rows : List (List Value)} (h : OwS w base e size v rows) {k : Nat} (hk : w.heap.size ≤ k) : v.ownBlock ≠ some k := by
  intro hv
  have := (h.lt hv).2
  omega
theorem ev_after {wr w3 : World} {o1 o3 : Obj} {e : Ev} {row : Option Nat} (hg : (((wr.alloc o1).alloc (.cells e.cells.toArray 45)).alloc o3).grownBy w3 row) (hrow : row ≠ some (wr.heap.size + 1)) :
    w3.cell? ⟨wr.heap.size + 1, 0, none⟩ = some (.int .i64 e.kind) ∧ w3.cell? ⟨wr.heap.size + 1, 1, none⟩ = some (.int .i64 e.op) ∧ w3.cell? ⟨wr.heap.size + 1, 2, none⟩ = some (.bool e.write) ∧
    w3.cell? ⟨wr.heap.size + 1, 3, none⟩ = some (.int .i64 e.reg) ∧ w3.cell? ⟨wr.heap.size + 1, 4, none⟩ = some (.int .i64 e.val) ∧ w3.cell? ⟨wr.heap.size + 1, 5, none⟩ = some (.bool e.barrier) := by
  have h1 : w3.heap[wr.heap.size + 1]? = some (.cells e.cells.toArray 45) := by
    rw [hg.block (wr.heap.size + 1) (by simp) (fun h => hrow h.symm)]
    have := heap_alloc_new (wr.alloc o1) (.cells e.cells.toArray 45)
    simp only [World.alloc] at *
    rw [Array.getElem?_push_lt (by simp)]
    simpa using this
  refine ⟨?_, ?_, ?_, ?_, ?_, ?_⟩ <;> (rw [cell_of_row _ _ _ _ _ _ h1]; rfl)
theorem OwS.apart {w : World} {base size base' size' g n c : Nat} {e e' : TypeId} {v : Value} {rows rows' : List (List Value)} (h : OwS w base e size v rows) (h' : OwS w base' e' size' (.slice (some ⟨g, 0, none⟩) n c) rows') (hne : e ≠ e') : v.ownBlock ≠ some g := by
  rcases h.ne h' hne with h1 | h1
  · rw [h1]; exact fun e => by cases e
  · exact h1
theorem OwS.reads' {w : World} {base size n c : Nat} {e : TypeId} {A : Option Addr} {rows : List (List Value)} (h : OwS w base e size (.slice A n c) rows) : RdS w w.heap.size size A rows := by
  have hn : n = rows.length := by
    obtain ⟨A', c', h1, -⟩ := h.form
    injection h1
  subst hn
  exact h.reads
theorem OwS.stored2 {w : World} {base g n c : Nat} {e : TypeId} {rows : List (List Value)} (h : OwS w base e 10 (.slice (some ⟨g, 0, none⟩) n c) rows) {q : Nat} {r : List Value} (hr : rows[q]? = some r) (x y : Value) :
    OwS ((w.setCell ⟨g, q * 10 + 6, none⟩ x).setCell ⟨g, q * 10 + 9, none⟩ y) base e 10 (.slice (some ⟨g, 0, none⟩) n c) (rows.set q ((r.set 6 x).set 9 y)) := by
  have h1 := (h.set (k := q) (j := 6) hr (by omega) x).1
  have hq : q < rows.length := (List.getElem?_eq_some_iff.1 hr).1
  have h2 := (h1.set (k := q) (j := 9) (r := r.set 6 x) (List.getElem?_set_self hq) (by omega) y).1
  rwa [List.set_set] at h2
theorem ev_after' {wr w3 : World} {o1 o3 : Obj} {e : Ev} {row : Option Nat} {z : Nat} (hg : (((wr.alloc o1).alloc (.cells e.cells.toArray 45)).alloc o3).grownBy w3 row) (hz : wr.heap.size = z) (hrow : row ≠ some (z + 1)) :
    w3.cell? ⟨z + 1, 0, none⟩ = some (.int .i64 e.kind) ∧ w3.cell? ⟨z + 1, 1, none⟩ = some (.int .i64 e.op) ∧ w3.cell? ⟨z + 1, 2, none⟩ = some (.bool e.write) ∧
    w3.cell? ⟨z + 1, 3, none⟩ = some (.int .i64 e.reg) ∧ w3.cell? ⟨z + 1, 4, none⟩ = some (.int .i64 e.val) ∧ w3.cell? ⟨z + 1, 5, none⟩ = some (.bool e.barrier) := by
  subst hz
  exact ev_after hg hrow
theorem rem_u8 (x m : Nat) : ((x : Int) % (m : Int)) = ((x % m : Nat) : Int) := by simp
def RgA.cells (a : RgA) : List Value := [.int .u8 a.kind, .int .u8 a.which]
def RgO.cells (s : RgO) : List Value := s.e.cells ++ [.bool s.ex, .bool s.dn, .int .i64 s.res, .int .i64 s.at_]
@[simp] theorem RgO.cells_length (s : RgO) : s.cells.length = 10 := rfl
theorem RgO.one (s : RgO) : ∀ u ∈ s.cells, u.oneCell' = true := by
  intro u hu
  simp [RgO.cells, Ev.cells] at hu
  rcases hu with rfl | rfl | rfl | rfl | rfl | rfl | rfl | rfl | rfl | rfl <;> rfl
theorem elemOpg : Elem Tryd.prog 83 87 10 72 := Elem.mk (z := .agg (RgO.cells ⟨⟨0, 0, false, 0, 0, false⟩, false, false, 0, 0⟩).toArray) Tryd.underlying83 (by kernel_rfl) (by decide) rfl
theorem OwS.stored3 {w : World} {base g n c : Nat} {e : TypeId} {rows : List (List Value)} (h : OwS w base e 10 (.slice (some ⟨g, 0, none⟩) n c) rows) {q : Nat} {r : List Value} (hr : rows[q]? = some r) (x y t : Value) :
    OwS (((w.setCell ⟨g, q * 10 + 6, none⟩ x).setCell ⟨g, q * 10 + 8, none⟩ y).setCell ⟨g, q * 10 + 9, none⟩ t) base e 10 (.slice (some ⟨g, 0, none⟩) n c) (rows.set q (((r.set 6 x).set 8 y).set 9 t)) := by
  have h1 := (h.set (k := q) (j := 6) hr (by omega) x).1
  have hq : q < rows.length := (List.getElem?_eq_some_iff.1 hr).1
  have h2 := (h1.set (k := q) (j := 8) (r := r.set 6 x) (List.getElem?_set_self hq) (by omega) y).1
  rw [List.set_set] at h2
  have h3 := (h2.set (k := q) (j := 9) (r := (r.set 6 x).set 8 y) (List.getElem?_set_self hq) (by omega) t).1
  rwa [List.set_set] at h3
/-- numbers stay small -/
theorem rg_bd (sc : List RgA) (k : Nat) : (rgTo sc k).l.length ≤ k ∧ (rgTo sc k).ops.length ≤ k ∧ (rgTo sc k).n ≤ k ∧ (rgTo sc k).vals.length ≤ k + 1 ∧ (rgTo sc k).safe < (rgTo sc k).vals.length := by
  obtain ⟨os, era, base, xs, ws, h⟩ := rg_inv sc k
  have h1 := rgTo_n sc k
  have h2 := h.bas
  have h3 := h.vpos
  have h4 := h.safe
  refine ⟨h1.2, by omega, h1.1, ?_, by omega⟩
  clear h h1 h2 h3 h4 xs ws os
  induction k with
  | zero => simp [rgTo, rg0]
  | succ k ih =>
    rcases hk : sc[k]? with _ | a
    · simp only [rgTo, hk]
      omega
    · rw [rgTo_succ hk]
      have : (rgStep (rgTo sc k) a).vals.length ≤ (rgTo sc k).vals.length + 1 := by
        unfold rgStep
        split
        · simp [rgCall]
        · split
          · unfold rgExec
            split
            · simp
            · split
              · simp
              · simp only [rgVals]
                split <;> simp
          · split
            · unfold rgDone
              split
              · simp
              · split <;> simp
            · simp [rgCut]
      omega
section
variable {l : List Ev} {ops : List RgO} {vs : List Int} {safe n kind which q : Nat} {o : RgO}
theorem rg_call {k : Nat} (hk : kind % 8 = k) (h4 : k < 4) : rgStep ⟨l, ops, vs, safe, n⟩ ⟨kind, which⟩ = ⟨l ++ [rgEv k n], ops ++ [⟨rgEv k n, false, false, 0, 0⟩], vs, safe, n + 1⟩ := by
  unfold rgStep
  simp only [hk]
  rw [if_pos h4]
  rfl
theorem rg_noop (h4 : 4 ≤ kind % 8) (h7 : kind % 8 < 7) (h : ops = []) : rgStep ⟨l, ops, vs, safe, n⟩ ⟨kind, which⟩ = ⟨l, ops, vs, safe, n⟩ := by
  subst h
  unfold rgStep rgExec rgDone
  simp only [List.getElem?_nil]
  rw [if_neg (by omega)]
  split
  · rfl
  · rw [if_pos (by omega)]
theorem rg_ix (hm : 0 < ops.length) (hq : q = which % ops.length) : rgIx ⟨l, ops, vs, safe, n⟩ ⟨kind, which⟩ = q := by
  unfold rgIx
  simp only
  rw [if_neg (by omega), hq]
theorem rg_exx (h4 : 4 ≤ kind % 8) (h6 : kind % 8 < 6) (hm : 0 < ops.length) (hq : q = which % ops.length) (ho : ops[q]? = some o) (hx : o.ex = true) : rgStep ⟨l, ops, vs, safe, n⟩ ⟨kind, which⟩ = ⟨l, ops, vs, safe, n⟩ := by
  unfold rgStep
  simp only
  rw [if_neg (by omega), if_pos (by omega), rg_ix hm hq]
  unfold rgExec
  simp only [ho, hx, if_true]
theorem rg_ex (h4 : 4 ≤ kind % 8) (h6 : kind % 8 < 6) (hm : 0 < ops.length) (hq : q = which % ops.length) (ho : ops[q]? = some o) (hx : o.ex = false) : rgStep ⟨l, ops, vs, safe, n⟩ ⟨kind, which⟩ = ⟨l, ops.set q (exO ⟨l, ops, vs, safe, n⟩ o), rgVals ⟨l, ops, vs, safe, n⟩ o, safe, n⟩ := by
  unfold rgStep
  simp only
  rw [if_neg (by omega), if_pos (by omega), rg_ix hm hq]
  unfold rgExec
  simp only [ho, hx]
  rfl
theorem rg_nod (h6 : kind % 8 = 6) (hm : 0 < ops.length) (hq : q = which % ops.length) (ho : ops[q]? = some o) (hx : o.ex = false ∨ o.dn = true) : rgStep ⟨l, ops, vs, safe, n⟩ ⟨kind, which⟩ = ⟨l, ops, vs, safe, n⟩ := by
  unfold rgStep
  simp only
  rw [if_neg (by omega), if_neg (by omega), if_pos h6, rg_ix hm hq]
  unfold rgDone
  simp only [ho]
  rw [if_neg]
  rcases hx with hx | hx <;> simp [hx]
theorem rg_done (h6 : kind % 8 = 6) (hm : 0 < ops.length) (hq : q = which % ops.length) (ho : ops[q]? = some o) (hx : o.ex = true) (hd : o.dn = false) : rgStep ⟨l, ops, vs, safe, n⟩ ⟨kind, which⟩ = ⟨l ++ [doneE o], ops.set q ⟨o.e, o.ex, true, o.res, o.at_⟩, vs, if o.e.barrier then max safe o.at_ else safe, n⟩ := by
  unfold rgStep
  simp only
  rw [if_neg (by omega), if_neg (by omega), if_pos h6, rg_ix hm hq]
  unfold rgDone
  simp only [ho, hx, hd]
  rfl
theorem rg_cut {z x mm : Nat} {v : Int} (h7 : kind % 8 = 7) (hz : vs.length = z + 1) (hs : safe ≤ z) (hx : x = which % (z + 1 - safe)) (hm : mm = safe + x) (hv : vs[mm]? = some v) : rgStep ⟨l, ops, vs, safe, n⟩ ⟨kind, which⟩ = ⟨l ++ [Ev.cut], [], [v], 0, n⟩ := by
  unfold rgStep
  simp only
  rw [if_neg (by omega), if_neg (by omega), if_neg (by omega)]
  have hxl : x < z + 1 - safe := by rw [hx]; exact Nat.mod_lt _ (by omega)
  have : rgKept ⟨l, ops, vs, safe, n⟩ which = mm := by
    unfold rgKept
    simp only [hz, Nat.add_sub_cancel]
    rw [show min safe z = safe by omega, ← hx, ← hm]
    omega
  unfold rgCut
  rw [this]
  simp only [hv]
  rfl
theorem rg_last {z : Nat} {y : Int} (hz : vs.length = z + 1) (hy : vs[z]? = some y) : rgLast ⟨l, ops, vs, safe, n⟩ = y := by
  unfold rgLast
  simp only [hz, Nat.add_sub_cancel, hy]
  rfl
end
def firstLoop : Code → Option Code
  | .loop c => some c
  | .seq a b => match firstLoop a with
    | some c => some c
    | none => firstLoop b
  | .block _ c => firstLoop c
  | .scope c => firstLoop c
  | .cond _ a b => match firstLoop a with
    | some c => some c
    | none => firstLoop b
  | _ => none
noncomputable def regBody : Code := (Tryd.f20.body.bind firstLoop).getD .skip
/-- what holds at the head of the loop -/
def RgRel (sc : List RgA) (w : World) (s3 s4 s5 : Value) (k : Nat) (wr : World) : Prop :=
  OwS wr w.heap.size 45 6 s3 ((rgTo sc k).l.map Ev.cells) ∧ OwS wr w.heap.size 87 10 s4 ((rgTo sc k).ops.map RgO.cells) ∧ OwS wr w.heap.size 3 1 s5 ((rgTo sc k).vals.map icell) ∧ Below w.heap.size w wr
set_option maxRecDepth 1000000 in
def RegI (sc : List RgA) (w : World) (A : Option Addr) (len c : Nat) (a : Act) (wr : World) : Prop :=
  ∃ (u : Nat → Value) (k : Nat), k ≤ len ∧ RgRel sc w (u 3) (u 4) (u 5) k wr ∧ u 6 = .int .i64 (rgTo sc k).safe ∧ u 7 = .int .i64 (rgTo sc k).n ∧ u 8 = .int .i64 k ∧ a = ⟨#[(.slice A len c), undef, .slice none 0 0, (u 3), (u 4), (u 5), (u 6), (u 7), (u 8), u 9, u 10, u 11, u 12, u 13, u 14, u 15, u 16, u 17, u 18, u 19, u 20, u 21, u 22, u 23, u 24, u 25, u 26, u 27, u 28, u 29, u 30, u 31, u 32, u 33, u 34, u 35, u 36, u 37, u 38, u 39, u 40, u 41, u 42, u 43, u 44, u 45, u 46, u 47, u 48, u 49, u 50, u 51, u 52, u 53, u 54, u 55, u 56, u 57, u 58, u 59, u 60, u 61, u 62, u 63, u 64, u 65, u 66, u 67, u 68, u 69, u 70, u 71, u 72, u 73, u 74, u 75, u 76, u 77, u 78, u 79, u 80, u 81, u 82, u 83, u 84, u 85, u 86, u 87, u 88, u 89, u 90, u 91, u 92, u 93, u 94, u 95, u 96, u 97, u 98, u 99, u 100, u 101, u 102, u 103, u 104, u 105, u 106, u 107, u 108, u 109, u 110, u 111, u 112, u 113, u 114, u 115, u 116, u 117, u 118, u 119, u 120, u 121, u 122, u 123, u 124, u 125, u 126, u 127, u 128, u 129, u 130, u 131, u 132, u 133, u 134, u 135, u 136, u 137, u 138, u 139, u 140, u 141, u 142, u 143, u 144, u 145, u 146, u 147, u 148, u 149, u 150, u 151, u 152, u 153, u 154, u 155, u 156, u 157, u 158, u 159, u 160, u 161, u 162, u 163, u 164, u 165, u 166, u 167, u 168, u 169, u 170, u 171, u 172, u 173, u 174, u 175, u 176, u 177, u 178, u 179, u 180, u 181, u 182, u 183, u 184, u 185, u 186, u 187, u 188, u 189, u 190, u 191, u 192, u 193, u 194, u 195, u 196, u 197, u 198, u 199, u 200, u 201, u 202, u 203, u 204, u 205, u 206, u 207, u 208, u 209, u 210, u 211, u 212, u 213, u 214, u 215, u 216, u 217, u 218, u 219, u 220, u 221, u 222, u 223, u 224, u 225, u 226, u 227, u 228, u 229, u 230, u 231, undef], []⟩
set_option maxRecDepth 1000000 in
theorem reg_mk {sc : List RgA} {w wr : World} {A : Option Addr} {len c : Nat} {a : Act} (k : Nat) (hk : k ≤ len) (hrel : RgRel sc w (a.tmps.getD 3 undef) (a.tmps.getD 4 undef) (a.tmps.getD 5 undef) k wr) (h6 : a.tmps.getD 6 undef = .int .i64 (rgTo sc k).safe) (h7 : a.tmps.getD 7 undef = .int .i64 (rgTo sc k).n) (h8 : a.tmps.getD 8 undef = .int .i64 k)
    (hfr : a = ⟨#[(.slice A len c), undef, .slice none 0 0, a.tmps.getD 3 undef, a.tmps.getD 4 undef, a.tmps.getD 5 undef, a.tmps.getD 6 undef, a.tmps.getD 7 undef, a.tmps.getD 8 undef, a.tmps.getD 9 undef, a.tmps.getD 10 undef, a.tmps.getD 11 undef, a.tmps.getD 12 undef, a.tmps.getD 13 undef, a.tmps.getD 14 undef, a.tmps.getD 15 undef, a.tmps.getD 16 undef, a.tmps.getD 17 undef, a.tmps.getD 18 undef, a.tmps.getD 19 undef, a.tmps.getD 20 undef, a.tmps.getD 21 undef, a.tmps.getD 22 undef, a.tmps.getD 23 undef, a.tmps.getD 24 undef, a.tmps.getD 25 undef, a.tmps.getD 26 undef, a.tmps.getD 27 undef, a.tmps.getD 28 undef, a.tmps.getD 29 undef, a.tmps.getD 30 undef, a.tmps.getD 31 undef, a.tmps.getD 32 undef, a.tmps.getD 33 undef, a.tmps.getD 34 undef, a.tmps.getD 35 undef, a.tmps.getD 36 undef, a.tmps.getD 37 undef, a.tmps.getD 38 undef, a.tmps.getD 39 undef, a.tmps.getD 40 undef, a.tmps.getD 41 undef, a.tmps.getD 42 undef, a.tmps.getD 43 undef, a.tmps.getD 44 undef, a.tmps.getD 45 undef, a.tmps.getD 46 undef, a.tmps.getD 47 undef, a.tmps.getD 48 undef, a.tmps.getD 49 undef, a.tmps.getD 50 undef, a.tmps.getD 51 undef, a.tmps.getD 52 undef, a.tmps.getD 53 undef, a.tmps.getD 54 undef, a.tmps.getD 55 undef, a.tmps.getD 56 undef, a.tmps.getD 57 undef, a.tmps.getD 58 undef, a.tmps.getD 59 undef, a.tmps.getD 60 undef, a.tmps.getD 61 undef, a.tmps.getD 62 undef, a.tmps.getD 63 undef, a.tmps.getD 64 undef, a.tmps.getD 65 undef, a.tmps.getD 66 undef, a.tmps.getD 67 undef, a.tmps.getD 68 undef, a.tmps.getD 69 undef, a.tmps.getD 70 undef, a.tmps.getD 71 undef, a.tmps.getD 72 undef, a.tmps.getD 73 undef, a.tmps.getD 74 undef, a.tmps.getD 75 undef, a.tmps.getD 76 undef, a.tmps.getD 77 undef, a.tmps.getD 78 undef, a.tmps.getD 79 undef, a.tmps.getD 80 undef, a.tmps.getD 81 undef, a.tmps.getD 82 undef, a.tmps.getD 83 undef, a.tmps.getD 84 undef, a.tmps.getD 85 undef, a.tmps.getD 86 undef, a.tmps.getD 87 undef, a.tmps.getD 88 undef, a.tmps.getD 89 undef, a.tmps.getD 90 undef, a.tmps.getD 91 undef, a.tmps.getD 92 undef, a.tmps.getD 93 undef, a.tmps.getD 94 undef, a.tmps.getD 95 undef, a.tmps.getD 96 undef, a.tmps.getD 97 undef, a.tmps.getD 98 undef, a.tmps.getD 99 undef, a.tmps.getD 100 undef, a.tmps.getD 101 undef, a.tmps.getD 102 undef, a.tmps.getD 103 undef, a.tmps.getD 104 undef, a.tmps.getD 105 undef, a.tmps.getD 106 undef, a.tmps.getD 107 undef, a.tmps.getD 108 undef, a.tmps.getD 109 undef, a.tmps.getD 110 undef, a.tmps.getD 111 undef, a.tmps.getD 112 undef, a.tmps.getD 113 undef, a.tmps.getD 114 undef, a.tmps.getD 115 undef, a.tmps.getD 116 undef, a.tmps.getD 117 undef, a.tmps.getD 118 undef, a.tmps.getD 119 undef, a.tmps.getD 120 undef, a.tmps.getD 121 undef, a.tmps.getD 122 undef, a.tmps.getD 123 undef, a.tmps.getD 124 undef, a.tmps.getD 125 undef, a.tmps.getD 126 undef, a.tmps.getD 127 undef, a.tmps.getD 128 undef, a.tmps.getD 129 undef, a.tmps.getD 130 undef, a.tmps.getD 131 undef, a.tmps.getD 132 undef, a.tmps.getD 133 undef, a.tmps.getD 134 undef, a.tmps.getD 135 undef, a.tmps.getD 136 undef, a.tmps.getD 137 undef, a.tmps.getD 138 undef, a.tmps.getD 139 undef, a.tmps.getD 140 undef, a.tmps.getD 141 undef, a.tmps.getD 142 undef, a.tmps.getD 143 undef, a.tmps.getD 144 undef, a.tmps.getD 145 undef, a.tmps.getD 146 undef, a.tmps.getD 147 undef, a.tmps.getD 148 undef, a.tmps.getD 149 undef, a.tmps.getD 150 undef, a.tmps.getD 151 undef, a.tmps.getD 152 undef, a.tmps.getD 153 undef, a.tmps.getD 154 undef, a.tmps.getD 155 undef, a.tmps.getD 156 undef, a.tmps.getD 157 undef, a.tmps.getD 158 undef, a.tmps.getD 159 undef, a.tmps.getD 160 undef, a.tmps.getD 161 undef, a.tmps.getD 162 undef, a.tmps.getD 163 undef, a.tmps.getD 164 undef, a.tmps.getD 165 undef, a.tmps.getD 166 undef, a.tmps.getD 167 undef, a.tmps.getD 168 undef, a.tmps.getD 169 undef, a.tmps.getD 170 undef, a.tmps.getD 171 undef, a.tmps.getD 172 undef, a.tmps.getD 173 undef, a.tmps.getD 174 undef, a.tmps.getD 175 undef, a.tmps.getD 176 undef, a.tmps.getD 177 undef, a.tmps.getD 178 undef, a.tmps.getD 179 undef, a.tmps.getD 180 undef, a.tmps.getD 181 undef, a.tmps.getD 182 undef, a.tmps.getD 183 undef, a.tmps.getD 184 undef, a.tmps.getD 185 undef, a.tmps.getD 186 undef, a.tmps.getD 187 undef, a.tmps.getD 188 undef, a.tmps.getD 189 undef, a.tmps.getD 190 undef, a.tmps.getD 191 undef, a.tmps.getD 192 undef, a.tmps.getD 193 undef, a.tmps.getD 194 undef, a.tmps.getD 195 undef, a.tmps.getD 196 undef, a.tmps.getD 197 undef, a.tmps.getD 198 undef, a.tmps.getD 199 undef, a.tmps.getD 200 undef, a.tmps.getD 201 undef, a.tmps.getD 202 undef, a.tmps.getD 203 undef, a.tmps.getD 204 undef, a.tmps.getD 205 undef, a.tmps.getD 206 undef, a.tmps.getD 207 undef, a.tmps.getD 208 undef, a.tmps.getD 209 undef, a.tmps.getD 210 undef, a.tmps.getD 211 undef, a.tmps.getD 212 undef, a.tmps.getD 213 undef, a.tmps.getD 214 undef, a.tmps.getD 215 undef, a.tmps.getD 216 undef, a.tmps.getD 217 undef, a.tmps.getD 218 undef, a.tmps.getD 219 undef, a.tmps.getD 220 undef, a.tmps.getD 221 undef, a.tmps.getD 222 undef, a.tmps.getD 223 undef, a.tmps.getD 224 undef, a.tmps.getD 225 undef, a.tmps.getD 226 undef, a.tmps.getD 227 undef, a.tmps.getD 228 undef, a.tmps.getD 229 undef, a.tmps.getD 230 undef, a.tmps.getD 231 undef, undef], []⟩) : RegI sc w A len c a wr := ⟨fun i => a.tmps.getD i undef, k, hk, hrel, h6, h7, h8, hfr⟩
def RegMs (len : Nat) (a : Act) (_ : World) : Nat := len - (intOf (a.tmps.getD 8 undef)).toNat
set_option maxHeartbeats 1000000 in
theorem rgeff_any (wr ba : Bool) (w : World) : Calls Tryd.prog 27 #[.agg #[.int .i64 0, .int .i64 0, .int .i64 0, .bool wr, .bool ba, .int .i64 0, .int .i64 0, .int .i64 0]] w fun r w' => r = .returned (.bool (wr || !ba)) ∧ Below w.heap.size w w' := by
  cases wr <;> cases ba
  all_goals
    go_enter Tryd.func27, Tryd.ntmps27
    go_wp2
    go_ret
    exact ⟨ret_bool rfl, below_laid⟩
end Go.Proofs.YtcgbnlhloopnfaaDoor
