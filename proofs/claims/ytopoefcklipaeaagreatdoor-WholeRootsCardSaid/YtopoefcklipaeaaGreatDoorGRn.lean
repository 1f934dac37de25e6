/- PLAIN: what a record makes of a state.
A region that draws its order: an operation that reads may be taken first, if what it reads is held by all that may come up before it; the LAST operation (a store) need not hold it. After the kit's OrdersHeld, whose lemmas on one operation serve here. -/
import Derived.Test.YtopoefcklipaeaaGreatDoorRpV
import Derived.Test.YtopoefcklipaeaaGreatDoorGRb
import Derived.OrdersHeld
namespace Go.Proofs.YtopoefcklipaeaaGreatDoor
open Go.RowKit
def wstep (ls : List Leaf) (x : Pw) : Option (List Leaf) :=
 match ls[x.g.toNat]? with
 | none => none
 | some L => if x.v < L.vs.getD x.p.toNat 0 then none else some (ls.set x.g.toNat (setL L x.g.toNat x.p.toNat x.v x.d))
def wsF : List Leaf → List Pw → Option (List Leaf)
 | ls, [] => some ls
 | ls, x :: xs => match wstep ls x with
  | none => none
  | some l => wsF l xs
def msF (L : LayD) : List Mv → List Mv → List Mv × Int
 | ms, [] => (ms, 0)
 | ms, m :: xs => if (applyL L ms m).2 = 0 then msF L (applyL L ms m).1 xs else ([], (applyL L ms m).2)
def ntF (nt : List (List Nat)) (n : List Nat) : List (List Nat) := if n.length = 0 then nt else nt ++ [n]
def applyS (L : LayD) (S : St) (r : Rcd) : St × Int :=
 if rcdB r && knownB L r then
  match wsF S.ls r.ws with
  | none => (St.zero, 8)
  | some ls => if (msF L S.ms r.ms).2 = 0 then (⟨ls, (msF L S.ms r.ms).1, ntF S.nt r.nt⟩, 0) else (St.zero, (msF L S.ms r.ms).2)
 else (St.zero, 1)
def applyR (L : LayD) (S : St) (r : Rcd) : St × Int := if stOk L S then applyS L S r else (St.zero, 1)
section
variable {L : LayD} {ls l : List Leaf} {ms : List Mv} {x : Pw}
theorem wsF_app : ∀ (a b : List Pw) (ls : List Leaf), wsF ls (a ++ b) = match wsF ls a with
  | none => none
  | some l => wsF l b
 | [], b, ls => rfl
 | x :: a, b, ls => by
  simp only [List.cons_append, wsF]
  cases wstep ls x with
  | none => rfl
  | some l => exact wsF_app a b l
theorem wsF_snoc {ws : List Pw} {k : Nat} {x : Pw} (hx : ws[k]? = some x) (h : wsF ls (ws.take k) = some l) : wsF ls (ws.take (k + 1)) = wstep l x := by
 rw [List.take_add_one, hx, show (some x).toList = [x] from rfl, wsF_app, h]
 simp only [wsF]
 cases wstep l x <;> rfl
theorem wsF_none {ws : List Pw} {k : Nat} (h : wsF ls (ws.take k) = none) : wsF ls ws = none := by
 have := wsF_app (ws.take k) (ws.drop k) ls
 rw [List.take_append_drop, h] at this
 exact this
theorem msF_app : ∀ (a b : List Mv) (ms : List Mv), msF L ms (a ++ b) = if (msF L ms a).2 = 0 then msF L (msF L ms a).1 b else msF L ms a
 | [], b, ms => rfl
 | x :: a, b, ms => by
  by_cases h : (applyL L ms x).2 = 0
  ·have e1 : msF L ms (x :: a) = msF L (applyL L ms x).1 a := by simp only [msF, if_pos h]
   have e2 : msF L ms (x :: (a ++ b)) = msF L (applyL L ms x).1 (a ++ b) := by simp only [msF, if_pos h]
   rw [List.cons_append, e1, e2]
   exact msF_app a b _
  ·have e1 : msF L ms (x :: a) = ([], (applyL L ms x).2) := by simp only [msF, if_neg h]
   have e2 : msF L ms (x :: (a ++ b)) = ([], (applyL L ms x).2) := by simp only [msF, if_neg h]
   rw [List.cons_append, e1, e2, if_neg h]
theorem msF_snoc {xs : List Mv} {k : Nat} {x : Mv} (hx : xs[k]? = some x) (h : (msF L ms (xs.take k)).2 = 0) : msF L ms (xs.take (k + 1)) = if (applyL L (msF L ms (xs.take k)).1 x).2 = 0 then ((applyL L (msF L ms (xs.take k)).1 x).1, 0) else ([], (applyL L (msF L ms (xs.take k)).1 x).2) := by
 rw [List.take_add_one, hx, show (some x).toList = [x] from rfl, msF_app, if_pos h]
 simp only [msF]
theorem msF_stop {xs : List Mv} {k : Nat} (h : (msF L ms (xs.take k)).2 ≠ 0) : (msF L ms xs).2 = (msF L ms (xs.take k)).2 := by
 have := msF_app (L := L) (xs.take k) (xs.drop k) ms
 rw [List.take_append_drop, if_neg h] at this
 rw [this]
def lvsOk (L : LayD) (ls : List Leaf) : Prop := ls.length = L.G ∧ ∀ x ∈ ls, x.vs.length = L.w ∧ x.ss.length = L.w
theorem stOk_ls {S : St} (h : stOk L S = true) : lvsOk L S.ls := by
 unfold stOk at h
 simp only [Bool.and_eq_true, decide_eq_true_eq, List.all_eq_true] at h
 refine ⟨h.1.1.1, fun x hx => ?_⟩
 have := h.1.2 x hx
 unfold leafOk at this
 simpa using this
theorem stOk_ms {S : St} (h : stOk L S = true) : MvOk L S.ms := by
 unfold stOk at h
 simp only [Bool.and_eq_true, decide_eq_true_eq, List.all_eq_true] at h
 exact of_decide_eq_true h.1.1.2
theorem stOk_mk {S : St} (h1 : lvsOk L S.ls) (h2 : MvOk L S.ms) (h3 : ∀ n ∈ S.nt, noteOk n = true) : stOk L S = true := by
 unfold stOk
 simp only [Bool.and_eq_true, decide_eq_true_eq, List.all_eq_true]
 refine ⟨⟨⟨h1.1, decide_eq_true h2⟩, fun x hx => ?_⟩, h3⟩
 have := h1.2 x hx
 unfold leafOk
 simp [this.1, this.2]
theorem stOk_nt {S : St} (h : stOk L S = true) : ∀ n ∈ S.nt, noteOk n = true := by
 unfold stOk at h
 simp only [Bool.and_eq_true, List.all_eq_true] at h
 exact h.2
theorem lvsOk.set {k : Nat} {x y : Leaf} (h : lvsOk L ls) (hk : ls[k]? = some x) (h1 : y.vs.length = x.vs.length) (h2 : y.ss.length = x.ss.length) : lvsOk L (ls.set k y) := by
 have hx := h.2 x (List.mem_of_getElem? hk)
 refine ⟨by rw [List.length_set]; exact h.1, fun z hz => ?_⟩
 rcases List.mem_or_eq_of_mem_set hz with hz | rfl
 ·exact h.2 z hz
 ·exact ⟨h1.trans hx.1, h2.trans hx.2⟩
theorem setL_len (L : Leaf) (g p v : Nat) (d : Blk) : (setL L g p v d).vs.length = L.vs.length ∧ (setL L g p v d).ss.length = L.ss.length := by simp [setL]
theorem wstep_ok (h : lvsOk L ls) (hw : wstep ls x = some l) : lvsOk L l := by
 unfold wstep at hw
 rcases hg : ls[x.g.toNat]? with _ | y
 ·rw [hg] at hw; cases hw
 ·rw [hg] at hw
  simp only at hw
  split at hw
  ·cases hw
  ·cases hw
   exact h.set hg (setL_len _ _ _ _ _).1 (setL_len _ _ _ _ _).2
theorem wsF_ok : ∀ (ws : List Pw) (ls : List Leaf), lvsOk L ls → ∀ l, wsF ls ws = some l → lvsOk L l
 | [], ls, h, l, hw => by cases hw; exact h
 | x :: ws, ls, h, l, hw => by
  unfold wsF at hw
  rcases hs : wstep ls x with _ | m
  ·rw [hs] at hw; cases hw
  ·rw [hs] at hw
   exact wsF_ok ws m (wstep_ok h hs) l hw
theorem apply_len' (L : LayD) (ms : List Mv) (m : Mv) : (applyL L ms m).1.length ≤ ms.length + 1 := by
 unfold applyL
 split
 ·simp
 ·split
  ·simp
  ·split
   ·exact withM_len ms m
   ·simp
theorem msF_ok : ∀ (xs ms : List Mv), MvOk L ms → (msF L ms xs).2 = 0 → MvOk L (msF L ms xs).1
 | [], ms, h, _ => h
 | x :: xs, ms, h, he => by
  unfold msF at he ⊢
  by_cases h0 : (applyL L ms x).2 = 0
  ·rw [if_pos h0] at he ⊢
   have := apply_ok (L := L) (ms := ms) (m := x) (out := (applyL L ms x).1) (by rw [← h0])
   exact msF_ok xs _ this.2.2.1 he
  ·rw [if_neg h0] at he
   exact absurd he h0
theorem msF_len : ∀ (xs ms : List Mv), (msF L ms xs).1.length ≤ ms.length + xs.length
 | [], ms => by simp [msF]
 | x :: xs, ms => by
  unfold msF
  split
  ·have h1 := msF_len xs (applyL L ms x).1
   have h2 := apply_len' L ms x
   simp only [List.length_cons]
   omega
  ·simp
theorem appR_ok {m : Mv} (h : MvOk L ms) : appR L ms m = applyL L ms m := by
 unfold appR
 rw [if_neg]
 unfold validM
 rw [decide_eq_true h]
 simp
end
theorem rcd_w {L : LayD} {r : Rcd} (hr : rcdB r = true) (hk : knownB L r = true) {x : Pw} (hx : x ∈ r.ws) : ∃ g p : Nat, x.g = (g : Int) ∧ x.p = (p : Int) ∧ g < L.G ∧ p < L.w := by
 unfold rcdB at hr
 unfold knownB at hk
 simp only [Bool.and_eq_true, List.all_eq_true] at hr hk
 have h1 := hr.1.2 x hx
 have h2 := hk.1 x hx
 unfold wrB pieceB inB at h1
 unfold knW knP at h2
 simp only [Bool.and_eq_true, decide_eq_true_eq] at h1 h2
 exact ⟨x.g.toNat, x.p.toNat, by omega, by omega, by omega, by omega⟩
theorem rp_wf {L : LayD} {ms : List Mv} (ok : LayOk L) (h : MvOk L ms) : ∀ m ∈ ms, PlWf m.to := fun m hm => by
 have h1 := h.to m hm
 have hd := ok.disks
 unfold toOk at h1
 simp only [Bool.and_eq_true, decide_eq_true_eq] at h1
 obtain ⟨⟨⟨a, b⟩, c⟩, d⟩ := h1
 have key : ∀ y : Int, 0 ≤ y → y < 100000 → (Lit.int .i64 y).wf = true := by
  intro y h0 h1
  obtain ⟨z, hz⟩ : ∃ z : Nat, y = (z : Int) := ⟨y.toNat, by omega⟩
  subst hz
  exact small_wf z (by omega)
 have hbl : L.blocks < 100000 := by have := ok.blocks; omega
 exact ⟨key _ a (by omega), key _ (by omega) (by omega)⟩
theorem rcd_m {r : Rcd} (hr : rcdB r = true) {x : Mv} (hx : x ∈ r.ms) : PlWf x.to := by
 unfold rcdB at hr
 simp only [Bool.and_eq_true, List.all_eq_true] at hr
 have h1 := hr.2 x hx
 unfold mvB placeB inB at h1
 simp only [Bool.and_eq_true, Bool.or_eq_true, decide_eq_true_eq] at h1
 have key : ∀ y : Int, -1 ≤ y → y ≤ 99999 → (Lit.int .i64 y).wf = true := by
  intro y h0 h1
  have hy : y = (y.toNat : Int) ∨ y = -1 := by omega
  rcases hy with hy | hy
  ·obtain ⟨z, hz⟩ : ∃ z, y.toNat = z := ⟨_, rfl⟩
   rw [hz] at hy
   subst hy
   exact small_wf z (by omega)
  ·subst hy; decide
 exact ⟨key _ (by omega) (by omega), key _ (by omega) (by omega)⟩
theorem rcd_len {r : Rcd} (hr : rcdB r = true) : r.ws.length ≤ 64 ∧ r.ms.length ≤ 64 ∧ r.nt.length ≤ 256 := by
 unfold rcdB at hr
 simp only [Bool.and_eq_true, decide_eq_true_eq] at hr
 omega
end Go.Proofs.YtopoefcklipaeaaGreatDoor
namespace Go.Proofs.YtopoefcklipaeaaGreatDoor
open Go.RowKit
section
variable {P : Program} {ops : Array Oper} {Q : Exit → Act → World → Prop} {md : Region.Mode} {S : World → Prop} {T : Nat}
def wpAnyT (P : Program) (md : Region.Mode) (ops : Array Oper) (Q : Exit → Act → World → Prop) (T : Nat) (S : World → Prop) : Nat → Array Bool → Act → World → Prop
 | 0, listed, a, w => Region.ready md ops listed = [] ∧ Q .normal a w
 | fuel + 1, listed, a, w =>
  (Region.ready md ops listed = [] → Q .normal a w) ∧
  ∀ i ∈ Region.ready md ops listed, wpOp P ops Q i (fun a' w' => ((listed.setIfInBounds i true).getD T false = true ∨ S w') ∧ wpAnyT P md ops Q T S fuel (listed.setIfInBounds i true) a' w') a w
theorem wpAny_of_T : ∀ (fuel : Nat) (listed : Array Bool) (a : Act) (w : World), wpAnyT P md ops Q T S fuel listed a w → wpAny P md ops Q fuel listed a w
 | 0, _, _, _, h => h
 | fuel + 1, _, _, _, h => ⟨h.1, fun i hi => wpOp_mono (fun a' w' h' => wpAny_of_T fuel _ a' w' h'.2) (h.2 i hi)⟩
def closedT (md : Region.Mode) (ops : Array Oper) (listed : Array Bool) : Bool :=
 listed.size == ops.size && (List.range ops.size).all fun j => !listed.getD j false || match ops[j]? with
  | some o => o.after.all fun e => !Region.binds md e || listed.getD e.on false
  | none => true
def ancT (md : Region.Mode) (ops : Array Oper) (i : Nat) : Nat → Nat → Bool
 | 0, _ => false
 | f + 1, t => match ops[t]? with
  | some o => o.after.any fun e => Region.binds md e && (e.on == i || ancT md ops i f e.on)
  | none => false
structure ClosedT (md : Region.Mode) (ops : Array Oper) (listed : Array Bool) : Prop where
 size : listed.size = ops.size
 closed : ∀ j oj, ops[j]? = some oj → listed.getD j false = true → ∀ e ∈ oj.after, Region.binds md e = true → listed.getD e.on false = true
theorem closedT_spec {listed : Array Bool} (h : closedT md ops listed = true) : ClosedT md ops listed := by
 unfold closedT at h
 rw [Bool.and_eq_true, beq_iff_eq] at h
 refine ⟨h.1, fun j oj hj hl e he hb => ?_⟩
 have h2 := List.all_eq_true.1 h.2 j (List.mem_range.2 (Array.getElem?_eq_some_iff.1 hj).1)
 rw [hl, hj] at h2
 simp only [Bool.not_true, Bool.false_or] at h2
 have h3 := Array.all_eq_true'.1 h2 e he
 rw [hb] at h3
 simpa using h3
theorem ClosedT.set {listed : Array Bool} {i : Nat} (inv : ClosedT md ops listed) (hi : i ∈ Region.ready md ops listed) : ClosedT md ops (listed.setIfInBounds i true) := by
 obtain ⟨_, oi, hoi, hall⟩ := mem_ready.1 hi
 refine ⟨by simp [inv.size], fun j oj hj hl e he hb => ?_⟩
 by_cases hij : i = j
 ·subst hij
  have : oj = oi := Option.some.inj (hj.symm.trans hoi)
  subst this
  exact getD_set_true (hall e he hb)
 ·rw [getD_set_ne false hij] at hl
  exact getD_set_true (inv.closed j oj hj hl e he hb)
theorem ancT_listed {listed : Array Bool} {i : Nat} (inv : ClosedT md ops listed) : ∀ (f t : Nat), listed.getD t false = true → ancT md ops i f t = true → listed.getD i false = true
 | 0, _, _, h => by cases h
 | f + 1, t, hl, h => by
  unfold ancT at h
  rcases ho : ops[t]? with _ | o
  ·rw [ho] at h; cases h
  ·rw [ho] at h
   obtain ⟨e, he, h2⟩ := Array.any_eq_true'.1 h
   rw [Bool.and_eq_true, Bool.or_eq_true, beq_iff_eq] at h2
   have h3 := inv.closed t o ho hl e he h2.1
   rcases h2.2 with h4 | h4
   ·rw [← h4]; exact h3
   ·exact ancT_listed inv f e.on h3 h4
theorem ancT_ready {listed : Array Bool} {i f : Nat} (inv : ClosedT md ops listed) (ht : T ∈ Region.ready md ops listed) (ha : ancT md ops i f T = true) : listed.getD i false = true := by
 obtain ⟨_, o, ho, hall⟩ := mem_ready.1 ht
 cases f with
 | zero => cases ha
 | succ f =>
  unfold ancT at ha
  rw [ho] at ha
  obtain ⟨e, he, h2⟩ := Array.any_eq_true'.1 ha
  rw [Bool.and_eq_true, Bool.or_eq_true, beq_iff_eq] at h2
  have h3 := hall e he h2.1
  rcases h2.2 with h4 | h4
  ·rw [← h4]; exact h3
  ·exact ancT_listed inv f e.on h3 h4
theorem getD_unset {l : Array Bool} {i T : Nat} (h : (l.setIfInBounds i true).getD T false = true) (hi : i ≠ T) : l.getD T false = true := by rwa [getD_set_ne false hi] at h
theorem not_both {l : Array Bool} {i : Nat} (h1 : l.getD i false = true) (h0 : l.getD i true = false) : False := by
 rcases Nat.lt_or_ge i l.size with h' | h'
 ·simp [h'] at h0 h1; rw [h0] at h1; cases h1
 ·simp [Array.getElem?_eq_none h'] at h1
theorem wpAnyT_first {i f : Nat} {oi : Oper} {v : Value} (hi : ops[i]? = some oi) (hsel : ∀ (j : Nat) (o : Oper) cs b, ops[j]? = some o → o.op ≠ .select cs b)
  (hQ : ∀ c a w, Q (.panic c) (a.put oi.dst v) w → Q (.panic c) a w) (hanc : ancT md ops i f T = true) (hiT : i ≠ T) :
  ∀ (fuel : Nat) (listed : Array Bool) (a : Act) (w : World), ClosedT md ops listed →
   (∀ j oj, ops[j]? = some oj → j ≠ i → listed.getD j true = false → (∀ e ∈ oj.after, Region.binds md e = true → e.on ≠ i) → oi.apart ops oj = true) →
   i ∈ Region.ready md ops listed → YieldsIf P ops S oi v a → S w →
   wpAnyT P md ops Q T S fuel (listed.setIfInBounds i true) (a.put oi.dst v) w → wpAnyT P md ops Q T S (fuel + 1) listed a w := by
 intro fuel
 induction fuel with
 | zero =>
  intro listed a w _ _ hr hy hS H
  refine ⟨fun h => (by rw [h] at hr; cases hr), fun j hj => ?_⟩
  by_cases hji : j = i
  ·subst hji; exact hy.wpOp hi hS ⟨.inr hS, H⟩
  ·have := ready_mono hj hji
   rw [H.1] at this
   cases this
 | succ fuel ih =>
  intro listed a w inv hfree hr hy hS H
  refine ⟨fun h => (by rw [h] at hr; cases hr), fun j hj => ?_⟩
  by_cases hji : j = i
  ·subst hji; exact hy.wpOp hi hS ⟨.inr hS, H⟩
  ·have h1 := H.2 j (ready_mono hj hji)
   obtain ⟨hjun, oj, hoj, hall⟩ := mem_ready.1 hj
   have h0 := (mem_ready.1 hr).1
   have hjT : j ≠ T := by
    rintro rfl
    exact not_both (ancT_ready inv hj hanc) h0
   have hnot : ∀ e ∈ oj.after, Region.binds md e = true → e.on ≠ i := fun e he hb heq => by
    have h1 := hall e he hb
    rw [heq] at h1
    exact not_both h1 h0
   have h2 := wpOp_putIf hoj (hfree j oj hoj hji hjun hnot) (fun cs b => hsel i oi cs b hi) (fun cs b => hsel j oj cs b hoj) hQ hy h1
   have hfree' : ∀ k ok, ops[k]? = some ok → k ≠ i → (listed.setIfInBounds j true).getD k true = false →
     (∀ e ∈ ok.after, Region.binds md e = true → e.on ≠ i) → oi.apart ops ok = true := fun k ok hk hki hun hno => by
    refine hfree k ok hk hki ?_ hno
    by_cases hjk : j = k
    ·subst hjk; exact hjun
    ·rw [getD_set_ne true hjk] at hun; exact hun
   refine wpOp_mono (fun a' w' h3 => ?_) h2
   have hS' : S w' := by
    rcases h3.2.1 with h4 | h4
    ·exact (not_both (ancT_listed inv f T (getD_unset (getD_unset h4 hjT) hiT) hanc) h0).elim
    ·exact h4
   refine ⟨.inr hS', ih (listed.setIfInBounds j true) a' w' (inv.set hj) hfree' (ready_mono hr (Ne.symm hji)) h3.1 hS' ?_⟩
   rw [Array.setIfInBounds_comm _ _ hji]
   exact h3.2.2
theorem wpAnyT_free1 {i : Nat} {oi : Oper} {v : Value} (hi : ops[i]? = some oi) (hsel : ∀ (j : Nat) (o : Oper) cs b, ops[j]? = some o → o.op ≠ .select cs b)
  (hQ : ∀ c a w, Q (.panic c) (a.put oi.dst v) w → Q (.panic c) a w) (hiT : i ≠ T) :
  ∀ (fuel : Nat) (listed : Array Bool) (a : Act) (w : World),
   (∀ j oj, ops[j]? = some oj → j ≠ i → listed.getD j true = false → (∀ e ∈ oj.after, Region.binds md e = true → e.on ≠ i) → oi.apart ops oj = true) →
   i ∈ Region.ready md ops listed → YieldsIf P ops (fun _ => True) oi v a → (listed.getD T false = true ∨ S w) →
   wpAnyT P md ops Q T S fuel (listed.setIfInBounds i true) (a.put oi.dst v) w → wpAnyT P md ops Q T S (fuel + 1) listed a w := by
 intro fuel
 induction fuel with
 | zero =>
  intro listed a w _ hr hy hS H
  refine ⟨fun h => (by rw [h] at hr; cases hr), fun j hj => ?_⟩
  by_cases hji : j = i
  ·subst hji; exact hy.wpOp hi trivial ⟨by rw [getD_set_ne false hiT]; exact hS, H⟩
  ·have := ready_mono hj hji
   rw [H.1] at this
   cases this
 | succ fuel ih =>
  intro listed a w hfree hr hy hS H
  refine ⟨fun h => (by rw [h] at hr; cases hr), fun j hj => ?_⟩
  by_cases hji : j = i
  ·subst hji; exact hy.wpOp hi trivial ⟨by rw [getD_set_ne false hiT]; exact hS, H⟩
  ·have h1 := H.2 j (ready_mono hj hji)
   obtain ⟨hjun, oj, hoj, hall⟩ := mem_ready.1 hj
   have h0 := (mem_ready.1 hr).1
   have hnot : ∀ e ∈ oj.after, Region.binds md e = true → e.on ≠ i := fun e he hb heq => by
    have h1 := hall e he hb
    rw [heq] at h1
    exact not_both h1 h0
   have h2 := wpOp_putIf hoj (hfree j oj hoj hji hjun hnot) (fun cs b => hsel i oi cs b hi) (fun cs b => hsel j oj cs b hoj) hQ hy h1
   have hfree' : ∀ k ok, ops[k]? = some ok → k ≠ i → (listed.setIfInBounds j true).getD k true = false →
     (∀ e ∈ ok.after, Region.binds md e = true → e.on ≠ i) → oi.apart ops ok = true := fun k ok hk hki hun hno => by
    refine hfree k ok hk hki ?_ hno
    by_cases hjk : j = k
    ·subst hjk; exact hjun
    ·rw [getD_set_ne true hjk] at hun; exact hun
   refine wpOp_mono (fun a' w' h3 => ?_) h2
   have hS' : (listed.setIfInBounds j true).getD T false = true ∨ S w' := by
    rcases h3.2.1 with h4 | h4
    ·left
     rw [Array.setIfInBounds_comm _ _ (Ne.symm hji)] at h4
     exact getD_unset h4 hiT
    ·exact .inr h4
   refine ⟨hS', ih (listed.setIfInBounds j true) a' w' hfree' (ready_mono hr (Ne.symm hji)) h3.1 hS' ?_⟩
   rw [Array.setIfInBounds_comm _ _ hji]
   exact h3.2.2
theorem wpAnyT_take {i : Nat} {oi : Oper} {v : Value} {fuel : Nat} {listed : Array Bool} {a : Act} {w : World} (f : Nat) (hi : ops[i]? = some oi)
  (hs : Region.noSelect ops = true) (hf : Region.free md ops listed i = true) (hr : (Region.ready md ops listed).contains i = true) (hc : closedT md ops listed = true) (ha : ancT md ops i f T = true)
  (hQ : ∀ c a w, Q (.panic c) (a.put oi.dst v) w → Q (.panic c) a w) (hy : YieldsIf P ops S oi v a) (hS : S w)
  (h : wpAnyT P md ops Q T S fuel (listed.setIfInBounds i true) (a.put oi.dst v) w) (hiT : (i == T) = false := by rfl) : wpAnyT P md ops Q T S (fuel + 1) listed a w :=
 wpAnyT_first hi (Region.noSelect_spec hs) hQ ha (by simpa using hiT) fuel listed a w (closedT_spec hc) (Region.free_spec hi hf) (by simpa using hr) hy hS h
theorem wpAnyT_free {i : Nat} {oi : Oper} {v : Value} {fuel : Nat} {listed : Array Bool} {a : Act} {w : World} (hi : ops[i]? = some oi)
  (hs : Region.noSelect ops = true) (hf : Region.free md ops listed i = true) (hr : (Region.ready md ops listed).contains i = true)
  (hQ : ∀ c a w, Q (.panic c) (a.put oi.dst v) w → Q (.panic c) a w) (hy : YieldsIf P ops (fun _ => True) oi v a) (hS : S w)
  (h : wpAnyT P md ops Q T S fuel (listed.setIfInBounds i true) (a.put oi.dst v) w) (hiT : (i == T) = false := by rfl) : wpAnyT P md ops Q T S (fuel + 1) listed a w :=
 wpAnyT_free1 hi (Region.noSelect_spec hs) hQ (by simpa using hiT) fuel listed a w (Region.free_spec hi hf) (by simpa using hr) hy (.inr hS) h
theorem wpAnyT_one {i : Nat} {o : Oper} {fuel : Nat} {listed : Array Bool} {a : Act} {w : World} (hr : Region.ready md ops listed = [i]) (hi : ops[i]? = some o) (hg : o.guard = none)
  (h : ∀ K : Act → World → Prop, (∀ a' w', ((listed.setIfInBounds i true).getD T false = true ∨ S w') → wpAnyT P md ops Q T S fuel (listed.setIfInBounds i true) a' w' → K a' w') → Oper.wp P o a w K Q) : wpAnyT P md ops Q T S (fuel + 1) listed a w := by
 refine ⟨fun h0 => ?_, fun j hj => ?_⟩
 ·rw [hr] at h0
  cases h0
 ·rw [hr, List.mem_singleton] at hj
  subst hj
  have h1 := h (fun a' w' => ((listed.setIfInBounds j true).getD T false = true ∨ S w') ∧ wpAnyT P md ops Q T S fuel (listed.setIfInBounds j true) a' w') (fun a' w' h1 h2 => ⟨h1, h2⟩)
  unfold wpOp
  simp only [hi]
  have hw : Region.wanted o (yielded ops a.tmps) = true := by simp [Region.wanted, hg]
  rw [if_pos hw]
  exact .inl h1
theorem wpAnyT_done {listed : Array Bool} {a : Act} {w : World} (hr : Region.ready md ops listed = []) (h : Q .normal a w) : ∀ fuel, wpAnyT P md ops Q T S fuel listed a w
 | 0 => ⟨hr, h⟩
 | _ + 1 => ⟨fun _ => h, by rw [hr]; simp⟩
theorem wp_regionT (T : Nat) (S : World → Prop) {id : Nat} {a : Act} {w : World} (hm : P.follows .mixedOrders = true)
  (h : wpAnyT P .any ops Q T S ops.size (Array.replicate ops.size false) a w.drew) : (Code.region id ops true).wp P Q a w :=
 wp_region_any hm (wpAny_of_T _ _ _ _ h)
end
end Go.Proofs.YtopoefcklipaeaaGreatDoor
