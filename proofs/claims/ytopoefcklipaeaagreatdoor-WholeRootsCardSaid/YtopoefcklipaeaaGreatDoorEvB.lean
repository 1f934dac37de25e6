/- The evaluator is sound: second part. -/
import Derived.Test.YtopoefcklipaeaaGreatDoorEvA
import Derived.Laws.Append
import Derived.AtR
import Derived.RangeFuncIn
import Derived.RangeFuncNested
import Derived.Orders
import Derived.Defers
namespace Go.Ev
open Go.RowKit

section
variable {P : Program} {G : Nat → Option O} {w0 : World} {θ : Th}

theorem run_checkKey {n : Nat} {e : Bool} {t : TypeId} {kd : TypeDesc} {k : V} {v : Value} (h : P.underlying t = some kd) (hk : keyB kd k = true) (w : World) : (Instr.checkKey e (n + 1) t v).run P w = .ok () w := by
  unfold keyB at hk
  split at hk <;> first
    | (cases hk; done)
    | (simp only [Instr.checkKey, Sem.run_bind, hund h, Result.andThen_ok]; rfl)

theorem beq_bytes (a b : List UInt8) : ((ByteArray.mk a.toArray) == (ByteArray.mk b.toArray)) = (a == b) := by
  show (a.toArray == b.toArray) = _
  simp

theorem sameA_eq {d : TypeDesc} {k x : V} {k' x' : Value} {r : Bool} (h : sameA d k x = some r) (hk : VR θ k k') (hx : VR θ x x') :
    Instr.sameNow d k' x' = some r ∧ (r = true → Instr.sameBits 10000 x' k' = true) := by
  unfold sameA at h
  split at h
  · rename_i j a k b
    simp only [VR] at hk hx; subst hk; subst hx
    cases hj : (j == k) with
    | false => rw [hj] at h; cases h
    | true =>
      rw [hj] at h
      have : j = k := by simpa using hj
      subst this
      cases h
      refine ⟨by simp [Instr.sameNow], fun e => ?_⟩
      simp only [Instr.sameBits, beq_self_eq_true, Bool.true_and]
      have : a = b := by simpa using e
      simp [this]
  · rename_i a b
    simp only [VR] at hk hx; subst hk; subst hx; cases h
    refine ⟨by simp only [Instr.sameNow, beq_bytes], fun e => ?_⟩
    simp only [Instr.sameBits, beq_bytes]
    have : a = b := by simpa using e
    simp [this]
  · rename_i a b
    simp only [VR] at hk hx; subst hk; subst hx; cases h
    refine ⟨rfl, fun e => ?_⟩
    have : a = b := by simpa using e
    simp [Instr.sameBits, this]
  · cases h

theorem findA_eq {d : TypeDesc} {k : V} {k' : Value} (hk : VR θ k k') : ∀ {es : List (V × V × Nat)} {es' : List MapEntry} {i : Nat} {r}, L2 (MR θ) es es' → findA d k es i = some r →
    match r with
    | none => Instr.findNow d k' es' i = some none
    | some (j, e) => ∃ e', Instr.findNow d k' es' i = some (some (j, e'.val)) ∧ MR θ e e' ∧ i ≤ j ∧ es[j - i]? = some e ∧ es'[j - i]? = some e' ∧ Instr.sameBits 10000 e'.key k' = true
  | [], es', i, r, hl, h => by
    simp only [L2] at hl; subst hl
    simp only [findA, Option.some.injEq] at h; subst h
    rfl
  | e :: es, es', i, r, hl, h => by
    obtain ⟨e', es'', rfl, hm, ht⟩ := hl
    unfold findA at h
    cases hs : sameA d k e.1 with
    | none => simp [hs] at h
    | some b =>
      obtain ⟨h1, h2⟩ := sameA_eq hs hk hm.1
      cases b with
      | true =>
        simp only [hs, Option.some.injEq] at h; subst h
        exact ⟨e', by simp [Instr.findNow, h1], hm, Nat.le_refl _, by simp, by simp, h2 rfl⟩
      | false =>
        simp only [hs] at h
        have ih := findA_eq hk ht h
        cases r with
        | none => simp only [Instr.findNow, h1]; exact ih
        | some q =>
          obtain ⟨j, x⟩ := q
          obtain ⟨x', g1, g2, g3, g4, g5, g6⟩ := ih
          have e1 : j - i = (j - (i + 1)) + 1 := by omega
          exact ⟨x', by simp only [Instr.findNow, h1]; exact g1, g2, by omega, by rw [e1]; simpa using g4, by rw [e1]; simpa using g5, g6⟩

theorem mapAt_run {b : Nat} {s s' : St} {q : Nat × List (V × V × Nat) × Nat} (h : (mapAt b).run s = .ok q s') : q.1 = b ∧ s.at b = some (.map q.2.1 q.2.2) ∧ s'.next = s.next ∧ s'.heap = s.heap := by
  obtain ⟨o, s1, h1, h2⟩ := (FM.run_bind _ _ _ _ _).1 h
  obtain ⟨e1, e2, e3⟩ := FM.run_get _ _ _ _ h1
  cases o with
  | map es c => cases h2; exact ⟨rfl, e1, e2, e3⟩
  | _ => cases h2
def QR (θ : Th) (b : Nat) (q : Nat × List (V × V × Nat) × Nat) (o : Obj) : Prop := q.1 = b ∧ ∃ a, o = .map a q.2.2 ∧ L2 (MR θ) q.2.1 a.toList
theorem run_getObj {w : World} {r : Nat} {o : Obj} (h : w.heap[r]? = some o) (hn : ∀ c e f, o ≠ .cells c e f) : (getObj r).run P w = .ok o w := by
  unfold getObj
  simp only [Sem.run, h]
theorem run_setObj {w : World} {r : Nat} {o o' : Obj} (h : w.heap[r]? = some o) (hn : ∀ c e f, o ≠ .cells c e f) : (setObj r o').run P w = .ok () (setObjW w r o') := by
  unfold setObj
  simp only [Sem.run, h]
  cases o <;> first | rfl | exact absurd rfl (hn _ _ _)
theorem sim_mapOf {b : Nat} {c : Nat × Nat} (hb : θ b = some c) : Sim P G w0 θ (mapAt b) (getObj c.1) (fun θ' q o => QR θ' b q o) := by
  intro s q s' w hm hr hf
  obtain ⟨h1, h2, h3, h4⟩ := mapAt_run hm
  obtain ⟨c', obj, hc, hw, ho⟩ := hr.live b _ h2
  rw [hb] at hc; cases hc
  obtain ⟨a, rfl, hl⟩ := ho
  exact ⟨_, w, θ, run_getObj hw (by intros; simp), ⟨Le.refl θ, fun _ h _ => h⟩, hr.same (fun j => by simp [St.at, h4]), h1, a, rfl, hl⟩
theorem sim_putMap {b : Nat} {c : Nat × Nat} {es : List (V × V × Nat)} {ck : Nat} {a : Array MapEntry} (hb : θ b = some c) (hl : L2 (MR θ) es a.toList)
    (hold : ∀ (s : St) (w : World), Rel G w0 θ s w → s.at b ≠ none → ∃ a' ck', w.heap[c.1]? = some (.map a' ck')) :
    Sim P G w0 θ (FM.put b (some (.map es ck))) (setObj c.1 (.map a ck)) (fun _ _ _ => True) := by
  intro s u s' w hm hr hf
  obtain ⟨g1, ⟨q, g2⟩, g3, g4⟩ := FM.run_put _ _ _ _ _ hm
  obtain ⟨a', ck', hw⟩ := hold s w hr (by rw [g2]; simp)
  exact ⟨(), _, θ, run_setObj hw (by intros; simp), ⟨Le.refl θ, fun _ h _ => h⟩, hr.put g1 g2 hb g4 ⟨a, rfl, hl⟩, trivial⟩

theorem mapBOf_eq {x : V} {b : Nat} (h : mapBOf x = some b) : x = .map b := by cases x <;> cases h; rfl
theorem map_old {b : Nat} {c : Nat × Nat} {es : List (V × V × Nat)} {ck : Nat} {θ0 : Th} {s0 : St} {w1 : World} (hr0 : Rel G w0 θ0 s0 w1) (hb : θ0 b = some c) (hs : s0.at b = some (.map es ck)) :
    ∃ a', w1.heap[c.1]? = some (.map a' ck) ∧ L2 (MR θ0) es a'.toList := by
  obtain ⟨c', obj, hc, hw, ho⟩ := hr0.live b _ hs
  rw [hb] at hc; cases hc
  obtain ⟨a, rfl, hl⟩ := ho
  exact ⟨a, hw, hl⟩

theorem sim_lookupF {t : TypeId} {x k : V} {v u : Value} {ok : Bool} (hx : VR θ x v) (hk : VR θ k u) : Sim P G w0 θ (lookupF P t x k ok) (Instr.lookup t v u ok) VR := by
  refine Sim.opt fun d hd => ?_
  split
  · rename_i kt et
    refine Sim.opt fun kd hkd => Sim.grd fun hg => ?_
    let zc : Sem Value := do let v ← zeroValue et; pure (if ok then .tuple #[v, .bool false] else v)
    have okR : ∀ θ' a b c, VR θ' a b → VR θ' (okV ok a c) (if ok then .tuple #[b, .bool c] else b) := by
      intro θ' a b c q
      cases ok
      · exact q
      · show VR θ' (.tup [a, .bool c]) (.tuple #[b, .bool c])
        simp only [VR]
        exact ⟨_, rfl, VRL.cons q (VRL.cons (by simp only [VR]) (VRL.nil_iff.2 rfl))⟩
    have zero : ∀ {θ'}, Sim P G w0 θ' ((zeroF P et).bind fun z => FM.pure (okV ok z false)) zc VR := fun {θ'} => Sim.bind sim_zeroF fun θ' a b _ q => Sim.ret (fun _ => rfl) (okR _ _ _ _ q)
    have hck := fun e w => run_checkKey (P := P) (n := 9999) (e := e) (v := u) hkd hg w
    split
    · simp only [VR] at hx; subst hx
      refine Sim.congr (fun w => ?_) zero
      simp only [Instr.lookup, Sem.run_bind, hund hd, Result.andThen_ok, Sem.run_pure, hck, Instr.findKey, hund hkd, Instr.findNow, zc]
    · refine Sim.assoc (Sim.opt fun b hb => ?_)
      obtain rfl := mapBOf_eq hb
      simp only [VR] at hx
      obtain ⟨c, hc, rfl⟩ := hx
      intro s r s' w hm hr hf
      obtain ⟨q, s1, h1, h2⟩ := (FM.run_bind _ _ _ _ _).1 hm
      obtain ⟨p1, p2, p3, p4⟩ := mapAt_run h1
      obtain ⟨fr, s2, h3, h4⟩ := (FM.run_bind _ _ _ _ _).1 h2
      obtain ⟨e1, rfl⟩ := FM.run_ofOption _ _ _ _ h3
      obtain ⟨a, hw, hl⟩ := map_old hr hc p2
      have hget := run_getObj (P := P) hw (by intros; simp)
      have hfind := findA_eq hk hl e1
      cases fr with
      | none =>
        obtain ⟨b', w', θ', g1, g2, g3, g4⟩ := zero (θ' := θ) _ r s' w h4 (hr.same (fun j => by simp [St.at, p4])) (by rw [p3]; exact hf)
        rw [p3] at g2
        refine ⟨b', w', θ', ?_, g2, g3, g4⟩
        simp only [Instr.lookup, Sem.run_bind, hund hd, Result.andThen_ok, Sem.run_pure, hget, hck, Instr.findKey, hund hkd, hfind]
        rw [← g1]
        simp only [zc, Sem.run_bind]
        generalize Sem.run P (zeroValue et) w = r
        cases r <;> rfl
      | some e =>
        obtain ⟨j, e⟩ := e
        cases h4
        obtain ⟨e', g1, g2, g3, g4, g5, g6⟩ := hfind
        refine ⟨if ok = true then .tuple #[e'.val, .bool true] else e'.val, w, θ, ?_, ⟨Le.refl θ, fun _ h _ => h⟩, hr.same (fun j => by simp [St.at, p4]), okR _ _ _ _ g2.2.1⟩
        simp only [Instr.lookup, Sem.run_bind, hund hd, Result.andThen_ok, Sem.run_pure, hget, hck, Instr.findKey, hund hkd, g1]
  · exact Sim.fail

theorem L2.set {α β : Type} {R : α → β → Prop} : ∀ {xs : List α} {ys : List β} {i : Nat} {x : α} {f : β → β}, L2 R xs ys → (∀ y, ys[i]? = some y → R x (f y)) → L2 R (setAt xs i x) (ys.modify i f)
  | [], ys, i, x, f, h, _ => by simp only [L2] at h; subst h; simp [setAt, L2]
  | a :: xs, ys, 0, x, f, h, k => by
    obtain ⟨y, ys', rfl, h1, h2⟩ := h
    exact ⟨f y, ys', by simp, k y (by simp), h2⟩
  | a :: xs, ys, i + 1, x, f, h, k => by
    obtain ⟨y, ys', rfl, h1, h2⟩ := h
    exact ⟨y, ys'.modify i f, by simp, h1, L2.set h2 (fun z hz => k z (by simpa using hz))⟩
theorem L2.snoc {α β : Type} {R : α → β → Prop} : ∀ {xs : List α} {ys : List β} {x : α} {y : β}, L2 R xs ys → R x y → L2 R (xs ++ [x]) (ys ++ [y])
  | [], ys, x, y, h, r => by simp only [L2] at h; subst h; exact ⟨y, [], rfl, r, rfl⟩
  | a :: xs, ys, x, y, h, r => by
    obtain ⟨z, ys', rfl, h1, h2⟩ := h
    exact ⟨z, ys' ++ [y], rfl, h1, L2.snoc h2 r⟩

theorem sim_mapUpdateF {t : TypeId} {m k x : V} {m' k' v : Value} (hm' : VR θ m m') (hk : VR θ k k') (hx : VR θ x v) : Sim P G w0 θ (mapUpdateF P t m k x) (Instr.mapUpdate t m' k' v) (fun _ a _ => a = undefV) := by
  refine Sim.opt fun d hd => ?_
  split
  · rename_i kt et
    refine Sim.opt fun kd hkd => Sim.grd fun hg => ?_
    refine Sim.assoc (Sim.opt fun b hb => ?_)
    obtain rfl := mapBOf_eq hb
    simp only [VR] at hm'
    obtain ⟨c, hc, rfl⟩ := hm'
    have hck := fun e w => run_checkKey (P := P) (n := 9999) (e := e) (v := k') hkd hg w
    intro s r s' w hm hr hf
    obtain ⟨q, s1, h1, h2⟩ := (FM.run_bind _ _ _ _ _).1 hm
    obtain ⟨p1, p2, p3, p4⟩ := mapAt_run h1
    obtain ⟨fr, s2, h3, h4⟩ := (FM.run_bind _ _ _ _ _).1 h2
    obtain ⟨e1, rfl⟩ := FM.run_ofOption _ _ _ _ h3
    obtain ⟨a, hw, hl⟩ := map_old hr hc p2
    have hget := run_getObj (P := P) hw (by intros; simp)
    have hfind := findA_eq hk hl e1
    have hrel := hr.same (s' := s2) (fun j => by simp [St.at, p4])
    rw [p1] at h4
    cases fr with
    | none =>
      obtain ⟨u, s3, h5, h6⟩ := (FM.run_bind _ _ _ _ _).1 h4
      cases h6
      obtain ⟨g1, ⟨q', g2⟩, g3, g4⟩ := FM.run_put _ _ _ _ _ h5
      refine ⟨(), setObjW w c.1 (.map (a.push { key := k', val := v, born := q.2.2 }) (q.2.2 + 1)), θ, ?_, ⟨Le.refl θ, fun _ h _ => h⟩, hrel.put g1 g2 hc g4 ⟨_, rfl, ?_⟩, rfl⟩
      · simp only [Instr.mapUpdate, Sem.run_bind, hund hd, Result.andThen_ok, hget, hck, Instr.findKey, hund hkd, hfind, Sem.run_pure]
        exact run_setObj hw (by intros; simp)
      · rw [Array.toList_push]
        exact L2.snoc hl ⟨hk, hx, rfl⟩
    | some e =>
      obtain ⟨j, e⟩ := e
      obtain ⟨u, s3, h5, h6⟩ := (FM.run_bind _ _ _ _ _).1 h4
      cases h6
      obtain ⟨g1, ⟨q', g2⟩, g3, g4⟩ := FM.run_put _ _ _ _ _ h5
      obtain ⟨e', f1, f2, f3, f4, f5, f6⟩ := hfind
      have f5' : a[j]? = some e' := by rw [← Array.getElem?_toList]; simpa using f5
      refine ⟨(), setObjW w c.1 (.map (a.modify j fun e => { e with key := k', val := v }) q.2.2), θ, ?_, ⟨Le.refl θ, fun _ h _ => h⟩, hrel.put g1 g2 hc g4 ⟨_, rfl, ?_⟩, rfl⟩
      · simp only [Instr.mapUpdate, Sem.run_bind, hund hd, Result.andThen_ok, hget, hck, Instr.findKey, hund hkd, f1, Sem.run_pure, f5', Option.map_some, Option.getD_some, Instr.keyThatStays, f6, if_true]
        exact run_setObj hw (by intros; simp)
      · rw [Array.toList_modify]
        refine L2.set hl fun y hy => ?_
        have : y = e' := by
          rw [Array.getElem?_toList, f5'] at hy; cases hy; rfl
        subst this
        exact ⟨hk, hx, f2.2.2⟩
  · exact Sim.fail
end
end Go.Ev

namespace Go.Ev
open Go.RowKit

section
variable {P : Program} {G : Nat → Option O} {w0 : World} {θ : Th}

theorem L2.filter {α β : Type} {R : α → β → Prop} {p : α → Bool} {q : β → Bool} (hpq : ∀ x y, R x y → p x = q y) : ∀ {xs : List α} {ys : List β}, L2 R xs ys → L2 R (xs.filter p) (ys.filter q)
  | [], ys, h => by simp only [L2] at h; subst h; simp [L2]
  | a :: xs, ys, h => by
    obtain ⟨y, ys', rfl, h1, h2⟩ := h
    have ih := L2.filter hpq h2
    rw [List.filter_cons, List.filter_cons, hpq a y h1]
    cases q y with
    | true => exact ⟨y, _, rfl, h1, ih⟩
    | false => exact ih
theorem L2.all {α β : Type} {R : α → β → Prop} {p : α → Bool} {q : β → Bool} (hpq : ∀ x y, R x y → p x = q y) : ∀ {xs : List α} {ys : List β}, L2 R xs ys → ys.all q = xs.all p
  | [], ys, h => by simp only [L2] at h; subst h; rfl
  | a :: xs, ys, h => by
    obtain ⟨y, ys', rfl, h1, h2⟩ := h
    rw [List.all_cons, List.all_cons, hpq a y h1, L2.all hpq h2]

theorem sim_newIter {m : Option Nat} {since st : Nat} {seen : List Nat} {m' : Option Nat} (h : IterM θ m m') :
    Sim P G w0 θ ((FM.new (.iter m since seen st)).bind fun b => FM.pure (.ptr b 0)) (do pure (.pointer (some ⟨← newObj (.mapIter m' since seen.toArray st), 0, none⟩))) VR := by
  have h1 : Sim P G w0 θ (FM.new (.iter m since seen st)) (newObj (.mapIter m' since seen.toArray st)) (fun θ' i n => ∃ κ, θ' i = some (n, κ)) := by
    intro s i s' w hm hr hf
    obtain ⟨rfl, h2, h3, h4, h5⟩ := FM.run_new _ _ _ _ hm
    have hθ := hf s.next (Nat.le_refl _) (by omega)
    exact ⟨w.heap.size, w.alloc (.mapIter m' since seen.toArray st), upd θ s.next (w.heap.size, 0), rfl, by rw [h4]; exact upd_ext hθ, hr.new h2 h3 hθ h5 ⟨m', rfl, h.mono (upd_le hθ)⟩, 0, upd_same _ _ _⟩
  refine Sim.bind h1 fun θ' a b _ q => ?_
  obtain ⟨κ, hq⟩ := q
  exact Sim.ret (fun _ => rfl) (by simp only [VR]; exact ⟨_, hq, rfl⟩)

theorem sim_rangeF {t : TypeId} {x : V} {v : Value} (hx : VR θ x v) : Sim P G w0 θ (rangeF P t x) (Instr.range t v) VR := by
  refine Sim.opt fun d hd => Sim.grd fun hg => ?_
  cases d with
  | map kt et =>
    split
    · simp only [VR] at hx; subst hx
      refine Sim.congr (fun w => ?_) (sim_newIter (m' := none) rfl)
      simp [Instr.range, hund hd]
    · refine Sim.opt fun b hb => ?_
      obtain rfl := mapBOf_eq hb
      simp only [VR] at hx
      obtain ⟨c, hc, rfl⟩ := hx
      have e : Instr.range t (.map (some c.1)) = (do
        let d ← underlying t
        let it ← match d, (Value.map (some c.1)) with
          | .string, .string s => pure (.stringIter s 0)
          | .map _ _, .map none => pure (.mapIter none 0 #[] 0)
          | .map _ _, .map (some m) => do
            let .map _ clock ← getObj m | stuck "Range: map expected"
            pure (.mapIter (some m) clock #[] clock)
          | _, _ => stuck "Range: string or map expected"
        pure (.pointer (some ⟨← newObj it, 0, none⟩))) := rfl
      rw [e]
      refine Sim.step (hund hd) ?_
      intro s r s' w hm hr hf
      obtain ⟨q, s1, h1, h2⟩ := (FM.run_bind _ _ _ _ _).1 hm
      obtain ⟨p1, p2, p3, p4⟩ := mapAt_run h1
      obtain ⟨a, hw, hl⟩ := map_old hr hc p2
      have hget := run_getObj (P := P) hw (by intros; simp)
      obtain ⟨b', w', θ', g1, g2, g3, g4⟩ := sim_newIter (P := P) (G := G) (w0 := w0) (θ := θ) (m := some b) (since := q.2.2) (seen := []) (st := q.2.2) (m' := some c.1) ⟨c, hc, rfl⟩ s1 r s' w h2 (hr.same (fun j => by simp [St.at, p4])) (by rw [p3]; exact hf)
      rw [p3] at g2
      refine ⟨b', w', θ', ?_, g2, g3, g4⟩
      simp only [Sem.run_bind, hget, Result.andThen_ok, Sem.run_pure]
      simpa using g1
  | _ => cases hg

theorem iter_old {b : Nat} {c : Nat × Nat} {m : Option Nat} {since : Nat} {seen : List Nat} {st : Nat} {s : St} {w : World} (hr : Rel G w0 θ s w) (hb : θ b = some c) (hs : s.at b = some (.iter m since seen st)) :
    ∃ m', w.heap[c.1]? = some (.mapIter m' since seen.toArray st) ∧ IterM θ m m' := by
  obtain ⟨c', obj, hc, hw, ho⟩ := hr.live b _ hs
  rw [hb] at hc; cases hc
  obtain ⟨m', rfl, h⟩ := ho
  exact ⟨m', hw, h⟩
theorem iterOf_eq {o : O} {i : Option Nat × Nat × List Nat × Nat} (h : iterOf o = some i) : o = .iter i.1 i.2.1 i.2.2.1 i.2.2.2 := by cases o <;> cases h; rfl

theorem sim_nextF {t : TypeId} {x : V} {v : Value} {str : Bool} (hx : VR θ x v) : Sim P G w0 θ (nextF x str) (Instr.next v str t) VR := by
  refine Sim.opt fun p hp => Sim.grd fun hg => ?_
  obtain rfl := ptrOf_eq hp
  simp only [VR] at hx
  obtain ⟨c, hc, rfl⟩ := hx
  simp only [Bool.and_eq_true] at hg
  have p0 : p.2 = 0 := Nat.eq_of_beq_eq_true hg.1
  have str0 : str = false := by simpa using hg.2
  subst str0
  rw [p0]
  intro s r s' w hm hr hf
  obtain ⟨o, s1, h1, h2⟩ := (FM.run_bind _ _ _ _ _).1 hm
  obtain ⟨e1, e2, e3⟩ := FM.run_get _ _ _ _ h1
  obtain ⟨i, s2, h3, h4⟩ := (FM.run_bind _ _ _ _ _).1 h2
  obtain ⟨e4, rfl⟩ := FM.run_ofOption _ _ _ _ h3
  obtain rfl := iterOf_eq e4
  have hrel := hr.same (s' := s2) (fun j => by simp [St.at, e3])
  obtain ⟨m', hw, hm'⟩ := iter_old hr hc e1
  have hget := run_getObj (P := P) hw (by intros; simp)
  have over : VR θ (.tup [.bool false]) (.tuple #[.bool false]) := by
    simp only [VR]; exact ⟨_, rfl, VRL.cons (by simp only [VR]) (VRL.nil_iff.2 rfl)⟩
  obtain ⟨m, since, seen, st⟩ := i
  simp only at h4 hw hm' hget
  cases m with
  | none =>
    have hm' : m' = none := hm'
    subst hm'
    cases h4
    refine ⟨.tuple #[.bool false], w, θ, ?_, ⟨Le.refl θ, fun _ h _ => h⟩, hrel, over⟩
    simp only [Instr.next, Sem.run_bind, hget, Result.andThen_ok, Sem.run_pure]
  | some b =>
    obtain ⟨cm, hcm, rfl⟩ := hm'
    obtain ⟨q, s3, h5, h6⟩ := (FM.run_bind _ _ _ _ _).1 h4
    obtain ⟨p1, p2, p3, p4⟩ := mapAt_run h5
    obtain ⟨a, hwm, hl⟩ := map_old hrel hcm p2
    have hgetm := run_getObj (P := P) hwm (by intros; simp)
    have hleft : L2 (MR θ) (leftA q.2.1 seen) (a.filter fun e => !seen.toArray.contains e.born).toList := by
      rw [Array.toList_filter]
      exact L2.filter (fun x y h => by rw [h.2.2]; simp) hl
    have hall : (a.all fun e => decide (e.born ≥ st)) = q.2.1.all (fun e => decide (e.2.2 ≥ st)) := by
      rw [← Array.all_toList]
      exact L2.all (fun x y h => by rw [h.2.2]) hl
    have hemp : a.isEmpty = q.2.1.isEmpty := by
      cases hq : q.2.1 with
      | nil => rw [hq] at hl; simp only [L2] at hl; simp [Array.isEmpty, ← Array.length_toList, hl]
      | cons x xs => rw [hq] at hl; obtain ⟨y, ys, e, _, _⟩ := hl; simp [Array.isEmpty, ← Array.length_toList, e]
    have hrel3 := hrel.same (s' := s3) (fun j => by simp [St.at, p4])
    split at h6
    · rename_i hle
      obtain ⟨u, s4, h7, h8⟩ := (FM.run_bind _ _ _ _ _).1 h6
      obtain ⟨e7, rfl⟩ := FM.run_guard _ _ _ _ h7
      cases h8
      rw [hle] at hleft
      simp only [L2] at hleft
      have hf0 : (a.filter fun e => !seen.toArray.contains e.born) = #[] := by
        apply Array.ext'; simpa using hleft
      have hcond : (!seen.toArray.isEmpty && !a.isEmpty && a.all fun e => decide (e.born ≥ st)) = false := by
        rw [hall, hemp]
        simp only [Bool.or_eq_true, List.any_eq_true] at e7
        rcases e7 with (e7 | e7) | ⟨x, hx1, hx2⟩
        · simp [e7]
        · simp [e7]
        · have : (q.2.1.all fun e => decide (e.2.2 ≥ st)) = false := by
            rw [Bool.eq_false_iff]
            intro hh
            have h9 := List.all_eq_true.1 hh x hx1
            have : x.2.2 < st := by simpa using hx2
            simp at h9; omega
          simp [this]
      refine ⟨.tuple #[.bool false], w, θ, ?_, ⟨Le.refl θ, fun _ h _ => h⟩, hrel3, over⟩
      simp only [Instr.next, Sem.run_bind, hget, hgetm, Result.andThen_ok, hcond, hf0]
      simp [Question.forced]
    · rename_i e hle
      obtain ⟨u, s4, h7, h8⟩ := (FM.run_bind _ _ _ _ _).1 h6
      obtain ⟨e7, rfl⟩ := FM.run_guard _ _ _ _ h7
      obtain ⟨u2, s5, h9, h10⟩ := (FM.run_bind _ _ _ _ _).1 h8
      cases h10
      obtain ⟨g1, ⟨q', g2⟩, g3, g4⟩ := FM.run_put _ _ _ _ _ h9
      simp only [Bool.and_eq_true] at e7
      have es : seen = [] := by simpa using e7.2
      have eb : e.2.2 < since := by simpa using e7.1
      subst es
      rw [hle] at hleft
      obtain ⟨y, ys, hy, hR, hys⟩ := hleft
      simp only [L2] at hys; subst hys
      have hf1 : (a.filter fun e => !([] : List Nat).toArray.contains e.born) = #[y] := by
        apply Array.ext'; simpa using hy
      have hyb : y.born < since := by rw [hR.2.2]; exact eb
      refine ⟨.tuple #[.bool true, y.key, y.val], setObjW w c.1 (.mapIter (some cm.1) since #[y.born] q.2.2), θ, ?_, ⟨Le.refl θ, fun _ h _ => h⟩, ?_, ?_⟩
      · simp only [Instr.next, Sem.run_bind, hget, hgetm, Result.andThen_ok, hf1]
        have hyb' : ¬ since ≤ y.born := by omega
        simp [Question.forced, hyb, hyb', run_setObj hw]
      · refine hrel3.put g1 g2 hc g4 ⟨some cm.1, ?_, cm, hcm, rfl⟩
        rw [hR.2.2]
      · simp only [VR]
        exact ⟨_, rfl, VRL.cons (by simp only [VR]) (VRL.cons hR.1 (VRL.cons hR.2.1 (VRL.nil_iff.2 rfl)))⟩
    · cases h6

theorem bornA_eq {n : Nat} : ∀ {es : List (V × V × Nat)} {es' : List MapEntry} {e}, L2 (MR θ) es es' → bornA n es = some e → ∃ e', es'.find? (·.born == n) = some e' ∧ MR θ e e'
  | [], es', e, hl, h => by cases h
  | x :: es, es', e, hl, h => by
    obtain ⟨y, ys, rfl, hm, ht⟩ := hl
    have h' : sel (Nat.beq x.2.2 n) (some x) (bornA n es) = some e := h
    rw [List.find?_cons]
    cases hb : Nat.beq x.2.2 n with
    | true =>
      rw [hb] at h'; cases h'
      have : y.born == n := by rw [hm.2.2]; simpa using hb
      exact ⟨y, by simp [this], hm⟩
    | false =>
      rw [hb] at h'
      have : (y.born == n) = false := by
        rw [hm.2.2, beq_eq_false_iff_ne]
        intro e; subst e; simp at hb
      rw [this]
      exact bornA_eq ht h'
theorem sim_entryF {x : V} {v : Value} (hx : VR θ x v) : Sim P G w0 θ (entryF x) (Instr.entry v) VR := by
  refine Sim.opt fun p hp => Sim.grd fun hg => ?_
  obtain rfl := ptrOf_eq hp
  simp only [VR] at hx
  obtain ⟨c, hc, rfl⟩ := hx
  have p0 : p.2 = 0 := Nat.eq_of_beq_eq_true hg
  rw [p0]
  intro s r s' w hm hr hf
  obtain ⟨o, s1, h1, h2⟩ := (FM.run_bind _ _ _ _ _).1 hm
  obtain ⟨e1, e2, e3⟩ := FM.run_get _ _ _ _ h1
  obtain ⟨i, s2, h3, h4⟩ := (FM.run_bind _ _ _ _ _).1 h2
  obtain ⟨e4, rfl⟩ := FM.run_ofOption _ _ _ _ h3
  obtain rfl := iterOf_eq e4
  have hrel := hr.same (s' := s2) (fun j => by simp [St.at, e3])
  obtain ⟨m', hw, hm'⟩ := iter_old hr hc e1
  have hget := run_getObj (P := P) hw (by intros; simp)
  split at h4
  · rename_i m n hi1 hi2
    rw [hi1] at hm'
    obtain ⟨cm, hcm, rfl⟩ := hm'
    rw [hi2] at hget
    obtain ⟨q, s3, h5, h6⟩ := (FM.run_bind _ _ _ _ _).1 h4
    obtain ⟨p1, p2, p3, p4⟩ := mapAt_run h5
    obtain ⟨a, hwm, hl⟩ := map_old hrel hcm p2
    have hgetm := run_getObj (P := P) hwm (by intros; simp)
    obtain ⟨u, s4, h7, h8⟩ := (FM.run_bind _ _ _ _ _).1 h6
    obtain ⟨e7, rfl⟩ := FM.run_guard _ _ _ _ h7
    obtain ⟨e, s5, h9, h10⟩ := (FM.run_bind _ _ _ _ _).1 h8
    obtain ⟨e9, rfl⟩ := FM.run_ofOption _ _ _ _ h9
    cases h10
    have hst : q.2.2 = i.2.2.2 := Nat.eq_of_beq_eq_true e7
    obtain ⟨e', f1, f2⟩ := bornA_eq hl e9
    refine ⟨.tuple #[e'.key, e'.val], w, θ, ?_, ⟨Le.refl θ, fun _ h _ => h⟩, hrel.same (fun j => by simp [St.at, p4]), ?_⟩
    · have f1' : a.find? (·.born == n) = some e' := by rw [← Array.find?_toList]; exact f1
      have hn : ([n].toArray).back? = some n := by simp
      simp [Instr.entry, hget, hgetm, hst, f1']
    · simp only [VR]
      exact ⟨_, rfl, VRL.cons f2.1 (VRL.cons f2.2.1 (VRL.nil_iff.2 rfl))⟩
  · cases h4
end
end Go.Ev

namespace Go.Ev
open Go.RowKit

section
variable {P : Program} {G : Nat → Option O} {w0 : World} {θ : Th}

theorem run_srcF {i : TypeInfo} {x : V} {v : Value} {s s' : St} {w : World} {q : List V × Nat} (hx : VR θ x v) (h : (srcF i x).run s = .ok q s') (hr : Rel G w0 θ s w) :
    s'.next = s.next ∧ s'.heap = s.heap ∧ (∀ w, (Builtin.lenOf v).run P w = .ok q.2 w) ∧ ∃ arr, (Builtin.firstCells i.size q.2 v).run P w = .ok arr w ∧ VRL θ q.1 arr.toList := by
  unfold srcF at h
  split at h
  · cases h; simp only [VR] at hx; subst hx
    exact ⟨rfl, rfl, fun _ => rfl, #[], rfl, by simp [VRL]⟩
  · cases h; simp only [VR] at hx; obtain ⟨a, n, rfl⟩ := hx
    refine ⟨rfl, rfl, fun _ => rfl, #[], ?_, by simp [VRL]⟩
    simp [Builtin.firstCells, loadCells, loadCellsFrom]
  · rename_i b off n cap
    obtain ⟨c, s1, h1, h2⟩ := (FM.run_bind _ _ _ _ _).1 h
    cases h2
    simp only [VR] at hx; obtain ⟨d, hd, rfl⟩ := hx
    obtain ⟨e1, e2, arr, e3, e4, _⟩ := run_loadN (P := P) hd h1 hr
    exact ⟨e1, e2, fun _ => rfl, arr, e3, e4⟩
  · rename_i b off k n
    obtain ⟨c, s1, h1, h2⟩ := (FM.run_bind _ _ _ _ _).1 h
    cases h2
    simp only [VR] at hx; obtain ⟨d, hd, rfl⟩ := hx
    obtain ⟨e1, e2, arr, e3, e4, _⟩ := run_loadN (P := P) hd h1 hr
    exact ⟨e1, e2, fun _ => rfl, arr, e3, e4⟩
  · rename_i str
    cases h; simp only [VR] at hx; subst hx
    refine ⟨rfl, rfl, fun w => by simp [Builtin.lenOf, ByteArray.size], (str.map fun b => Value.int .u8 b.toNat).toArray, ?_, by simpa using bytesV_eq str⟩
    have : (ByteArray.mk str.toArray).extract 0 str.length = ⟨str.toArray⟩ := by rw [extract_str]; simp
    simp [Builtin.firstCells, this]
  · cases h

/-- what an append asks of its arguments -/
structure ApOk (P : Program) (tys : Array TypeId) (e : TypeId) (i : TypeInfo) (z : Value) (x : Value) (m : Nat) : Prop where
  ty : ∃ t, tys[0]? = some t ∧ P.underlying t = some (.slice e)
  ty2 : ∃ t, tys[1]? = some t ∧ ((∃ e', P.underlying t = some (.slice e')) ∨ P.underlying t = some .string)
  info : P.info? e = some i
  pos : 0 < i.size
  bytes : i.bytes < 100000
  zero : i.zero = some z
  zlen : z.cells.size = i.size
  len : ∀ w, (Builtin.lenOf x).run P w = .ok m w
  few : m < 100000

theorem run_append_in {tys : Array TypeId} {e ty : TypeId} {i : TypeInfo} {z x : Value} {m n cap : Nat} {base : Option Addr} {arr : Array Value} {w : World} (h : ApOk P tys e i z x m) (hcap : n + m ≤ cap)
    (hx : (Builtin.firstCells i.size m x).run P w = .ok arr w) :
    (Builtin.append_ tys ty #[.slice base n cap, x]).run P w = (match base with | some a => (do storeCells (a.add (n * i.size)) arr.toList; pure (.slice base (n + m) cap) : Sem Value) | none => pure (.slice base (n + m) cap)).run P w := by
  obtain ⟨t, ht, hu⟩ := h.ty
  obtain ⟨t2, ht2, ⟨e', hu2⟩ | hu2⟩ := h.ty2 <;>
  · simp only [Builtin.append_, ht, ht2, List.getElem?_toArray, List.getElem?_cons_zero, List.getElem?_cons_succ, Sem.run_bind, hund hu, hund hu2, Result.andThen_ok, hsize h.info, Bool.false_eq_true, if_false, h.len, Sem.run_pure, hcap, if_true, hx, Bool.not_false]
    cases base <;> rfl
theorem run_append_new {tys : Array TypeId} {e ty : TypeId} {i : TypeInfo} {z x : Value} {m n cap : Nat} {base : Option Addr} {arr old : Array Value} {w : World} (h : ApOk P tys e i z x m) (hcap : ¬ n + m ≤ cap) (hn : n < 100000)
    (e1 : (Builtin.firstCells i.size m x).run P w.drew = .ok arr w.drew) (e2 : (Builtin.firstCells i.size n (.slice base n cap)).run P w.drew = .ok old w.drew) :
    ∃ newCap, n + m ≤ newCap ∧ (Builtin.append_ tys ty #[.slice base n cap, x]).run P w =
      .ok (.slice (some ⟨w.heap.size, 0, none⟩) (n + m) newCap) (w.drew.alloc (.cells (old ++ arr ++ Builtin.zeroCells z.cells (newCap - (n + m))) e)) := by
  obtain ⟨t, ht, hu⟩ := h.ty
  generalize hc : (n + m) + w.tape w.drawn (.appendCap (n + m) cap e) % (2 ^ 63 - (n + m)) = newCap
  refine ⟨newCap, by omega, ?_⟩
  have hf := h.few
  have hb := h.bytes
  have h1 : ¬ (((n + m : Nat) : Int) > IntKind.i64.max ∧ (False ∨ i.bytes = 0)) := by
    simp [IntKind.max, IntKind.signed, IntKind.bits]; omega
  have h2 : ¬ (Builtin.nextslicecap (n + m) cap * i.bytes > 2 ^ 48) := by
    have h3 := nextslicecap_le (need := n + m) (old := cap) (by omega)
    have h4 : Builtin.nextslicecap (n + m) cap * i.bytes ≤ (2 * (n + m)) * 100000 := Nat.mul_le_mul h3 (by omega)
    omega
  obtain ⟨t2, ht2, ⟨e', hu2⟩ | hu2⟩ := h.ty2 <;>
  · simp only [Builtin.append_, ht, ht2, List.getElem?_toArray, List.getElem?_cons_zero, List.getElem?_cons_succ, Sem.run_bind, hund hu, hund hu2, Result.andThen_ok, hsize h.info, hinfo h.info, Bool.false_eq_true, if_false, h.len, Sem.run_pure, hcap, Bool.not_false, if_true]
    rw [if_neg h1]
    simp only [Sem.run_bind, hinfo h.info, Result.andThen_ok]
    rw [if_neg h2]
    simp only [Sem.run_bind, run_choose, Question.forced, Bool.false_eq_true, if_false, Question.cut, hc, Result.andThen_ok, run_askRoom, World.drew_eq, e2, e1, hzero h.info h.zero, newRow, run_newObj, Sem.run_pure, World.alloc_eq, World.size_drew, hinfo h.info]
end
end Go.Ev

namespace Go.Ev
open Go.RowKit

section
variable {P : Program} {G : Nat → Option O} {w0 : World} {θ : Th}

theorem zeroCells_size (z : Array Value) (n : Nat) : (Builtin.zeroCells z n).size = n * z.size := by simp [Builtin.zeroCells]
theorem oneCells {xs : List V} {l : List Value} (h : allOne xs = true) (hv : VRL θ xs l) : ∀ v ∈ l, v.oneCell' = true := by
  intro v hvm
  obtain ⟨i, hi⟩ := List.getElem?_of_mem hvm
  have hlt : i < xs.length := by rw [← VRL.length hv]; exact (List.getElem?_eq_some_iff.1 hi).1
  obtain ⟨y, hy, hR⟩ := VRL.get hv (List.getElem?_eq_getElem hlt)
  rw [hi] at hy; cases hy
  exact hR.oneCell (allOne_mem _ h _ (List.getElem_mem hlt))

/-- a row that append makes -/
theorem grow_new {s s' : St} {w : World} {e : TypeId} {sz n m b newCap : Nat} {xs ys : List V} {old arr : Array Value} {z : Array Value} (hr : Rel G w0 θ s w) (hm : (FM.new (.grown e sz (xs ++ ys))).run s = .ok b s')
    (hf : Free θ s.next s'.next) (hx : VRL θ xs old.toList) (hy : VRL θ ys arr.toList) (h1 : old.size = n * sz) (h2 : arr.size = m * sz) (h3 : n + m ≤ newCap) (hz : z.size = sz) :
    ∃ θ', Ext θ θ' s.next s'.next ∧ Rel G w0 θ' s' (w.drew.alloc (.cells (old ++ arr ++ Builtin.zeroCells z (newCap - (n + m))) e)) ∧ VR θ' (.grow b 0 0 (n + m)) (.slice (some ⟨w.heap.size, 0, none⟩) (n + m) newCap) := by
  obtain ⟨rfl, g2, g3, g4, g5⟩ := FM.run_new _ _ _ _ hm
  have hθ := hf s.next (Nat.le_refl _) (by omega)
  have hle := upd_le (c := (w.heap.size, newCap)) hθ
  refine ⟨upd θ s.next (w.heap.size, newCap), by rw [g4]; exact upd_ext hθ, ?_, ?_⟩
  · refine hr.drew.new g2 g3 hθ g5 ⟨_, (0, 0), old.toList ++ arr.toList, (Builtin.zeroCells z (newCap - (n + m))).toList, rfl, by simp, (VRL.append hx hy).mono hle _ _, ?_, clear_zero _⟩
    simp only [Array.size_append, zeroCells_size, h1, h2, hz]
    rw [← Nat.add_mul, ← Nat.add_mul]
    congr 1; omega
  · simp only [VR]
    exact ⟨_, upd_same _ _ _, by simp⟩

theorem grownOf_eq {o : O} {g : Nat × Nat × List V} (h : grownOf o = some g) : o = .grown g.1 g.2.1 g.2.2 := by cases o <;> cases h; rfl

theorem sim_appendTo {tys : Array TypeId} {e ty : TypeId} {i : TypeInfo} {z : Value} {x : V} {v u : Value} {new : List V} {m : Nat} {s s' : St} {w : World} {r : V} (hx : VR θ x v) (hap : ApOk P tys e i z u m)
    (hlen : new.length = m * i.size) (hone : allOne new = true) (hsrc : ∀ w', Rel G w0 θ s w' → ∃ arr, (Builtin.firstCells i.size m u).run P w' = .ok arr w' ∧ VRL θ new arr.toList)
    (hm : (appendTo e i x new m).run s = .ok r s') (hr : Rel G w0 θ s w) (hf : Free θ s.next s'.next) :
    ∃ b w' θ', (Builtin.append_ tys ty #[v, u]).run P w = .ok b w' ∧ Ext θ θ' s.next s'.next ∧ Rel G w0 θ' s' w' ∧ VR θ' r b := by
  obtain ⟨arr, hsrc1, hnew1⟩ := hsrc w hr
  obtain ⟨arr2, hsrc2, hnew2⟩ := hsrc w.drew hr.drew
  have harr1 : arr.size = m * i.size := by rw [← Array.length_toList, VRL.length hnew1, hlen]
  have harr2 : arr2.size = m * i.size := by rw [← Array.length_toList, VRL.length hnew2, hlen]
  unfold appendTo at hm
  split at hm
  · simp only [VR] at hx; subst hx
    cases hb : Nat.beq m 0 with
    | true =>
      rw [hb] at hm; cases hm
      have m0 : m = 0 := Nat.eq_of_beq_eq_true hb
      subst m0
      refine ⟨.slice none 0 0, w, θ, ?_, Ext.refl _ _ _, hr, by simp only [VR]⟩
      rw [run_append_in hap (Nat.le_refl _) hsrc1]; rfl
    | false =>
      rw [hb] at hm
      obtain ⟨b, s1, h1, h2⟩ := (FM.run_bind _ _ _ _ _).1 hm
      cases h2
      have m0 : m ≠ 0 := fun e => by subst e; cases hb
      obtain ⟨newCap, hc, hrun⟩ := run_append_new (w := w) (base := none) (n := 0) (cap := 0) (ty := ty) (old := #[]) hap (by omega) (by omega) hsrc2 rfl
      obtain ⟨θ', q1, q2, q3⟩ := grow_new (n := 0) (m := m) (xs := []) (old := #[]) (z := z.cells) hr h1 hf (by simp [VRL]) hnew2 (by simp) harr2 hc hap.zlen
      simp only [Nat.zero_add] at hrun q2 q3
      exact ⟨_, _, θ', hrun, q1, q2, q3⟩
  · rename_i b off n cap
    simp only [VR] at hx
    obtain ⟨c, hc, rfl⟩ := hx
    cases hb : Nat.ble (n + m) cap with
    | true =>
      rw [hb] at hm
      obtain ⟨u1, s1, h1, h2⟩ := (FM.run_bind _ _ _ _ _).1 hm
      cases h2
      have hle : n + m ≤ cap := by simpa using hb
      obtain ⟨u', w', θ', g1, g2, g3, _⟩ := sim_storeN (P := P) hc hnew1 s u1 _ w h1 hr hf
      refine ⟨.slice (some ⟨c.1, off, none⟩) (n + m) cap, w', θ', ?_, g2, g3, ?_⟩
      · rw [run_append_in hap hle hsrc1]
        simp only [addr_add, Sem.run_bind, g1, Result.andThen_ok, Sem.run_pure]
      · simp only [VR]; exact ⟨c, g2.1 _ _ hc, rfl⟩
    | false =>
      rw [hb] at hm
      have hle : ¬ n + m ≤ cap := fun hh => by
        have : Nat.ble (n + m) cap = true := by simpa using hh
        rw [this] at hb; cases hb
      obtain ⟨u1, s1, h1, h2⟩ := (FM.run_bind _ _ _ _ _).1 hm
      obtain ⟨e1, rfl⟩ := FM.run_guard _ _ _ _ h1
      obtain ⟨old, s2, h3, h4⟩ := (FM.run_bind _ _ _ _ _).1 h2
      obtain ⟨b', s3, h5, h6⟩ := (FM.run_bind _ _ _ _ _).1 h4
      cases h6
      obtain ⟨l1, l2, olda, l3, l4, l5⟩ := run_loadN (P := P) hc h3 hr.drew
      obtain ⟨newCap, hcc, hrun⟩ := run_append_new (w := w) (base := some ⟨c.1, off, none⟩) (ty := ty) hap hle (by simpa using e1) hsrc2 l3
      obtain ⟨θ', q1, q2, q3⟩ := grow_new (n := n) (m := m) (old := olda) (z := z.cells) (hr.same (s' := s2) (fun j => by simp [St.at, l2])) h5 (by rw [l1]; exact hf) l4 hnew2 (by rw [← Array.length_toList, VRL.length l4, l5]) harr2 hcc hap.zlen
      rw [l1] at q1
      exact ⟨_, _, θ', hrun, q1, q2, q3⟩
  · rename_i b off k n
    simp only [VR] at hx
    obtain ⟨c, hc, rfl⟩ := hx
    cases hb : Nat.beq m 0 with
    | true =>
      rw [hb] at hm
      have m0 : m = 0 := Nat.eq_of_beq_eq_true hb
      subst m0
      obtain ⟨oc, s1, h1, h2⟩ := (FM.run_bind _ _ _ _ _).1 hm
      obtain ⟨e1, e2, e3, e4⟩ := run_rowF h1
      obtain ⟨g, s2, h3, h4⟩ := (FM.run_bind _ _ _ _ _).1 h2
      obtain ⟨e5, rfl⟩ := FM.run_ofOption _ _ _ _ h3
      obtain ⟨u1, s3, h5, h6⟩ := (FM.run_bind _ _ _ _ _).1 h4
      obtain ⟨e6, rfl⟩ := FM.run_guard _ _ _ _ h5
      cases h6
      simp only [Bool.and_eq_true] at e6
      have ho := grownOf_eq e5
      have f1 : off = k * i.size := Nat.eq_of_beq_eq_true e6.1
      have f2 := lenGe_eq _ _ e6.2.1
      have f3 : g.2.1 = i.size := Nat.eq_of_beq_eq_true e6.2.2.1
      have f4 : 0 < i.size := by simpa using e6.2.2.2
      obtain ⟨c', obj, hc', hw, hor⟩ := hr.live b _ e1
      rw [hc] at hc'; cases hc'
      rw [ho] at hor
      obtain ⟨a, fr, p, q, rfl, g2, hv, g3, _⟩ := hor
      have hle : n + 0 ≤ c.2 - k := by
        have h7 : oc.2 = g.2.2 := by
          have e2' : (O.grown g.1 g.2.1 g.2.2).row = some oc.2 := by rw [← ho]; exact e2
          exact (Option.some.inj e2').symm
        have h8 := VRL.length hv
        have h9 : a.size = p.length + q.length := by rw [← Array.length_toList, g2]; simp
        rw [f3] at g3
        rw [h7, f1] at f2
        have : (k + n) * i.size ≤ c.2 * i.size := by rw [Nat.add_mul]; omega
        have := Nat.le_of_mul_le_mul_right this f4
        omega
      refine ⟨.slice (some ⟨c.1, off, none⟩) (n + 0) (c.2 - k), w, θ, ?_, Ext.refl _ _ _ |> fun h => by rw [e3]; exact h, hr.same (fun j => by simp [St.at, e4]), ?_⟩
      · rw [run_append_in hap hle hsrc1]
        have : arr.toList = [] := by
          rw [← List.length_eq_zero_iff, Array.length_toList, harr1]; simp
        simp [this, storeCells]
      · simp only [VR]; exact ⟨c, hc, rfl⟩
    | false =>
      rw [hb] at hm
      have m0 : m ≠ 0 := fun e => by subst e; cases hb
      obtain ⟨u1, s1, h1, h2⟩ := (FM.run_bind _ _ _ _ _).1 hm
      obtain ⟨e1, hs1⟩ := FM.run_guard _ _ _ _ h1
      rw [hs1] at h2
      simp only [Bool.and_eq_true] at e1
      have n1 : n < 100000 := by simpa using e1.1
      have n2 : off = 0 := Nat.eq_of_beq_eq_true e1.2.1
      have n3 : k = 0 := Nat.eq_of_beq_eq_true e1.2.2
      subst n2; subst n3
      obtain ⟨o, s2, h3, h4⟩ := (FM.run_bind _ _ _ _ _).1 h2
      obtain ⟨p1, p2, p3⟩ := FM.run_get _ _ _ _ h3
      obtain ⟨g, s3, h5, h6⟩ := (FM.run_bind _ _ _ _ _).1 h4
      obtain ⟨e5, rfl⟩ := FM.run_ofOption _ _ _ _ h5
      obtain ⟨u2, s4, h7, h8⟩ := (FM.run_bind _ _ _ _ _).1 h6
      obtain ⟨e6, rfl⟩ := FM.run_guard _ _ _ _ h7
      obtain ⟨u3, s5, h9, h10⟩ := (FM.run_bind _ _ _ _ _).1 h8
      obtain ⟨b', s6, h11, h12⟩ := (FM.run_bind _ _ _ _ _).1 h10
      cases h12
      simp only [Bool.and_eq_true] at e6
      have f1 : g.1 = e := Nat.eq_of_beq_eq_true e6.1
      have f2 : g.2.1 = i.size := Nat.eq_of_beq_eq_true e6.2.1
      have f3 := lenIs_eq _ _ e6.2.2
      have ho := grownOf_eq e5
      obtain ⟨b1, ⟨q0, b2⟩, b3, b4⟩ := FM.run_put _ _ _ _ _ h9
      obtain ⟨rfl, a2, a3, a4, a5⟩ := FM.run_new _ _ _ _ h11
      obtain ⟨c', obj, hc', hw, hor⟩ := hr.live b _ p1
      rw [hc] at hc'; cases hc'
      rw [ho] at hor
      obtain ⟨a, fr, p, q, rfl, g2, hv, g3, g4⟩ := hor
      have hpl : p.length = n * i.size := by rw [VRL.length hv, f3]
      have hasz : a.size = p.length + q.length := by rw [← Array.length_toList, g2]; simp
      have hrel3 := hr.same (s' := s4) (fun j => by simp [St.at, p3])
      have hnext : s5.next = s.next := by rw [b3, p2]
      by_cases hle : n + m ≤ c.2
      · have hroom : 0 + n * i.size + arr.toList.length ≤ a.size := by
          rw [Array.length_toList, harr1, g3, f2, Nat.zero_add, ← Nat.add_mul]
          exact Nat.mul_le_mul_right _ hle
        have hst := run_storeRow (P := P) c.1 (0 + n * i.size) g.1 fr arr.toList 0 a w hw g4 (by simpa using hroom) (oneCells hone hnew1)
        have hθ : θ s5.next = none := hf s5.next (by rw [hnext]; exact Nat.le_refl _) (by rw [a4]; omega)
        refine ⟨.slice (some ⟨c.1, 0, none⟩) (n + m) c.2, setObjW w c.1 (.cells (a.toList.take (n * i.size) ++ arr.toList ++ a.toList.drop (n * i.size + arr.toList.length)).toArray g.1 fr), upd θ s5.next c, ?_, ?_, ?_, ?_⟩
        · rw [run_append_in hap (by simpa using hle) hsrc1]
          simp only [Nat.add_zero, Nat.zero_add] at hst
          simp only [addr_add, Nat.zero_add, Sem.run_bind, hst, Result.andThen_ok, Sem.run_pure, Nat.sub_zero]
        · rw [a4, ← hnext]; exact upd_ext hθ
        · have hj : ∀ j, s'.at j = if j = s5.next then some (.grown e i.size (g.2.2 ++ new)) else if j = b then none else s4.at j := fun j => by rw [a5, b4]
          have hn : s4.at s5.next = none := by
            have h := b4 s5.next
            by_cases hjb : s5.next = b
            · exfalso; rw [hjb] at hθ; rw [hθ] at hc; cases hc
            · rw [if_neg hjb] at h; rw [← h]; exact a3
          refine hrel3.alias b1 a2 b2 hc hn hθ hj ?_
          rw [f1]
          refine ⟨_, fr, p ++ arr.toList, q.drop (arr.toList.length), rfl, ?_, (VRL.append hv hnew1).mono (upd_le hθ) _ _, ?_, ?_⟩
          · rw [g2, List.take_left' hpl, ← List.drop_drop, List.drop_left' hpl]
          · have : (a.toList.take (n * i.size) ++ arr.toList ++ a.toList.drop (n * i.size + arr.toList.length)).toArray.size = a.size := by simp; simp at hroom; omega
            rw [this, g3, f2]
          · have : (a.toList.take (n * i.size) ++ arr.toList ++ a.toList.drop (n * i.size + arr.toList.length)).toArray.size = a.size := by simp; simp at hroom; omega
            rw [this]; exact g4
        · simp only [VR]; exact ⟨c, upd_same _ _ _, rfl⟩
      · have hold : (Builtin.firstCells i.size n (.slice (some ⟨c.1, 0, none⟩) n (c.2 - 0))).run P w.drew = .ok p.toArray w.drew := by
          have := run_loadCells_list (P := P) w.drew ⟨c.1, 0, none⟩ p (fun j v hj => by
            rw [addr_add, Nat.zero_add, World.cell?_drew, cell_row hw, ← Array.getElem?_toList, g2, List.getElem?_append_left (by exact (List.getElem?_eq_some_iff.1 hj).1)]
            exact hj)
          rw [hpl] at this
          exact this
        obtain ⟨newCap, hcc, hrun⟩ := run_append_new (w := w) (base := some ⟨c.1, 0, none⟩) (ty := ty) hap (by simpa using hle) n1 hsrc2 hold
        have hgone := hrel3.gone b1 b4
        obtain ⟨θ', q1, q2, q3⟩ := grow_new (n := n) (m := m) (old := p.toArray) (z := z.cells) hgone h11 (by rw [hnext]; exact hf) (by simpa using hv) hnew2 (by simpa using hpl) harr2 hcc hap.zlen
        rw [hnext] at q1
        exact ⟨_, _, θ', hrun, q1, q2, q3⟩
  · cases hm
end
end Go.Ev

namespace Go.Ev
open Go.RowKit

section
variable {P : Program} {G : Nat → Option O} {w0 : World} {θ : Th}

theorem two_of {tys : Array TypeId} {t tx : TypeId} (h : tys.toList = [t, tx]) : tys[0]? = some t ∧ tys[1]? = some tx := by
  rw [← Array.getElem?_toList, ← Array.getElem?_toList, h]; exact ⟨rfl, rfl⟩
theorem one_of {tys : Array TypeId} {t : TypeId} (h : tys.toList = [t]) : tys[0]? = some t := by
  rw [← Array.getElem?_toList, h]; rfl

theorem sim_appendF {tys : Array TypeId} {ty : TypeId} {x y : V} {v u : Value} (hx : VR θ x v) (hy : VR θ y u) : Sim P G w0 θ (appendF P tys.toList x y) (Builtin.append_ tys ty #[v, u]) VR := by
  unfold appendF
  split
  · rename_i t tx htys
    obtain ⟨ht, htx⟩ := two_of htys
    refine Sim.opt fun d hd => Sim.opt fun dx hdx => Sim.grd fun hg => ?_
    split
    · rename_i e
      refine Sim.opt fun i hi => Sim.grd fun hb => ?_
      simp only [Bool.and_eq_true] at hb
      intro s r s' w hm hr hf
      obtain ⟨q, s1, h1, h2⟩ := (FM.run_bind _ _ _ _ _).1 hm
      obtain ⟨u1, s2, h3, h4⟩ := (FM.run_bind _ _ _ _ _).1 h2
      obtain ⟨e1, hs2⟩ := FM.run_guard _ _ _ _ h3
      rw [hs2] at h4
      simp only [Bool.and_eq_true] at e1
      obtain ⟨n1, n2, n3, arr, n4, n5⟩ := run_srcF hy h1 hr
      have hz : ∃ z, i.zero = some z ∧ z.cells.size = i.size := by
        have := hb.2.2
        unfold zlenB at this
        cases hz : i.zero with
        | none => rw [hz] at this; cases this
        | some z => rw [hz] at this; exact ⟨z, rfl, Nat.eq_of_beq_eq_true this⟩
      obtain ⟨z, hz1, hz2⟩ := hz
      have hap : ApOk P tys e i z u q.2 := ⟨⟨t, ht, hd⟩, ⟨tx, htx, by cases dx <;> first | (cases hg; done) | exact .inl ⟨_, hdx⟩ | exact .inr hdx⟩, hi, by simpa using hb.1, by simpa using hb.2.1, hz1, hz2, n3, by simpa using e1.2.2⟩
      have hrel := hr.same (s' := s1) (fun j => by simp [St.at, n2])
      obtain ⟨b, w', θ', g1, g2, g3, g4⟩ := sim_appendTo (ty := ty) hx hap (lenIs_eq _ _ e1.1) e1.2.1 (fun w' hr' => by
        obtain ⟨_, _, _, arr', a1, a2⟩ := run_srcF (s := s) hy h1 (hr'.same (fun j => by simp [St.at, n2]))
        exact ⟨arr', a1, a2⟩) h4 hrel (by rw [n1]; exact hf)
      rw [n1] at g2
      exact ⟨b, w', θ', g1, g2, g3, g4⟩
    · exact Sim.fail
  · exact Sim.fail

theorem sim_lenF {tys : Array TypeId} {ty : TypeId} {x : V} {v : Value} (hx : VR θ x v) : Sim P G w0 θ (lenF P tys.toList x) (Builtin.len_ tys ty #[v]) VR := by
  unfold lenF
  split
  · rename_i t htys
    have ht := one_of htys
    refine Sim.opt fun d hd => ?_
    split
    · rename_i s
      simp only [VR] at hx; subst hx
      refine Sim.ret (b := .int .i64 s.length) (fun w => ?_) (by simp only [VR])
      have hsz : (ByteArray.mk s.toArray).size = s.length := by simp [ByteArray.size]
      simp [Builtin.len_, ht, hund hd, hsz, goInt]
    · rename_i n e
      refine Sim.ret (b := .int .i64 n) (fun w => ?_) (by simp only [VR])
      simp only [Builtin.len_, ht, List.getElem?_toArray, List.getElem?_cons_zero, Sem.run_bind, hund hd, Result.andThen_ok]
      rfl
    · simp only [VR] at hx; subst hx
      exact Sim.ret (b := .int .i64 0) (fun w => by simp [Builtin.len_, ht, hund hd, goInt]) (by simp only [VR])
    · simp only [VR] at hx; obtain ⟨a, n, rfl⟩ := hx
      exact Sim.ret (b := .int .i64 0) (fun w => by simp [Builtin.len_, ht, hund hd, goInt]) (by simp only [VR])
    · rename_i n _
      simp only [VR] at hx; obtain ⟨c, hc, rfl⟩ := hx
      exact Sim.ret (b := .int .i64 n) (fun w => by simp [Builtin.len_, ht, hund hd, goInt]) (by simp only [VR])
    · rename_i n
      simp only [VR] at hx; obtain ⟨c, hc, rfl⟩ := hx
      exact Sim.ret (b := .int .i64 n) (fun w => by simp [Builtin.len_, ht, hund hd, goInt]) (by simp only [VR])
    · simp only [VR] at hx; subst hx
      exact Sim.ret (b := .int .i64 0) (fun w => by simp [Builtin.len_, ht, hund hd, goInt]) (by simp only [VR])
    · refine Sim.assoc (Sim.opt fun b hb => ?_)
      obtain rfl := mapBOf_eq hb
      simp only [VR] at hx
      obtain ⟨c, hc, rfl⟩ := hx
      intro s r s' w hm hr hf
      obtain ⟨q, s1, h1, h2⟩ := (FM.run_bind _ _ _ _ _).1 hm
      obtain ⟨p1, p2, p3, p4⟩ := mapAt_run h1
      cases h2
      obtain ⟨a, hw, hl⟩ := map_old hr hc p2
      have hget := run_getObj (P := P) hw (by intros; simp)
      have hlen : ∀ {xs : List (V × V × Nat)} {ys : List MapEntry}, L2 (MR θ) xs ys → ys.length = xs.length := by
        intro xs
        induction xs with
        | nil => intro ys h; simp only [L2] at h; subst h; rfl
        | cons x xs ih => intro ys h; obtain ⟨y, ys', rfl, _, t⟩ := h; simp [ih t]
      refine ⟨.int .i64 q.2.1.length, w, θ, ?_, by rw [p3]; exact Ext.refl _ _ _, hr.same (fun j => by simp [St.at, p4]), by simp only [VR]⟩
      have : a.size = q.2.1.length := by rw [← Array.length_toList, hlen hl]
      simp [Builtin.len_, ht, hund hd, goInt, hget, this]
    · exact Sim.fail
  · exact Sim.fail
theorem sim_capF {tys : Array TypeId} {ty : TypeId} {v : Value} {base : Option Addr} {n m : Nat} (e : v = .slice base n m) : Sim P G w0 θ (capF P tys.toList m) (Builtin.cap_ tys ty #[v]) VR := by
  subst e
  unfold capF
  split
  · rename_i t htys
    have ht := one_of htys
    refine Sim.opt fun d hd => ?_
    split
    · exact Sim.ret (b := .int .i64 m) (fun w => by simp [Builtin.cap_, ht, hund hd, goInt]) (by simp only [VR])
    · exact Sim.fail
  · exact Sim.fail
theorem minA_eq {big : Bool} : ∀ {l : List V} {x r : V} {v : Value} {vs : List Value}, minA big x l = some r → VR θ x v → VRL θ l vs → ∃ u, (∀ w, (vs.foldlM (if big then Builtin.max2 else Builtin.min2) v : Sem Value).run P w = .ok u w) ∧ VR θ r u
  | [], x, r, v, vs, h, hx, hl => by
    cases h; simp only [VRL] at hl; subst hl
    exact ⟨v, fun w => rfl, hx⟩
  | y :: l, x, r, v, vs, h, hx, hl => by
    simp only [VRL] at hl
    obtain ⟨z, zs, rfl, hz, ht⟩ := hl
    unfold minA at h
    split at h
    · rename_i heq; cases heq
    · rename_i k a k' b l' heq
      cases heq
      simp only [VR] at hx hz; subst hx; subst hz
      cases big with
      | true =>
        obtain ⟨u, h1, h2⟩ := minA_eq (v := .int k (if b > a then b else a)) h (by simp only [VR]; by_cases hh : b > a <;> simp [hh, sel_true, sel_false]) ht
        refine ⟨u, fun w => ?_, h2⟩
        simp only [List.foldlM_cons, if_true, Builtin.max2, pure_bind]
        exact h1 w
      | false =>
        obtain ⟨u, h1, h2⟩ := minA_eq (v := .int k (if b < a then b else a)) h (by simp only [VR]; by_cases hh : b < a <;> simp [hh, sel_true, sel_false]) ht
        refine ⟨u, fun w => ?_, h2⟩
        simp only [List.foldlM_cons, Bool.false_eq_true, if_false, Builtin.min2, pure_bind]
        exact h1 w
    · cases h

theorem lenV_eq {x : V} {v : Value} {n : Nat} (h : lenV x = some n) (hx : VR θ x v) : ∃ base cap, v = .slice base n cap := by
  unfold lenV at h
  split at h <;> first
    | (cases h; done)
    | (cases h; simp only [VR] at hx; subst hx; exact ⟨none, 0, rfl⟩)
    | (cases h; simp only [VR] at hx; obtain ⟨a, m, rfl⟩ := hx; exact ⟨some a, m, rfl⟩)
    | (cases h; simp only [VR] at hx; obtain ⟨c, _, rfl⟩ := hx; exact ⟨_, _, rfl⟩)
theorem run_srcN {i : TypeInfo} {x : V} {v : Value} {m : Nat} {s s' : St} {w : World} {q : List V} (hx : VR θ x v) (hl : ∃ n, lenV x = some n) (h : (srcN i m x).run s = .ok q s') (hr : Rel G w0 θ s w) :
    s'.next = s.next ∧ s'.heap = s.heap ∧ ∃ arr, (Builtin.firstCells i.size m v).run P w = .ok arr w ∧ VRL θ q arr.toList := by
  unfold srcN at h
  split at h
  · rename_i p hp
    rcases rowOf_eq hp with ⟨k, rfl⟩ | ⟨k, rfl⟩ <;>
    · simp only [VR] at hx; obtain ⟨d, hd, rfl⟩ := hx
      obtain ⟨e1, e2, arr, e3, e4, _⟩ := run_loadN (P := P) hd h hr
      exact ⟨e1, e2, arr, e3, e4⟩
  · rename_i hp
    obtain ⟨u1, s1, h1, h2⟩ := (FM.run_bind _ _ _ _ _).1 h
    obtain ⟨e1, rfl⟩ := FM.run_guard _ _ _ _ h1
    cases h2
    have m0 : m = 0 := Nat.eq_of_beq_eq_true e1
    subst m0
    obtain ⟨n, hn⟩ := hl
    obtain ⟨base, cap, rfl⟩ := lenV_eq hn hx
    refine ⟨rfl, rfl, #[], ?_, by simp [VRL]⟩
    cases base <;> simp [Builtin.firstCells, loadCells, loadCellsFrom]
theorem sim_copyF {tys : Array TypeId} {ty : TypeId} {x y : V} {v u : Value} (hx : VR θ x v) (hy : VR θ y u) : Sim P G w0 θ (copyF P tys.toList x y) (Builtin.copy_ tys ty #[v, u]) VR := by
  unfold copyF
  split
  · rename_i t tx htys
    obtain ⟨ht, htx⟩ := two_of htys
    refine Sim.opt fun d hd => ?_
    split
    · rename_i e
      refine Sim.opt fun i hi => Sim.opt fun ny hny => Sim.opt fun nx hnx => ?_
      obtain ⟨by', cy, rfl⟩ := lenV_eq hny hy
      intro s r s' w hm hr hf
      obtain ⟨q, s1, h1, h2⟩ := (FM.run_bind _ _ _ _ _).1 hm
      obtain ⟨n1, n2, arr, n4, n5⟩ := run_srcN (P := P) hy ⟨ny, hny⟩ h1 hr
      have hrel := hr.same (s' := s1) (fun j => by simp [St.at, n2])
      have tail : ∀ (c : Nat × Nat) (off cap : Nat) (b : Nat), θ b = some c → v = .slice (some ⟨c.1, off, none⟩) nx cap → ((storeN b off q).bind fun _ => FM.pure (.int .i64 (Nat.min ny nx))).run s1 = .ok r s' →
          ∃ b w' θ', (Builtin.copy_ tys ty #[v, .slice by' ny cy]).run P w = .ok b w' ∧ Ext θ θ' s.next s'.next ∧ Rel G w0 θ' s' w' ∧ VR θ' r b := by
        intro c off cap b hc hv h3
        subst hv
        obtain ⟨u1, s2, h4, h5⟩ := (FM.run_bind _ _ _ _ _).1 h3
        cases h5
        obtain ⟨u', w', θ', g1, g2, g3, _⟩ := sim_storeN (P := P) hc n5 s1 u1 _ w h4 hrel (by rw [n1]; exact hf)
        rw [n1] at g2
        refine ⟨.int .i64 (Nat.min ny nx), w', θ', ?_, g2, g3, by simp only [VR]⟩
        simp only [Builtin.copy_, ht, List.getElem?_toArray, List.getElem?_cons_zero, List.getElem?_cons_succ, Sem.run_bind, hund hd, Result.andThen_ok, Builtin.lenOf, Sem.run_pure, hsize hi, n4, g1]
        rfl
      unfold copyTo at h2
      split at h2
      · cases h2
        simp only [VR] at hx; subst hx
        simp only [lenV, Option.some.injEq] at hnx; subst hnx
        refine ⟨.int .i64 (Nat.min ny 0), w, θ, ?_, by rw [n1]; exact Ext.refl _ _ _, hrel, by simp only [VR]⟩
        simp only [Builtin.copy_, ht, List.getElem?_toArray, List.getElem?_cons_zero, List.getElem?_cons_succ, Sem.run_bind, hund hd, Result.andThen_ok, Builtin.lenOf, Sem.run_pure, hsize hi, n4]
        rfl
      · simp only [VR] at hx; obtain ⟨c, hc, rfl⟩ := hx
        simp only [lenV, Option.some.injEq] at hnx; subst hnx
        exact tail c _ _ _ hc rfl h2
      · simp only [VR] at hx; obtain ⟨c, hc, rfl⟩ := hx
        simp only [lenV, Option.some.injEq] at hnx; subst hnx
        exact tail c _ _ _ hc rfl h2
      · cases h2
    · exact Sim.fail
  · exact Sim.fail
end
end Go.Ev

namespace Go.Ev
open Go.RowKit

section
variable {P : Program} {G : Nat → Option O} {w0 : World} {θ : Th}

/-- what an operation leaves -/
def NR (θ : Th) (a : V) (n : Next) : Prop := ∃ v, (n = .value v ∨ (n = .skip ∧ v = undef)) ∧ VR θ a v
theorem Sim.value {m : FM V} {c : Sem Value} (h : Sim P G w0 θ m c VR) : Sim P G w0 θ m (do pure (.value (← c)) : Sem Next) NR := by
  intro s r s' w hm hr hf
  obtain ⟨b, w', θ', h1, h2, h3, h4⟩ := h s r s' w hm hr hf
  exact ⟨.value b, w', θ', by simp [h1], h2, h3, b, .inl rfl, h4⟩
theorem VR.undef (θ : Th) : VR θ undefV undef := by
  unfold undefV Go.undef
  simp only [VR]
  exact ⟨#[], rfl, by simp [VRL]⟩
theorem Sim.unit {m : FM V} {c : Sem Unit} (h : Sim P G w0 θ m c (fun _ a _ => a = undefV)) : Sim P G w0 θ m (do c; pure .skip : Sem Next) NR := by
  intro s r s' w hm hr hf
  obtain ⟨b, w', θ', h1, h2, h3, rfl⟩ := h s r s' w hm hr hf
  exact ⟨.skip, w', θ', by simp [h1], h2, h3, undef, .inr ⟨rfl, rfl⟩, VR.undef θ'⟩

/-- the operations that are treated apart -/
def apartOp : Op → Bool
  | .call c => match c.callee with
    | .builtin .recover => true
    | .builtin _ => false
    | _ => true
  | .defer _ => true
  | _ => false

theorem args0 {f : FM V} {args : List V} {vals : List Value} {c : Sem Next} (h : VRL θ args vals) (k : vals = [] → Sim P G w0 θ f c NR) : Sim P G w0 θ (op0 f args) c NR := by
  cases args with
  | nil => exact k (VRL.nil_iff.1 h)
  | cons x l => exact Sim.fail
theorem args1 {f : V → FM V} {args : List V} {vals : List Value} {c : Sem Next} (h : VRL θ args vals) (k : ∀ x v, vals = [v] → VR θ x v → Sim P G w0 θ (f x) c NR) : Sim P G w0 θ (op1 f args) c NR := by
  match args, h with
  | [], _ => exact Sim.fail
  | [x], h =>
    simp only [VRL] at h
    obtain ⟨v, _, rfl, hv, rfl⟩ := h
    exact k x v rfl hv
  | _ :: _ :: _, _ => exact Sim.fail
theorem args2 {f : V → V → FM V} {args : List V} {vals : List Value} {c : Sem Next} (h : VRL θ args vals) (k : ∀ x y v u, vals = [v, u] → VR θ x v → VR θ y u → Sim P G w0 θ (f x y) c NR) : Sim P G w0 θ (op2 f args) c NR := by
  match args, h with
  | [], _ => exact Sim.fail
  | [_], _ => exact Sim.fail
  | [x, y], h =>
    simp only [VRL] at h
    obtain ⟨v, _, rfl, hv, u, _, rfl, hu, rfl⟩ := h
    exact k x y v u rfl hv hu
  | _ :: _ :: _ :: _, _ => exact Sim.fail
theorem args3 {f : V → V → V → FM V} {args : List V} {vals : List Value} {c : Sem Next} (h : VRL θ args vals) (k : ∀ x y z v u t, vals = [v, u, t] → VR θ x v → VR θ y u → VR θ z t → Sim P G w0 θ (f x y z) c NR) :
    Sim P G w0 θ (op3 f args) c NR := by
  match args, h with
  | [], _ => exact Sim.fail
  | [_], _ => exact Sim.fail
  | [_, _], _ => exact Sim.fail
  | [x, y, z], h =>
    simp only [VRL] at h
    obtain ⟨v, _, rfl, hv, u, _, rfl, hu, t, _, rfl, ht, rfl⟩ := h
    exact k x y z v u t rfl hv hu ht
  | _ :: _ :: _ :: _ :: _, _ => exact Sim.fail
theorem VRL.toL2 : ∀ {xs : List V} {l : List Value}, VRL θ xs l → L2 (fun x v => VR θ x v) xs l
  | [], l, h => by simp only [VRL] at h; exact h
  | x :: xs, l, h => by simp only [VRL] at h; obtain ⟨y, ys, rfl, hy, t⟩ := h; exact ⟨y, ys, rfl, hy, VRL.toL2 t⟩

theorem sim_builtinF {b : Builtin} {tys : Array TypeId} {ty : TypeId} {cs : Array Bool} {args : List V} {vals : Array Value} {inR : Bool} (hb : b ≠ .recover) (h : VRL θ args vals.toList) :
    Sim P G w0 θ (builtinF P inR b tys.toList args) (builtin b tys ty cs vals) NR := by
  have two : ∀ x y, args = [x, y] → ∃ v u, vals = #[v, u] ∧ VR θ x v ∧ VR θ y u := by
    rintro x y rfl
    simp only [VRL] at h
    obtain ⟨v, _, e, hv, u, _, rfl, hu, rfl⟩ := h
    exact ⟨v, u, by apply Array.ext'; simpa using e, hv, hu⟩
  have one : ∀ x, args = [x] → ∃ v, vals = #[v] ∧ VR θ x v := by
    rintro x rfl
    simp only [VRL] at h
    obtain ⟨v, _, e, hv, rfl⟩ := h
    exact ⟨v, by apply Array.ext'; simpa using e, hv⟩
  unfold builtinF
  split
  · obtain ⟨v, u, rfl, hv, hu⟩ := two _ _ rfl
    exact Sim.value (sim_appendF hv hu)
  · obtain ⟨v, rfl, hv⟩ := one _ rfl
    exact Sim.value (sim_lenF hv)
  · obtain ⟨v, u, rfl, hv, hu⟩ := two _ _ rfl
    exact Sim.value (sim_copyF hv hu)
  · rename_i x l
    simp only [VRL] at h
    obtain ⟨v, vs, e, hv, hvs⟩ := h
    refine Sim.value (Sim.optE fun r hr => ?_)
    obtain ⟨u, h1, h2⟩ := minA_eq (P := P) hr hv hvs
    refine ⟨u, fun w => ?_, h2⟩
    simp only [Builtin.min_, e]
    exact h1 w
  · rename_i x l
    simp only [VRL] at h
    obtain ⟨v, vs, e, hv, hvs⟩ := h
    refine Sim.value (Sim.optE fun r hr => ?_)
    obtain ⟨u, h1, h2⟩ := minA_eq (P := P) hr hv hvs
    refine ⟨u, fun w => ?_, h2⟩
    simp only [Builtin.max_, e]
    exact h1 w
  · exact absurd rfl hb
  · obtain ⟨v, rfl, hv⟩ := one _ rfl
    simp only [VR] at hv
    obtain ⟨c, hc, rfl⟩ := hv
    exact Sim.value (sim_capF rfl)
  · obtain ⟨v, rfl, hv⟩ := one _ rfl
    simp only [VR] at hv; subst hv
    exact Sim.value (sim_capF rfl)
  · exact Sim.fail

theorem sim_sliceArgsF {t : TypeId} {lo hi mx : Option Operand} {x : Operand} {ρ : Operand → Value} {args : List V} (h : VRL θ args ((#[x] ++ lo.toArray ++ hi.toArray ++ mx.toArray).toList.map ρ)) :
    Sim P G w0 θ (sliceArgsF P t lo hi mx args) (Instr.sliceAt t (ρ x) (lo.map ρ) (hi.map ρ) (mx.map ρ)) VR := by
  unfold sliceArgsF
  split <;> first
    | exact Sim.fail
    | (simp only [Option.toArray_none, Option.toArray_some, Array.append_empty, Array.toList_append, List.map_cons, List.map_nil, List.cons_append, List.nil_append, VRL] at h
       first
         | (obtain ⟨v, _, e, hv, rfl⟩ := h
            simp only [List.cons.injEq, and_true] at e
            subst e
            exact sim_sliceF hv rfl rfl rfl (by simp))
         | (obtain ⟨v, _, e, hv, a, _, rfl, ha, rfl⟩ := h
            simp only [List.cons.injEq, and_true] at e
            obtain ⟨rfl, rfl⟩ := e
            first
              | exact sim_sliceF hv ⟨_, rfl, ha⟩ rfl rfl (by simp)
              | exact sim_sliceF hv rfl ⟨_, rfl, ha⟩ rfl (by simp))
         | (obtain ⟨v, _, e, hv, a, _, rfl, ha, b, _, rfl, hb, rfl⟩ := h
            simp only [List.cons.injEq, and_true] at e
            obtain ⟨rfl, rfl, rfl⟩ := e
            first
              | exact sim_sliceF hv ⟨_, rfl, ha⟩ ⟨_, rfl, hb⟩ rfl (by simp)
              | exact sim_sliceF hv rfl ⟨_, rfl, ha⟩ ⟨_, rfl, hb⟩ (by simp))
         | (obtain ⟨v, _, e, hv, a, _, rfl, ha, b, _, rfl, hb, c, _, rfl, hc, rfl⟩ := h
            simp only [List.cons.injEq, and_true] at e
            obtain ⟨rfl, rfl, rfl, rfl⟩ := e
            exact sim_sliceF hv ⟨_, rfl, ha⟩ ⟨_, rfl, hb⟩ ⟨_, rfl, hc⟩ (by simp)))

theorem Sim.value_pick {c x y : V} {c' v u : Value} (hc : VR θ c c') (hx : VR θ x v) (hy : VR θ y u) : Sim P G w0 θ (pickF c x y) (do pure (.value (if ← asBool c' then v else u)) : Sem Next) NR := by
  refine Sim.congr (fun w => ?_) (Sim.value (sim_pickF hc hx hy))
  simp only [Sem.run_bind]
  generalize Sem.run P (asBool c') w = r
  cases r <;> rfl
theorem sim_makeFuncF {f : Fn} {first captured : Array Operand} {ρ : Operand → Value} {args : List V} (h : VRL θ args ((Op.makeFunc f first captured).operands.toList.map ρ)) :
    Sim P G w0 θ (makeFuncF f first.size args) (Instr.makeFunc f (first.map ρ) (captured.map ρ)) VR := by
  unfold makeFuncF
  split
  · rename_i k
    refine Sim.ret (b := .func (.func k) (first.map ρ) (captured.map ρ)) (fun _ => rfl) ?_
    simp only [Op.operands, Array.toList_append, List.map_append] at h
    have hlen : (first.toList.map ρ).length = first.size := by simp
    simp only [VR]
    refine ⟨_, _, rfl, ?_, ?_⟩
    · have := VRL.take first.size h
      rw [List.take_left' hlen] at this
      simpa using this
    · have := VRL.drop first.size h
      rw [List.drop_left' hlen] at this
      simpa using this
  · exact Sim.fail

theorem sim_nilCheckF {x : V} {o : Oper} {y : Operand} {ρ : Operand → Value} (ho : o.op = .nilCheck y) (hx : VR θ x (ρ y)) : Sim P G w0 θ (nilCheckF x) (execOp ρ o) NR := by
  refine Sim.sel (fun _ => Sim.fail) fun hb => ?_
  refine Sim.ret (b := .value (ρ y)) (fun w => ?_) ⟨ρ y, .inl rfl, hx⟩
  unfold execOp
  simp only [ho]
  generalize ρ y = v at hx
  cases x <;> first
    | (cases hb; done)
    | (simp only [VR] at hx; subst hx; rfl)
    | (simp only [VR] at hx; obtain ⟨c, _, rfl⟩ := hx; rfl)
    | (simp only [VR] at hx; obtain ⟨a, b, rfl, _, _⟩ := hx; rfl)
    | (simp only [VR] at hx; obtain ⟨y, rfl, _⟩ := hx; rfl)
    | (simp only [VR] at hx; obtain ⟨a, n, rfl⟩ := hx; rfl)

theorem sim_opF {o : Oper} {ρ : Operand → Value} {args : List V} {cf : V → List V → FM V} {inR : Bool} (ha : apartOp o.op = false) (h : VRL θ args (o.op.operands.toList.map ρ)) : Sim P G w0 θ (opF P cf inR o.op args) (execOp ρ o) NR := by
  obtain ⟨dst, op, type, pos, after, guard⟩ := o
  simp only at h ha
  cases op with
  | move a =>
    refine args1 h fun x v e hv => ?_
    obtain rfl : _ = v := by simpa [Op.operands] using e
    exact Sim.ret (fun _ => rfl) ⟨_, .inl rfl, hv⟩
  | assign a =>
    refine args1 h fun x v e hv => ?_
    obtain rfl : _ = v := by simpa [Op.operands] using e
    exact Sim.ret (fun _ => rfl) ⟨_, .inl rfl, hv⟩
  | pick c a b =>
    refine args3 h fun x y z v u t e hv hu ht => ?_
    obtain ⟨rfl, rfl, rfl⟩ : _ = v ∧ _ = u ∧ _ = t := by simpa [Op.operands] using e
    exact Sim.value_pick hv hu ht
  | alloc t => exact args0 h fun _ => Sim.value sim_allocF
  | box t a =>
    refine args1 h fun x v e hv => ?_
    obtain rfl : _ = v := by simpa [Op.operands] using e
    exact Sim.value (sim_boxF hv)
  | build t ps =>
    refine Sim.value (sim_buildF ?_)
    rw [Array.toList_map]
    refine zip2_eq ps.toList args _ ρ (VRL.toL2 h) ?_
    simp [Op.operands]
  | buildSlice t n ps =>
    refine Sim.value (sim_buildSliceF ?_)
    rw [Array.toList_map]
    refine zip2_eq ps.toList args _ ρ (VRL.toL2 h) ?_
    simp [Op.operands]
  | insert t m k v =>
    refine args3 h fun x y z v u t e hv hu ht => ?_
    obtain ⟨rfl, rfl, rfl⟩ : _ = v ∧ _ = u ∧ _ = t := by simpa [Op.operands] using e
    exact Sim.unit (sim_mapUpdateF hv hu ht)
  | load t a =>
    refine args1 h fun x v e hv => ?_
    obtain rfl : _ = v := by simpa [Op.operands] using e
    exact Sim.value (sim_loadT hv)
  | store t a b =>
    refine args2 h fun x y v u e hv hu => ?_
    obtain ⟨rfl, rfl⟩ : _ = v ∧ _ = u := by simpa [Op.operands] using e
    exact Sim.unit (sim_storeT hv hu)
  | ready g => exact Sim.fail
  | waits g => exact Sim.fail
  | nilCheck a =>
    refine args1 h fun x v e hv => ?_
    obtain rfl : _ = v := by simpa [Op.operands] using e
    exact sim_nilCheckF rfl hv
  | binOp op t a b yt =>
    refine args2 h fun x y v u e hv hu => ?_
    obtain ⟨rfl, rfl⟩ : _ = v ∧ _ = u := by simpa [Op.operands] using e
    exact Sim.value (sim_binF hv hu)
  | unOp op t a =>
    refine args1 h fun x v e hv => ?_
    obtain rfl : _ = v := by simpa [Op.operands] using e
    exact Sim.value (sim_unF hv)
  | convert s d a =>
    refine args1 h fun x v e hv => ?_
    obtain rfl : _ = v := by simpa [Op.operands] using e
    exact Sim.value (sim_convF hv)
  | sliceToArrayPointer d a =>
    refine args1 h fun x v e hv => ?_
    obtain rfl : _ = v := by simpa [Op.operands] using e
    exact Sim.value (sim_arrayPtrF hv)
  | makeInterface t a =>
    refine args1 h fun x v e hv => ?_
    obtain rfl : _ = v := by simpa [Op.operands] using e
    exact Sim.value (sim_makeIfaceF hv)
  | makeFunc f first captured => exact Sim.value (sim_makeFuncF h)
  | makeMap t r => exact Sim.value (sim_makeMapF h (by simp [Op.operands]))
  | makeChan t a => exact Sim.fail
  | makeSlice t a b =>
    refine args2 h fun x y v u e hv hu => ?_
    obtain ⟨rfl, rfl⟩ : _ = v ∧ _ = u := by simpa [Op.operands] using e
    exact Sim.value (sim_makeSliceF hv hu)
  | slice t x lo hi mx => exact Sim.value (sim_sliceArgsF h)
  | fieldAddr t a f =>
    refine args1 h fun x v e hv => ?_
    obtain rfl : _ = v := by simpa [Op.operands] using e
    exact Sim.value (sim_fieldAddrF hv)
  | field t a f =>
    refine args1 h fun x v e hv => ?_
    obtain rfl : _ = v := by simpa [Op.operands] using e
    exact Sim.value (sim_fieldF hv)
  | indexAddr t a b =>
    refine args2 h fun x y v u e hv hu => ?_
    obtain ⟨rfl, rfl⟩ : _ = v ∧ _ = u := by simpa [Op.operands] using e
    exact Sim.value (sim_indexAddrF hv hu)
  | index t a b =>
    refine args2 h fun x y v u e hv hu => ?_
    obtain ⟨rfl, rfl⟩ : _ = v ∧ _ = u := by simpa [Op.operands] using e
    exact Sim.value (sim_indexF hv hu)
  | lookup t a b ok =>
    refine args2 h fun x y v u e hv hu => ?_
    obtain ⟨rfl, rfl⟩ : _ = v ∧ _ = u := by simpa [Op.operands] using e
    exact Sim.value (sim_lookupF hv hu)
  | mapUpdate t m k v =>
    refine args3 h fun x y z v u t e hv hu ht => ?_
    obtain ⟨rfl, rfl, rfl⟩ : _ = v ∧ _ = u ∧ _ = t := by simpa [Op.operands] using e
    exact Sim.unit (sim_mapUpdateF hv hu ht)
  | mapEntry t m k => exact Sim.fail
  | entryStore t m k v => exact Sim.fail
  | range t a =>
    refine args1 h fun x v e hv => ?_
    obtain rfl : _ = v := by simpa [Op.operands] using e
    exact Sim.value (sim_rangeF hv)
  | next a s =>
    refine args1 h fun x v e hv => ?_
    obtain rfl : _ = v := by simpa [Op.operands] using e
    exact Sim.value (sim_nextF hv)
  | entry a =>
    refine args1 h fun x v e hv => ?_
    obtain rfl : _ = v := by simpa [Op.operands] using e
    exact Sim.value (sim_entryF hv)
  | typeAssert a xt t ok =>
    refine args1 h fun x v e hv => ?_
    obtain rfl : _ = v := by simpa [Op.operands] using e
    exact Sim.value (sim_typeAssertF hv)
  | extract a i =>
    refine args1 h fun x v e hv => ?_
    obtain rfl : _ = v := by simpa [Op.operands] using e
    exact Sim.value (sim_extractF hv)
  | call c =>
    obtain ⟨callee, as, tys⟩ := c
    cases callee with
    | builtin b =>
      have hb : b ≠ .recover := by rintro rfl; cases ha
      refine sim_builtinF hb ?_
      rw [Array.toList_map]
      simpa [Op.operands, Call.operands] using h
    | _ => cases ha
  | go c => exact Sim.fail
  | defer c => cases ha
  | panic a => exact Sim.fail
  | send a b => exact Sim.fail
  | recv t a ok => exact Sim.fail
  | select cs b => exact Sim.fail
end
end Go.Ev

namespace Go.Ev
open Go.RowKit

section mv
variable {P : Program} {G : Nat → Option O} {w0 : World}

/-- from a machine that stands, the model gets to where the evaluator's result stands for it -/
def Mv (P : Program) (G : Nat → Option O) (w0 : World) {α : Type} (θ : Th) (m : FM α) (M : World → Machine) (R : Th → α → (World → Machine) → Prop) : Prop :=
  ∀ s a s' w, m.run s = .ok a s' → Rel G w0 θ s w → Free θ s.next s'.next →
    ∃ w' θ' N, Steps P (M w) (N w') ∧ Ext θ θ' s.next s'.next ∧ Rel G w0 θ' s' w' ∧ R θ' a N

variable {θ : Th}
theorem Mv.fail {α : Type} {M : World → Machine} {R : Th → α → (World → Machine) → Prop} : Mv P G w0 θ FM.fail M R := by
  intro s a s' w h; cases h
theorem Mv.ret {α : Type} {a : α} {M : World → Machine} {R : Th → α → (World → Machine) → Prop} (h : R θ a M) : Mv P G w0 θ (FM.pure a) M R := by
  intro s x s' w hm hr _
  cases hm
  exact ⟨w, θ, M, Steps.refl _ _, Ext.refl _ _ _, hr, h⟩
theorem Mv.pre {α : Type} {m : FM α} {M M' : World → Machine} {R : Th → α → (World → Machine) → Prop} (h : ∀ w, step P (M w) = .next (M' w)) (k : Mv P G w0 θ m M' R) : Mv P G w0 θ m M R := by
  intro s a s' w hm hr hf
  obtain ⟨w', θ', N, h1, h2⟩ := k s a s' w hm hr hf
  exact ⟨w', θ', N, .head (h w) h1, h2⟩
theorem Mv.mono {α : Type} {m : FM α} {M : World → Machine} {R R' : Th → α → (World → Machine) → Prop} (k : Mv P G w0 θ m M R) (h : ∀ θ' a N, Le θ θ' → R θ' a N → ∃ N', (∀ w, Steps P (N w) (N' w)) ∧ R' θ' a N') : Mv P G w0 θ m M R' := by
  intro s a s' w hm hr hf
  obtain ⟨w', θ', N, h1, h2, h3, h4⟩ := k s a s' w hm hr hf
  obtain ⟨N', h5, h6⟩ := h θ' a N h2.1 h4
  exact ⟨w', θ', N', Steps.trans h1 (h5 w'), h2, h3, h6⟩
theorem Mv.bind {α β : Type} {m : FM α} {f : α → FM β} {M : World → Machine} {R : Th → α → (World → Machine) → Prop} {R' : Th → β → (World → Machine) → Prop} (h : Mv P G w0 θ m M R)
    (k : ∀ θ' a N, Le θ θ' → R θ' a N → Mv P G w0 θ' (f a) N R') : Mv P G w0 θ (m.bind f) M R' := by
  intro s r s' w hm hr hf
  obtain ⟨a, s1, h1, h2⟩ := (FM.run_bind _ _ _ _ _).1 hm
  have n1 := FM.next_le h1
  have n2 := FM.next_le h2
  obtain ⟨w1, θ1, N, hs, he, hr1, hR⟩ := h s a s1 w h1 hr (hf.head n2)
  obtain ⟨w', θ', N', hs', he', hr', hR'⟩ := k θ1 a N he.1 hR s1 r s' w1 h2 hr1 (hf.tail he n1)
  exact ⟨w', θ', N', Steps.trans hs hs', he.trans he' n1 n2, hr', hR'⟩
theorem Mv.opt {α γ : Type} {o : Option γ} {f : γ → FM α} {M : World → Machine} {R : Th → α → (World → Machine) → Prop} (h : ∀ a, o = some a → Mv P G w0 θ (f a) M R) : Mv P G w0 θ ((FM.ofOption o).bind f) M R := by
  intro s x s' w hm hr hf
  obtain ⟨a, s1, h1, h2⟩ := (FM.run_bind _ _ _ _ _).1 hm
  obtain ⟨rfl, rfl⟩ := FM.run_ofOption _ _ _ _ h1
  exact h a rfl s1 x s' w h2 hr hf
theorem Mv.grd {α : Type} {b : Bool} {f : Unit → FM α} {M : World → Machine} {R : Th → α → (World → Machine) → Prop} (h : b = true → Mv P G w0 θ (f ()) M R) : Mv P G w0 θ ((FM.guard b).bind f) M R := by
  intro s x s' w hm hr hf
  obtain ⟨a, s1, h1, h2⟩ := (FM.run_bind _ _ _ _ _).1 hm
  obtain ⟨hb, rfl⟩ := FM.run_guard _ _ _ _ h1
  exact h hb s1 x s' w h2 hr hf
theorem Mv.sel {α : Type} {b : Bool} {m m' : FM α} {M : World → Machine} {R : Th → α → (World → Machine) → Prop} (h : b = true → Mv P G w0 θ m M R) (h' : b = false → Mv P G w0 θ m' M R) : Mv P G w0 θ (Ev.sel b m m') M R := by
  cases b
  · exact h' rfl
  · exact h rfl
theorem Mv.assoc {α γ δ : Type} {m : FM γ} {f : γ → FM δ} {g : δ → FM α} {M : World → Machine} {R : Th → α → (World → Machine) → Prop} (h : Mv P G w0 θ (m.bind fun x => (f x).bind g) M R) : Mv P G w0 θ ((m.bind f).bind g) M R := by
  intro s x s' w hm hr hf
  obtain ⟨a, s1, h1, h2⟩ := (FM.run_bind _ _ _ _ _).1 hm
  obtain ⟨b, s2, h3, h4⟩ := (FM.run_bind _ _ _ _ _).1 h1
  exact h s x s' w ((FM.run_bind _ _ _ _ _).2 ⟨b, s2, h3, (FM.run_bind _ _ _ _ _).2 ⟨a, s1, h4, h2⟩⟩) hr hf
/-- a part of the model's that is no step of its own, at the head of a step -/
theorem Mv.sim {α β : Type} {m : FM α} {c : Sem β} {Rv : Th → α → β → Prop} {M : World → Machine} {N : β → World → Machine} {R : Th → α → (World → Machine) → Prop} (h : Sim P G w0 θ m c Rv)
    (hs : ∀ b w w', (∃ θ' a, Rv θ' a b) → c.run P w = .ok b w' → step P (M w) = .next (N b w')) (k : ∀ θ' a b, Le θ θ' → Rv θ' a b → R θ' a (N b)) : Mv P G w0 θ m M R := by
  intro s a s' w hm hr hf
  obtain ⟨b, w', θ', h1, h2, h3, h4⟩ := h s a s' w hm hr hf
  exact ⟨w', θ', N b, .one (hs b w w' ⟨_, _, h4⟩ h1), h2, h3, k _ _ _ h2.1 h4⟩
/-- what stands for the package's variables -/
def TG (θ : Th) : Prop := ∀ g, g < FM.base → θ g = some (g, 0)
theorem TG.mono {θ θ' : Th} (h : TG θ) (k : Le θ θ') : TG θ' := fun g hg => k _ _ (h g hg)
theorem Mv.tg {α : Type} {m : FM α} {M : World → Machine} {R : Th → α → (World → Machine) → Prop} (h : TG θ → Mv P G w0 θ m M R) : Mv P G w0 θ m M R := by
  intro s a s' w hm hr hf
  exact h hr.glob s a s' w hm hr hf
end mv

/-! activations -/
section act
variable {θ : Th} {sz : Nat} {a : A} {c : Act}
theorem AR.tmp (h : AR θ sz a c) (t : Nat) : VR θ (a.tmp t) (c.tmps.getD t undef) := h.env.2.2 t
theorem AR.eval (h : AR θ sz a c) (hg : TG θ) {x : Operand} {v : V} (e : a.eval x = some v) : VR θ v (c.eval x) := by
  cases x with
  | tmp t => cases e; exact h.tmp t
  | const v' => exact VR.of_all θ _ _ e
  | global g =>
    have e' : globV g = some v := e
    unfold globV at e'
    cases hb : Nat.blt g FM.base with
    | false => rw [hb] at e'; cases e'
    | true =>
      rw [hb] at e'; cases e'
      simp only [VR]
      exact ⟨_, hg g (by simpa using hb), rfl⟩
  | func f =>
    cases e
    simp only [VR]
    exact ⟨#[], #[], rfl, by simp [VRL], by simp [VRL]⟩
theorem AR.evals (h : AR θ sz a c) (hg : TG θ) : ∀ {l : List Operand} {vs : List V}, a.evals l = some vs → VRL θ vs (l.map c.eval)
  | [], vs, e => by cases e; simp [VRL]
  | x :: l, vs, e => by
    rw [A.evals_cons] at e
    cases hx : a.eval x with
    | none => rw [hx] at e; cases e
    | some v =>
      cases hl : a.evals l with
      | none => rw [hx, hl] at e; cases e
      | some ws =>
        rw [hx, hl] at e; cases e
        exact VRL.cons (h.eval hg hx) (AR.evals h hg hl)
theorem Act.put_tmps (c : Act) (d : Option Tmp) (v : Value) : (c.put d v).defers = c.defers := by cases d <;> rfl
theorem A.put_none (a : A) (v : V) : a.put sz none v = a := rfl
theorem A.put_some (a : A) (d : Nat) (v : V) : a.put sz (some d) v = sel (Nat.blt d sz) ⟨Tr.set 14 a.env d (some v), a.defers⟩ a := rfl
theorem envTmp_set {e : Tr V} {d t : Nat} {v : V} (h : d + 1 < 2 ^ 14) : envTmp (Tr.set 14 e d (some v)) t = if t = d then v else envTmp e t := by
  unfold envTmp
  rw [Tr.get_set 14 _ _ _ h]
  by_cases hd : t = d
  · rw [if_pos hd, if_pos hd]
  · rw [if_neg hd, if_neg hd]
theorem ER.set {e : Tr V} {tm : Array Value} {d : Nat} {v : V} {u : Value} (h : ER θ e sz tm) (hd : d < sz) (hv : VR θ v u) : ER θ (Tr.set 14 e d (some v)) sz (tm.setIfInBounds d u) := by
  refine ⟨h.1, by simp [h.2.1], fun t => ?_⟩
  have := h.1
  rw [envTmp_set (by omega)]
  by_cases ht : t = d
  · subst ht
    rw [if_pos rfl]
    have : (tm.setIfInBounds t u).getD t undef = u := by
      have h2 : t < tm.size := by rw [h.2.1]; exact hd
      simp [h2]
    rw [this]; exact hv
  · rw [if_neg ht]
    have : (tm.setIfInBounds d u).getD t undef = tm.getD t undef := by
      simp [Array.getElem?_setIfInBounds_ne (Ne.symm ht)]
    rw [this]; exact h.2.2 t
theorem AR.put (h : AR θ sz a c) {d : Option Nat} {v : V} {u : Value} (hv : VR θ v u) : AR θ sz (a.put sz d v) (c.put d u) := by
  cases d with
  | none => exact h
  | some d =>
    rw [A.put_some]
    cases hb : Nat.blt d sz with
    | false =>
      rw [sel_false]
      have hsz := h.env.2.1
      have hle : c.tmps.size ≤ d := by
        have : ¬ d < sz := by intro hlt; have : Nat.blt d sz = true := by simpa using hlt
                              rw [hb] at this; cases this
        omega
      have : c.put (some d) u = c := by
        show ({ c with tmps := c.tmps.setIfInBounds d u } : Act) = c
        rw [Array.setIfInBounds_eq_of_size_le hle]
      rw [this]; exact h
    | true =>
      rw [sel_true]
      exact ⟨h.env.set (by simpa using hb) hv, h.defers⟩
theorem boolOfVR {v : V} {u : Value} (h : VR θ v u) : (∀ b, v = .bool b → u = .bool b) := by
  rintro b rfl; simpa [VR] using h
theorem yielded_eq (h : AR θ sz a c) {ops : Array Oper} {j : Nat} {b : Bool} (e : yieldedA ops a j = some b) : yielded ops c.tmps j = some b := by
  unfold yieldedA at e
  unfold yielded
  cases ho : ops[j]? with
  | none => rw [ho] at e; cases e
  | some o =>
    rw [ho] at e
    simp only at e
    cases hd : o.dst with
    | none => rw [hd] at e; cases e
    | some d =>
      rw [hd] at e
      simp only at e
      have hv := h.tmp d
      split at e
      · rename_i b' hb
        cases e
        rw [hb] at hv
        simp only [VR] at hv
        have hlt : d < c.tmps.size := by
          rcases Nat.lt_or_ge d c.tmps.size with h1 | h1
          · exact h1
          · exfalso
            have : c.tmps.getD d undef = undef := by simp [Array.getElem?_eq_none h1]
            rw [this] at hv; cases hv
        have h2 : c.tmps[d] = .bool b := by simpa [hlt] using hv
        simp [hd, hlt, h2]
      · cases e
theorem VR.bool_of {x : V} {b : Bool} (h : VR θ x (.bool b)) : x = .bool b := by
  cases x <;> simp only [VR] at h <;> first
    | (cases h; rfl)
    | (cases h; done)
    | (obtain ⟨c, _, h⟩ := h; cases h; done)
    | (obtain ⟨a, b, h, _, _⟩ := h; cases h; done)
    | (obtain ⟨y, h, _⟩ := h; cases h; done)
    | (obtain ⟨a, n, h⟩ := h; cases h; done)
theorem yielded_same (h : AR θ sz a c) {ops : Array Oper} {j : Nat} : yielded ops c.tmps j = yieldedA ops a j := by
  cases e : yieldedA ops a j with
  | some b => exact yielded_eq h e
  | none =>
    cases e2 : yielded ops c.tmps j with
    | none => rfl
    | some b =>
      exfalso
      unfold yielded at e2
      unfold yieldedA at e
      cases ho : ops[j]? with
      | none => rw [ho] at e2; cases e2
      | some o =>
        rw [ho] at e2 e
        simp only [Option.bind_some] at e2 e
        cases hd : o.dst with
        | none => rw [hd] at e2; cases e2
        | some d =>
          rw [hd] at e2 e
          simp only [Option.bind_some] at e2 e
          have hv := h.tmp d
          cases hg : c.tmps[d]? with
          | none => rw [hg] at e2; cases e2
          | some u =>
            rw [hg] at e2
            cases u <;> first | cases e2 | skip
            have : c.tmps.getD d undef = .bool b := by simp [hg]
            rw [this] at hv
            have hb := VR.bool_of hv
            rw [hb] at e
            cases e
theorem wanted_same (h : AR θ sz a c) {ops : Array Oper} {o : Oper} : Region.wanted o (yielded ops c.tmps) = wantedA ops a o := by
  unfold Region.wanted wantedA
  cases hg : o.guard with
  | none => rfl
  | some g =>
    obtain ⟨j, b⟩ := g
    simp only [yielded_same h]
    cases yieldedA ops a j with
    | none => rfl
    | some b' => cases b <;> cases b' <;> rfl
end act

/-! an operation's step -/
section steps
variable {P : Program} {b : Frame} {a : Act} {k : List Item} {cs : List Frame} {w w' : World} {ops : Array Oper} {i : Nat} {rest : List Nat} {o : Oper}
def nextFrame (P : Program) (kind : CallKind) : Next → Option Frame
  | .enter f args => some (Frame.enter P f args kind)
  | .round l f tmps assign body => some (Frame.round l f tmps assign body kind)
  | _ => none
theorem finish_op (ho : ops[i]? = some o) (v : Value) : (b.atR a (.inRegion ops (i :: rest) :: k)).finish v = b.atR (a.put o.dst v) (.inRegion ops rest :: k) := by
  rw [Frame.finish_atR, ho]; rfl
theorem stepR_val {n : Next} {v : Value} (ho : ops[i]? = some o) (hw : Region.wanted o (yielded ops a.tmps) = true) (hd : ∀ c, o.op ≠ .defer c) (hr : (execOp a.eval o).run P w = .ok n w')
    (hn : n = .value v ∨ (n = .skip ∧ v = undef)) :
    step P (lone (b.atR a (.inRegion ops (i :: rest) :: k)) cs w) = .next (lone (b.atR (a.put o.dst v) (.inRegion ops rest :: k)) cs w') := by
  refine step_lone_go ?_
  rw [stepGR_op ho hw, Oper.semAt_eq _ _ _ hd, ← finish_op ho]
  rcases hn with rfl | ⟨rfl, rfl⟩ <;> simp [stepG.apply, Sem.runT_eq, hr]
theorem stepR_call {n : Next} {fr : Frame} (ho : ops[i]? = some o) (hw : Region.wanted o (yielded ops a.tmps) = true) (hd : ∀ c, o.op ≠ .defer c) (hr : (execOp a.eval o).run P w = .ok n w')
    (hn : nextFrame P .normal n = some fr) :
    step P (lone (b.atR a (.inRegion ops (i :: rest) :: k)) cs w) = .next (lone fr (b.atR a (.inRegion ops (i :: rest) :: k) :: cs) w') := by
  refine step_lone_go ?_
  rw [stepGR_op ho hw, Oper.semAt_eq _ _ _ hd]
  cases n <;> simp only [nextFrame] at hn <;> first | cases hn | skip
  all_goals simp [stepG.apply, Sem.runT_eq, hr, Frame.atR]
def RecOk (b : Frame) (cs : List Frame) : Prop := b.kind = .normal ∨ (b.kind = .deferred ∧ ∃ c cs', cs = c :: cs' ∧ c.mode = .returning)
theorem RecOk.none (h : RecOk b cs) (todo : List Item) : tryRecover (b.atR a todo) cs = none := by
  rcases h with h | ⟨h, c, cs', rfl, hm⟩
  · simp [tryRecover, Frame.atR, h]
  · simp [tryRecover, Frame.atR, h, hm]
theorem stepR_recover (ho : ops[i]? = some o) (hw : Region.wanted o (yielded ops a.tmps) = true) (hd : ∀ c, o.op ≠ .defer c) (hr : (execOp a.eval o).run P w = .ok .recover w')
    (hro : b.roundOf = none) (hk : RecOk b cs) :
    step P (lone (b.atR a (.inRegion ops (i :: rest) :: k)) cs w) = .next (lone (b.atR (a.put o.dst .nilIface) (.inRegion ops rest :: k)) cs w') := by
  refine step_lone_go ?_
  have hn := hk.none (a := a) (.inRegion ops (i :: rest) :: k)
  rw [stepGR_op ho hw, Oper.semAt_eq _ _ _ hd, ← finish_op ho]
  simp only [Frame.atR] at hn ⊢
  simp [stepG.apply, Sem.runT_eq, hr, hro, hro ▸ hn]
theorem stepR_defer {d : Deferred} (ho : ops[i]? = some o) (hw : Region.wanted o (yielded ops a.tmps) = true) (hr : (execOp a.eval o).run P w = .ok (.defer d) w') (hro : b.roundOf = none) :
    step P (lone (b.atR a (.inRegion ops (i :: rest) :: k)) cs w) = .next (lone (b.atR (({ a with defers := d :: a.defers } : Act).put o.dst undef) (.inRegion ops rest :: k)) cs w') := by
  refine step_lone_go ?_
  have hf : ({ b.atR a (.inRegion ops (i :: rest) :: k) with defers := d :: a.defers } : Frame).finish undef = b.atR (({ a with defers := d :: a.defers } : Act).put o.dst undef) (.inRegion ops rest :: k) :=
    finish_op (a := { a with defers := d :: a.defers }) ho undef
  rw [stepGR_op ho hw, hro, Oper.semAt_none]
  simp only [stepG.apply, Sem.runT_eq, hr, GStep.bare_after]
  exact congrArg (fun fr => GStep.go { frame := fr, callers := cs, status := .running, dying := none } w') hf
theorem stepR_skipped (ho : ops[i]? = some o) (hw : Region.wanted o (yielded ops a.tmps) = false) :
    step P (lone (b.atR a (.inRegion ops (i :: rest) :: k)) cs w) = .next (lone (b.atR (a.put o.dst undef) (.inRegion ops rest :: k)) cs w) := by
  have := stepR_op_skip (P := P) (b := b) (a := a) (k := k) (cs := cs) (w := w) (ops := ops) (i := i) (rest := rest) (by simp [ho, hw])
  rw [ho] at this
  exact this
/-- a deferred call, made by a frame that returns -/
theorem stepR_deferred {fr fr' : Frame} {d : Deferred} {ds : List Deferred} {n : Next} {fv : Fn} {cap : Array Value} (hm : fr.mode = .returning) (hd : fr.defers = d :: ds) (ht : d.target = .fn fv cap)
    (hr : (invoke d.target d.args).run P w = .ok n w) (hn : nextFrame P .deferred n = some fr') : step P (lone fr cs w) = .next (lone fr' ({ fr with defers := ds } :: cs) w) := by
  obtain ⟨t, as⟩ := d
  simp only at ht hr
  subst ht
  refine step_lone_go ?_
  cases n <;> simp only [nextFrame] at hn <;> first | cases hn | skip
  all_goals simp [stepG, unwind, callDeferred, hm, hd, hr]
theorem stepR_collected {fr : Frame} {r : Nat} {as : Array Value} {ds calls : List Deferred} (hm : fr.mode = .returning) (hd : fr.defers = { target := .collected r, args := as } :: ds)
    (hr : (Instr.takeDeferred r).run P w = .ok calls w') : step P (lone fr cs w) = .next (lone { fr with defers := calls ++ ds } cs w') := by
  refine step_lone_go ?_
  simp [stepG, unwind, hm, hd, Sem.runT_eq, hr]
end steps
end Go.Ev

namespace Go.Ev
open Go.RowKit

section
variable {P : Program} {G : Nat → Option O} {w0 : World}

def back : CallKind → Frame → Value → Frame
  | .normal, c, v => c.finish v
  | _, c, _ => c
def Handed (kind : CallKind) (c : Frame) (fv : V) : Prop := kind = .normal ∨ (kind = .deferred ∧ c.mode = .returning ∧ ∃ n xs ys, fv = .func n xs ys)
/-- a function value's call -/
def CallAt (P : Program) (G : Nat → Option O) (w0 : World) (cf : V → List V → FM V) (kind : CallKind) : Prop :=
  ∀ θ fv args fv' (args' : Array Value) (c : Frame) (cs : List Frame), VR θ fv fv' → VRL θ args args'.toList → Handed kind c fv →
    ∀ s v s' w, (cf fv args).run s = .ok v s' → Rel G w0 θ s w → Free θ s.next s'.next →
      ∃ nx fr, (do let d ← Deferred.ofValue fv' args'; invoke d.target d.args : Sem Next).run P w = .ok nx w ∧ nextFrame P kind nx = some fr ∧
        ∃ w' θ' v', Steps P (lone fr (c :: cs) w) (lone (back kind c v') cs w') ∧ Ext θ θ' s.next s'.next ∧ Rel G w0 θ' s' w' ∧ VR θ' v v'

variable {θ : Th} {sz : Nat} {a : A} {act : Act} {b : Frame} {k : List Item} {cs : List Frame} {ops : Array Oper} {i : Nat} {rest : List Nat} {o : Oper} {cf : V → List V → FM V} {inR : Bool}

def valOf : Next → Value
  | .value v => v
  | _ => undef
theorem deferOf_none (h : deferOf o.op = none) (c : Call) : o.op ≠ .defer c := by intro e; rw [e] at h; cases h
theorem deferOf_some {c : Call} (h : deferOf o.op = some c) : o.op = .defer c := by
  cases e : o.op <;> rw [e] at h <;> first | (cases h; rfl) | cases h

/-- what an operation leaves behind -/
def OpEnd (act : Act) (b : Frame) (k : List Item) (cs : List Frame) (ops : Array Oper) (rest : List Nat) (o : Oper) (θ : Th) (v : V) (N : World → Machine) : Prop :=
  ∃ u, VR θ v u ∧ N = fun w => lone (b.atR (act.put o.dst u) (.inRegion ops rest :: k)) cs w

theorem mv_opV (hc : CallAt P G w0 cf .normal) (hR : inR = b.roundOf.isSome) (hk : RecOk b cs) (ha : AR θ sz a act) (ho : ops[i]? = some o) (hnd : deferOf o.op = none) :
    Mv P G w0 θ (opV P cf inR ops a o) (fun w => lone (b.atR act (.inRegion ops (i :: rest) :: k)) cs w) (OpEnd act b k cs ops rest o) := by
  refine Mv.tg fun hg => ?_
  unfold opV
  have hd := deferOf_none hnd
  refine Mv.sel (fun hw => ?_) (fun hw => ?_)
  · have hw' : Region.wanted o (yielded ops act.tmps) = true := (wanted_same ha).trans hw
    cases he : a.evals o.op.operands.toList with
    | none => exact Mv.fail
    | some args =>
      have hv := ha.evals hg he
      show Mv P G w0 θ (opF P cf inR o.op args) _ _
      cases hap : apartOp o.op with
      | false =>
        refine Mv.sim (N := fun n w => lone (b.atR (act.put o.dst (valOf n)) (.inRegion ops rest :: k)) cs w) (sim_opF (ρ := act.eval) hap hv) (fun n w w' hn hr => ?_) (fun θ' v n _ hn => ?_)
        · obtain ⟨θ', x, v, hn, _⟩ := hn
          refine stepR_val ho hw' hd hr ?_
          rcases hn with rfl | ⟨rfl, rfl⟩
          · exact .inl rfl
          · exact .inr ⟨rfl, rfl⟩
        · obtain ⟨u, hn, hu⟩ := hn
          refine ⟨valOf n, ?_, rfl⟩
          rcases hn with rfl | ⟨rfl, rfl⟩ <;> exact hu
      | true =>
        obtain ⟨dst, op, type, pos, after, guard⟩ := o
        simp only at hv hap hnd hd hw' ho
        cases op with
        | call c =>
          obtain ⟨callee, as, tys⟩ := c
          cases callee with
          | builtin bi =>
            cases bi <;> first | cases hap | skip
            rw [show opF P cf inR (.call { callee := .builtin .recover, args := as, argTypes := tys }) args = (FM.guard (!inR)).bind fun _ => FM.pure V.nili from by cases args <;> rfl]
            refine Mv.grd fun hR' => ?_
            have hro : b.roundOf = none := by
              subst hR
              cases hbr : b.roundOf with
              | none => rfl
              | some l => rw [hbr] at hR'; cases hR'
            refine Mv.pre (M' := fun w => lone (b.atR (act.put dst .nilIface) (.inRegion ops rest :: k)) cs w) (fun w => stepR_recover ho hw' hd rfl hro hk) (Mv.ret ⟨.nilIface, by simp [VR], rfl⟩)
          | invoke r m => exact Mv.fail
          | value f =>
            cases args with
            | nil => exact Mv.fail
            | cons fv args =>
              show Mv P G w0 θ (cf fv args) _ _
              simp only [Op.operands, Call.operands, Array.toList_append, List.map_append] at hv
              have hv' : VRL θ (fv :: args) (act.eval f :: as.toList.map act.eval) := hv
              simp only [VRL] at hv'
              obtain ⟨y, ys, e, hy, hys⟩ := hv'
              cases e
              intro s v s' w hm hr hf
              obtain ⟨nx, fr, hi, hn, w', θ', v', hs, he', hr', hv'⟩ := hc θ fv args (act.eval f) (as.map act.eval) (b.atR act (.inRegion ops (i :: rest) :: k)) cs hy (by rw [Array.toList_map]; exact hys) (.inl rfl) s v s' w hm hr hf
              refine ⟨w', θ', _, .head (stepR_call ho hw' hd hi hn) hs, he', hr', v', hv', ?_⟩
              rw [show back .normal (b.atR act (.inRegion ops (i :: rest) :: k)) v' = _ from finish_op ho v']
        | defer c => cases hnd
        | _ => cases hap
  · have hw' : Region.wanted o (yielded ops act.tmps) = false := (wanted_same ha).trans hw
    exact Mv.pre (M' := fun w => lone (b.atR (act.put o.dst undef) (.inRegion ops rest :: k)) cs w) (fun w => stepR_skipped ho hw') (Mv.ret ⟨undef, VR.undef θ, rfl⟩)

/-- where the operations of a region leave an activation -/
def OpsEnd (sz : Nat) (b : Frame) (k : List Item) (cs : List Frame) (ops : Array Oper) (rest : List Nat) (θ : Th) (a : A) (N : World → Machine) : Prop :=
  ∃ act, AR θ sz a act ∧ N = fun w => lone (b.atR act (.inRegion ops rest :: k)) cs w

theorem mv_stepF (hc : CallAt P G w0 cf .normal) (hR : inR = b.roundOf.isSome) (hk : RecOk b cs) (ha : AR θ sz a act) (ho : ops[i]? = some o) :
    Mv P G w0 θ (stepF P cf inR sz ops a o) (fun w => lone (b.atR act (.inRegion ops (i :: rest) :: k)) cs w) (OpsEnd sz b k cs ops rest) := by
  unfold stepF
  cases hdo : deferOf o.op with
  | none =>
    refine Mv.bind (mv_opV hc hR hk ha ho hdo) fun θ' v N hle he => ?_
    obtain ⟨u, hu, rfl⟩ := he
    exact Mv.ret ⟨_, (ha.mono hle).put hu, rfl⟩
  | some c =>
    refine Mv.tg fun hg => ?_
    have hop := deferOf_some hdo
    refine Mv.sel (fun hw => ?_) (fun hw => ?_)
    · have hw' : Region.wanted o (yielded ops act.tmps) = true := (wanted_same ha).trans hw
      unfold deferF
      cases hin : inR with
      | true => 
        intro s r s' w hm
        obtain ⟨_, _, h1, _⟩ := (FM.run_bind _ _ _ _ _).1 hm
        cases h1
      | false =>
        have hro : b.roundOf = none := by
          cases hbr : b.roundOf with
          | none => rfl
          | some l => rw [hbr, hin] at hR; cases hR
        rw [sel_false]
        unfold deferC
        obtain ⟨callee, as, tys⟩ := c
        cases callee with
        | builtin bi =>
          intro s r s' w hm
          obtain ⟨_, _, h1, _⟩ := (FM.run_bind _ _ _ _ _).1 hm
          cases h1
        | invoke r m =>
          intro s r s' w hm
          obtain ⟨_, _, h1, _⟩ := (FM.run_bind _ _ _ _ _).1 hm
          cases h1
        | value f =>
          simp only
          refine Mv.assoc (Mv.opt fun fv hfv => Mv.assoc (Mv.opt fun q hq => Mv.assoc (Mv.opt fun args hargs => ?_)))
          have hy := ha.eval hg hfv
          have hys := ha.evals hg hargs
          obtain ⟨n, xs, ys, rfl⟩ : ∃ n xs ys, fv = .func n xs ys := by
            cases fv <;> first | exact ⟨_, _, _, rfl⟩ | cases hq
          simp only [VR] at hy
          obtain ⟨p1, p2, hfe, hp1, hp2⟩ := hy
          refine Mv.pre (M' := fun w => lone (b.atR (({ act with defers := { target := .fn (.func n) p2, args := p1 ++ as.map act.eval } :: act.defers } : Act).put o.dst undef) (.inRegion ops rest :: k)) cs w)
            (fun w => stepR_defer ho hw' ?_ hro) (Mv.ret ⟨_, ?_, rfl⟩)
          · have : execOp act.eval o = (do pure (.defer (← resolve act.eval { callee := .value f, args := as, argTypes := tys } o.type)) : Sem Next) := by
              unfold execOp; rw [hop]
            rw [this]
            simp [resolve, hfe, Deferred.ofValue]
          · refine AR.put (a := ⟨a.env, .fn (.func n xs ys) args :: a.defers⟩) (c := { act with defers := { target := .fn (.func n) p2, args := p1 ++ as.map act.eval } :: act.defers }) ⟨ha.env, ?_⟩ (VR.undef θ)
            exact ⟨_, _, rfl, ⟨n, xs, ys, p1, p2, as.map act.eval, rfl, hp1, hp2, by rw [Array.toList_map]; exact hys, rfl⟩, ha.defers⟩
    · have hw' : Region.wanted o (yielded ops act.tmps) = false := (wanted_same ha).trans hw
      exact Mv.pre (M' := fun w => lone (b.atR (act.put o.dst undef) (.inRegion ops rest :: k)) cs w) (fun w => stepR_skipped ho hw') (Mv.ret ⟨_, ha.put (VR.undef θ), rfl⟩)

theorem mv_seqF (hc : CallAt P G w0 cf .normal) (hR : inR = b.roundOf.isSome) (hk : RecOk b cs) : ∀ (l : List Oper) (idx : List Nat) (θ : Th) (a : A) (act : Act), AR θ sz a act → idx.map (ops[·]?) = l.map some →
    Mv P G w0 θ (seqF P cf inR sz ops l a) (fun w => lone (b.atR act (.inRegion ops idx :: k)) cs w) (OpsEnd sz b k cs ops [])
  | [], [], θ, a, act, ha, _ => Mv.ret ⟨act, ha, rfl⟩
  | [], _ :: _, _, _, _, _, h => by cases h
  | _ :: _, [], _, _, _, _, h => by cases h
  | o :: l, i :: idx, θ, a, act, ha, h => by
    simp only [List.map_cons, List.cons.injEq] at h
    rw [seqF_cons]
    refine Mv.bind (mv_stepF hc hR hk ha h.1) fun θ' a' N _ he => ?_
    obtain ⟨act', ha', rfl⟩ := he
    exact mv_seqF hc hR hk l idx θ' a' act' ha' h.2
end
end Go.Ev

namespace Go.Ev
open Go.RowKit

/-! two slots, set in either order -/
theorem Tr.set_comm {α : Type} : ∀ (f : Nat) (t : Tr α) (n m : Nat) (x y : Option α), n ≠ m → Tr.set f (Tr.set f t n x) m y = Tr.set f (Tr.set f t m y) n x
  | 0, _, _, _, _, _, _ => rfl
  | f + 1, t, n, m, x, y, h => by
    have nil_node : ∀ (k : Nat) (z : Option α), Tr.set (f + 1) .nil k z = Tr.set (f + 1) (.node .nil none .nil) k z := by
      intro k z; rw [Tr.set_nil, Tr.set_node]
    have key : ∀ (l r : Tr α) (v : Option α), Tr.set (f + 1) (Tr.set (f + 1) (.node l v r) n x) m y = Tr.set (f + 1) (Tr.set (f + 1) (.node l v r) m y) n x := by
      intro l r v
      have ih := fun (t : Tr α) (a b : Nat) (h : a ≠ b) => Tr.set_comm f t a b x y h
      simp only [Tr.set_node]
      have e0 : ∀ m : Nat, Nat.beq m 0 = true → m = 0 := fun m h => by simpa using h
      have e1 : ∀ m : Nat, Nat.beq m 0 = false → m ≠ 0 := fun m h => by rintro rfl; cases h
      have e2 : ∀ m : Nat, Nat.beq (m % 2) 1 = true → m % 2 = 1 := fun m h => by simpa using h
      have e3 : ∀ m : Nat, Nat.beq (m % 2) 1 = false → m % 2 = 0 := fun m h => by
        rcases Nat.mod_two_eq_zero_or_one m with h1 | h1
        · exact h1
        · rw [h1] at h; cases h
      cases hn : Nat.beq n 0 <;> cases hm : Nat.beq m 0
      · cases hn2 : Nat.beq (n % 2) 1 <;> cases hm2 : Nat.beq (m % 2) 1
        · simp only [sel_false, Tr.set_node, hn, hm, hn2, hm2]
          rw [ih r (n / 2 - 1) (m / 2 - 1) (by have := e1 n hn; have := e1 m hm; have := e3 n hn2; have := e3 m hm2; omega)]
        · simp only [sel_false, sel_true, Tr.set_node, hn, hm, hn2, hm2]
        · simp only [sel_false, sel_true, Tr.set_node, hn, hm, hn2, hm2]
        · simp only [sel_false, sel_true, Tr.set_node, hn, hm, hn2, hm2]
          rw [ih l (n / 2) (m / 2) (by have := e2 n hn2; have := e2 m hm2; omega)]
      · cases hn2 : Nat.beq (n % 2) 1 <;> simp only [sel_false, sel_true, Tr.set_node, hn, hm, hn2]
      · cases hm2 : Nat.beq (m % 2) 1 <;> simp only [sel_false, sel_true, Tr.set_node, hn, hm, hm2]
      · exact absurd ((e0 n hn).trans (e0 m hm).symm) h
    cases t with
    | nil =>
      have e1 := nil_node n x
      have e2 := nil_node m y
      rw [e1, e2]; exact key _ _ _
    | node l v r => exact key l r v

section
variable {P : Program} {sz : Nat} {ops : Array Oper}
theorem A.put_comm (a : A) {d e : Option Nat} (v u : V) (h : ∀ x, d = some x → e ≠ some x) : (a.put sz d v).put sz e u = (a.put sz e u).put sz d v := by
  cases d with
  | none => rfl
  | some d =>
    cases e with
    | none => rfl
    | some e =>
      have hne : d ≠ e := fun he => h d rfl (by rw [he])
      simp only [A.put_some]
      cases Nat.blt d sz <;> cases Nat.blt e sz <;> simp only [sel_true, sel_false]
      rw [Tr.set_comm 14 a.env d e _ _ hne]
theorem A.tmp_put (a : A) {d : Option Nat} {v : V} {t : Nat} (h : ∀ x, d = some x → t ≠ x) (hs : sz ≤ 8000) : (a.put sz d v).tmp t = a.tmp t := by
  cases d with
  | none => rfl
  | some d =>
    rw [A.put_some]
    cases hb : Nat.blt d sz with
    | false => rfl
    | true =>
      rw [sel_true]
      have hlt : d < sz := by simpa using hb
      show envTmp (Tr.set 14 a.env d (some v)) t = envTmp a.env t
      rw [envTmp_set (by omega), if_neg (h d rfl)]
theorem A.eval_put (a : A) {d : Option Nat} {v : V} {x : Operand} (h : ∀ y, d = some y → x ≠ .tmp y) (hs : sz ≤ 8000) : (a.put sz d v).eval x = a.eval x := by
  cases x with
  | tmp t =>
    show some ((a.put sz d v).tmp t) = some (a.tmp t)
    rw [A.tmp_put a (fun y hy e => h y hy (by rw [e])) hs]
  | _ => rfl
theorem A.evals_put (a : A) {d : Option Nat} {v : V} (hs : sz ≤ 8000) : ∀ {l : List Operand}, (∀ y, d = some y → Operand.tmp y ∉ l) → (a.put sz d v).evals l = a.evals l
  | [], _ => rfl
  | x :: l, h => by
    rw [A.evals_cons, A.evals_cons, A.eval_put a (fun y hy e => h y hy (by rw [e]; simp)) hs, A.evals_put a hs (fun y hy hm => h y hy (by simp [hm]))]
theorem yieldedA_put (a : A) {d : Option Nat} {v : V} {g : Nat} (hs : sz ≤ 8000) (h : ∀ y, d = some y → (ops[g]?).bind (·.dst) ≠ some y) : yieldedA ops (a.put sz d v) g = yieldedA ops a g := by
  unfold yieldedA
  cases ho : ops[g]? with
  | none => rfl
  | some o =>
    simp only
    rw [ho] at h
    cases hd : o.dst with
    | none => rfl
    | some t =>
      simp only
      rw [A.tmp_put a (fun y hy e => h y hy (by simp [hd, e])) hs]
theorem wantedA_put (a : A) {o : Oper} {d : Option Nat} {v : V} (hs : sz ≤ 8000) (h : ∀ y, d = some y → y ∉ o.looksAt ops) : wantedA ops (a.put sz d v) o = wantedA ops a o := by
  unfold wantedA
  cases hg : o.guard with
  | none => rfl
  | some g =>
    obtain ⟨g, b⟩ := g
    simp only
    rw [yieldedA_put a hs (fun y hy e => h y hy (by simp [Oper.looksAt, hg, e]))]
theorem opV_put {cf : V → List V → FM V} {inR : Bool} (a : A) {o : Oper} {d : Option Nat} {v : V} (hs : sz ≤ 8000) (h : ∀ y, d = some y → y ∉ o.looksAt ops) :
    opV P cf inR ops (a.put sz d v) o = opV P cf inR ops a o := by
  unfold opV
  rw [wantedA_put a hs h, A.evals_put a hs (fun y hy hm => h y hy (List.mem_append_left _ (List.mem_filterMap.2 ⟨.tmp y, hm, rfl⟩)))]
end

/-! runs of a region's operations in some order -/
structure Rec where
  o : Oper
  i : Nat
  n : Nat
  n' : Nat
  R : Nat
  W : Nat
  v : V

section
variable (P : Program) (cf : V → List V → FM V) (inR : Bool) (sz : Nat) (ops : Array Oper)
def One (r : Rec) (a : A) (s s1 : St) : Prop := (opV P cf inR ops a r.o).run ⟨r.n, s.heap, 0, 0⟩ = .ok r.v s1 ∧ s1.next = r.n' ∧ s1.rd = r.R ∧ s1.wr = r.W
def Run : List Rec → A → St → A → St → Prop
  | [], a, s, a', s' => a' = a ∧ ∀ i, s'.at i = s.at i
  | r :: l, a, s, a', s' => ∃ s1, One P cf inR ops r a s s1 ∧ Run l (a.put sz r.o.dst r.v) s1 a' s'
end
def dis (x y : Nat) : Prop := ∀ i, x.testBit i = true → y.testBit i = true → False
/-- neither of them looks at what the other one leaves or writes -/
structure Apart (ops : Array Oper) (p q : Rec) : Prop where
  o : p.o.apart ops q.o = true
  wr : dis p.W q.R
  ww : dis p.W q.W
  rw : dis p.R q.W

section
variable {P : Program} {cf : V → List V → FM V} {inR : Bool} {sz : Nat} {ops : Array Oper}
theorem One.frame {r : Rec} {a : A} {s s1 : St} (h : One P cf inR ops r a s s1) : r.n ≤ r.n' ∧ (∀ i, r.W.testBit i = false → s1.at i = s.at i) ∧
    ∀ t : St, (∀ i, r.R.testBit i = true ∨ r.W.testBit i = true → t.at i = s.at i) →
      ∃ t1, One P cf inR ops r a t t1 ∧ (∀ i, r.W.testBit i = true → t1.at i = s1.at i) ∧ ∀ i, r.W.testBit i = false → t1.at i = t.at i := by
  obtain ⟨h1, h2, h3, h4⟩ := h
  obtain ⟨g1, R, W, g2, g3, g4, g5⟩ := (opV P cf inR ops a r.o).framed _ _ _ h1
  have hR : R = r.R := by rw [← h3, g2]; simp
  have hW : W = r.W := by rw [← h4, g3]; simp
  subst hR; subst hW
  refine ⟨by rw [← h2]; exact g1, g4, fun t ht => ?_⟩
  obtain ⟨t1, k1, k2, k3, k4, k5, k6⟩ := g5 ⟨r.n, t.heap, 0, 0⟩ rfl ht
  exact ⟨t1, ⟨k1, by rw [k2]; exact h2, by rw [k3]; simp, by rw [k4]; simp⟩, k5, k6⟩
theorem Run.congr : ∀ {l : List Rec} {a : A} {s t : St} {a' : A} {s' : St}, Run P cf inR sz ops l a s a' s' → (∀ i, t.at i = s.at i) → Run P cf inR sz ops l a t a' s'
  | [], _, _, _, _, _, h, e => ⟨h.1, fun i => (h.2 i).trans (e i).symm⟩
  | r :: l, a, s, t, a', s', ⟨s1, h, hl⟩, e => by
    obtain ⟨_, f1, f2⟩ := h.frame
    obtain ⟨t1, g1, g2, g3⟩ := f2 t (fun i _ => e i)
    refine ⟨t1, g1, Run.congr hl fun i => ?_⟩
    cases hw : r.W.testBit i with
    | true => exact g2 i hw
    | false => rw [g3 i hw, f1 i hw, e i]
theorem dis.bit {x y i : Nat} (h : dis x y) (hx : x.testBit i = true) : y.testBit i = false := by
  cases hy : y.testBit i with
  | false => rfl
  | true => exact (h i hx hy).elim
theorem Run.swap (hs : sz ≤ 8000) {p q : Rec} {l : List Rec} {a : A} {s : St} {a' : A} {s' : St} (hap : Apart ops p q) (h : Run P cf inR sz ops (p :: q :: l) a s a' s') : Run P cf inR sz ops (q :: p :: l) a s a' s' := by
  obtain ⟨s1, hp, s2, hq, hl⟩ := h
  obtain ⟨o1, o2, o3⟩ := Oper.apart_spec hap.o
  obtain ⟨_, fp1, fp2⟩ := hp.frame
  obtain ⟨_, fq1, fq2⟩ := hq.frame
  have eq : opV P cf inR ops (a.put sz p.o.dst p.v) q.o = opV P cf inR ops a q.o := opV_put a hs o1
  have ep : opV P cf inR ops (a.put sz q.o.dst q.v) p.o = opV P cf inR ops a p.o := opV_put a hs o3
  obtain ⟨t1, gq, gq1, gq2⟩ := fq2 s (fun i hi => (fp1 i (by
    cases hw : p.W.testBit i with
    | false => rfl
    | true => rcases hi with hi | hi
              · exact (hap.wr i hw hi).elim
              · exact (hap.ww i hw hi).elim)).symm)
  obtain ⟨t2, gp, gp1, gp2⟩ := fp2 t1 (fun i hi => gq2 i (by
    cases hw : q.W.testBit i with
    | false => rfl
    | true => rcases hi with hi | hi
              · exact (hap.rw i hi hw).elim
              · exact (hap.ww i hi hw).elim))
  refine ⟨t1, by unfold One at gq ⊢; rw [eq] at gq; exact gq, t2, by unfold One at gp ⊢; rw [ep]; exact gp, ?_⟩
  rw [← A.put_comm a _ _ o2]
  refine Run.congr hl fun i => ?_
  cases hw : p.W.testBit i with
  | true => rw [gp1 i hw, fq1 i (hap.ww.bit hw)]
  | false =>
    rw [gp2 i hw]
    cases hv : q.W.testBit i with
    | true => exact gq1 i hv
    | false => rw [gq2 i hv, fq1 i hv, fp1 i hw]
theorem Run.front (hs : sz ≤ 8000) {q : Rec} {post : List Rec} : ∀ {pre : List Rec} {a : A} {s : St} {a' : A} {s' : St}, (∀ p ∈ pre, Apart ops p q) → Run P cf inR sz ops (pre ++ q :: post) a s a' s' →
    Run P cf inR sz ops (q :: (pre ++ post)) a s a' s'
  | [], _, _, _, _, _, h => h
  | p :: pre, a, s, a', s', hap, h => by
    obtain ⟨s1, hp, hl⟩ := h
    have := Run.front hs (fun x hx => hap x (by simp [hx])) hl
    exact Run.swap hs (hap p (by simp)) ⟨s1, hp, this⟩
end
end Go.Ev

namespace Go.Ev
open Go.RowKit

/-! what comes ahead of what -/
section
variable {ops : Array Oper}
noncomputable def aheadOf (acc : Array Nat) (o : Oper) : Nat := o.after.foldl (fun s e => if Region.binds .any e then s ||| 2 ^ e.on ||| acc.getD e.on 0 else s) 0
theorem aheadOf_bit {acc : Array Nat} {o : Oper} {j : Nat} (h : (aheadOf acc o).testBit j = true) : ∃ e ∈ o.after, Region.binds .any e = true ∧ (e.on = j ∨ (acc.getD e.on 0).testBit j = true) := by
  unfold aheadOf at h
  rw [← Array.foldl_toList] at h
  have key : ∀ (l : List Edge) (s : Nat), (l.foldl (fun s e => if Region.binds .any e then s ||| 2 ^ e.on ||| acc.getD e.on 0 else s) s).testBit j = true →
      s.testBit j = true ∨ ∃ e ∈ l, Region.binds .any e = true ∧ (e.on = j ∨ (acc.getD e.on 0).testBit j = true) := by
    intro l
    induction l with
    | nil => intro s h; exact .inl h
    | cons e l ih =>
      intro s h
      rw [List.foldl_cons] at h
      rcases ih _ h with h | ⟨x, hx, h1, h2⟩
      · by_cases hb : Region.binds .any e = true
        · rw [if_pos hb] at h
          simp only [Nat.testBit_or, Bool.or_eq_true] at h
          rcases h with (h | h) | h
          · exact .inl h
          · refine .inr ⟨e, by simp, hb, .inl ?_⟩
            rw [Nat.testBit_two_pow] at h; exact of_decide_eq_true h
          · exact .inr ⟨e, by simp, hb, .inr h⟩
        · rw [if_neg hb] at h; exact .inl h
      · exact .inr ⟨x, by simp [hx], h1, h2⟩
  rcases key _ _ h with h | ⟨e, he, h1, h2⟩
  · simp at h
  · exact ⟨e, by simpa using he, h1, h2⟩
theorem before_spec : ∀ (l : List Oper) (acc : Array Nat), let r := l.foldl (fun acc o => acc.push (aheadOf acc o)) acc
    (∀ m, m < acc.size → r[m]? = acc[m]?) ∧ ∀ k o, l[k]? = some o → ∃ acc' : Array Nat, acc'.size = acc.size + k ∧ (∀ m, m < acc'.size → r[m]? = acc'[m]?) ∧ r[acc.size + k]? = some (aheadOf acc' o)
  | [], acc => ⟨fun _ _ => rfl, fun k o h => by simp at h⟩
  | o :: l, acc => by
    obtain ⟨h1, h2⟩ := before_spec l (acc.push (aheadOf acc o))
    refine ⟨fun m hm => ?_, fun k o' hk => ?_⟩
    · have := h1 m (by simp; omega)
      simp only [List.foldl_cons]
      rw [this, Array.getElem?_push, if_neg (by omega)]
    · simp only [List.foldl_cons]
      cases k with
      | zero =>
        simp only [List.getElem?_cons_zero, Option.some.injEq] at hk
        subst hk
        refine ⟨acc, rfl, fun m hm => ?_, ?_⟩
        · rw [h1 m (by simp; omega), Array.getElem?_push, if_neg (by omega)]
        · rw [Nat.add_zero, h1 acc.size (by simp)]; simp
      | succ k =>
        simp only [List.getElem?_cons_succ] at hk
        obtain ⟨acc', g1, g2, g3⟩ := h2 k o' hk
        simp only [Array.size_push] at g1 g3
        exact ⟨acc', by omega, g2, by rw [← g3]; congr 1; omega⟩
theorem edgesB_spec (h : edgesB ops = true) {i : Nat} {o : Oper} (ho : ops[i]? = some o) {e : Edge} (he : e ∈ o.after) (hb : Region.binds .any e = true) : e.on < i := by
  unfold edgesB at h
  rw [List.all_eq_true] at h
  have h1 := h (o, i) (by rw [List.mem_zipIdx_iff_getElem?]; simpa using ho)
  rw [List.all_eq_true] at h1
  have h2 := h1 e (by simpa using he)
  rw [hb] at h2
  simpa using h2
theorem before_bit (h : edgesB ops = true) {i : Nat} {o : Oper} (ho : ops[i]? = some o) {j : Nat} (hj : ((Region.before ops).getD i 0).testBit j = true) :
    ∃ e ∈ o.after, Region.binds .any e = true ∧ e.on < i ∧ (e.on = j ∨ ((Region.before ops).getD e.on 0).testBit j = true) := by
  have hB : Region.before ops = ops.toList.foldl (fun acc o => acc.push (aheadOf acc o)) #[] := by
    unfold Region.before
    rw [← Array.foldl_toList]
    rfl
  obtain ⟨_, h2⟩ := before_spec ops.toList #[]
  obtain ⟨acc', g1, g2, g3⟩ := h2 i o (by simpa using ho)
  rw [← hB] at g2 g3
  have e1 : (Region.before ops).getD i 0 = aheadOf acc' o := by
    simp only [List.size_toArray, List.length_nil, Nat.zero_add] at g3
    rw [Array.getD_eq_getD_getElem?, g3]; rfl
  rw [e1] at hj
  obtain ⟨e, he, hb, hr⟩ := aheadOf_bit hj
  have hlt := edgesB_spec h ho he hb
  refine ⟨e, he, hb, hlt, hr.imp id fun hr => ?_⟩
  have : (Region.before ops).getD e.on 0 = acc'.getD e.on 0 := by
    rw [Array.getD_eq_getD_getElem?, Array.getD_eq_getD_getElem?, g2 e.on (by rw [g1]; simp; exact hlt)]
  rw [this]; exact hr
end

/-! the run in the text's order -/
def OrdOr (ops : Array Oper) (p r : Rec) : Prop := ((Region.before ops).getD r.i 0).testBit p.i = true ∨ Apart ops p r
def Rng : List Rec → Nat → Nat → Prop
  | [], n, m => n = m
  | r :: l, n, m => r.n = n ∧ r.n ≤ r.n' ∧ Rng l r.n' m
def footOf (r : Rec) : Foot := ⟨r.R, r.W⟩
theorem asksOf_spec {ops : Array Oper} {b : Nat} {o : Oper} : ∀ {l : List Oper} {j d : Nat} {r : List Nat}, asksOf ops b o l j d = some r → ∀ e p, l[e]? = some p → b.testBit (j - 1 - e) = true ∨ (p.apart ops o = true ∧ d + e ∈ r)
  | [], _, _, _, _, e, p, hp => by simp at hp
  | x :: l, j, d, r, h, e, p, hp => by
    unfold asksOf at h
    cases hr : asksOf ops b o l (Nat.pred j) (Nat.succ d) with
    | none => rw [hr] at h; cases h
    | some r' =>
      rw [hr] at h
      simp only at h
      have ih := asksOf_spec hr
      have hsub : ∀ y ∈ r', y ∈ r := by
        intro y hy
        cases hb : Nat.testBit b (Nat.pred j) with
        | true => rw [hb, sel_true] at h; cases h; exact hy
        | false =>
          rw [hb, sel_false] at h
          cases hx : x.apart ops o with
          | false => rw [hx] at h; cases h
          | true => rw [hx, sel_true] at h; cases h; simp [hy]
      cases e with
      | zero =>
        simp only [List.getElem?_cons_zero, Option.some.injEq] at hp
        subst hp
        cases hb : Nat.testBit b (Nat.pred j) with
        | true => exact .inl (by simp)
        | false =>
          rw [hb, sel_false] at h
          cases hx : x.apart ops o with
          | false => rw [hx] at h; cases h
          | true => rw [hx, sel_true] at h; cases h; exact .inr ⟨rfl, by simp⟩
      | succ e =>
        simp only [List.getElem?_cons_succ] at hp
        rcases ih e p hp with h1 | ⟨h1, h2⟩
        · refine .inl ?_
          have : Nat.pred j - 1 - e = j - 1 - (e + 1) := by simp only [Nat.pred_eq_sub_one]; omega
          rw [← this]; exact h1
        · refine .inr ⟨h1, hsub _ ?_⟩
          have : Nat.succ d + e = d + (e + 1) := by omega
          rw [← this]; exact h2
theorem nthF_eq : ∀ (l : List Foot) (n : Nat), nthF l n = l[n]?
  | [], _ => by simp [nthF]
  | _ :: _, 0 => rfl
  | _ :: l, n + 1 => by show nthF l n = _; rw [nthF_eq l n]; simp
theorem allApart_spec {q : Foot} {done : List Foot} : ∀ {asks : List Nat}, allApart q done asks = true → ∀ d ∈ asks, ∃ p, done[d]? = some p ∧ apartB p q = true
  | [], _, d, hd => by cases hd
  | x :: asks, h, d, hd => by
    have h' : @Option.rec Foot (fun _ => Bool) false (fun p => and (apartB p q) (allApart q done asks)) (nthF done x) = true := h
    cases hx : nthF done x with
    | none => rw [hx] at h'; cases h'
    | some p =>
      rw [hx] at h'
      have h' : and (apartB p q) (allApart q done asks) = true := h'
      simp only [Bool.and_eq_true] at h'
      rcases List.mem_cons.1 hd with rfl | hd
      · exact ⟨p, by rw [← nthF_eq]; exact hx, h'.1⟩
      · exact allApart_spec h'.2 d hd
theorem dis_of {x y : Nat} (h : Nat.land x y = 0) : dis x y := fun i hx hy => by
  have : (x &&& y).testBit i = true := by simp [hx, hy]
  rw [show x &&& y = 0 from h] at this
  simp at this
theorem apartB_spec {p q : Rec} (h : apartB (footOf p) (footOf q) = true) : dis p.W q.R ∧ dis p.W q.W ∧ dis p.R q.W := by
  unfold apartB footOf at h
  simp only [Bool.and_eq_true] at h
  have h1 := dis_of (by simpa using h.1 : Nat.land p.W (Nat.lor q.R q.W) = 0)
  have h2 := dis_of (by simpa using h.2 : Nat.land p.R q.W = 0)
  refine ⟨fun i hx hy => h1 i hx ?_, fun i hx hy => h1 i hx ?_, h2⟩
  · rw [show Nat.lor q.R q.W = q.R ||| q.W from rfl]; simp [hy]
  · rw [show Nat.lor q.R q.W = q.R ||| q.W from rfl]; simp [hy]

section
variable {P : Program} {cf : V → List V → FM V} {inR : Bool} {sz : Nat} {ops : Array Oper}
theorem draw_run : ∀ (l : List Oper) (plans : List Plan) (dn : List Rec) (i : Nat) (a : A) (s : St) (a' : A) (s' : St),
    planOf ops (Region.before ops) l (dn.map (·.o)) i = some plans → (drawF P cf inR sz ops plans (dn.map footOf) a).run s = .ok a' s' → (∀ d r, dn[d]? = some r → r.i + d + 1 = i) →
    ∃ rs : List Rec, rs.map (·.o) = l ∧ Run P cf inR sz ops rs a s a' s' ∧ Rng rs s.next s'.next ∧ (∀ j r, rs[j]? = some r → r.i = i + j) ∧ (∀ r ∈ rs, deferOf r.o.op = none) ∧
      (∀ p ∈ dn, ∀ r ∈ rs, OrdOr ops p r) ∧ rs.Pairwise (OrdOr ops)
  | [], plans, dn, i, a, s, a', s', hp, hr, _ => by
    cases hp
    cases hr
    exact ⟨[], rfl, ⟨rfl, fun _ => rfl⟩, rfl, fun j r h => by simp at h, fun r h => by simp at h, fun p _ r h => by simp at h, List.Pairwise.nil⟩
  | o :: l, plans, dn, i, a, s, a', s', hp, hr, hi => by
    unfold planOf at hp
    cases ha : asksOf ops ((Region.before ops).getD i 0) o (dn.map (·.o)) i 0 with
    | none => rw [ha] at hp; cases hp
    | some asks =>
      rw [ha] at hp
      simp only at hp
      cases hl : planOf ops (Region.before ops) l (o :: dn.map (·.o)) (Nat.succ i) with
      | none => rw [hl] at hp; cases hp
      | some ps =>
        rw [hl] at hp
        simp only at hp
        cases hd : (deferOf o.op).isNone with
        | false => rw [hd] at hp; cases hp
        | true =>
          rw [hd, sel_true] at hp
          cases hp
          rw [drawF_cons] at hr
          obtain ⟨r, s2, h1, h2⟩ := (FM.run_bind _ _ _ _ _).1 hr
          obtain ⟨s1, g1, g2, g3, g4, g5⟩ := FM.run_seen _ _ _ _ h1
          obtain ⟨v, R, W⟩ := r
          simp only at g1 g2 g3 h2
          cases hap : allApart ⟨R, W⟩ (dn.map footOf) asks with
          | false => rw [hap] at h2; cases h2
          | true =>
            rw [hap, sel_true] at h2
            obtain ⟨q, hq⟩ : ∃ q : Rec, q = ⟨o, i, s.next, s1.next, R, W, v⟩ := ⟨_, rfl⟩
            have hfq : footOf q = ⟨R, W⟩ := by rw [hq]; rfl
            have hqo : q.o = o := by rw [hq]
            obtain ⟨rs, k1, k2, k3, k4, k5, k6, k7⟩ := draw_run l ps (q :: dn) (Nat.succ i) _ s2 a' s' (by rw [List.map_cons, hqo]; exact hl) (by rw [List.map_cons, hfq]; exact h2) (by
              intro d r hdr
              cases d with
              | zero => simp only [List.getElem?_cons_zero, Option.some.injEq] at hdr; subst hdr; rw [hq]
              | succ d => simp only [List.getElem?_cons_succ] at hdr; have := hi d r hdr; omega)
            have hone : One P cf inR ops q a s s1 := by
              rw [hq]; exact ⟨g1, rfl, g2, g3⟩
            have hle := hone.frame.1
            have hdn : ∀ p ∈ dn, OrdOr ops p q := by
              intro p hpm
              obtain ⟨d, hd'⟩ := List.getElem?_of_mem hpm
              have hpi := hi d p hd'
              rcases asksOf_spec ha d p.o (by rw [List.getElem?_map, hd']; rfl) with hb | ⟨hb, hm⟩
              · refine .inl ?_
                rw [hq]
                have : i - 1 - d = p.i := by omega
                rw [← this]; exact hb
              · obtain ⟨f, hf1, hf2⟩ := allApart_spec hap _ hm
                rw [Nat.zero_add, List.getElem?_map, hd'] at hf1
                simp only [Option.map_some, Option.some.injEq] at hf1
                subst hf1
                rw [← hfq] at hf2
                obtain ⟨d1, d2, d3⟩ := apartB_spec hf2
                exact .inr ⟨by rw [hqo]; exact hb, d1, d2, d3⟩
            refine ⟨q :: rs, by rw [List.map_cons, hqo, k1], ⟨s1, hone, ?_⟩, ⟨by rw [hq], hle, ?_⟩, ?_, ?_, ?_, ?_⟩
            · have : A.put sz a q.o.dst q.v = A.put sz a o.dst v := by rw [hq]
              rw [this]
              exact k2.congr fun j => by simp only [St.at, g5]
            · rw [g4] at k3
              rw [hq]; exact k3
            · intro j r hjr
              cases j with
              | zero => simp only [List.getElem?_cons_zero, Option.some.injEq] at hjr; subst hjr; rw [hq]; rfl
              | succ j => simp only [List.getElem?_cons_succ] at hjr; have := k4 j r hjr; omega
            · intro r hrm
              rcases List.mem_cons.1 hrm with rfl | hrm
              · rw [hqo]
                cases hx : deferOf o.op with
                | none => rfl
                | some c => rw [hx] at hd; cases hd
              · exact k5 r hrm
            · intro p hpm r hrm
              rcases List.mem_cons.1 hrm with rfl | hrm
              · exact hdn p hpm
              · exact k6 p (by simp [hpm]) r hrm
            · exact List.Pairwise.cons (fun r hrm => k6 q (by simp) r hrm) k7
end
end Go.Ev

namespace Go.Ev
open Go.RowKit

/-! an order that the model may draw -/
def Topo (ops : Array Oper) : List Nat → List Rec → Prop
  | [], rem => rem = []
  | i :: idx, rem => ∃ pre q post, rem = pre ++ q :: post ∧ q.i = i ∧ (∀ p ∈ pre, Apart ops p q) ∧ Topo ops idx (pre ++ post)

section
variable {ops : Array Oper}
structure Left (ops : Array Oper) (listed : Array Bool) (rem : List Rec) : Prop where
  size : listed.size = ops.size
  pw : rem.Pairwise (OrdOr ops)
  up : rem.Pairwise (fun p q => p.i < q.i)
  at_ : ∀ r ∈ rem, ops[r.i]? = some r.o
  iff : ∀ i, i < ops.size → (listed.getD i true = false ↔ ∃ r ∈ rem, r.i = i)
  shut : ∀ i o, ops[i]? = some o → listed.getD i false = true → ∀ e ∈ o.after, Region.binds .any e = true → listed.getD e.on false = true
theorem Left.lt {listed : Array Bool} {rem : List Rec} (h : Left ops listed rem) {r : Rec} (hr : r ∈ rem) : r.i < ops.size := (Array.getElem?_eq_some_iff.1 (h.at_ r hr)).1
theorem getD_eq {l : Array Bool} {i : Nat} (h : i < l.size) (a b : Bool) : l.getD i a = l.getD i b := by simp [h]
theorem Left.bits {listed : Array Bool} {rem : List Rec} (h : Left ops listed rem) (he : edgesB ops = true) : ∀ (i : Nat) (o : Oper), ops[i]? = some o → listed.getD i false = true →
    ∀ j, ((Region.before ops).getD i 0).testBit j = true → listed.getD j false = true := by
  intro i
  induction i using Nat.strongRecOn with
  | _ i ih =>
    intro o ho hl j hj
    obtain ⟨e, hem, hb, hlt, hr⟩ := before_bit he ho hj
    have h1 := h.shut i o ho hl e hem hb
    rcases hr with rfl | hr
    · exact h1
    · have hsz := (Array.getElem?_eq_some_iff.1 ho).1
      exact ih e.on hlt ops[e.on] (by rw [Array.getElem?_eq_getElem (by omega)]) h1 j hr
theorem Left.first {listed : Array Bool} {q : Rec} {rem : List Rec} (h : Left ops listed (q :: rem)) (he : edgesB ops = true) : q.i ∈ Region.ready .any ops listed := by
  have hq := h.at_ q (by simp)
  have hlt := h.lt (r := q) (by simp)
  rw [mem_ready]
  refine ⟨(h.iff q.i hlt).2 ⟨q, by simp, rfl⟩, q.o, hq, fun e hem hb => ?_⟩
  have h1 := edgesB_spec he hq hem hb
  have h2 : ¬ listed.getD e.on true = false := by
    intro hf
    obtain ⟨r, hr, hri⟩ := (h.iff e.on (by omega)).1 hf
    rcases List.mem_cons.1 hr with rfl | hr
    · omega
    · have := (List.pairwise_cons.1 h.up).1 r hr
      omega
  rw [getD_eq (by rw [h.size]; omega) false true]
  simpa using h2
theorem Left.take {listed : Array Bool} {rem : List Rec} (h : Left ops listed rem) (he : edgesB ops = true) {i : Nat} (hi : i ∈ Region.ready .any ops listed) :
    ∃ pre q post, rem = pre ++ q :: post ∧ q.i = i ∧ (∀ p ∈ pre, Apart ops p q) ∧ Left ops (listed.setIfInBounds i true) (pre ++ post) := by
  obtain ⟨hun, o, ho, hall⟩ := mem_ready.1 hi
  have hlt := (Array.getElem?_eq_some_iff.1 ho).1
  obtain ⟨q, hq, rfl⟩ := (h.iff i hlt).1 hun
  obtain ⟨pre, post, rfl⟩ := List.append_of_mem hq
  have hqo : ops[q.i]? = some q.o := h.at_ q hq
  rw [hqo] at ho
  cases ho
  refine ⟨pre, q, post, rfl, rfl, fun p hp => ?_, ?_⟩
  · have hor : OrdOr ops p q := (List.pairwise_append.1 h.pw).2.2 p hp q (by simp)
    rcases hor with hb | ha
    · exfalso
      obtain ⟨e, hem, hbn, hlt2, hr⟩ := before_bit he hqo hb
      have h1 := hall e hem hbn
      have h2 : listed.getD p.i false = true := by
        rcases hr with hr | hr
        · rw [← hr]; exact h1
        · exact h.bits he e.on ops[e.on] (by rw [Array.getElem?_eq_getElem (by omega)]) h1 p.i hr
      have h3 := (h.iff p.i (h.lt (by simp [hp]))).2 ⟨p, by simp [hp], rfl⟩
      rw [getD_eq (by rw [h.size]; exact h.lt (by simp [hp])) false true] at h2
      rw [h2] at h3; cases h3
    · exact ha
  · have hup := h.up
    have hne : ∀ r ∈ pre ++ post, r.i ≠ q.i := by
      intro r hr hri
      rcases List.mem_append.1 hr with hr | hr
      · have := (List.pairwise_append.1 hup).2.2 r hr q (by simp); omega
      · have := (List.pairwise_cons.1 (List.pairwise_append.1 hup).2.1).1 r hr; omega
    have hsub : (pre ++ post).Sublist (pre ++ q :: post) := List.Sublist.append_left (List.sublist_cons_self q post) pre
    refine ⟨by simp [h.size], h.pw.sublist hsub, h.up.sublist hsub, fun r hr => h.at_ r (hsub.subset hr), fun j hj => ?_, fun j o' ho' hl e hem hb => ?_⟩
    · by_cases hjq : q.i = j
      · subst hjq
        have : (listed.setIfInBounds q.i true).getD q.i true = true := by simp [h.size, hj]
        rw [this]
        simp only [reduceCtorEq, false_iff]
        rintro ⟨r, hr, hri⟩
        exact hne r hr hri
      · rw [getD_set_ne true hjq, h.iff j hj]
        constructor
        · rintro ⟨r, hr, hri⟩
          refine ⟨r, ?_, hri⟩
          rcases List.mem_append.1 hr with hr | hr
          · exact List.mem_append_left _ hr
          · rcases List.mem_cons.1 hr with rfl | hr
            · exact absurd hri hjq
            · exact List.mem_append_right _ hr
        · rintro ⟨r, hr, hri⟩
          exact ⟨r, hsub.subset hr, hri⟩
    · by_cases hjq : q.i = j
      · subst hjq
        rw [hqo] at ho'
        cases ho'
        exact getD_set_true (hall e hem hb)
      · rw [getD_set_ne false hjq] at hl
        exact getD_set_true (h.shut j o' ho' hl e hem hb)
theorem Left.topo (he : edgesB ops = true) : ∀ (fuel t : Nat) (listed : Array Bool) (rem : List Rec), Left ops listed rem → rem.length ≤ fuel → Topo ops (Region.linearise.go .any ops fuel t listed []) rem
  | 0, t, listed, rem, h, hf => by
    have : rem = [] := List.length_eq_zero_iff.1 (by omega)
    subst this
    simp [Region.linearise.go, Topo]
  | fuel + 1, t, listed, rem, h, hf => by
    simp only [Region.linearise.go]
    change Topo ops (match (Region.ready .any ops listed)[t % (Region.ready .any ops listed).length]? with
      | some i => Region.linearise.go .any ops fuel (t / (Region.ready .any ops listed).length) (listed.setIfInBounds i true) [i]
      | none => [].reverse) rem
    cases hi : (Region.ready .any ops listed)[t % (Region.ready .any ops listed).length]? with
    | none =>
      have hnil : Region.ready .any ops listed = [] := by
        cases hr : Region.ready .any ops listed with
        | nil => rfl
        | cons x xs =>
          rw [hr] at hi
          have hlt : t % (x :: xs).length < (x :: xs).length := Nat.mod_lt _ (by simp)
          simp at hi
          simp at hlt
          omega
      cases rem with
      | nil => simp [Topo]
      | cons q rem => have := h.first he; rw [hnil] at this; cases this
    | some i =>
      simp only []
      rw [linearise_go_acc, List.reverse_singleton, List.singleton_append]
      obtain ⟨pre, q, post, rfl, hq, hap, hl⟩ := h.take he (List.mem_of_getElem? hi)
      exact ⟨pre, q, post, rfl, hq, hap, Left.topo he fuel _ _ _ hl (by simp at hf ⊢; omega)⟩
theorem left_start {rs : List Rec} (h1 : rs.map (·.o) = ops.toList) (h2 : ∀ j r, rs[j]? = some r → r.i = 0 + j) (h3 : rs.Pairwise (OrdOr ops)) : Left ops (Array.replicate ops.size false) rs := by
  have hlen : rs.length = ops.size := by have := congrArg List.length h1; simpa using this
  refine ⟨by simp, h3, ?_, fun r hr => ?_, fun i hi => ?_, fun i o ho hl => ?_⟩
  · rw [List.pairwise_iff_getElem]
    intro i j hi hj hij
    have e1 := h2 i rs[i] (List.getElem?_eq_getElem hi)
    have e2 := h2 j rs[j] (List.getElem?_eq_getElem hj)
    omega
  · obtain ⟨j, hj⟩ := List.getElem?_of_mem hr
    have e := h2 j r hj
    rw [Nat.zero_add] at e
    have : ops.toList[j]? = some r.o := by rw [← h1, List.getElem?_map, hj]; rfl
    rw [e]; simpa using this
  · have : (Array.replicate ops.size false).getD i true = false := by simp [hi]
    simp only [this, true_iff]
    have hir : i < rs.length := by omega
    exact ⟨rs[i], List.getElem_mem hir, by have := h2 i rs[i] (List.getElem?_eq_getElem hir); omega⟩
  · have hlt := (Array.getElem?_eq_some_iff.1 ho).1
    simp [hlt] at hl
end

/-! the model's run in that order -/
section
variable {P : Program} {G : Nat → Option O} {w0 : World} {sz : Nat} {b : Frame} {k : List Item} {cs : List Frame} {ops : Array Oper} {cf : V → List V → FM V} {inR : Bool}
def Cut (p q : Rec) : Prop := p.n' ≤ q.n ∨ q.n' ≤ p.n
theorem Rng.mem : ∀ {l : List Rec} {n m : Nat}, Rng l n m → n ≤ m ∧ ∀ r ∈ l, n ≤ r.n ∧ r.n ≤ r.n' ∧ r.n' ≤ m
  | [], n, m, h => ⟨Nat.le_of_eq h, fun r hr => by cases hr⟩
  | x :: l, n, m, ⟨h1, h2, h3⟩ => by
    obtain ⟨g1, g2⟩ := Rng.mem h3
    refine ⟨by omega, fun r hr => ?_⟩
    rcases List.mem_cons.1 hr with rfl | hr
    · exact ⟨by omega, h2, g1⟩
    · have := g2 r hr; exact ⟨by omega, this.2.1, this.2.2⟩
theorem Rng.cut : ∀ {l : List Rec} {n m : Nat}, Rng l n m → l.Pairwise Cut
  | [], _, _, _ => List.Pairwise.nil
  | _ :: _, _, _, ⟨_, _, h3⟩ => List.Pairwise.cons (fun r hr => .inl (Rng.mem h3 |>.2 r hr).1) (Rng.cut h3)
theorem mv_order (hc : CallAt P G w0 cf .normal) (hR : inR = b.roundOf.isSome) (hk : RecOk b cs) : ∀ (idx : List Nat) (rem : List Rec) (θ : Th) (a : A) (act : Act) (s : St) (a' : A) (s' : St) (w : World),
    Topo ops idx rem → Run P cf inR sz ops rem a s a' s' → Rel G w0 θ s w → AR θ sz a act → (∀ r ∈ rem, ops[r.i]? = some r.o ∧ deferOf r.o.op = none ∧ Free θ r.n r.n') → rem.Pairwise Cut →
    ∃ w' θ' act', Steps P (lone (b.atR act (.inRegion ops idx :: k)) cs w) (lone (b.atR act' (.inRegion ops [] :: k)) cs w') ∧ Le θ θ' ∧
      (∀ i, θ i = none → (∀ r ∈ rem, ¬ (r.n ≤ i ∧ i < r.n')) → θ' i = none) ∧ Rel G w0 θ' s' w' ∧ AR θ' sz a' act'
  | [], rem, θ, a, act, s, a', s', w, ht, hr, hrel, ha, _, _ => by
    have ht : rem = [] := ht
    subst ht
    obtain ⟨rfl, he⟩ := hr
    exact ⟨w, θ, act, Steps.refl _ _, Le.refl θ, fun _ h _ => h, hrel.same he, ha⟩
  | i :: idx, rem, θ, a, act, s, a', s', w, ht, hr, hrel, ha, hm, hcut => by
    obtain ⟨pre, q, post, rfl, rfl, hap, ht'⟩ := ht
    obtain ⟨s1, hone, hrest⟩ := hr.front ha.env.1 hap
    obtain ⟨hqo, hqd, hqf⟩ := hm q (by simp)
    obtain ⟨h1, h2, h3, h4⟩ := hone
    obtain ⟨w1, θ1, N, hs1, he1, hr1, u, hu, rfl⟩ := mv_opV (k := k) (rest := idx) hc hR hk ha hqo hqd ⟨q.n, s.heap, 0, 0⟩ q.v s1 w h1 (hrel.same fun _ => rfl) (by rw [h2]; exact hqf)
    simp only at he1 hs1
    rw [h2] at he1
    have hcut' : (q :: (pre ++ post)).Pairwise Cut := (List.pairwise_middle (fun h => h.symm)).1 hcut
    obtain ⟨hq', hcut''⟩ := List.pairwise_cons.1 hcut'
    have hsub : ∀ r ∈ pre ++ post, r ∈ pre ++ q :: post := fun r hr => (List.Sublist.append_left (List.sublist_cons_self q post) pre).subset hr
    obtain ⟨w2, θ2, act2, hs2, hle2, hn2, hr2, ha2⟩ := mv_order hc hR hk idx (pre ++ post) θ1 (a.put sz q.o.dst q.v) (act.put q.o.dst u) s1 a' s' w1 ht' hrest hr1 ((ha.mono he1.1).put hu)
      (fun r hrm => by
        obtain ⟨g1, g2, g3⟩ := hm r (hsub r hrm)
        refine ⟨g1, g2, fun j hj1 hj2 => he1.2 j (g3 j hj1 hj2) ?_⟩
        have := hq' r hrm
        unfold Cut at this
        omega) hcut''
    refine ⟨w2, θ2, act2, Steps.trans hs1 hs2, he1.1.trans hle2, fun j hj hno => hn2 j (he1.2 j hj ?_) (fun r hrm => hno r (hsub r hrm)), hr2, ha2⟩
    have := hno q (by simp)
    omega
end
end Go.Ev

namespace Go.Ev
open Go.RowKit

section
variable {P : Program} {G : Nat → Option O} {w0 : World} {θ : Th} {sz : Nat} {a : A} {act : Act} {b : Frame} {k : List Item} {cs : List Frame} {cf : V → List V → FM V} {inR : Bool}

/-- where code leaves an activation -/
def Land (sz : Nat) (b : Frame) (k : List Item) (cs : List Frame) (θ : Th) (r : Ex × A) (N : World → Machine) : Prop :=
  ∃ act, AR θ sz r.2 act ∧ match r.1 with
    | .normal => N = fun w => lone (b.atR act k) cs w
    | .exit id => ∃ todo, exitTo id todo = exitTo id k ∧ N = fun w => lone (b.atR act (.code (.exit id) :: todo)) cs w
    | .ret => ∃ todo, N = fun w => lone (b.atR act (.code .ret :: todo)) cs w

theorem mv_regionF (hm : P.follows .mixedOrders = true) (hc : CallAt P G w0 cf .normal) (hR : inR = b.roundOf.isSome) (hk : RecOk b cs) (ha : AR θ sz a act) {id : Nat} {ops : Array Oper} {draw : Bool} :
    Mv P G w0 θ (regionF P cf inR sz ops draw a) (fun w => lone (b.atR act (.code (.region id ops draw) :: k)) cs w) (Land sz b k cs) := by
  unfold regionF
  cases draw with
  | false =>
    rw [sel_false]
    refine Mv.pre (M' := fun w => lone (b.atR act (.inRegion ops (List.range ops.size) :: k)) cs w) (fun w => stepR_region) (Mv.bind (mv_seqF hc hR hk ops.toList (List.range ops.size) _ _ _ ha ?_) fun θ' a' N _ h => ?_)
    · apply List.ext_getElem?
      intro i
      simp only [List.getElem?_map]
      by_cases hi : i < ops.size
      · simp [hi]
      · simp [Nat.not_lt.1 hi]
    · obtain ⟨act', ha', rfl⟩ := h
      exact Mv.pre (M' := fun w => lone (b.atR act' k) cs w) (fun w => stepR_region_end) (Mv.ret ⟨act', ha', rfl⟩)
  | true =>
    rw [sel_true]
    intro s r s' w hrun hrel hfree
    obtain ⟨plans, s1, h1, h2⟩ := (FM.run_bind _ _ _ _ _).1 hrun
    obtain ⟨hpl, rfl⟩ := FM.run_ofOption _ _ _ _ h1
    obtain ⟨a', s2, h3, h4⟩ := (FM.run_bind _ _ _ _ _).1 h2
    cases h4
    unfold planR at hpl
    cases hed : edgesB ops with
    | false => rw [hed] at hpl; cases hpl
    | true =>
      rw [hed, sel_true] at hpl
      obtain ⟨rs, k1, k2, k3, k4, k5, _, k7⟩ := draw_run ops.toList plans [] 0 a s1 a' s' hpl h3 (fun d r h => by simp at h)
      have hL := left_start k1 k4 k7
      have hlen : rs.length = ops.size := by have := congrArg List.length k1; simpa using this
      obtain ⟨hnm, hmem⟩ := Rng.mem k3
      have hord : Region.schedule (P.follows .mixedOrders) ops (w.tape w.drawn (.order b.fn id)) = Region.linearise .any ops (w.tape w.drawn (.order b.fn id)) := by
        simp [Region.schedule, hm]
      have htopo : Topo ops (Region.linearise .any ops (w.tape w.drawn (.order b.fn id))) rs := hL.topo hed _ _ _ _ (Nat.le_of_eq hlen)
      obtain ⟨w', θ', act', hs, hle, hno, hr', ha'⟩ := mv_order (k := k) hc hR hk _ rs θ a act s1 a' s' w.drew htopo k2 hrel.drew ha
        (fun r hr => ⟨hL.at_ r hr, k5 r hr, fun i h1 h2 => hfree i (by have := hmem r hr; omega) (by have := hmem r hr; omega)⟩) (Rng.cut k3)
      refine ⟨w', θ', fun w => lone (b.atR act' k) cs w, ?_, ⟨hle, fun i hi ho => hno i hi fun r hr => by have := hmem r hr; omega⟩, hr', act', ha', rfl⟩
      refine Steps.head (m₁ := lone (b.atR act (.inRegion ops (Region.linearise .any ops (w.tape w.drawn (.order b.fn id))) :: k)) cs w.drew) ?_ (Steps.trans hs (.one stepR_region_end))
      rw [← hord]; exact stepR_region_draw

theorem stepR_scope {c : Code} {w : World} : step P (lone (b.atR act (.code (.scope c) :: k)) cs w) = .next (lone (b.atR act (.code c :: .inScope c :: k)) cs w) :=
  step_lone_go (by simp [stepG, stepG.exec, Frame.atR])
theorem stepR_inScope {c : Code} {w : World} : step P (lone (b.atR act (.inScope c :: k)) cs w) = .next (lone (b.atR act k) cs w) :=
  step_lone_go (by simp [stepG, stepG.exec, Frame.atR])
theorem stepR_range {g : Operand} {ps : Array Tmp} {assign body : Code} {l : Nat} {mark : List Deferred} {w w₁ : World} {n : Next} {fr : Frame}
    (he : (Instr.enterLoop b.fn act.tmps ps assign body b.roundOf).run P w = .ok (l, mark) w₁)
    (hr : (do let d ← Deferred.ofValue (act.eval g) #[.func (.yield l) #[] #[]]; invoke d.target d.args : Sem Next).run P w₁ = .ok n w₁) (hn : nextFrame P .normal n = some fr) :
    step P (lone (b.atR act (.code (.rangeFunc g ps assign body) :: k)) cs w) = .next (lone fr (b.atR { act with defers := mark ++ act.defers } (.inRangeFunc l :: k) :: cs) w₁) := by
  refine step_lone_go ?_
  have hev := Frame.eval_atR b { act with defers := mark ++ act.defers } (.inRangeFunc l :: k)
  have hg : ({ act with defers := mark ++ act.defers } : Act).eval g = act.eval g := by cases g <;> rfl
  simp only [Frame.atR] at hev
  have hres' : (do let d ← resolve ({ tmps := act.tmps, defers := mark ++ act.defers } : Act).eval { callee := .value g, args := #[.const (.func (.yield l) #[] #[])], argTypes := #[] } 0; invoke d.target d.args : Sem Next).run P w₁ = .ok n w₁ := by
    rw [← hr]
    simp only [resolve, hg]
    have : Array.map ({ tmps := act.tmps, defers := mark ++ act.defers } : Act).eval #[Operand.const (.func (.yield l) #[] #[])] = #[.func (.yield l) #[] #[]] := by simp [Act.eval]
    rw [this]
  cases n <;> simp only [nextFrame] at hn <;> first | cases hn | skip
  all_goals simp only [stepG, stepG.exec, Frame.atR, Sem.runT_eq, he, GStep.bare_after, stepG.apply, hev, if_true, hres', GStep.bare_go]

def RO (θ : Th) (round ro : Option Nat) : Prop := match round with | none => ro = none | some l => ∃ c, θ l = some c ∧ ro = some c.1
theorem RO.mono {θ' : Th} {round ro : Option Nat} (h : RO θ round ro) (hle : Le θ θ') : RO θ' round ro := by
  cases round with
  | none => exact h
  | some l => obtain ⟨c, hc, e⟩ := h; exact ⟨c, hle _ _ hc, e⟩
theorem RO.isSome {round ro : Option Nat} (h : RO θ round ro) : round.isSome = ro.isSome := by
  cases round with
  | none => rw [show ro = none from h]
  | some l => obtain ⟨c, hc, e⟩ := h; rw [e]; rfl
def Head (c : Code) (x : Item) : Prop := x = .code c ∨ ∃ y, c = .loop y ∧ x = .inLoop y
def CodeOk (P : Program) (G : Nat → Option O) (w0 : World) (sz fn : Nat) (round : Option Nat) (f : Code → A → RA) : Prop :=
  ∀ (θ : Th) (c : Code) (x : Item) (a : A) (act : Act) (b : Frame) (k : List Item) (cs : List Frame), Head c x → AR θ sz a act → b.fn = fn → RO θ round b.roundOf → RecOk b cs →
    Mv P G w0 θ (f c a) (fun w => lone (b.atR act (x :: k)) cs w) (Land sz b k cs)

/-! a loop's record -/
theorem getLoop_run {l : Nat} {s s' : St} {L : Lp} (h : (getLoop l).run s = .ok L s') : s.at l = some (.loop L) ∧ s'.next = s.next ∧ ∀ i, s'.at i = s.at i := by
  unfold getLoop at h
  obtain ⟨o, s1, h1, h2⟩ := (FM.run_bind _ _ _ _ _).1 h
  obtain ⟨g1, g2, g3⟩ := FM.run_get _ _ _ _ h1
  obtain ⟨h3, rfl⟩ := FM.run_ofOption _ _ _ _ h2
  cases o <;> first | (cases h3; done) | skip
  cases h3
  exact ⟨g1, g2, fun i => by simp only [St.at, g3]⟩
def loopObj (L : Lp) (tm : Array Value) (d : Nat) : Loop := { state := L.state, pending := L.pending, fn := L.fn, tmps := tm, params := L.params.toArray, assign := L.assign, body := L.body, defers := d }
theorem Rel.loop {s : St} {w : World} (h : Rel G w0 θ s w) {l : Nat} {L : Lp} (e : s.at l = some (.loop L)) :
    ∃ c tm d, θ l = some c ∧ w.heap[c.1]? = some (.loop (loopObj L tm d.1)) ∧ ER θ L.tmps L.size tm ∧ θ L.defers = some d := by
  obtain ⟨c, obj, h1, h2, h3⟩ := h.live l _ e
  obtain ⟨tm, d, rfl, g1, g2⟩ := h3
  exact ⟨c, tm, d, h1, h2, g1, g2⟩
theorem Rel.turn {s s1 s' : St} {w : World} (h : Rel G w0 θ s w) {l : Nat} {L : Lp} {st : LoopState} {p : Option Code} {u : Unit} (hs : ∀ i, s1.at i = s.at i)
    (hp : (FM.put l (some (.loop (L.turn st p)))).run s1 = .ok u s') {c d : Nat × Nat} {tm : Array Value} (hc : θ l = some c) (he : ER θ L.tmps L.size tm) (hd : θ L.defers = some d) :
    s'.next = s1.next ∧ Rel G w0 θ s' (w.putObj c.1 (.loop (loopObj (L.turn st p) tm d.1))) := by
  obtain ⟨g1, ⟨q, g2⟩, g3, g4⟩ := FM.run_put _ _ _ _ _ hp
  refine ⟨g3, (h.same hs).put g1 g2 hc g4 ⟨tm, d, rfl, he, hd⟩⟩
end
end Go.Ev

namespace Go.Ev
open Go.RowKit

section
variable {P : Program} {G : Nat → Option O} {w0 : World} {θ : Th} {sz fn : Nat} {a : A} {act : Act} {b : Frame} {k : List Item} {cs : List Frame} {cf : V → List V → FM V}

theorem exOf_land {p : Option Code} {e : Ex} (h : exOf p = some e) (ha : AR θ sz a act) : Land sz b k cs θ (e, a) (fun w => lone (b.atR act ((p.map Item.code).toList ++ k)) cs w) := by
  cases p with
  | none => cases h; exact ⟨act, ha, rfl⟩
  | some c => cases c <;> cases h <;> first | exact ⟨act, ha, k, rfl, rfl⟩ | exact ⟨act, ha, k, rfl⟩

theorem rangeGo_ok (hc : CallAt P G w0 cf .normal) {fv : V} {fv' : Value} (hv : VR θ fv fv') (ha : AR θ sz a act) {r : Nat} {d : Nat × Nat} (hd : θ r = some d) {ps : Array Tmp} {asg body : Code}
    {s s' : St} {e : Ex × A} {w : World} (hrun : (rangeGo cf b.fn sz fv ps.toList asg body a r).run s = .ok e s') (hrel : Rel G w0 θ s w) (hfree : Free θ s.next s'.next) {w1 : World}
    (hw1 : w1 = w.alloc (.loop { state := .ready, pending := none, fn := b.fn, tmps := act.tmps, params := ps, assign := asg, body := body, defers := d.1 })) :
    ∃ nx fr, (do let d ← Deferred.ofValue fv' #[.func (.yield w.heap.size) #[] #[]]; invoke d.target d.args : Sem Next).run P w1 = .ok nx w1 ∧ nextFrame P .normal nx = some fr ∧
      ∃ w' θ' N, Steps P (lone fr (b.atR act (.inRangeFunc w.heap.size :: k) :: cs) w1) (N w') ∧ Ext θ θ' s.next s'.next ∧ Rel G w0 θ' s' w' ∧ Land sz b k cs θ' e N := by
  unfold rangeGo at hrun
  obtain ⟨l, s1, h1, hrun⟩ := (FM.run_bind _ _ _ _ _).1 hrun
  obtain ⟨rfl, g1, g2, g3, g4⟩ := FM.run_new _ _ _ _ h1
  have n1 := FM.next_le hrun
  have hθ : θ s.next = none := hfree s.next (Nat.le_refl _) (by omega)
  have hrel1 := hrel.new (κ := 0) (obj := .loop { state := .ready, pending := none, fn := b.fn, tmps := act.tmps, params := ps, assign := asg, body := body, defers := d.1 }) g1 g2 hθ g4
    ⟨act.tmps, d, by simp, ha.env.mono (upd_le hθ), upd_le hθ _ _ hd⟩
  rw [← hw1] at hrel1
  have hle1 : Le θ (upd θ s.next (w.heap.size, 0)) := upd_le hθ
  have hf1 : Free (upd θ s.next (w.heap.size, 0)) s1.next s'.next := hfree.tail (by rw [g3]; exact upd_ext hθ) (by omega)
  obtain ⟨v, s2, h2, hrun⟩ := (FM.run_bind _ _ _ _ _).1 hrun
  have n2 := FM.next_le h2
  have n3 := FM.next_le hrun
  obtain ⟨nx, fr, hi, hn, w2, θ2, v', hs, he2, hr2, _⟩ := hc _ fv [.yield s.next] fv' #[.func (.yield w.heap.size) #[] #[]] (b.atR act (.inRangeFunc w.heap.size :: k)) cs (hv.mono hle1 _ _)
    (VRL.cons (by simp only [VR]; exact ⟨_, upd_same _ _ _, rfl⟩) (VRL.nil_iff.2 rfl)) (.inl rfl) s1 v s2 w1 h2 hrel1 (hf1.head n3)
  refine ⟨nx, fr, hi, hn, ?_⟩
  obtain ⟨L, s3, h3, hrun3⟩ := (FM.run_bind _ _ _ _ _).1 hrun
  obtain ⟨e1, e2, e3⟩ := getLoop_run h3
  obtain ⟨_, s4, h4, hrun4⟩ := (FM.run_bind _ _ _ _ _).1 hrun3
  obtain ⟨hb, hs4⟩ := FM.run_guard _ _ _ _ h4
  obtain ⟨_, s5, h5, hrun5⟩ := (FM.run_bind _ _ _ _ _).1 hrun4
  obtain ⟨ex, s6, h6, hrun6⟩ := (FM.run_bind _ _ _ _ _).1 hrun5
  obtain ⟨hex, hs6⟩ := FM.run_ofOption _ _ _ _ h6
  rw [hs4] at h5
  rw [hs6] at hrun6
  cases hrun6
  obtain ⟨c, tm, d', hcl, hobj, her, hdl⟩ := hr2.loop e1
  have hc0 : c = (w.heap.size, 0) := by
    have := he2.1 _ _ (upd_same θ s.next (w.heap.size, 0))
    rw [hcl] at this; cases this; rfl
  subst hc0
  obtain ⟨f1, f2⟩ := hr2.turn e3 h5 hcl her hdl
  have hnb : (loopObj L tm d'.1).state ≠ .busy := by
    intro hx
    have hx : L.state = .busy := hx
    rw [hx] at hb; cases hb
  refine ⟨_, θ2, fun w => lone (b.atR act ((L.pending.map Item.code).toList ++ k)) cs w, Steps.trans hs (.one ?_), ?_, f2, exOf_land hex (ha.mono (hle1.trans he2.1))⟩
  · rw [show back .normal (b.atR act (.inRangeFunc w.heap.size :: k)) v' = _ from finish_atR_inRangeFunc _ v']
    exact stepR_endRangeFunc (run_endLoop hobj hnb)
  · have hn : s'.next = s2.next := by rw [f1, e2]
    rw [hn]
    have h0 : Ext θ (upd θ s.next (w.heap.size, 0)) s.next s1.next := by rw [g3]; exact upd_ext hθ
    exact h0.trans he2 (by omega) n2

theorem mv_rangeFunc (hc : CallAt P G w0 cf .normal) (ha : AR θ sz a act) (hfn : b.fn = fn) {round : Option Nat} (hro : RO θ round b.roundOf) {f : Operand} {ps : Array Tmp} {asg body : Code} :
    Mv P G w0 θ (rangeFuncF cf fn sz round a f ps.toList asg body) (fun w => lone (b.atR act (.code (.rangeFunc f ps asg body) :: k)) cs w) (Land sz b k cs) := by
  refine Mv.tg fun hg => ?_
  subst hfn
  unfold rangeFuncF
  cases hf : a.eval f with
  | none => exact Mv.fail
  | some fv =>
    have hv := ha.eval hg hf
    simp only
    cases round with
    | none =>
      simp only
      have hro : b.roundOf = none := hro
      intro s r s' w hrun hrel hfree
      obtain ⟨r0, s1, h1, hrun⟩ := (FM.run_bind _ _ _ _ _).1 hrun
      obtain ⟨rfl, g1, g2, g3, g4⟩ := FM.run_new _ _ _ _ h1
      have n1 := FM.next_le hrun
      have hθ : θ s.next = none := hfree s.next (Nat.le_refl _) (by omega)
      have hrel1 := hrel.new (κ := 0) (obj := .deferred (some [])) g1 g2 hθ g4 rfl
      have hle1 : Le θ (upd θ s.next (w.heap.size, 0)) := upd_le hθ
      have hf1 : Free (upd θ s.next (w.heap.size, 0)) s1.next s'.next := hfree.tail (by rw [g3]; exact upd_ext hθ) (by omega)
      have ha1 : AR (upd θ s.next (w.heap.size, 0)) sz ⟨a.env, .coll s.next :: a.defers⟩ { act with defers := [{ target := .collected w.heap.size, args := #[] }] ++ act.defers } :=
        ⟨(ha.mono hle1).env, _, _, rfl, ⟨_, upd_same _ _ _, rfl⟩, (ha.mono hle1).defers⟩
      obtain ⟨nx, fr, hi, hn, w', θ', N, hs, he, hr', hl⟩ := rangeGo_ok (k := k) (cs := cs) hc (hv.mono hle1 _ _) ha1 (upd_same _ _ _) hrun hrel1 hf1 rfl
      refine ⟨w', θ', N, .head ?_ hs, ?_, hr', hl⟩
      · refine stepR_range (mark := [{ target := .collected w.heap.size, args := #[] }]) ?_ hi hn
        rw [hro, run_enterLoop_outer]
        simp
      · have h0 : Ext θ (upd θ s.next (w.heap.size, 0)) s.next s1.next := by rw [g3]; exact upd_ext hθ
        exact h0.trans he (by omega) n1
    | some l0 =>
      simp only
      obtain ⟨c0, hc0, hro⟩ := hro
      intro s r s' w hrun hrel hfree
      obtain ⟨L, s1, h1, hrun⟩ := (FM.run_bind _ _ _ _ _).1 hrun
      obtain ⟨e1, e2, e3⟩ := getLoop_run h1
      obtain ⟨c, tm, d, hcl, hobj, her, hdl⟩ := hrel.loop e1
      rw [hc0] at hcl; cases hcl
      obtain ⟨nx, fr, hi, hn, w', θ', N, hs, he, hr', hl⟩ := rangeGo_ok (k := k) (cs := cs) hc hv ha hdl hrun (hrel.same e3) (by rw [e2]; exact hfree) rfl
      refine ⟨w', θ', N, .head ?_ hs, by rw [e2] at he; exact he, hr', hl⟩
      refine stepR_range (mark := []) ?_ hi hn
      rw [hro, run_enterLoop_inner hobj]
      rfl

theorem code_ok (hm : P.follows .mixedOrders = true) {K : Nat → Option V} (hc : CallAt P G w0 cf .normal) (hcK : CallAt P G w0 (cfK K cf) .normal) {round : Option Nat} {f : Code → A → RA} (ih : CodeOk P G w0 sz fn round f) :
    CodeOk P G w0 sz fn round (codeS P K cf fn sz round f) := by
  intro θ c x a act b k cs hx ha hfn hro hk
  have plain : (∀ y, c ≠ .loop y) → x = .code c := fun h => hx.elim id fun ⟨y, e, _⟩ => absurd e (h y)
  cases c with
  | skip => rw [plain (by simp)]; exact Mv.pre (M' := fun w => lone (b.atR act k) cs w) (fun w => stepR_skip) (Mv.ret ⟨act, ha, rfl⟩)
  | label l => rw [plain (by simp)]; exact Mv.pre (M' := fun w => lone (b.atR act k) cs w) (fun w => stepR_label) (Mv.ret ⟨act, ha, rfl⟩)
  | goto l => exact Mv.fail
  | refuse why => exact Mv.fail
  | exit id => rw [plain (by simp)]; exact Mv.ret ⟨act, ha, k, rfl, rfl⟩
  | ret => rw [plain (by simp)]; exact Mv.ret ⟨act, ha, k, rfl⟩
  | region id ops draw =>
    rw [plain (by simp)]
    exact mv_regionF hm hcK hro.isSome hk ha
  | rangeFunc g ps asg body =>
    rw [plain (by simp)]
    exact mv_rangeFunc hc ha hfn hro
  | seq c1 c2 =>
    rw [plain (by simp)]
    refine Mv.pre (M' := fun w => lone (b.atR act (.code c1 :: .code c2 :: k)) cs w) (fun w => stepR_seq) (Mv.bind (ih θ c1 _ a act b (.code c2 :: k) cs (.inl rfl) ha hfn hro hk) ?_)
    rintro θ' ⟨e, a'⟩ N hle ⟨act', ha', hN⟩
    cases e with
    | normal => rw [show N = _ from hN]; exact ih θ' c2 _ a' act' b k cs (.inl rfl) ha' hfn (hro.mono hle) hk
    | exit id => obtain ⟨todo, h1, h2⟩ := hN; exact Mv.ret ⟨act', ha', todo, h1, h2⟩
    | ret => obtain ⟨todo, h2⟩ := hN; exact Mv.ret ⟨act', ha', todo, h2⟩
  | scope c1 =>
    rw [plain (by simp)]
    refine Mv.pre (M' := fun w => lone (b.atR act (.code c1 :: .inScope c1 :: k)) cs w) (fun w => stepR_scope) (Mv.mono (ih θ c1 _ a act b (.inScope c1 :: k) cs (.inl rfl) ha hfn hro hk) ?_)
    rintro θ' ⟨e, a'⟩ N hle ⟨act', ha', hN⟩
    cases e with
    | normal => rw [show N = _ from hN]; exact ⟨fun w => lone (b.atR act' k) cs w, fun w => .one stepR_inScope, act', ha', rfl⟩
    | exit id => obtain ⟨todo, h1, h2⟩ := hN; exact ⟨N, fun w => Steps.refl _ _, act', ha', todo, h1, h2⟩
    | ret => obtain ⟨todo, h2⟩ := hN; exact ⟨N, fun w => Steps.refl _ _, act', ha', todo, h2⟩
  | cond c c1 c2 =>
    rw [plain (by simp)]
    refine Mv.tg fun hg => ?_
    show Mv P G w0 θ (condF f a c c1 c2) _ _
    unfold condF
    refine Mv.opt fun t ht => ?_
    cases he : a.eval c with
    | none => rw [he] at ht; cases ht
    | some v =>
      rw [he] at ht
      have hv := ha.eval hg he
      rw [boolOf_eq ht] at hv
      simp only [VR] at hv
      refine Mv.pre (M' := fun w => lone (b.atR act (.code (if t then c1 else c2) :: k)) cs w) (fun w => stepR_cond hv) ?_
      cases t
      · exact ih θ c2 _ a act b k cs (.inl rfl) ha hfn hro hk
      · exact ih θ c1 _ a act b k cs (.inl rfl) ha hfn hro hk
  | block id c1 =>
    rw [plain (by simp)]
    refine Mv.pre (M' := fun w => lone (b.atR act (.code c1 :: .inBlock id :: k)) cs w) (fun w => stepR_block) (Mv.bind (ih θ c1 _ a act b (.inBlock id :: k) cs (.inl rfl) ha hfn hro hk) ?_)
    rintro θ' ⟨e, a'⟩ N hle ⟨act', ha', hN⟩
    cases e with
    | normal =>
      rw [show N = _ from hN]
      exact Mv.pre (M' := fun w => lone (b.atR act' k) cs w) (fun w => stepR_inBlock) (Mv.ret ⟨act', ha', rfl⟩)
    | exit j =>
      obtain ⟨todo, h1, h2⟩ := hN
      show Mv P G w0 θ' (FM.pure (sel (Nat.beq j id) Ex.normal (Ex.exit j), a')) _ _
      cases hj : Nat.beq j id with
      | true =>
        have : j = id := by simpa using hj
        subst this
        rw [h2, sel_true]
        exact Mv.pre (M' := fun w => lone (b.atR act' k) cs w) (fun w => stepR_exit (by rw [h1]; simp [exitTo])) (Mv.ret ⟨act', ha', rfl⟩)
      | false =>
        have hne : ¬ id = j := by rintro rfl; simp at hj
        rw [sel_false]
        exact Mv.ret ⟨act', ha', todo, by rw [h1]; simp [exitTo, hne], h2⟩
    | ret => obtain ⟨todo, h2⟩ := hN; exact Mv.ret ⟨act', ha', todo, h2⟩
  | loop c1 =>
    have hstep : ∀ w, step P (lone (b.atR act (x :: k)) cs w) = .next (lone (b.atR act (.code c1 :: .inLoop c1 :: k)) cs w) := by
      rcases hx with rfl | ⟨y, e, rfl⟩
      · exact fun w => stepR_loop
      · cases e; exact fun w => stepR_inLoop
    refine Mv.pre (M' := fun w => lone (b.atR act (.code c1 :: .inLoop c1 :: k)) cs w) hstep (Mv.bind (ih θ c1 _ a act b (.inLoop c1 :: k) cs (.inl rfl) ha hfn hro hk) ?_)
    rintro θ' ⟨e, a'⟩ N hle ⟨act', ha', hN⟩
    cases e with
    | normal => rw [show N = _ from hN]; exact ih θ' (.loop c1) _ a' act' b k cs (.inr ⟨c1, rfl, rfl⟩) ha' hfn (hro.mono hle) hk
    | exit id => obtain ⟨todo, h1, h2⟩ := hN; exact Mv.ret ⟨act', ha', todo, h1, h2⟩
    | ret => obtain ⟨todo, h2⟩ := hN; exact Mv.ret ⟨act', ha', todo, h2⟩
theorem codeF_ok (hm : P.follows .mixedOrders = true) {K : Nat → Option V} (hc : CallAt P G w0 cf .normal) (hcK : CallAt P G w0 (cfK K cf) .normal) {round : Option Nat} : ∀ n, CodeOk P G w0 sz fn round (codeF P K cf fn sz round n)
  | 0 => fun _ _ _ _ _ _ _ _ _ _ _ _ _ => Mv.fail
  | n + 1 => code_ok hm hc hcK (codeF_ok hm hc hcK n)
end
end Go.Ev

namespace Go.Ev
open Go.RowKit

section
variable {P : Program} {G : Nat → Option O} {w0 : World} {θ : Th} {sz : Nat} {a : A} {act : Act} {cf : V → List V → FM V}

theorem run_callFunc {f : FuncId} {fn : Func} {c : Code} (hf : P.funcs[f]? = some fn) (hname : (fn.name == "runtime.NumGoroutine") = false) (hb : fn.body = some c) (args : Array Value) (w : World) :
    (callFunc f args).run P w = .ok (.enter f args) w := by
  have h1 : fn.name ≠ "runtime.NumGoroutine" := by simpa using hname
  simp [callFunc, hf, h1, hb]

/-! a function's results -/
theorem sim_resultF {tm : Array Value} (ha : ER θ a.env sz tm) {r : ResultVar} : Sim P G w0 θ (resultF P a r) (match r with | .tmp t => pure (tm.getD t undef) | .cell d t => do loadVar t (← asAddr (tm.getD d undef))) VR := by
  cases r with
  | tmp t => exact Sim.ret (fun _ => rfl) (ha.2.2 t)
  | cell d t =>
    show Sim P G w0 θ ((FM.ofOption (ptrOf (a.tmp d))).bind (loadP P t)) _ VR
    refine Sim.opt fun p hp => ?_
    have hv : VR θ (a.tmp d) (tm.getD d undef) := ha.2.2 d
    rw [ptrOf_eq hp] at hv
    simp only [VR] at hv
    obtain ⟨c, hc, hv⟩ := hv
    refine Sim.step (b := ⟨c.1, p.2, none⟩) (fun w => by rw [hv]; rfl) (sim_loadVar hc)
theorem sim_resultsF {tm : Array Value} (ha : ER θ a.env sz tm) : ∀ {l : List ResultVar} {θ' : Th}, Le θ θ' → Sim P G w0 θ' (resultsF P a l) (l.mapM fun (r : ResultVar) => match r with | .tmp t => pure (tm.getD t undef) | .cell d t => do loadVar t (← asAddr (tm.getD d undef))) (fun θ'' vs us => VRL θ'' vs us)
  | [], θ', _ => Sim.ret (fun _ => rfl) (by simp [VRL])
  | r :: l, θ', hle => by
    rw [List.mapM_cons]
    refine Sim.bind (sim_resultF (ha.mono hle)) fun θ1 v u hle1 hv => ?_
    refine Sim.bind (sim_resultsF ha (hle.trans hle1)) fun θ2 vs us hle2 hvs => ?_
    exact Sim.ret (fun _ => rfl) (VRL.cons (hv.mono hle2 _ _) hvs)
theorem VRL.one {v : V} {l : List Value} (h : VRL θ [v] l) : ∃ u, l = [u] ∧ VR θ v u := by
  simp only [VRL] at h
  obtain ⟨y, ys, rfl, hy, rfl⟩ := h
  exact ⟨y, rfl, hy⟩
theorem sim_results {tm : Array Value} (ha : ER θ a.env sz tm) {fn : Func} : Sim P G w0 θ ((resultsF P a fn.results.toList).bind fun vs => FM.pure (oneV vs)) (results fn tm) VR := by
  unfold results
  rw [Array.mapM_eq_mapM_toList]
  simp only [bind_map_left]
  refine Sim.bind (sim_resultsF ha (Le.refl θ)) fun θ' vs us _ h => ?_
  match vs, h with
  | [], h =>
    obtain rfl := VRL.nil_iff.1 h
    exact Sim.ret (fun _ => rfl) (by simp only [oneV, VR]; exact ⟨_, rfl, by simp [VRL]⟩)
  | [v], h =>
    obtain ⟨u, rfl, hu⟩ := VRL.one h
    exact Sim.ret (fun _ => rfl) hu
  | v :: v' :: vs, h =>
    have hlen := h.length
    have hn : ¬ us.toArray.size = 1 := by simp at hlen ⊢; omega
    refine Sim.ret (b := .tuple us.toArray) (fun w => by simp only [hn, dif_neg, not_false_eq_true]; rfl) ?_
    simp only [oneV, VR]
    exact ⟨_, rfl, by simpa using h⟩

/-! deferred calls -/
theorem stepR_return {F c : Frame} {cs : List Frame} {w w' : World} {fn : Func} {v : Value} (hm : F.mode = .returning) (hd : F.defers = []) (hf : P.funcs[F.fn]? = some fn) (hk : F.kind = .normal ∨ (F.kind = .deferred ∧ c.mode = .returning))
    (hr : (results fn F.tmps).run P w = .ok v w') : step P (lone F (c :: cs) w) = .next (lone (back F.kind c v) cs w') := by
  refine step_lone_go ?_
  rcases hk with hk | ⟨hk, hcm⟩
  · simp [stepG, unwind, doReturn, hm, hd, hk, hf, Sem.runT_eq, hr, back]
  · simp [stepG, unwind, doReturn, hm, hd, hk, hf, Sem.runT_eq, hr, back, hcm]
theorem mv_defersF (hc : CallAt P G w0 cf .deferred) {cs : List Frame} : ∀ {l : List D} {θ : Th} {F : Frame}, L2 (DR θ) l F.defers → F.mode = .returning →
    Mv P G w0 θ (defersF cf l) (fun w => lone F cs w) (fun _ _ N => N = fun w => lone { F with defers := [] } cs w)
  | [], θ, F, h, hm => by
    refine Mv.ret ?_
    have h : F.defers = [] := h
    have : ({ F with defers := [] } : Frame) = F := by cases F; cases h; rfl
    rw [this]
  | .fn f args :: l, θ, F, h, hm => by
    obtain ⟨d, ds, hds, hd, htl⟩ := h
    obtain ⟨n, xs, ys, p1, p2, as, rfl, h1, h2, h3, rfl⟩ := hd
    refine Mv.bind (R := fun _ _ N => N = fun w => lone { F with defers := ds } cs w) ?_ fun θ' _ N hle hN => ?_
    · intro s v s' w hrun hrel hfree
      obtain ⟨nx, fr, hi, hn, w', θ', v', hs, he, hr', _⟩ := hc θ (.func n xs ys) args (.func (.func n) p1 p2) as { F with defers := ds } cs (by simp only [VR]; exact ⟨p1, p2, rfl, h1, h2⟩) h3 (.inr ⟨rfl, hm, n, xs, ys, rfl⟩) s v s' w hrun hrel hfree
      exact ⟨w', θ', _, .head (stepR_deferred hm hds rfl hi hn) hs, he, hr', rfl⟩
    · subst hN
      exact mv_defersF hc (F := { F with defers := ds }) (L2.mono (fun _ _ => DR.mono hle _ _) _ _ htl) hm
  | .coll r :: l, θ, F, h, hm => by
    obtain ⟨d, ds, hds, hd, htl⟩ := h
    obtain ⟨c, hcr, rfl⟩ := hd
    refine Mv.bind (R := fun _ _ N => N = fun w => lone { F with defers := ds } cs w) ?_ fun θ' _ N hle hN => ?_
    · intro s v s' w hrun hrel hfree
      unfold collF at hrun
      obtain ⟨o, s1, h1, h2⟩ := (FM.run_bind _ _ _ _ _).1 hrun
      obtain ⟨g1, g2, g3⟩ := FM.run_get _ _ _ _ h1
      obtain ⟨c', obj, k1, k2, k3⟩ := hrel.live r o g1
      rw [hcr] at k1; cases k1
      split at h2
      · obtain ⟨f1, ⟨q, f2⟩, f3, f4⟩ := FM.run_put _ _ _ _ _ h2
        have hobj : obj = .deferred (some []) := k3
        subst hobj
        have hr1 := (hrel.same (s' := s1) (fun j => by simp only [St.at, g3])).put f1 f2 hcr (obj := .deferred none) f4 rfl
        refine ⟨_, θ, _, .one (stepR_collected (ds := ds) (as := #[]) hm hds (run_takeDeferred k2)), ⟨Le.refl θ, fun _ h _ => h⟩, hr1, by simp⟩
      · cases h2
    · subst hN
      exact mv_defersF hc (F := { F with defers := ds }) (L2.mono (fun _ _ => DR.mono hle _ _) _ _ htl) hm

/-! a function's call -/
theorem envOf_tmp : ∀ (l : List V) (i : Nat) (e : Tr V) (t : Nat), i + l.length ≤ 8000 → envTmp (envOf l i e) t = if i ≤ t then (match l[t - i]? with | some v => v | none => envTmp e t) else envTmp e t
  | [], i, e, t, _ => by simp [envOf]
  | v :: l, i, e, t, h => by
    have hl : i + 1 + l.length ≤ 8000 := by simp at h; omega
    show envTmp (envOf l (i + 1) (Tr.set 14 e i (some v))) t = _
    rw [envOf_tmp l (i + 1) _ t hl, envTmp_set (by omega)]
    by_cases h1 : i + 1 ≤ t
    · have h3 : i ≤ t := by omega
      have h4 : t ≠ i := by omega
      rw [if_pos h1, if_pos h3, if_neg h4]
      have : t - i = (t - (i + 1)) + 1 := by omega
      rw [this, List.getElem?_cons_succ]
    · rw [if_neg h1]
      by_cases h2 : t = i
      · subst h2
        rw [if_pos rfl, if_pos (Nat.le_refl _), Nat.sub_self]
        rfl
      · have h3 : ¬ i ≤ t := by omega
        rw [if_neg h2, if_neg h3]
theorem envTmp_nil (t : Nat) : envTmp .nil t = undefV := rfl
theorem er_enter {args : List V} {as : Array Value} {n : Nat} (h : VRL θ args as.toList) (hn : n ≤ 8000) (hl : args.length ≤ n) : ER θ (envOf args 0 .nil) n (as ++ Array.replicate (n - as.size) undef) := by
  have hlen := h.length
  have hsz : as.size = args.length := by simpa using hlen
  refine ⟨hn, by simp; omega, fun t => ?_⟩
  rw [envOf_tmp args 0 _ t (by omega), if_pos (Nat.zero_le _), Nat.sub_zero]
  cases hv : args[t]? with
  | some v =>
    obtain ⟨y, hy, hr⟩ := h.get hv
    have hlt : t < as.size := by
      have := (List.getElem?_eq_some_iff.1 hv).1
      omega
    have : (as ++ Array.replicate (n - as.size) undef).getD t undef = y := by
      rw [Array.getD_eq_getD_getElem?, Array.getElem?_append_left hlt]
      rw [show as[t]? = some y from by simpa using hy]; rfl
    rw [this]; exact hr
  | none =>
    have hge : as.size ≤ t := by
      have := List.getElem?_eq_none_iff.1 hv
      omega
    have : (as ++ Array.replicate (n - as.size) undef).getD t undef = undef := by
      rw [Array.getD_eq_getD_getElem?, Array.getElem?_append_right hge]
      by_cases hx : t - as.size < n - as.size
      · simp [hx]
      · simp [Nat.not_lt.1 hx]
    rw [this, envTmp_nil]
    exact VR.undef θ
end
end Go.Ev

namespace Go.Ev
open Go.RowKit

section
variable {P : Program} {G : Nat → Option O} {w0 : World} {θ : Th} {cf : V → List V → FM V} {K : Nat → Option V}

/-- where a function's frame waits to be left -/
structure Waits (θ : Th) (sz : Nat) (a : A) (n : Nat) (kind : CallKind) (F : Frame) : Prop where
  mode : F.mode = .returning
  defers : F.defers = []
  fn : F.fn = n
  kind : F.kind = kind
  env : ER θ a.env sz F.tmps

theorem mv_enter (hm : P.follows .mixedOrders = true) (hcN : CallAt P G w0 cf .normal) (hcD : CallAt P G w0 cf .deferred) (hcK : CallAt P G w0 (cfK K cf) .normal) {n N : Nat} {fn : Func} {c : Code} (hf : P.funcs[n]? = some fn)
    (hb : fn.body = some c) {kind : CallKind} {cs : List Frame} (hk : kind = .normal ∨ (kind = .deferred ∧ ∃ c cs', cs = c :: cs' ∧ c.mode = .returning)) {args : List V} {as : Array Value} (hargs : VRL θ args as.toList) (hn : fn.ntmps ≤ 8000)
    (hl : args.length ≤ fn.ntmps) {β : Type} {g : A → FM β} {R : Th → β → (World → Machine) → Prop}
    (hg : ∀ θ' a F, Le θ θ' → Waits θ' fn.ntmps a n kind F → Mv P G w0 θ' (g a) (fun w => lone F cs w) R) :
    Mv P G w0 θ ((codeF P K cf n fn.ntmps none N c ⟨envOf args 0 .nil, []⟩).bind fun r => (FM.guard (exEnds r.1)).bind fun _ => (defersF cf r.2.defers).bind fun _ => g r.2) (fun w => lone (Frame.enter P n as kind) cs w) R := by
  obtain ⟨b, hbd⟩ : ∃ b : Frame, b = { (default : Frame) with fn := n, kind := kind } := ⟨_, rfl⟩
  have hbk : b.kind = kind := by rw [hbd]
  have hbr : b.roundOf = none := by rw [hbd]; rfl
  have hbf : b.fn = n := by rw [hbd]
  have henter : Frame.enter P n as kind = b.atR { tmps := as ++ Array.replicate (fn.ntmps - as.size) undef, defers := [] } [.code c] := by
    rw [hbd]; simp [Frame.enter, Frame.atR, hf, hb]; rfl
  rw [henter]
  have hrec : RecOk b cs := by unfold RecOk; rw [hbk]; exact hk
  refine Mv.bind (codeF_ok hm hcN hcK (sz := fn.ntmps) (fn := n) (round := none) N θ c (.code c) _ _ b [] cs (.inl rfl) ⟨er_enter hargs hn hl, rfl⟩ hbf hbr hrec) ?_
  rintro θ1 ⟨e, a1⟩ N1 hle1 ⟨act, hact, hN⟩
  refine Mv.grd fun he => ?_
  have fin : ∀ todo, Mv P G w0 θ1 ((defersF cf a1.defers).bind fun _ => g a1) (fun w => lone { b.atR act todo with mode := .returning } cs w) R := by
    intro todo
    refine Mv.bind (mv_defersF (F := { b.atR act todo with mode := .returning }) hcD hact.defers rfl) fun θ2 _ N2 hle2 hN2 => ?_
    subst hN2
    exact hg θ2 a1 _ (hle1.trans hle2) ⟨rfl, rfl, hbf, hbk, hact.env.mono hle2⟩
  cases e with
  | normal =>
    rw [show N1 = _ from hN]
    exact Mv.pre (M' := fun w => lone { b.atR act [] with mode := .returning } cs w) (fun w => stepR_end hbr) (fin [])
  | exit id => cases he
  | ret =>
    obtain ⟨todo, hN⟩ := hN
    rw [hN]
    exact Mv.pre (M' := fun w => lone { b.atR act (.code .ret :: todo) with mode := .returning } cs w) (fun w => stepR_ret hbr) (fin _)

/-! a round -/
theorem ar_bind : ∀ (ps : List Nat) (args : List V) (as : List Value) (sz : Nat) (a : A) (tm : Array Value), AR θ sz a { tmps := tm, defers := [] } → VRL θ args as →
    AR θ sz (bindA sz ps args a) { tmps := (ps.zip as).foldl (fun t (x : Nat × Value) => t.setIfInBounds x.1 x.2) tm, defers := [] }
  | [], _, _, _, _, _, ha, _ => by simpa [bindA] using ha
  | t :: ps, [], as, sz, a, tm, ha, h => by
    obtain rfl := VRL.nil_iff.1 h
    simpa [bindA] using ha
  | t :: ps, v :: vs, as, sz, a, tm, ha, h => by
    simp only [VRL] at h
    obtain ⟨y, ys, rfl, hy, hys⟩ := h
    show AR θ sz (bindA sz ps vs (a.put sz (some t) v)) _
    rw [List.zip_cons_cons, List.foldl_cons]
    exact ar_bind ps vs ys sz _ _ (ha.put (d := some t) hy) hys
theorem mv_begin {l : Nat} {c : Nat × Nat} (hl : θ l = some c) {b : Frame} (hb : b.roundOf = some c.1) {act : Act} {k : List Item} {cs : List Frame} {β : Type} {g : FM β} {R : Th → β → (World → Machine) → Prop}
    (hg : Mv P G w0 θ g (fun w => lone (b.atR act k) cs w) R) :
    Mv P G w0 θ ((getLoop l).bind fun M => (FM.guard (readyB M.state)).bind fun _ => (FM.put l (some (.loop (M.turn .busy M.pending)))).bind fun _ => g) (fun w => lone (b.atR act (.beginRound :: k)) cs w) R := by
  intro s r s' w hrun hrel hfree
  obtain ⟨M, s1, h1, hrun1⟩ := (FM.run_bind _ _ _ _ _).1 hrun
  obtain ⟨e1, e2, e3⟩ := getLoop_run h1
  obtain ⟨_, s2, h2, hrun2⟩ := (FM.run_bind _ _ _ _ _).1 hrun1
  obtain ⟨hr, hs2⟩ := FM.run_guard _ _ _ _ h2
  obtain ⟨_, s3, h3, hrun3⟩ := (FM.run_bind _ _ _ _ _).1 hrun2
  rw [hs2] at h3
  obtain ⟨c', tm, d, hcl, hobj, her, hdl⟩ := hrel.loop e1
  rw [hl] at hcl; cases hcl
  obtain ⟨f1, f2⟩ := hrel.turn e3 h3 hl her hdl
  have hn : s3.next = s.next := by rw [f1, e2]
  obtain ⟨w', θ', N, hs, he, hr', hR⟩ := hg s3 r s' _ hrun3 f2 (by rw [hn]; exact hfree)
  have hst : (loopObj M tm d.1).state = .ready := by
    have : readyB M.state = true := hr
    show M.state = .ready
    cases hms : M.state <;> rw [hms] at this <;> first | rfl | cases this
  exact ⟨w', θ', N, .head (stepR_beginRound hb (run_beginRound hobj hst)) hs, by rw [hn] at he; exact he, hr', hR⟩
theorem mv_end {l : Nat} {c : Nat × Nat} (hl : θ l = some c) {b : Frame} (hb : b.roundOf = some c.1) (hbk : b.kind = .normal) {sz : Nat} {c0 : Frame} {cs : List Frame} {r : Ex × A} {N : World → Machine} (hland : Land sz b [] (c0 :: cs) θ r N) :
    Mv P G w0 θ ((getLoop l).bind fun M => (FM.put l (some (.loop (M.turn (sel (exNormal r.1) .ready .done) (exCode r.1))))).bind fun _ => FM.pure (V.bool (exNormal r.1))) N (fun θ' v N' => ∃ v', VR θ' v v' ∧ N' = fun w => lone (c0.finish v') cs w) := by
  intro s v s' w hrun hrel hfree
  obtain ⟨M, s1, h1, hrun1⟩ := (FM.run_bind _ _ _ _ _).1 hrun
  obtain ⟨e1, e2, e3⟩ := getLoop_run h1
  obtain ⟨_, s3, h3, hrun3⟩ := (FM.run_bind _ _ _ _ _).1 hrun1
  cases hrun3
  obtain ⟨c', tm, d, hcl, hobj, her, hdl⟩ := hrel.loop e1
  rw [hl] at hcl; cases hcl
  obtain ⟨f1, f2⟩ := hrel.turn e3 h3 hl her hdl
  have hn : s'.next = s.next := by rw [f1, e2]
  refine ⟨_, θ, fun w => lone (c0.finish (.bool (exNormal r.1))) cs w, .one ?_, ⟨Le.refl θ, fun _ h _ => h⟩, f2, .bool (exNormal r.1), by simp [VR], rfl⟩
  obtain ⟨e, a'⟩ := r
  obtain ⟨act, _, hN⟩ := hland
  cases e with
  | normal => rw [show N = _ from hN]; exact stepR_round_end hb hbk (run_endRound none hobj)
  | exit id =>
    obtain ⟨todo, hx, hN⟩ := hN
    rw [hN]; exact stepR_round_exit hb hbk hx (run_endRound (some (.exit id)) hobj)
  | ret =>
    obtain ⟨todo, hN⟩ := hN
    rw [hN]; exact stepR_round_ret hb hbk (run_endRound (some .ret) hobj)

theorem call_ok (hm : P.follows .mixedOrders = true) (hcN : CallAt P G w0 cf .normal) (hcD : CallAt P G w0 cf .deferred) (hcK : CallAt P G w0 (cfK K cf) .normal) (kind : CallKind) : CallAt P G w0 (callS P K cf) kind := by
  intro θ fv args fv' args' c0 cs hv hargs hh s v s' w hrun hrel hfree
  by_cases hyl : ∃ l, fv = V.yield l
  case pos =>
    obtain ⟨l, rfl⟩ := hyl
    have hkn : kind = .normal := hh.elim id fun ⟨_, _, _, _, _, h⟩ => by cases h
    subst hkn
    simp only [VR] at hv
    obtain ⟨c, hc, rfl⟩ := hv
    have hrun : (roundF P K cf l args).run s = .ok v s' := hrun
    unfold roundF at hrun
    obtain ⟨L, s1, h1, hrun1⟩ := (FM.run_bind _ _ _ _ _).1 hrun
    obtain ⟨e1, e2, e3⟩ := getLoop_run h1
    obtain ⟨_, s2, h2, hrun2⟩ := (FM.run_bind _ _ _ _ _).1 hrun1
    obtain ⟨hlen, hs2⟩ := FM.run_guard _ _ _ _ h2
    rw [hs2] at hrun2
    obtain ⟨c', tm, d, hcl, hobj, her, hdl⟩ := hrel.loop e1
    rw [hc] at hcl; cases hcl
    have hlen' : args.length = L.params.length := by simpa using hlen
    have hsz : args'.size = (loopObj L tm d.1).params.size := by
      have := hargs.length
      simp [loopObj] at this ⊢; omega
    obtain ⟨b, hbd⟩ : ∃ b : Frame, b = { (default : Frame) with fn := L.fn, kind := .normal, roundOf := some c.1 } := ⟨_, rfl⟩
    have hbk : b.kind = .normal := by rw [hbd]
    have hbr : b.roundOf = some c.1 := by rw [hbd]
    have hbf : b.fn = L.fn := by rw [hbd]
    obtain ⟨tm', htm⟩ : ∃ tm' : Array Value, tm' = (L.params.zip args'.toList).foldl (fun t (x : Nat × Value) => t.setIfInBounds x.1 x.2) tm := ⟨_, rfl⟩
    have hfold : ((loopObj L tm d.1).params.zip args').foldl (fun tmps (x : Nat × Value) => tmps.setIfInBounds x.1 x.2) (loopObj L tm d.1).tmps = tm' := by
      rw [htm, ← Array.foldl_toList, Array.toList_zip]; rfl
    have hround : Frame.round c.1 L.fn tm' L.assign L.body .normal = b.atR { tmps := tm', defers := [] } [.code L.assign, .beginRound, .code L.body] := by
      rw [hbd]; rfl
    have hyield := run_yield (P := P) (args := args') hobj hsz
    refine ⟨.round c.1 L.fn tm' L.assign L.body, Frame.round c.1 L.fn tm' L.assign L.body .normal, ?_, rfl, ?_⟩
    · have hy : (Instr.yield c.1 args').run P w = .ok (.round c.1 L.fn tm' L.assign L.body) w := by
        rw [hyield]
        have := hfold
        simp only at this ⊢
        rw [this]; rfl
      simpa [Deferred.ofValue, invoke] using hy
    · rw [hround]
      have ha : AR θ L.size (bindA L.size L.params args ⟨L.tmps, []⟩) { tmps := tm', defers := [] } := by
        rw [htm]; exact ar_bind _ _ _ _ _ _ ⟨her, rfl⟩ hargs
      have key : Mv P G w0 θ ((codeF P K cf L.fn L.size (some l) fuel L.assign (bindA L.size L.params args ⟨L.tmps, []⟩)).bind fun r =>
          (FM.guard (exNormal r.1)).bind fun _ => (getLoop l).bind fun M =>
          (FM.guard (readyB M.state)).bind fun _ => (FM.put l (some (.loop (M.turn .busy M.pending)))).bind fun _ =>
          (codeF P K cf L.fn L.size (some l) fuel L.body r.2).bind fun r => (getLoop l).bind fun M =>
          (FM.put l (some (.loop (M.turn (sel (exNormal r.1) (.ready) (.done)) (exCode r.1))))).bind fun _ => FM.pure (.bool (exNormal r.1)))
          (fun w => lone (b.atR { tmps := tm', defers := [] } [.code L.assign, .beginRound, .code L.body]) (c0 :: cs) w) (fun θ' v N' => ∃ v', VR θ' v v' ∧ N' = fun w => lone (c0.finish v') cs w) := by
        refine Mv.bind (codeF_ok hm hcN hcK (sz := L.size) (fn := L.fn) (round := some l) fuel θ L.assign (.code L.assign) _ _ b [.beginRound, .code L.body] (c0 :: cs) (.inl rfl) ha hbf ⟨c, hc, hbr⟩ (.inl hbk)) ?_
        rintro θ1 ⟨e, a1⟩ N1 hle1 ⟨act, hact, hN⟩
        refine Mv.grd fun he => ?_
        cases e with
        | exit id => cases he
        | ret => cases he
        | normal =>
          rw [show N1 = _ from hN]
          refine mv_begin (hle1 _ _ hc) hbr ?_
          refine Mv.bind (codeF_ok hm hcN hcK (sz := L.size) (fn := L.fn) (round := some l) fuel θ1 L.body (.code L.body) _ _ b [] (c0 :: cs) (.inl rfl) hact hbf ⟨c, hle1 _ _ hc, hbr⟩ (.inl hbk)) ?_
          intro θ2 r N2 hle2 hland
          exact mv_end (hle2 _ _ (hle1 _ _ hc)) hbr hbk hland
      obtain ⟨w', θ', N, hs, he, hr', v', hvv, rfl⟩ := key s1 v s' w hrun2 (hrel.same e3) (by rw [e2]; exact hfree)
      exact ⟨w', θ', v', hs, by rw [e2] at he; exact he, hr', hvv⟩
  case neg =>
  cases fv with
  | func n xs ys =>
    have hrun : ((FM.ofOption P.funcs[n]?).bind fun fn => enterF P K cf n fn (xs ++ args ++ ys)).run s = .ok v s' := hrun
    obtain ⟨fn, s1, h1, hrun1⟩ := (FM.run_bind _ _ _ _ _).1 hrun
    obtain ⟨hf, hs1⟩ := FM.run_ofOption _ _ _ _ h1
    rw [hs1] at hrun1
    unfold enterF at hrun1
    cases hb : fn.body with
    | none => rw [hb] at hrun1; cases hrun1
    | some c =>
      rw [hb] at hrun1
      simp only at hrun1
      obtain ⟨_, s2, h2, hrun2⟩ := (FM.run_bind _ _ _ _ _).1 hrun1
      obtain ⟨hgd, hs2⟩ := FM.run_guard _ _ _ _ h2
      rw [hs2] at hrun2
      simp only [Bool.and_eq_true, Bool.not_eq_true', Nat.ble_eq] at hgd
      obtain ⟨hname, hn8, hlen⟩ := hgd
      simp only [VR] at hv
      obtain ⟨as, bs, rfl, hxs, hys⟩ := hv
      have hA : VRL θ (xs ++ args ++ ys) (as ++ args' ++ bs).toList := by
        rw [Array.toList_append, Array.toList_append]; exact (hxs.append hargs).append hys
      have hk : kind = .normal ∨ (kind = .deferred ∧ ∃ c cs', c0 :: cs = c :: cs' ∧ c.mode = .returning) := hh.imp id fun ⟨h1, h2, _⟩ => ⟨h1, c0, cs, rfl, h2⟩
      refine ⟨.enter n (as ++ args' ++ bs), Frame.enter P n (as ++ args' ++ bs) kind, ?_, rfl, ?_⟩
      · have := run_callFunc hf hname hb (as ++ args' ++ bs) w
        simpa [Deferred.ofValue, invoke] using this
      · have key := mv_enter (N := fuel) hm hcN hcD hcK hf hb hk hA hn8 hlen (g := fun a => (resultsF P a fn.results.toList).bind fun vs => FM.pure (oneV vs))
          (R := fun θ' v N' => ∃ v', VR θ' v v' ∧ N' = fun w => lone (back kind c0 v') cs w) (fun θ' a F hle hw => by
            refine Mv.sim (N := fun v' w => lone (back kind c0 v') cs w) (sim_results hw.env) (fun v' w w' _ hr => ?_) (fun θ'' v v' _ hvv => ⟨v', hvv, rfl⟩)
            have := stepR_return (c := c0) (cs := cs) hw.mode hw.defers (by rw [hw.fn]; exact hf) (by rw [hw.kind]; exact hh.imp id fun ⟨h1, h2, _⟩ => ⟨h1, h2⟩) hr
            rw [hw.kind] at this
            exact this)
        obtain ⟨w', θ', N, hs, he, hr', v', hvv, rfl⟩ := key s v s' w hrun2 hrel hfree
        exact ⟨w', θ', v', hs, he, hr', hvv⟩
  | _ => first | cases hrun | exact absurd ⟨_, rfl⟩ hyl
end
end Go.Ev

namespace Go.Ev
open Go.RowKit

section
variable {P : Program} {G : Nat → Option O} {w0 : World} {θ : Th} {cf : V → List V → FM V} {K : Nat → Option V}

theorem Rel.kept {s : St} {w w' : World} (h : Rel G w0 θ s w) (hb : Below w.heap.size w w') : Rel G w0 θ s w' where
  below := h.below.trans (hb.mono h.below.size)
  low := h.low
  glob := h.glob
  live i o ho := by
    obtain ⟨c, obj, h1, h2, h3⟩ := h.live i o ho
    refine ⟨c, obj, h1, ?_, h3⟩
    rw [← h2]
    exact hb.block c.1 (Array.getElem?_eq_some_iff.1 h2).1
  inj := h.inj
  place i c hc hi := by have := h.place i c hc hi; have := hb.size; omega
  old := h.old
/-- what K tells is so -/
def Known (P : Program) (G : Nat → Option O) (w0 : World) (K : Nat → Option V) : Prop :=
  ∀ n v, K n = some v → ∃ fn c, P.funcs[n]? = some fn ∧ (fn.name == "runtime.NumGoroutine") = false ∧ fn.body = some c ∧
    ∀ θ s w, Rel G w0 θ s w → Calls P n #[] w fun e w' => ∃ u, e = .returned u ∧ VR θ v u ∧ Below w.heap.size w w'
theorem nullB_eq {l : List V} (h : nullB l = true) : l = [] := by
  cases l with
  | nil => rfl
  | cons x l => cases h
theorem known_ok (hK : Known P G w0 K) (hc : CallAt P G w0 cf .normal) : CallAt P G w0 (cfK K cf) .normal := by
  intro θ fv args fv' args' c0 cs hv hargs hh s v s' w hrun hrel hfree
  cases fv with
  | func n xs ys =>
    cases hKn : K n with
    | none =>
      have hrun : (@Option.rec V (fun _ => FM V) (cf (.func n xs ys) args) (fun v => sel (and (nullB xs) (and (nullB args) (nullB ys))) (FM.pure v) FM.fail) (K n)).run s = .ok v s' := hrun
      rw [hKn] at hrun
      exact hc θ _ args fv' args' c0 cs hv hargs hh s v s' w hrun hrel hfree
    | some u =>
      have hrun : (@Option.rec V (fun _ => FM V) (cf (.func n xs ys) args) (fun v => sel (and (nullB xs) (and (nullB args) (nullB ys))) (FM.pure v) FM.fail) (K n)).run s = .ok v s' := hrun
      rw [hKn] at hrun
      have hrun : (sel (and (nullB xs) (and (nullB args) (nullB ys))) (FM.pure u) FM.fail).run s = .ok v s' := hrun
      cases hb : and (nullB xs) (and (nullB args) (nullB ys)) with
      | false => rw [hb] at hrun; cases hrun
      | true =>
        rw [hb] at hrun
        cases hrun
        simp only [Bool.and_eq_true] at hb
        obtain rfl := nullB_eq hb.1
        obtain rfl := nullB_eq hb.2.1
        obtain rfl := nullB_eq hb.2.2
        simp only [VR] at hv
        obtain ⟨as, bs, rfl, hxs, hys⟩ := hv
        have e1 : as = #[] := by simpa using VRL.nil_iff.1 hxs
        have e2 : bs = #[] := by simpa using VRL.nil_iff.1 hys
        have e3 : args' = #[] := by simpa using VRL.nil_iff.1 hargs
        subst e1; subst e2; subst e3
        obtain ⟨fn, c, hf, hname, hbody, hcall⟩ := hK n v hKn
        refine ⟨.enter n #[], Frame.enter P n #[] .normal, ?_, rfl, ?_⟩
        · have := run_callFunc hf hname hbody #[] w
          simpa [Deferred.ofValue, invoke] using this
        · obtain ⟨e, w', fr, ⟨u', rfl, hu, hbel⟩, hs, _, hleave⟩ := hcall θ s w hrel (c0 :: cs)
          exact ⟨w', θ, u', Steps.trans hs (.one (step_leave_returned hleave)), ⟨Le.refl θ, fun _ h _ => h⟩, hrel.kept hbel, hu⟩
  | _ => exact hc θ _ args fv' args' c0 cs hv hargs hh s v s' w hrun hrel hfree
theorem callF_ok (hm : P.follows .mixedOrders = true) (hK : Known P G w0 K) : ∀ (n : Nat) (kind : CallKind), CallAt P G w0 (callF P K n) kind
  | 0, _ => fun _ _ _ _ _ _ _ _ _ _ _ _ _ _ hrun => by cases hrun
  | n + 1, kind => call_ok hm (callF_ok hm hK n .normal) (callF_ok hm hK n .deferred) (known_ok hK (callF_ok hm hK n .normal)) kind

/-! a whole run -/
def thG : Th := fun g => if g < FM.base then some (g, 0) else none
/-- the world's variables hold what the evaluator begins with -/
def Holds (s0 : St) (w : World) : Prop := ∀ i o, s0.at i = some o → i < FM.base ∧ ∃ obj, w.heap[i]? = some obj ∧ ∀ θ c, OR θ c o obj
theorem Holds.rel {s0 : St} {w : World} (h : Holds s0 w) : Rel s0.at w thG s0 w where
  below := Below.refl _ w
  low _ _ := rfl
  glob g hg := by unfold thG; rw [if_pos hg]
  live i o ho := by
    obtain ⟨h1, obj, h2, h3⟩ := h i o ho
    exact ⟨(i, 0), obj, by unfold thG; rw [if_pos h1], h2, h3 _ _⟩
  inj i j c d _ _ hc hd hcd := by
    unfold thG at hc hd
    split at hc <;> split at hd <;> first | (cases hc; cases hd; exact hcd) | (cases hc; done) | (cases hd; done)
  place i c hc hi := by
    unfold thG at hc
    rw [if_neg (by omega)] at hc; cases hc
  old i _ hn := by
    cases ho : s0.at i with
    | none => exact absurd ho hn
    | some o =>
      obtain ⟨_, obj, h2, _⟩ := h i o ho
      exact (Array.getElem?_eq_some_iff.1 h2).1
theorem Rel.holds {s0 s : St} {w : World} (h : Rel s0.at w0 θ s w) (hs : ∀ i o, s0.at i = some o → i < FM.base ∧ ∀ θ c obj, OR θ c o obj → ∀ θ' c', OR θ' c' o obj) : Holds s0 w := by
  intro i o ho
  obtain ⟨h1, h2⟩ := hs i o ho
  obtain ⟨c, obj, h3, h4, h5⟩ := h.live i o ((h.low i h1).trans ho)
  rw [h.glob i h1] at h3
  cases h3
  exact ⟨h1, obj, h4, h2 _ _ _ h5⟩
/-- what the evaluator says of a function without arguments whose result lies in a slot -/
theorem eval_calls (hm : P.follows .mixedOrders = true) {s0 s' : St} {N n t : Nat} {fn : Func} {c : Code} {v : Bool} (hK : ∀ w, Known P s0.at w K) (hf : P.funcs[n]? = some fn) (hb : fn.body = some c)
    (hres : fn.results = #[.tmp t]) (hrun : (callF P K (N + 1) (.func n [] []) []).run s0 = .ok (.bool v) s') (hn : s0.next = FM.base) {w : World} (hw : Holds s0 w) :
    Calls P n #[] w fun e w' => e = .returned (.bool v) ∧ Below w.heap.size w w' := by
  intro cs
  have hrun : ((FM.ofOption P.funcs[n]?).bind fun fn => enterF P K (callF P K N) n fn ([] ++ [] ++ [])).run s0 = .ok (.bool v) s' := hrun
  obtain ⟨fn', s1, h1, hrun1⟩ := (FM.run_bind _ _ _ _ _).1 hrun
  obtain ⟨hf', hs1⟩ := FM.run_ofOption _ _ _ _ h1
  rw [hf] at hf'; cases hf'
  rw [hs1] at hrun1
  unfold enterF at hrun1
  rw [hb] at hrun1
  simp only at hrun1
  obtain ⟨_, s2, h2, hrun2⟩ := (FM.run_bind _ _ _ _ _).1 hrun1
  obtain ⟨hgd, hs2⟩ := FM.run_guard _ _ _ _ h2
  rw [hs2] at hrun2
  simp only [Bool.and_eq_true, Bool.not_eq_true', Nat.ble_eq] at hgd
  obtain ⟨_, hn8, hlen⟩ := hgd
  have hok := fun kind => callF_ok hm (hK w) N kind
  have key := mv_enter (N := fuel) (θ := thG) (cs := cs) (args := [] ++ [] ++ []) (as := #[]) hm (hok .normal) (hok .deferred) (known_ok (hK w) (hok .normal)) hf hb (.inl rfl) (by simp [VRL]) hn8 hlen
    (g := fun a => (resultsF P a fn.results.toList).bind fun vs => FM.pure (oneV vs))
    (R := fun θ' v N' => ∃ F, N' = (fun w => lone F cs w) ∧ F.mode = .returning ∧ F.defers = [] ∧ F.fn = n ∧ F.kind = .normal ∧ ∃ u, VR θ' v u ∧ ∀ w, (results fn F.tmps).run P w = .ok u w) (fun θ' a F hle hw => by
      rw [hres]
      refine Mv.ret ⟨F, rfl, hw.mode, hw.defers, hw.fn, hw.kind, F.tmps.getD t undef, hw.env.2.2 t, fun w => ?_⟩
      simp [results, hres])
  obtain ⟨w', θ', N', hs, _, hr', F, rfl, k1, k2, k3, k4, u, k5, k6⟩ := key s0 _ s' w hrun2 hw.rel (fun i h1 _ => by unfold thG; rw [if_neg (by omega)])
  simp only [VR] at k5
  subst k5
  exact ⟨.returned (.bool v), w', F, ⟨rfl, hr'.below⟩, hs, k3, k1, k2, k4, fn, by rw [k3]; exact hf, k6 w'⟩
end
end Go.Ev
