/- The events of one register are a history, and its operations are those of the whole. Plain. -/
import Derived.Test.YtcgbnlhloopnfaaParseSpec
import Derived.Test.YtcgbnlhloopnfaaHistLaw
import Derived.Test.YtcgbnlhloopnfaaHValLaw
namespace Go.Proofs.Ytcgbnlhloopnfaa

def keepO (r : Int) (o : Opr) : Bool := (o.barrier && !o.write) || o.reg == r
def keepE (r : Int) (e : Ev) : Bool := e.kind == 3 || flushB e || e.reg == r
/-- an operation without its places in the list -/
def Opr.str (o : Opr) : Opr := { o with call := 0, done := if 0 ≤ o.done then 1 else -1 }
def Opr.finS (e : Ev) (o : Opr) : Opr := if o.id = e.op then { o with val := e.val, done := 1 } else o
theorem str_fin (e : Ev) (i : Nat) (o : Opr) : (Opr.fin e i o).str = Opr.finS e o.str := by
  unfold Opr.fin Opr.finS Opr.str
  by_cases h : o.id = e.op
  · simp [h]
  · simp [h]
theorem keep_fin (r : Int) (e : Ev) (i : Nat) (o : Opr) : keepO r (Opr.fin e i o) = keepO r o := by
  unfold Opr.fin
  split <;> rfl
theorem fin_other {e : Ev} {i : Nat} {o : Opr} (h : o.id ≠ e.op) : Opr.fin e i o = o := by
  unfold Opr.fin
  rw [if_neg h]
theorem str_of (e : Ev) (era : Int) (i j : Nat) : (Opr.of e era i).str = (Opr.of e era j).str := rfl

theorem str_inj {a b : Opr} (h : a.str = b.str) : a.id = b.id ∧ a.reg = b.reg ∧ a.val = b.val ∧ a.write = b.write ∧ a.barrier = b.barrier ∧ a.era = b.era ∧ (if 0 ≤ a.done then (1 : Int) else -1) = if 0 ≤ b.done then 1 else -1 := by
  unfold Opr.str at h
  injection h with h1 h2 h3 h4 h5 h6 h7 h8
  exact ⟨h1, h2, h3, h4, h5, h6, h8⟩

/-- the call of an operation that is under way lies in the list -/
def COk (l : List Ev) (os : List Opr) : Prop := ∀ o ∈ os, o.done < 0 → ∃ c : Ev, l[o.call.toNat]? = some c ∧ c.op = o.id ∧ c.write = o.write ∧ c.reg = o.reg ∧ c.val = o.val ∧ c.barrier = o.barrier
theorem COk.step {l : List Ev} {k : Nat} {st st' : List Opr × Int} {e : Ev} (he : l[k]? = some e) (h : COk l st.1) (hs : pStep l k st e = some st') : COk l st'.1 := by
  unfold pStep at hs
  split at hs
  · split at hs
    · cases hs
    · split at hs
      · cases hs
        intro o ho hd
        rcases List.mem_append.1 ho with ho | ho
        · exact h o ho hd
        · simp at ho
          subst ho
          exact ⟨e, by simpa [Opr.of] using he, rfl, rfl, rfl, rfl, rfl⟩
      · cases hs
  · split at hs
    · split at hs
      · cases hs
      · unfold pDone at hs
        split at hs
        · cases hs
        · split at hs
          · cases hs
          · split at hs
            · split at hs
              · cases hs
                intro o ho hd
                obtain ⟨o', ho', rfl⟩ := List.mem_map.1 ho
                by_cases hid : o'.id = e.op
                · unfold Opr.fin at hd
                  rw [if_pos hid] at hd
                  have hd : ((k : Nat) : Int) < 0 := hd
                  omega
                · rw [fin_other hid] at hd ⊢
                  exact h o' ho' hd
              · cases hs
            · cases hs
    · split at hs
      · split at hs
        · cases hs
          exact h
        · cases hs
      · cases hs
theorem COk.to {l : List Ev} {k : Nat} {st : List Opr × Int} (h : parseTo l k = some st) : COk l st.1 := by
  induction k generalizing st with
  | zero => simp [parseTo] at h; subst h; intro o ho; simp at ho
  | succ k ih =>
    simp only [parseTo] at h
    split at h
    · cases h
    · rename_i st0 h0
      split at h
      · rename_i e he
        exact (ih h0).step he h
      · cases h
        exact ih h0

theorem filter_at {p : Ev → Bool} {l : List Ev} {k : Nat} {e : Ev} (he : l[k]? = some e) (hp : p e = true) : (l.filter p)[((l.take k).filter p).length]? = some e := by
  have hk : k < l.length := (List.getElem?_eq_some_iff.1 he).1
  have h1 : l = l.take k ++ e :: l.drop (k + 1) := by
    have h2 : l[k] = e := by rw [List.getElem?_eq_getElem hk] at he; exact Option.some.inj he
    rw [← h2, ← List.drop_eq_getElem_cons hk, List.take_append_drop]
  have h3 : l.filter p = (l.take k).filter p ++ e :: (l.drop (k + 1)).filter p := by
    conv => lhs; rw [h1]
    rw [List.filter_append, List.filter_cons, if_pos hp]
  rw [h3, List.getElem?_append_right (Nat.le_refl _), Nat.sub_self]
  rfl
theorem take_filter {p : Ev → Bool} {l : List Ev} {k : Nat} {e : Ev} (he : l[k]? = some e) : ((l.take (k + 1)).filter p).length = ((l.take k).filter p).length + (if p e then 1 else 0) := by
  rw [List.take_add_one, he, List.filter_append, List.length_append]
  cases hp : p e <;> simp [hp]

def Sim (r : Int) (st st' : List Opr × Int) : Prop := st'.2 = st.2 ∧ st'.1.map Opr.str = (st.1.filter (keepO r)).map Opr.str
theorem opr_eq {os : List Opr} (hids : (os.map (·.id)).Nodup) {o o' : Opr} (h : o ∈ os) (h' : o' ∈ os) (he : o.id = o'.id) : o = o' := by
  obtain ⟨i, hi⟩ := List.mem_iff_getElem?.1 h
  obtain ⟨j, hj⟩ := List.mem_iff_getElem?.1 h'
  have hij : i = j := (List.getElem?_inj (l := os.map (·.id)) (by rw [List.length_map]; exact (List.getElem?_eq_some_iff.1 hi).1) hids).1 (by rw [List.getElem?_map, List.getElem?_map, hi, hj]; simp [he])
  subst hij
  rw [hi] at hj
  exact Option.some.inj hj

theorem sim_skip {l : List Ev} {r : Int} {k : Nat} {st st1 st' : List Opr × Int} {e : Ev} (hids : (st.1.map (·.id)).Nodup) (hc : COk l st.1) (h : Sim r st st') (hk : keepE r e = false) (hs : pStep l k st e = some st1) : Sim r st1 st' := by
  obtain ⟨h1, h2⟩ := h
  unfold keepE at hk
  rw [Bool.or_eq_false_iff, Bool.or_eq_false_iff] at hk
  obtain ⟨⟨k1, k2⟩, k3⟩ := hk
  unfold flushB at k2
  unfold pStep at hs
  split at hs
  · split at hs
    · cases hs
    · split at hs
      · cases hs
        refine ⟨h1, h2.trans ?_⟩
        have : keepO r (Opr.of e st.2 k) = false := by unfold keepO Opr.of; simp only; rw [k2, k3]; rfl
        simp [List.filter_append, this]
      · cases hs
  · split at hs
    · split at hs
      · cases hs
      · rename_i o ho
        obtain ⟨ho1, ho2⟩ := findO_mem ho
        unfold pDone at hs
        split at hs
        · cases hs
        · rename_i hd
          split at hs
          · cases hs
          · split at hs
            · rename_i c hcl
              split at hs
              · rename_i ha
                cases hs
                refine ⟨h1, h2.trans ?_⟩
                obtain ⟨c', e1, e2, e3, e4, e5, e6⟩ := hc o ho1 (by omega)
                rw [hcl] at e1
                cases e1
                unfold ansOk at ha
                simp only [Bool.and_eq_true, beq_iff_eq] at ha
                obtain ⟨⟨⟨⟨a1, a2⟩, a3⟩, a4⟩, a5⟩ := ha
                have hko : keepO r o = false := by unfold keepO; rw [← e3, ← e4, ← e6, ← a2, ← a3, ← a5, k2, k3]; rfl
                have hf : (st.1.map (Opr.fin e k)).filter (keepO r) = st.1.filter (keepO r) := by
                  rw [List.filter_map]
                  have hcomp : (keepO r ∘ Opr.fin e k) = keepO r := by funext x; exact keep_fin r e k x
                  rw [hcomp]
                  have : ∀ x ∈ st.1.filter (keepO r), Opr.fin e k x = x := fun x hx => by
                    obtain ⟨x1, x2⟩ := List.mem_filter.1 hx
                    refine fin_other fun hid => ?_
                    have := opr_eq hids x1 ho1 (hid.trans ho2.symm)
                    subst this
                    rw [hko] at x2
                    cases x2
                  conv => rhs; rw [← List.map_id (st.1.filter (keepO r))]
                  exact List.map_congr_left this
                exact (congrArg (List.map Opr.str) hf).symm
              · cases hs
            · cases hs
    · split at hs
      · rename_i h3
        rw [h3] at k1
        simp at k1
      · cases hs

theorem sim_keep {l f : List Ev} {r : Int} {k j : Nat} {st st1 st' : List Opr × Int} {e : Ev} (hids : (st.1.map (·.id)).Nodup) (hc : COk l st.1) (hc' : COk f st'.1) (h : Sim r st st') (hk : keepE r e = true) (hs : pStep l k st e = some st1) :
    ∃ st1', pStep f j st' e = some st1' ∧ Sim r st1 st1' := by
  obtain ⟨h1, h2⟩ := h
  have hmem : ∀ o' ∈ st'.1, ∃ o ∈ st.1, keepO r o = true ∧ o.str = o'.str := fun o' ho' => by
    have : o'.str ∈ (st.1.filter (keepO r)).map Opr.str := by rw [← h2]; exact List.mem_map_of_mem ho'
    obtain ⟨o, ho, e1⟩ := List.mem_map.1 this
    exact ⟨o, (List.mem_filter.1 ho).1, (List.mem_filter.1 ho).2, e1⟩
  have hmem' : ∀ o ∈ st.1, keepO r o = true → ∃ o' ∈ st'.1, o'.str = o.str := fun o ho hko => by
    have : o.str ∈ st'.1.map Opr.str := by rw [h2]; exact List.mem_map_of_mem (List.mem_filter.2 ⟨ho, hko⟩)
    obtain ⟨o', ho', e1⟩ := List.mem_map.1 this
    exact ⟨o', ho', e1⟩
  have hid : ∀ {a b : Opr}, a.str = b.str → a.id = b.id := fun h => (str_inj h).1
  unfold pStep at hs ⊢
  by_cases hk1 : e.kind = 1
  · rw [if_pos hk1] at hs ⊢
    split at hs
    · cases hs
    · rename_i hf
      split at hs
      · rename_i hp
        cases hs
        have hf' : findO st'.1 e.op = none := by
          rcases hq : findO st'.1 e.op with _ | o'
          · rfl
          · obtain ⟨q1, q2⟩ := findO_mem hq
            obtain ⟨o, ho, -, e1⟩ := hmem o' q1
            exact absurd ((hid e1).trans q2) (findO_none hf o ho)
        rw [hf']
        refine ⟨(st'.1 ++ [Opr.of e st'.2 j], st'.2), by simp [hp], h1, ?_⟩
        have hko : keepO r (Opr.of e st.2 k) = true := by
          have hk3 : (e.kind == 3) = false := by rw [hk1]; rfl
          unfold keepE at hk
          rw [hk3, Bool.false_or] at hk
          exact hk
        simp only [List.map_append, List.filter_append, h2, List.map_cons, List.map_nil]
        rw [h1, str_of e st.2 j k]
        simp [hko]
      · cases hs
  · rw [if_neg hk1] at hs ⊢
    by_cases hk2 : e.kind = 2
    · rw [if_pos hk2] at hs ⊢
      split at hs
      · cases hs
      · rename_i o ho
        obtain ⟨ho1, ho2⟩ := findO_mem ho
        unfold pDone at hs
        split at hs
        · cases hs
        · rename_i hd
          split at hs
          · cases hs
          · rename_i her
            split at hs
            · rename_i c hcl
              split at hs
              · rename_i ha
                cases hs
                obtain ⟨c', e1, e2, e3, e4, e5, e6⟩ := hc o ho1 (by omega)
                rw [hcl] at e1
                cases e1
                have ha0 := ha
                unfold ansOk at ha
                simp only [Bool.and_eq_true, beq_iff_eq] at ha
                obtain ⟨⟨⟨⟨a1, a2⟩, a3⟩, a4⟩, a5⟩ := ha
                have hko : keepO r o = true := by
                  have hk3 : (e.kind == 3) = false := by rw [hk2]; rfl
                  unfold keepE flushB at hk
                  rw [hk3, Bool.false_or] at hk
                  unfold keepO
                  rw [← e3, ← e4, ← e6, ← a2, ← a3, ← a5]
                  exact hk
                obtain ⟨o1, ho1', hs1⟩ := hmem' o ho1 hko
                rcases hq : findO st'.1 e.op with _ | o'
                · exact absurd ((hid hs1).trans ho2) (findO_none hq o1 ho1')
                · obtain ⟨q1, q2⟩ := findO_mem hq
                  obtain ⟨o2, p1, p2, p3⟩ := hmem o' q1
                  have p4 : o2 = o := opr_eq hids p1 ho1 (((hid p3).trans q2).trans ho2.symm)
                  subst p4
                  have hdn : o'.done < 0 := by
                    have h5 : (if 0 ≤ o2.done then (1 : Int) else -1) = if 0 ≤ o'.done then 1 else -1 := (str_inj p3).2.2.2.2.2.2
                    rw [if_neg (by omega)] at h5
                    by_cases h6 : 0 ≤ o'.done
                    · rw [if_pos h6] at h5; omega
                    · omega
                  obtain ⟨c2, f1, f2, f3, f4, f5, f6⟩ := hc' o' q1 hdn
                  have g1 : o2.id = o'.id := (str_inj p3).1
                  have g2 : o2.write = o'.write := (str_inj p3).2.2.2.1
                  have g3 : o2.reg = o'.reg := (str_inj p3).2.1
                  have g4 : o2.val = o'.val := (str_inj p3).2.2.1
                  have g5 : o2.barrier = o'.barrier := (str_inj p3).2.2.2.2.1
                  have g6 : o2.era = o'.era := (str_inj p3).2.2.2.2.2.1
                  have hcc : ansOk e c2 = true := by
                    unfold ansOk at ha0 ⊢
                    rw [f2, f3, f4, f5, f6, ← g1, ← g2, ← g3, ← g4, ← g5, ← e2, ← e3, ← e4, ← e5, ← e6]
                    exact ha0
                  refine ⟨(st'.1.map (Opr.fin e j), st'.2), ?_, h1, ?_⟩
                  · show pDone f j st' e o' = _
                    unfold pDone
                    rw [if_neg (by omega), if_neg (by rw [← g6, h1]; exact her), f1]
                    simp [hcc]
                  · rw [List.filter_map]
                    have hcomp : (keepO r ∘ Opr.fin e k) = keepO r := by funext x; exact keep_fin r e k x
                    rw [hcomp, List.map_map, List.map_map]
                    have hc1 : ∀ i, (Opr.str ∘ Opr.fin e i) = Opr.finS e ∘ Opr.str := fun i => by funext x; exact str_fin e i x
                    rw [hc1, hc1, ← List.map_map, h2, List.map_map]
              · cases hs
            · cases hs
    · rw [if_neg hk2] at hs ⊢
      split at hs
      · rename_i hk3
        rw [if_pos hk3]
        split at hs
        · rename_i hcut
          cases hs
          rw [if_pos hcut]
          exact ⟨_, rfl, by show st'.2 + 1 = st.2 + 1; rw [h1], h2⟩
        · cases hs
      · cases hs

theorem split_to (l : List Ev) (r : Int) (k : Nat) : ∀ st, parseTo l k = some st → ∃ st', parseTo (l.filter (keepE r)) ((l.take k).filter (keepE r)).length = some st' ∧ Sim r st st' := by
  induction k with
  | zero =>
    intro st h
    simp [parseTo] at h
    subst h
    exact ⟨([], 0), by simp [parseTo], rfl, rfl⟩
  | succ k ih =>
    intro st h
    rcases hk : l[k]? with _ | e
    · have hk2 : l.length ≤ k := List.getElem?_eq_none_iff.1 hk
      simp only [parseTo] at h
      rcases h0 : parseTo l k with _ | st0
      · rw [h0] at h; cases h
      · rw [h0] at h
        simp only [hk] at h
        cases h
        rw [List.take_of_length_le (by omega : l.length ≤ k + 1)]
        have := ih st h0
        rwa [List.take_of_length_le hk2] at this
    · rcases h0 : parseTo l k with _ | st0
      · rw [parseTo_none h0 (Nat.le_succ k)] at h; cases h
      · rw [parseTo_at h0 hk] at h
        obtain ⟨st', h1, h2⟩ := ih st0 h0
        have hids := (PInv.to h0).ids
        have hc := COk.to h0
        have hc' := COk.to h1
        rw [take_filter hk]
        cases hp : keepE r e
        · exact ⟨st', by simpa using h1, sim_skip hids hc h2 hp h⟩
        · obtain ⟨st1, h3, h4⟩ := sim_keep (j := ((l.take k).filter (keepE r)).length) (f := l.filter (keepE r)) hids hc hc' h2 hp h
          exact ⟨st1, (parseTo_at h1 (filter_at hk hp)).trans h3, h4⟩
/-- the events of one register are a history -/
theorem split_parse {l : List Ev} {os : List Opr} (h : parseL l = some os) (r : Int) : ∃ os', parseL (l.filter (keepE r)) = some os' ∧ os'.map Opr.str = (os.filter (keepO r)).map Opr.str := by
  unfold parseL at h ⊢
  obtain ⟨st, h1, rfl⟩ := Option.map_eq_some_iff.1 h
  obtain ⟨st', h2, h3, h4⟩ := split_to l r l.length st h1
  rw [List.take_length] at h2
  exact ⟨st'.1, by rw [h2]; rfl, h4⟩
theorem eff_str (o : Opr) : effB o.str = effB o := rfl
theorem split_eff {os os' : List Opr} {r : Int} (h : os'.map Opr.str = (os.filter (keepO r)).map Opr.str) :
    (∀ o ∈ os', effB o = true → o.reg = r) ∧ (os'.filter effB).length = (os.filter fun o => effB o && o.reg == r).length := by
  have hk : ∀ o : Opr, effB o = true → (keepO r o = (o.reg == r)) := fun o ho => by
    unfold effB at ho
    unfold keepO
    cases hw : o.write <;> cases hb : o.barrier <;> simp [hw, hb] at ho ⊢
  constructor
  · intro o ho he
    have : o.str ∈ (os.filter (keepO r)).map Opr.str := by rw [← h]; exact List.mem_map_of_mem ho
    obtain ⟨o2, h2, h3⟩ := List.mem_map.1 this
    have e1 : effB o2 = true := by rw [← eff_str o2, h3, eff_str]; exact he
    have e2 := (List.mem_filter.1 h2).2
    rw [hk o2 e1] at e2
    have e3 : o2.reg = o.reg := (str_inj h3).2.1
    rw [← e3]
    simpa using e2
  · have hl : ∀ xs : List Opr, (xs.filter effB).length = ((xs.map Opr.str).filter effB).length := fun xs => by
      rw [List.filter_map, List.length_map]
      rfl
    rw [hl os', h, ← hl, List.filter_filter]
    congr 1
    refine List.filter_congr fun o _ => ?_
    cases he : effB o
    · rfl
    · rw [hk o he]
/-- the parts make up the whole -/
theorem parts_sum (ds : List Int) : ∀ (gs : List Int), gs.Nodup → ((gs.map fun g => (ds.filter (· == g)).length).sum = (ds.filter (fun d => gs.contains d)).length) := by
  intro gs
  induction gs with
  | nil =>
    intro _
    rw [show ds.filter (fun d => ([] : List Int).contains d) = [] from List.filter_eq_nil_iff.2 (by simp)]
    rfl
  | cons g gs ih =>
    intro hn
    obtain ⟨h1, h2⟩ := List.nodup_cons.1 hn
    rw [List.map_cons, List.sum_cons, ih h2]
    clear ih
    induction ds with
    | nil => simp
    | cons d ds ihd =>
      have hmem : g ∉ gs := h1
      by_cases hg : d = g
      · subst hg
        simp [hmem] at ihd ⊢
        omega
      · by_cases hd : d ∈ gs <;> simp [hg, hd] at ihd ⊢ <;> omega
end Go.Proofs.Ytcgbnlhloopnfaa
