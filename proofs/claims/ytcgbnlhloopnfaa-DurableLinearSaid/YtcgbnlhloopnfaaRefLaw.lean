/- What layer 47's reference computes is what its program computes: plain laws on lists. -/
import Derived.Test.YtcgbnlhloopnfaaRefJ
import Derived.Test.YtcgbnlhloopnfaaDurI
namespace Go.Proofs.Ytcgbnlhloopnfaa

/-- what holds of the operations of a valid history -/
structure RInv (l : List Ev) (k : Nat) (os : List Opr) : Prop where
  ids : os.Pairwise fun a b => a.id ≠ b.id
  at_ : ∀ o ∈ os, ∃ (i : Nat) (c : Ev), findE l 1 o.id k = i ∧ i < k ∧ o.call = i ∧ l[i]? = some c ∧ o.write = c.write ∧ (c.write = true → o.val = c.val ∧ 0 ≤ c.val) ∧ (o.done = -1 ∨ o.call < o.done)
theorem fin_idR (e : Ev) (i : Nat) (o : Opr) : (Opr.fin e i o).id = o.id := by unfold Opr.fin; split <;> rfl
theorem fin_write (e : Ev) (i : Nat) (o : Opr) : (Opr.fin e i o).write = o.write := by unfold Opr.fin; split <;> rfl
theorem fin_callR (e : Ev) (i : Nat) (o : Opr) : (Opr.fin e i o).call = o.call := by unfold Opr.fin; split <;> rfl
theorem rinv_to (l : List Ev) (k : Nat) (hk : k ≤ l.length) (hv : validTo l k = true) : RInv l k (rawTo l k).1 := by
  induction k with
  | zero => exact ⟨by simp [rawTo], by simp [rawTo]⟩
  | succ k ih =>
    obtain ⟨e, he⟩ : ∃ e, l[k]? = some e := ⟨l[k], List.getElem?_eq_getElem (by omega)⟩
    rw [validTo_succ' he, Bool.and_eq_true] at hv
    have H := ih (by omega) hv.1
    have O := (hist_to l k (by omega)).2 hv.1
    have hev := hv.2
    clear ih hv
    rw [rawTo_succ he]
    generalize rawTo l k = st at *
    have stay : ∀ o ∈ st.1, findE l 1 o.id (k + 1) = findE l 1 o.id k := fun o ho => by
      obtain ⟨i, c, h1, _⟩ := H.at_ o ho
      exact find_stay he (by omega)
    unfold rawStep
    by_cases h3 : e.kind = 3
    · rw [if_pos h3]
      refine ⟨H.ids, fun o ho => ?_⟩
      obtain ⟨i, c, h1, h2, h4, h5, h6, h7, h8⟩ := H.at_ o ho
      exact ⟨i, c, by rw [stay o ho, h1], by omega, h4, h5, h6, h7, h8⟩
    · by_cases h1 : e.kind = 1
      · rw [if_neg h3, if_pos h1]
        unfold evOk at hev
        rw [if_neg h3, if_pos h1] at hev
        simp only [Bool.and_eq_true, decide_eq_true_eq] at hev
        obtain ⟨hc, hn⟩ := hev
        have hfo := (O.no e.op).2 hn
        have hnew : ∀ o ∈ st.1, o.id ≠ e.op := fun o ho h => by
          unfold findO at hfo
          have := List.find?_eq_none.1 hfo o ho
          simp [h] at this
        refine ⟨?_, fun o ho => ?_⟩
        · rw [List.pairwise_append]
          refine ⟨H.ids, by simp, fun a ha b hb => ?_⟩
          simp at hb
          subst hb
          exact hnew a ha
        · rcases List.mem_append.1 ho with ho | ho
          · obtain ⟨i, c, h1, h2, h4, h5, h6, h7, h8⟩ := H.at_ o ho
            exact ⟨i, c, by rw [stay o ho, h1], by omega, h4, h5, h6, h7, h8⟩
          · simp at ho
            subst ho
            refine ⟨k, e, find_hit he (hit_this h1) hn, by omega, rfl, he, rfl, fun hw => ⟨rfl, ?_⟩, .inl rfl⟩
            unfold callOk at hc
            split at hc
            · cases hc
            · omega
      · rw [if_neg h3, if_neg h1]
        unfold evOk at hev
        rw [if_neg h3, if_neg h1] at hev
        have h2 : e.kind = 2 := by
          by_cases h2 : e.kind = 2
          · exact h2
          · rw [if_neg h2] at hev; cases hev
        rw [if_pos h2] at hev
        have m1 := fun x => find_miss he (hitE_kind (kind := 1) (x := x) (e := e) (by omega))
        refine ⟨?_, fun o ho => ?_⟩
        · refine List.Pairwise.map _ (fun a b hab => ?_) H.ids
          rw [fin_idR, fin_idR]; exact hab
        · obtain ⟨o', ho', rfl⟩ := List.mem_map.1 ho
          obtain ⟨i, c, h4, h5, h6, h7, h8, h9, h10⟩ := H.at_ o' ho'
          refine ⟨i, c, by rw [fin_idR, m1, h4], by omega, by rw [fin_callR, h6], h7, by rw [fin_write, h8], fun hw => ?_, ?_⟩
          · refine ⟨?_, (h9 hw).2⟩
            unfold Opr.fin
            split
            · rename_i hid
              have hd : doneOk e c = true := by
                unfold doneAt at hev
                rw [← hid, h4] at hev
                split at hev
                · cases hev
                · split at hev
                  · cases hev
                  · split at hev
                    · cases hev
                    · rw [Int.toNat_natCast, h7] at hev; exact hev
              unfold doneOk at hd
              rw [hw] at hd
              simp at hd
              exact hd.2
            · exact (h9 hw).1
          · unfold Opr.fin
            split
            · right; simp only; omega
            · exact h10

structure ROk (os : List Opr) : Prop where
  ids : os.Pairwise fun a b => a.id ≠ b.id
  done : ∀ o ∈ os, o.done = -1 ∨ o.call < o.done
  val : ∀ o ∈ os, o.write = true → 0 ≤ o.val
theorem raw_ok {l : List Ev} (hv : validL l = true) : ROk (rawOps l) := by
  have H := rinv_to l l.length (Nat.le_refl _) hv
  refine ⟨H.ids, fun o ho => ?_, fun o ho hw => ?_⟩
  · obtain ⟨i, c, h4, h5, h6, h7, h8, h9, h10⟩ := H.at_ o ho
    exact h10
  · obtain ⟨i, c, h4, h5, h6, h7, h8, h9, h10⟩ := H.at_ o ho
    rw [h8] at hw
    have := h9 hw
    omega

section
variable {os : List Opr}
theorem ROk.prec_self (h : ROk os) {o : Opr} (ho : o ∈ os) : precB o o = false := by
  unfold precB
  rcases h.done o ho with h1 | h1
  · simp [h1]
  · simp; omega
theorem ROk.id_inj (h : ROk os) {i j : Nat} {a b : Opr} (ha : os[i]? = some a) (hb : os[j]? = some b) (hid : a.id = b.id) : i = j := by
  obtain ⟨hi, rfl⟩ := List.getElem?_eq_some_iff.1 ha
  obtain ⟨hj, rfl⟩ := List.getElem?_eq_some_iff.1 hb
  have hp := List.pairwise_iff_getElem.1 h.ids
  rcases Nat.lt_trichotomy i j with h1 | h1 | h1
  · exact absurd hid (hp i j hi hj h1)
  · exact h1
  · exact absurd hid.symm (hp j i hj hi h1)
theorem srcOp_idx (os : List Opr) (o : Opr) : srcOp os o = (srcO os o.reg o.val).bind fun i => os[i]? := by
  unfold srcOp srcO
  rcases h : os.findIdx? (isSrc o.reg o.val) with _ | i
  · rw [List.findIdx?_eq_none_iff] at h
    simp only [Option.bind_none]
    rw [List.find?_eq_none]
    intro x hx
    rw [h x hx]; simp
  · obtain ⟨hi, hp, hno⟩ := List.findIdx?_eq_some_iff_getElem.1 h
    simp only [Option.bind_some]
    rw [List.getElem?_eq_getElem hi]
    rw [List.find?_eq_some_iff_getElem]
    exact ⟨hp, i, hi, rfl, fun j hj => by simpa using hno j hj⟩
theorem srcO_at {r v : Int} {i : Nat} (h : srcO os r v = some i) : ∃ s, os[i]? = some s ∧ s.write = true ∧ s.reg = r ∧ s.val = v := by
  obtain ⟨hi, hp, -⟩ := List.findIdx?_eq_some_iff_getElem.1 h
  refine ⟨os[i], List.getElem?_eq_getElem hi, ?_⟩
  simpa [isSrc, and_assoc] using hp
theorem seenA_iff {v : Nat} {era : Int} : seenA os v era = true ↔ ∃ o ∈ os, ansB o = true ∧ era < o.era ∧ srcO os o.reg o.val = some v := by
  unfold seenA
  rw [List.any_eq_true]
  constructor
  · rintro ⟨o, ho, h⟩
    unfold seenB at h
    simp only [Bool.and_eq_true, decide_eq_true_eq] at h
    obtain ⟨⟨h1, h2⟩, h3⟩ := h
    refine ⟨o, ho, h1, h2, ?_⟩
    rcases hs : srcO os o.reg o.val with _ | i
    · rw [hs] at h3; simp only [idxN] at h3; omega
    · rw [hs] at h3; simp only [idxN] at h3; rw [show i = v by omega]
  · rintro ⟨o, ho, h1, h2, h3⟩
    refine ⟨o, ho, ?_⟩
    unfold seenB
    rw [h3]
    simp [h1, h2, idxN]
theorem ROk.cert_eq (h : ROk os) {v : Nat} {w : Opr} (hw : os[v]? = some w) : certB os w = survR os v w := by
  unfold certB survR
  by_cases hd : w.done < 0
  · rw [if_pos hd]
    have : decide (0 ≤ w.done) = false := by simp; omega
    rw [this]; rfl
  rw [if_neg hd]
  have : decide (0 ≤ w.done) = true := by simp; omega
  rw [this, Bool.true_and]
  cases hb : w.barrier
  case true => simp
  simp only [Bool.false_eq_true, if_false, Bool.false_or]
  rw [Bool.eq_iff_iff]
  simp only [Bool.or_eq_true, List.any_eq_true]
  constructor
  · rintro (⟨o, ho, hr⟩ | ⟨o, ho, hr⟩)
    · right
      unfold rule1 at hr
      simp only [Bool.and_eq_true, decide_eq_true_eq, beq_iff_eq] at hr
      obtain ⟨⟨⟨h1, h2⟩, h3⟩, h4⟩ := hr
      obtain ⟨j, hj, rfl⟩ := List.getElem_of_mem ho
      refine ⟨(os[j], j), List.mem_of_getElem? (i := j) (by rw [List.getElem?_zipIdx, List.getElem?_eq_getElem hj]; simp), ?_⟩
      unfold survI
      simp [h1, h2, h3, h4]
    · unfold rule2 at hr
      split at hr
      · rename_i hans
        rw [srcOp_idx] at hr
        rcases hs : srcO os o.reg o.val with _ | i
        · rw [hs] at hr; cases hr
        · obtain ⟨s, hsi, hsw, hsr, hsv⟩ := srcO_at hs
          rw [hs, Option.bind_some, hsi] at hr
          simp only [Bool.and_eq_true, Bool.or_eq_true, decide_eq_true_eq, beq_iff_eq] at hr
          obtain ⟨⟨h1, h2⟩, h3⟩ := hr
          rcases h3 with h3 | h3
          · left
            have hiv := h.id_inj hsi hw h3
            subst hiv
            exact seenA_iff.2 ⟨o, ho, hans, by omega, hs⟩
          · right
            refine ⟨(s, i), List.mem_of_getElem? (i := i) (by rw [List.getElem?_zipIdx, hsi]; simp), ?_⟩
            have := seenA_iff.2 ⟨o, ho, hans, h2, hs⟩
            rw [h1] at this
            unfold survI
            simp [h1, h3, hsw, this]
      · cases hr
  · rintro (h1 | ⟨⟨o, k⟩, ho, hr⟩)
    · right
      obtain ⟨o, ho, h1, h2, h3⟩ := seenA_iff.1 h1
      refine ⟨o, ho, ?_⟩
      unfold rule2
      rw [if_pos h1, srcOp_idx, h3, Option.bind_some, hw]
      simp [h2]
    · have hok : os[k]? = some o := by
        obtain ⟨j, hj, he⟩ := List.getElem_of_mem ho
        rw [List.getElem_zipIdx] at he
        rw [List.length_zipIdx] at hj
        cases he
        rw [Nat.zero_add]
        exact List.getElem?_eq_getElem hj
      unfold survI at hr
      simp only [Bool.and_eq_true, Bool.or_eq_true, decide_eq_true_eq, beq_iff_eq] at hr
      obtain ⟨⟨h1, h2⟩, h3 | h3⟩ := hr
      · left
        refine ⟨o, List.mem_of_getElem? hok, ?_⟩
        unfold rule1
        simp [h1, h2, h3]
      · right
        obtain ⟨r, hr, h4, h5, h6⟩ := seenA_iff.1 h3.2
        rw [h1] at h5
        refine ⟨r, hr, ?_⟩
        unfold rule2
        rw [if_pos h4, srcOp_idx, h6, Option.bind_some, hok]
        simp [h1, h2, h5]
theorem ROk.fin_eq (h : ROk os) {v : Nat} {w r : Opr} (hw : os[v]? = some w) : finB os w r = finR os v w r := by
  unfold finB finR precB
  rw [h.cert_eq hw]
theorem zfind_find {p : Opr → Nat → Bool} {q : Opr → Bool} (h : ∀ k o, os[k]? = some o → p o k = q o) : ((zfind p os).bind fun k => os[k]?) = os.find? q := by
  rcases hq : os.findIdx? q with _ | i
  · have h1 : zfind p os = none := zfind_none fun j y hj hy => by
      rw [h j y hy]
      exact (List.findIdx?_eq_none_iff.1 hq) y (List.mem_of_getElem? hy)
    rw [h1, Option.bind_none]
    symm
    rw [List.find?_eq_none]
    intro x hx
    rw [(List.findIdx?_eq_none_iff.1 hq) x hx]; simp
  · obtain ⟨hi, hp, hno⟩ := List.findIdx?_eq_some_iff_getElem.1 hq
    have h1 : zfind p os = some i := zfind_stop (x := os[i]) (List.getElem?_eq_getElem hi) (by rw [h i _ (List.getElem?_eq_getElem hi)]; exact hp) fun j y hj hy => by
      rw [h j y hy]
      obtain ⟨hjl, rfl⟩ := List.getElem?_eq_some_iff.1 hy
      simpa using hno j hj
    rw [h1, Option.bind_some, List.getElem?_eq_getElem hi]
    symm
    rw [List.find?_eq_some_iff_getElem]
    exact ⟨hp, i, hi, rfl, fun j hj => by simpa using hno j hj⟩
theorem staleF_eq {r : Opr} {si : Int} {tl : Opr → Bool} {q : Opr → Bool} (h : ∀ k o, os[k]? = some o → staB os r si tl o k = q o) : staleF os r si tl = (os.find? q).map fun w => ⟨3, r.id, w.id⟩ := by
  rw [← zfind_find h]
  unfold staleF
  cases zfind (staB os r si tl) os <;> rfl
theorem ROk.judge_eq (h : ROk os) (r : Opr) : rjudge os r = judgeO os r := by
  unfold rjudge judgeO
  rw [srcOp_idx]
  rcases hs : srcO os r.reg r.val with _ | i
  · simp only [Option.bind_none]
    split
    · rfl
    · refine staleF_eq fun k o ho => ?_
      unfold staB hides
      rw [h.fin_eq ho]
      have : ((k : Int) == -1) = false := by simp
      rw [this]
      simp
  · obtain ⟨s, hsi, hsw, hsr, hsv⟩ := srcO_at hs
    simp only [Option.bind_some, hsi]
    split
    · rfl
    · refine staleF_eq fun k o ho => ?_
      unfold staB hides
      rw [h.fin_eq ho]
      by_cases hki : k = i
      · subst hki
        rw [hsi] at ho
        cases ho
        have h1 := h.prec_self (List.mem_of_getElem? hsi)
        simp [h1]
      · have : ((k : Int) == (i : Int)) = false := by simp; omega
        rw [this]
        simp only [Bool.not_false, Bool.and_true]
        cases o.write <;> cases o.reg == r.reg <;> cases finR os k o r <;> simp
theorem ROk.trac_eq (h : ROk os) : tracO os = !badA os := by
  unfold tracO tracTo badA
  rw [List.take_length, List.all_eq_not_any_not]
  congr 1
  rw [Bool.eq_iff_iff, List.any_eq_true, List.any_eq_true]
  have key : ∀ q ∈ os.zipIdx, (!(!q.1.write || (decide (1 ≤ q.1.val) && !(os.take q.2).any (isSrc q.1.reg q.1.val)))) = badT os q.1 q.2 := fun q hq => by
    have hm : q.1 ∈ os := by
      obtain ⟨j, hj, he⟩ := List.getElem_of_mem hq
      rw [List.getElem_zipIdx] at he
      rw [← he]
      exact List.getElem_mem _
    unfold badT
    cases hw : q.1.write
    · simp
    · have h0 := h.val q.1 hm hw
      have : decide (1 ≤ q.1.val) = !(q.1.val == 0) := by
        rw [Bool.eq_iff_iff]
        simp
        omega
      rw [this]
      cases q.1.val == 0 <;> simp
  constructor
  · rintro ⟨q, hq, hh⟩
    exact ⟨q, hq, by rw [← key q hq]; exact hh⟩
  · rintro ⟨q, hq, hh⟩
    exact ⟨q, hq, by rw [key q hq]; exact hh⟩
end

theorem trace_eq (l : List Ev) : rtraceD l = traceD l := by
  unfold rtraceD traceD
  rw [parse_eq]
  cases hv : validL l
  · rfl
  · simp [(raw_ok hv).trac_eq]
theorem check_eq (l : List Ev) : rcheckD l = checkD l := by
  unfold rcheckD checkD
  rw [parse_eq]
  unfold rtraceD
  cases hv : validL l
  · rfl
  · simp only [Bool.true_and, if_true]
    rw [(raw_ok hv).trac_eq]
    have : rfltOf (rawOps l) = fun r => if ansB r then judgeO (rawOps l) r else none := funext fun r => by unfold rfltOf; rw [(raw_ok hv).judge_eq]
    rw [this]
    rfl
end Go.Proofs.Ytcgbnlhloopnfaa
