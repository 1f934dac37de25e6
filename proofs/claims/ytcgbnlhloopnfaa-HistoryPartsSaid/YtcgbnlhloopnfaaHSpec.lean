/- What a script of a recorder does: the recorder's answers, the specification's, and that they agree. Plain: no program is walked here. -/
import Derived.Test.YtcgbnlhloopnfaaSnoc
import Derived.Test.YtcgbnlhloopnfaaHistLaw
import Derived.Test.YtcgbnlhloopnfaaRecD
namespace Go.Proofs.Ytcgbnlhloopnfaa

structure ActH where
  kind : Nat
  op : Int
  val : Int
def ActH.cells (a : ActH) : List Value := [.int .u8 a.kind, .int .i8 a.op, .int .i8 a.val]
def ActOk (a : ActH) : Prop := a.kind < 256 ∧ -128 ≤ a.op ∧ a.op ≤ 127 ∧ -128 ≤ a.val ∧ a.val ≤ 127
def ActsOk (l : List ActH) : Prop := ∀ a ∈ l, ActOk a
def actOp (a : ActH) (n : Nat) : Int := if a.kind % 8 < 6 ∧ 0 < n then (a.op + 128) % (n : Int) else a.op
/-- the event of a call -/
def actEv (a : ActH) (n : Nat) : Ev :=
  if a.kind % 8 = 0 then ⟨1, n, false, a.op, 0, false⟩
  else if a.kind % 8 = 1 then ⟨1, n, true, a.op, a.val, false⟩
  else if a.kind % 8 = 2 then ⟨1, n, true, a.op, a.val, true⟩
  else ⟨1, n, false, 0, 0, true⟩
/-- the recorder -/
def actN (r : Rcd) (a : ActH) (n : Nat) : Int × Rcd :=
  if a.kind % 8 = 7 then (0, recCut r)
  else if a.kind % 8 < 4 then recCallN r (actEv a n)
  else recDone r (actOp a n) a.val
/-- the specification's done -/
def refDone (l : List Ev) (op val : Int) : List Ev × Int :=
  if findE l 1 op l.length < 0 then ([], 9)
  else if 0 ≤ findE l 2 op l.length ∨ cutE l (findE l 1 op l.length).toNat l.length = true then ([], 8)
  else match l[(findE l 1 op l.length).toNat]? with
    | some c => ([doneEv c val], 0)
    | none => ([], 8)
/-- the specification: the history, the number of operations; the answer -/
def refAct (st : List Ev × Nat) (a : ActH) : (List Ev × Nat) × Int :=
  if a.kind % 8 = 7 then ((st.1 ++ [Ev.cut], st.2), 0)
  else if a.kind % 8 < 4 then (if callOk (actEv a st.2) then ((st.1 ++ [actEv a st.2], st.2 + 1), (st.2 : Int)) else (st, -1))
  else ((st.1 ++ (refDone st.1 (actOp a st.2) a.val).1, st.2), (refDone st.1 (actOp a st.2) a.val).2)
def recSt (s : List ActH) : Nat → List Ev × Nat
  | 0 => ([], 0)
  | k + 1 => match s[k]? with | some a => (refAct (recSt s k) a).1 | none => recSt s k
def recRes (s : List ActH) : Nat → List Int
  | 0 => []
  | k + 1 => match s[k]? with | some a => recRes s k ++ [(refAct (recSt s k) a).2] | none => recRes s k
theorem recSt_succ {s : List ActH} {k : Nat} {a : ActH} (h : s[k]? = some a) : recSt s (k + 1) = (refAct (recSt s k) a).1 := by simp only [recSt, h]
theorem recRes_succ {s : List ActH} {k : Nat} {a : ActH} (h : s[k]? = some a) : recRes s (k + 1) = recRes s k ++ [(refAct (recSt s k) a).2] := by simp only [recRes, h]

theorem refDone_len (l : List Ev) (op val : Int) : (refDone l op val).1.length ≤ 1 := by
  unfold refDone
  split
  · simp
  · split
    · simp
    · split <;> simp
theorem refAct_bd (st : List Ev × Nat) (a : ActH) : (refAct st a).1.1.length ≤ st.1.length + 1 ∧ (refAct st a).1.2 ≤ st.2 + 1 ∧ st.2 ≤ (refAct st a).1.2 := by
  unfold refAct
  split
  · simp
  · split
    · split <;> simp
    · have := refDone_len st.1 (actOp a st.2) a.val
      simp
      omega
theorem recSt_bd (s : List ActH) (k : Nat) : (recSt s k).1.length ≤ k ∧ (recSt s k).2 ≤ k := by
  induction k with
  | zero => simp [recSt]
  | succ k ih =>
    simp only [recSt]
    split
    · rename_i a _
      have := refAct_bd (recSt s k) a
      omega
    · omega
theorem recRes_len {s : List ActH} {k : Nat} (hk : k ≤ s.length) : (recRes s k).length = k := by
  induction k with
  | zero => rfl
  | succ k ih =>
    have h : s[k]? = some s[k] := List.getElem?_eq_getElem (by omega)
    rw [recRes_succ h, List.length_append, ih (by omega)]
    rfl

/-- what ties the recorder to the history -/
structure RInv (r : Rcd) (l : List Ev) (n : Nat) (os : List Opr) (era : Int) : Prop where
  evs : r.evs = l
  calls : r.calls.length = n
  opn : r.opn.length = n
  ops : os.length = n
  parse : parseS l = some (os, era)
  at_ : ∀ (i : Nat) (o : Opr), os[i]? = some o → o.id = i ∧ o.era ≤ era ∧ r.calls[i]? = l[o.call.toNat]? ∧ r.opn[i]? = some (decide (o.done < 0) && o.era == era)

theorem rinv_zero : RInv ⟨[], [], []⟩ [] 0 [] 0 := ⟨rfl, rfl, rfl, rfl, parseS_nil, by simp⟩
theorem callOk_act (a : ActH) (n : Nat) : callOk (actEv a n) = decide (¬ ((actEv a n).reg < 0 ∨ (actEv a n).val < 0)) := by
  unfold actEv callOk
  split
  · by_cases h : a.op < 0 <;> simp [h] <;> omega
  · split
    · by_cases h : a.op < 0 <;> by_cases h2 : a.val < 0 <;> simp [h, h2] <;> omega
    · split
      · by_cases h : a.op < 0 <;> by_cases h2 : a.val < 0 <;> simp [h, h2] <;> omega
      · simp
theorem actEv_is (a : ActH) (n : Nat) : (actEv a n).kind = 1 ∧ (actEv a n).op = n := by
  unfold actEv
  split
  · exact ⟨rfl, rfl⟩
  · split
    · exact ⟨rfl, rfl⟩
    · split <;> exact ⟨rfl, rfl⟩
theorem RInv.none {r : Rcd} {l : List Ev} {n : Nat} {os : List Opr} {era : Int} (h : RInv r l n os era) {x : Int} (hx : x < 0 ∨ (n : Int) ≤ x) : findO os x = none := by
  unfold findO
  rw [List.find?_eq_none]
  intro o ho
  obtain ⟨i, hi⟩ := List.mem_iff_getElem?.1 ho
  have h1 := (h.at_ i o hi).1
  have h2 := (List.getElem?_eq_some_iff.1 hi).1
  have := h.ops
  simp
  omega
theorem RInv.some_ {r : Rcd} {l : List Ev} {n : Nat} {os : List Opr} {era : Int} (h : RInv r l n os era) {i : Nat} {o : Opr} (hi : os[i]? = some o) : findO os (i : Int) = some o := by
  rcases hf : findO os (i : Int) with _ | o'
  · exact absurd (h.at_ i o hi).1 (findO_none hf o (List.mem_of_getElem? hi))
  · obtain ⟨h1, h2⟩ := findO_mem hf
    obtain ⟨j, hj⟩ := List.mem_iff_getElem?.1 h1
    have h3 := (h.at_ j o' hj).1
    obtain rfl : i = j := by omega
    rw [hi] at hj
    rw [Option.some.inj hj]
theorem RInv.oinv {r : Rcd} {l : List Ev} {n : Nat} {os : List Opr} {era : Int} (h : RInv r l n os era) : OInv l l.length (os, era) := by
  obtain ⟨h1, h2⟩ := hist_to l l.length (Nat.le_refl _)
  have h3 : parseTo l l.length = some (os, era) := h.parse
  rw [h3] at h1
  cases hv : validTo l l.length
  · rw [hv] at h1; cases h1
  · rw [hv, if_pos rfl] at h1
    rw [Option.some.inj h1]
    exact h2 hv

/-- a call -/
theorem rinv_call {r : Rcd} {l : List Ev} {n : Nat} {os : List Opr} {era : Int} (h : RInv r l n os era) {e : Ev} (hk : e.kind = 1) (hop : e.op = n) (hok : callOk e = true) :
    RInv ⟨r.evs ++ [e], r.calls ++ [e], r.opn ++ [true]⟩ (l ++ [e]) (n + 1) (os ++ [Opr.of e era l.length]) era := by
  have hno := h.none (x := (n : Int)) (.inr (Int.le_refl _))
  have hp := parseS_call h.parse (e := e) (by rw [hop]; exact hno) hk (by rw [← callOk_eq]; exact hok)
  have hinv := parseS_inv h.parse
  refine ⟨by rw [h.evs], by simp [h.calls], by simp [h.opn], by simp [h.ops], hp, fun i o hi => ?_⟩
  rcases Nat.lt_or_ge i os.length with hlt | hge
  · rw [List.getElem?_append_left hlt] at hi
    obtain ⟨h1, h2, h3, h4⟩ := h.at_ i o hi
    have hc := hinv.call o (List.mem_of_getElem? hi)
    have := h.ops
    refine ⟨h1, h2, ?_, ?_⟩
    · rw [List.getElem?_append_left (by rw [h.calls]; omega), List.getElem?_append_left (by omega)]; exact h3
    · rw [List.getElem?_append_left (by rw [h.opn]; omega)]; exact h4
  · rw [List.getElem?_append_right hge] at hi
    have h0 : i - os.length = 0 := by
      rcases Nat.eq_zero_or_pos (i - os.length) with h0 | h0
      · exact h0
      · rw [List.getElem?_eq_none (by simp; omega)] at hi; cases hi
    rw [h0] at hi
    simp at hi
    subst hi
    have := h.ops
    refine ⟨by simp [Opr.of, hop]; omega, Int.le_refl _, ?_, ?_⟩
    · rw [List.getElem?_append_right (by rw [h.calls]; omega)]
      rw [show i - r.calls.length = 0 by rw [h.calls]; omega]
      simp [Opr.of]
    · rw [List.getElem?_append_right (by rw [h.opn]; omega)]
      rw [show i - r.opn.length = 0 by rw [h.opn]; omega]
      simp [Opr.of]

/-- a cut -/
theorem rinv_cut {r : Rcd} {l : List Ev} {n : Nat} {os : List Opr} {era : Int} (h : RInv r l n os era) : RInv (recCut r) (l ++ [Ev.cut]) n os (era + 1) := by
  have hinv := parseS_inv h.parse
  refine ⟨by simp [recCut, h.evs], by simp [recCut, h.calls], by simp [recCut, h.opn], h.ops, parseS_cut h.parse, fun i o hi => ?_⟩
  obtain ⟨h1, h2, h3, h4⟩ := h.at_ i o hi
  have hc := hinv.call o (List.mem_of_getElem? hi)
  refine ⟨h1, by omega, ?_, ?_⟩
  · rw [List.getElem?_append_left (by omega)]; exact h3
  · have hne : (o.era == era + 1) = false := by simp; omega
    simp only [recCut]
    rw [List.getElem?_map, h4, hne]
    simp

/-- an answer -/
theorem rinv_done {r : Rcd} {l : List Ev} {n : Nat} {os : List Opr} {era : Int} (h : RInv r l n os era) {i : Nat} {o : Opr} (hi : os[i]? = some o) (hd : o.done < 0) (he : o.era = era) (val : Int) :
    RInv ⟨r.evs ++ [doneEv (callOf o) val], r.calls, r.opn.set i false⟩ (l ++ [doneEv (callOf o) val]) n (os.map (Opr.fin (doneEv (callOf o) val) l.length)) era := by
  have hid := (h.at_ i o hi).1
  have hf := h.some_ hi
  have hinv := parseS_inv h.parse
  have hp := parseS_done h.parse (e := doneEv (callOf o) val) (o := o) (by show findO os o.id = some o; rw [hid]; exact hf) hd he rfl rfl rfl rfl (by
    unfold doneEv callOf
    simp only
    cases o.write <;> cases o.barrier <;> simp)
  refine ⟨by simp [h.evs], h.calls, by simp [h.opn], by simp [h.ops], hp, fun j o' hj => ?_⟩
  rw [List.getElem?_map] at hj
  rcases hj0 : os[j]? with _ | p
  · rw [hj0] at hj; cases hj
  · rw [hj0] at hj
    simp at hj
    subst hj
    obtain ⟨h1, h2, h3, h4⟩ := h.at_ j p hj0
    have hc := hinv.call p (List.mem_of_getElem? hj0)
    have hera : (Opr.fin (doneEv (callOf o) val) l.length p).era = p.era := by unfold Opr.fin; split <;> rfl
    refine ⟨by rw [fin_id]; exact h1, by rw [hera]; exact h2, ?_, ?_⟩
    · rw [fin_call, List.getElem?_append_left (by omega)]; exact h3
    · rw [hera]
      by_cases hij : i = j
      · subst hij
        rw [hi] at hj0
        cases hj0
        rw [List.getElem?_set_self (by rw [h.opn, ← h.ops]; exact (List.getElem?_eq_some_iff.1 hi).1)]
        have : (Opr.fin (doneEv (callOf o) val) l.length o).done = l.length := by unfold Opr.fin; rw [if_pos (show o.id = (doneEv (callOf o) val).op from rfl)]
        rw [this]
        have h0 : decide ((l.length : Int) < 0) = false := by simp
        rw [h0]
        rfl
      · rw [List.getElem?_set_ne hij, h4]
        have : (Opr.fin (doneEv (callOf o) val) l.length p).done = p.done := by
          unfold Opr.fin
          rw [if_neg]
          show ¬ p.id = o.id
          omega
        rw [this]

/-- the recorder's answer is the specification's -/
theorem rec_law {r : Rcd} {l : List Ev} {n : Nat} {os : List Opr} {era : Int} (h : RInv r l n os era) (a : ActH) :
    (actN r a n).1 = (refAct (l, n) a).2 ∧ ∃ os' era', RInv (actN r a n).2 (refAct (l, n) a).1.1 (refAct (l, n) a).1.2 os' era' := by
  unfold actN refAct
  by_cases h7 : a.kind % 8 = 7
  · rw [if_pos h7, if_pos h7]
    exact ⟨rfl, os, era + 1, rinv_cut h⟩
  · rw [if_neg h7, if_neg h7]
    by_cases h4 : a.kind % 8 < 4
    · rw [if_pos h4, if_pos h4]
      have hc := callOk_act a n
      unfold recCallN
      by_cases hb : (actEv a n).reg < 0 ∨ (actEv a n).val < 0
      · rw [if_pos hb]
        have : callOk (actEv a n) = false := by rw [hc]; exact decide_eq_false (fun h => h hb)
        simp only [this]
        exact ⟨rfl, os, era, h⟩
      · rw [if_neg hb]
        have hok : callOk (actEv a n) = true := by rw [hc]; exact decide_eq_true hb
        simp only [hok, if_true]
        obtain ⟨h1, h2⟩ := actEv_is a n
        have hre : recEv r (actEv a n) = actEv a n := by
          unfold recEv
          rw [h.calls, ← h1, ← h2]
        have hr := rinv_call h h1 h2 hok
        refine ⟨by rw [h.calls], os ++ [Opr.of (actEv a n) era l.length], era, ?_⟩
        unfold recCall
        rw [hre]
        exact hr
    · rw [if_neg h4, if_neg h4]
      simp only
      generalize actOp a n = op
      have hO := h.oinv
      by_cases ho : op < 0 ∨ (n : Int) ≤ op
      · have h1 := (hO.no op).1 (h.none ho)
        unfold recDone refDone
        rw [if_pos (by rw [h.calls]; exact ho), if_pos h1]
        exact ⟨rfl, os, era, by simpa using h⟩
      · obtain ⟨i, rfl⟩ : ∃ i : Nat, op = i := ⟨op.toNat, by omega⟩
        have hin : i < os.length := by rw [h.ops]; omega
        have hi : os[i]? = some os[i] := List.getElem?_eq_getElem hin
        generalize os[i] = o at hi
        obtain ⟨h1, h2, h3, h4'⟩ := h.at_ i o hi
        obtain ⟨-, g1, g2, c, g3, g4, g5⟩ := hO.op (i : Int) o (h.some_ hi)
        have hcut : cutE l c l.length = true ↔ o.era ≠ era := by
          rw [cutE_iff (by omega), ← g5]
          have := hO.era
          simp only at this
          rw [this]
        unfold recDone refDone
        rw [if_neg (by rw [h.calls]; exact ho), if_neg (by omega), ← g2, ← g1, g3, Int.toNat_natCast, Int.toNat_natCast]
        by_cases hop : o.done < 0 ∧ o.era = era
        · have hcf : ¬ (0 ≤ o.done ∨ cutE l c l.length = true) := by
            rw [hcut]
            omega
          rw [if_neg hcf]
          have hcall := pcall_to (Nat.le_refl _) h.parse o (List.mem_of_getElem? hi) hop.1
          rw [g3, Int.toNat_natCast] at hcall
          rw [g3, Int.toNat_natCast, hcall] at h3
          rw [h4', h3, hcall]
          have hb : (decide (o.done < 0) && o.era == era) = true := by simp [hop.1, hop.2]
          rw [hb]
          exact ⟨rfl, _, _, rinv_done h hi hop.1 hop.2 a.val⟩
        · have hcf : 0 ≤ o.done ∨ cutE l c l.length = true := by
            rw [hcut]
            omega
          rw [if_pos hcf, h4']
          have hb : (decide (o.done < 0) && o.era == era) = false := by
            cases hd : decide (o.done < 0)
            · rfl
            · have : ¬ o.era = era := fun he => hop ⟨by simpa using hd, he⟩
              simp [this]
          rw [hb]
          exact ⟨rfl, os, era, by simpa using h⟩
end Go.Proofs.Ytcgbnlhloopnfaa
