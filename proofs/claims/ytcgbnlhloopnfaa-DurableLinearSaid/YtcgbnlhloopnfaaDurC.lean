/- Walks of durable: the second closure of certain, final, certain. -/
import Derived.Test.YtcgbnlhloopnfaaDurB
namespace Go.Proofs.Ytcgbnlhloopnfaa
open Go.RowKit

def SrcOk (fw : Lit → Option (Nat × Nat)) (b off : Nat) (os : List Opr) : Prop :=
  ∀ r v : Int, (Lit.int .i64 r).wf = true → (Lit.int .i64 v).wf = true → fw (vKey r v) = (srcO os r v).map fun i => (b, off + i * 8)
theorem find_of_idx {α : Type} {p : α → Bool} : ∀ {l : List α}, l.find? p = (l.findIdx? p).bind fun i => l[i]?
  | [] => rfl
  | x :: l => by
    rw [List.find?_cons, List.findIdx?_cons]
    cases hp : p x
    · simp only [Bool.false_eq_true, if_false]
      rw [find_of_idx (l := l)]
      cases l.findIdx? p <;> simp
    · simp
/-- the source of a read: none, or an operation with its address -/
theorem src_cases {fw : Lit → Option (Nat × Nat)} {b off : Nat} {os : List Opr} (h : SrcOk fw b off os) (o : Opr) (hr : (Lit.int .i64 o.reg).wf = true) (hv : (Lit.int .i64 o.val).wf = true) :
    (fw (vKey o.reg o.val) = none ∧ srcOp os o = none) ∨ ∃ i s, fw (vKey o.reg o.val) = some (b, off + i * 8) ∧ os[i]? = some s ∧ srcOp os o = some s := by
  have h1 := h o.reg o.val hr hv
  unfold srcO at h1
  unfold srcOp
  rw [find_of_idx]
  rcases hi : List.findIdx? (isSrc o.reg o.val) os with _ | i
  · rw [hi] at h1
    exact .inl ⟨h1, rfl⟩
  · rw [hi] at h1
    have hlt := (List.findIdx?_eq_some_iff_getElem.1 hi).1
    exact .inr ⟨i, os[i], h1, List.getElem?_eq_getElem hlt, by simp [hlt]⟩

def aggO (a b c : Int) (d e : Bool) (f g h : Int) : Value := .agg #[.int .i64 a, .int .i64 b, .int .i64 c, .bool d, .bool e, .int .i64 f, .int .i64 g, .int .i64 h]

set_option maxHeartbeats 2000000 in
set_option maxRecDepth 100000 in
theorem cert2_any {tb b off c wb n sb m : Nat} {os : List Opr} {fw : Lit → Option (Nat × Nat)} {fs : Lit → Bool} (o wo : Opr) (xt xw : Nat) (w : World) (h : TrW w tb b off c os wb fw n sb fs m) (hsrc : SrcOk fw b off os)
    (hr : (Lit.int .i64 o.reg).wf = true) (hv : (Lit.int .i64 o.val).wf = true)
    (hxt : w.heap[xt]? = some (.cells #[.pointer (some ⟨tb, 0, none⟩)] 102)) (hxw : w.heap[xw]? = some (.cells wo.cells.toArray 39)) :
    Calls Try.prog 104 #[o.agg, .pointer (some ⟨xt, 0, none⟩), .pointer (some ⟨xw, 0, none⟩)] w fun r w' => r = .returned (.bool (rule2 os wo o)) ∧ Below w.heap.size w w' := by
  have hxtl := heapLt hxt
  have hxwl := heapLt hxw
  have HA := Lib.hid (fun w => answered_any o w)
  have HS := Lib.hid (fun w h => source_any (tb := tb) (b := b) (off := off) (c := c) (wb := wb) (n := n) (sb := sb) (m := m) (os := os) (fw := fw) (fs := fs) o w h hr hv)
  have HV : Hid (rule2 os wo o = if ansB o then match srcOp os o with
    | none => false
    | some s => s.era == wo.era && decide (s.era < o.era) && (s.id == wo.id || precB wo s)
    else false) := rfl
  have HC := Lib.hid (src_cases hsrc o hr hv)
  have HPR := Lib.hid (fun s w => dprecedes_any wo s w)
  have HW := Lib.hid (fun (W : World) (hb : Below w.heap.size w W) => boxO (heapBelow hxw hb))
  have hxt' : ∀ W : World, Below w.heap.size w W → W.cell? ⟨xt, 0, none⟩ = some (.pointer (some ⟨tb, 0, none⟩)) := fun W hb => by rw [cell_of_row _ _ _ _ _ _ (heapBelow hxt hb)]; rfl
  have HT := Lib.hid hxt'
  have HTR := Lib.hid h
  clear hxt hxw hxt' h hsrc hr hv
  obtain ⟨oid, oreg, oval, owr, oba, oera, oca, odo⟩ := o
  simp only at HV HC HS
  generalize hres : rule2 os wo ⟨oid, oreg, oval, owr, oba, oera, oca, odo⟩ = res at *
  generalize hab : ansB ⟨oid, oreg, oval, owr, oba, oera, oca, odo⟩ = ab at *
  clear hres hab
  unfold Opr.agg at HA HS ⊢
  simp only at HA HS ⊢
  have hbb0 : Below w.heap.size w (w.alloc (.cells #[.int .i64 oid, .int .i64 oreg, .int .i64 oval, .bool owr, .bool oba, .int .i64 oera, .int .i64 oca, .int .i64 odo] 39)) := (Below.refl _ _).alloc (Nat.le_refl _) _
  cases ab
  · go_enter Try.func104, Try.ntmps104
    go_wp2_with fail
    refine (HA.out _).mono ?_
    rintro r w1 ⟨rfl, hb1⟩
    go_wp2_with fail
    go_ret
    exact ⟨ret_bool (by rw [HV.out]; rfl), hbb0.trans (hb1.mono (by simp))⟩
  · rw [if_pos rfl] at HV
    go_enter Try.func104, Try.ntmps104
    go_wp2_with fail
    refine (HA.out _).mono ?_
    rintro r w1 ⟨rfl, hb1⟩
    have hB1 : Below w.heap.size w w1 := hbb0.trans (hb1.mono (by simp))
    have ob1 := boxO (o := ⟨oid, oreg, oval, owr, oba, oera, oca, odo⟩) ((hb1.block w.heap.size (by simp)).trans (heap_alloc_new w _))
    obtain ⟨o0, o1, o2, o3, o4, o5, o6, o7⟩ := ob1
    simp only at o0 o1 o2 o3 o4 o5 o6 o7
    have t0 := HT.out w1 hB1
    go_wp2_with fail
    refine (HS.out _ (HTR.out.below hB1)).mono ?_
    rintro r w2 ⟨rfl, hb2⟩
    have hz1 := hB1.size
    have hB2 : Below w.heap.size w w2 := hB1.trans (hb2.mono hz1)
    have hs1 : w.heap.size < w1.heap.size := by have := hb1.size; simp at this; omega
    obtain ⟨x0, x1, x2, x3, x4, x5, x6, x7⟩ := HW.out w2 hB2
    have ob2 := boxO (o := ⟨oid, oreg, oval, owr, oba, oera, oca, odo⟩) ((hb2.block w.heap.size hs1).trans ((hb1.block w.heap.size (by simp)).trans (heap_alloc_new w _)))
    clear o0 o1 o2 o3 o4 o5 o6 o7 t0
    obtain ⟨o0, o1, o2, o3, o4, o5, o6, o7⟩ := ob2
    simp only at o0 o1 o2 o3 o4 o5 o6 o7
    have hs2 : w.heap.size < w2.heap.size := Nat.lt_of_lt_of_le hs1 hb2.size
    rcases HC.out with ⟨hc1, hc2⟩ | ⟨i, s, hc1, hi, hc2⟩
    · rw [hc1]
      have HR : Hid (res = false) := by unfold Hid; rw [HV.out, hc2]
      clear hc1 hc2
      simp only [ptrV]
      go_wp2_with fail
      go_quiet (fail)
      go_wp2
      go_ret
      exact ⟨ret_bool HR.out.symm, below_drewN hB2 _⟩
    · rw [hc1]
      obtain ⟨sid, sreg, sval, swr, sba, sera, sca, sdo⟩ := s
      obtain ⟨b', off', s', hA, hbl, hi', s0, s1, s2, s3, s4, s5, s6, s7⟩ := OpS.at_ ((HTR.out.below hB2).ops) (List.getElem?_eq_some_iff.1 hi).1
      cases hA
      rw [hi] at hi'
      cases hi'
      simp only at s0 s1 s2 s3 s4 s5 s6 s7
      have HR : Hid (res = (sera == wo.era && decide (sera < oera) && (sid == wo.id || precB wo ⟨sid, sreg, sval, swr, sba, sera, sca, sdo⟩))) := by unfold Hid; rw [HV.out, hc2]
      have HP := Lib.hid (HPR.out ⟨sid, sreg, sval, swr, sba, sera, sca, sdo⟩)
      clear hc1 hc2 hi HC HS HA HPR HV HW HTR HT
      obtain ⟨wid, wreg, wval, wwr, wba, wera, wca, wdo⟩ := wo
      simp only at HR x0 x1 x2 x3 x4 x5 x6 x7
      unfold Opr.agg at HP
      simp only at HP
      generalize precB ⟨wid, wreg, wval, wwr, wba, wera, wca, wdo⟩ ⟨sid, sreg, sval, swr, sba, sera, sca, sdo⟩ = pb at *
      simp only [ptrV]
      have hxw2 : xw < w2.heap.size := by omega
      by_cases h1 : sera = wera
      · subst h1
        by_cases h2 : sera < oera
        · by_cases h3 : sid = wid
          · subst h3
            have HR2 : Hid (res = true) := by unfold Hid; rw [HR.out]; simp [h2]
            go_wp2_with fail
            go_quiet (fail)
            go_wp2
            go_ret
            exact ⟨ret_bool HR2.out.symm, below_drewN hB2 _⟩
          · have h3' : (sid == wid) = false := by simp [h3]
            have HR2 : Hid (res = pb) := by unfold Hid; rw [HR.out]; simp [h2, h3']
            clear h3
            go_wp2_with fail
            refine still_tail_drew 33 (by kernel_rfl) (by kernel_rfl) ?_
            simp only [List.take_succ_cons, List.take_zero, List.drop_succ_cons, List.drop_zero]
            repeat still_step
            refine wpStill_nil ?_
            go_wp2_with fail
            refine (HP.out _).mono ?_
            rintro r w3 ⟨rfl, hb3⟩
            have hB3 : Below w.heap.size w w3 := hB2.trans ((show Below w2.heap.size w2 w3 from ⟨hb3.os, hb3.tape, hb3.output, hb3.size, hb3.block⟩).mono hB2.size)
            go_wp2
            go_ret
            exact ⟨ret_bool HR2.out.symm, hB3⟩
        · have h2' : decide (sera < oera) = false := by simpa using h2
          have HR2 : Hid (res = false) := by unfold Hid; rw [HR.out, h2']; simp
          go_wp2_with fail
          go_quiet (fail)
          go_wp2
          go_ret
          exact ⟨ret_bool HR2.out.symm, below_drewN hB2 _⟩
      · have h1' : (sera == wera) = false := by simp [h1]
        have HR2 : Hid (res = false) := by unfold Hid; rw [HR.out, h1']; simp
        clear h1
        go_wp2_with fail
        go_quiet (fail)
        go_wp2
        go_ret
        exact ⟨ret_bool HR2.out.symm, below_drewN hB2 _⟩
end Go.Proofs.Ytcgbnlhloopnfaa
