/- Walks of durable: the closure of judge, judge. -/
import Derived.Test.YtcgbnlhloopnfaaDurD
import Derived.Test.YtcgbnlhloopnfaaGMem
import Derived.RegionTactic
import Derived.BigRegion
namespace Go.Proofs.Ytcgbnlhloopnfaa
open Go.RowKit

def srcV (b off : Nat) : Option (Nat × Opr) → Value
  | none => .pointer none
  | some (i, _) => .pointer (some ⟨b, off + i * 8, none⟩)
def hidS : Option (Nat × Opr) → Opr → Bool
  | none, _ => true
  | some (_, s), o => precB s o || decide (s.era < o.era)
theorem hides_eq (os : List Opr) (so : Option (Nat × Opr)) (ro o : Opr) : hides os (so.map (·.2)) ro o = (o.write && o.reg == ro.reg && hidS so o && finB os o ro) := by
  rcases so with _ | ⟨i, s⟩ <;> rfl
theorem newBox {w : World} {cs : Array Value} {t : TypeId} {W : World} (hb : Below (w.alloc (.cells cs t)).heap.size (w.alloc (.cells cs t)) W) : W.heap[w.heap.size]? = some (.cells cs t) :=
  (hb.block w.heap.size (by simp)).trans (heap_alloc_new w _)

set_option maxHeartbeats 2000000 in
set_option maxRecDepth 100000 in
theorem judge1_any {tb b off c wb n sb m : Nat} {os : List Opr} {fw : Lit → Option (Nat × Nat)} {fs : Lit → Bool} (o ro : Opr) (so : Option (Nat × Opr)) (xs xr xt : Nat) (w : World) (h : TrW w tb b off c os wb fw n sb fs m)
    (hid : (Lit.int .i64 o.id).wf = true) (hso : ∀ i s, so = some (i, s) → os[i]? = some s) (hfs : o.write = true → fs (.int .i64 o.id) = certB os o)
    (hxs : w.heap[xs]? = some (.cells #[srcV b off so] 64)) (hxr : w.heap[xr]? = some (.cells ro.cells.toArray 39)) (hxt : w.heap[xt]? = some (.cells #[.pointer (some ⟨tb, 0, none⟩)] 102)) :
    Calls Try.prog 82 #[o.agg, .pointer (some ⟨xs, 0, none⟩), .pointer (some ⟨xr, 0, none⟩), .pointer (some ⟨xt, 0, none⟩)] w fun r w' => r = .returned (.bool (hides os (so.map (·.2)) ro o)) ∧ Below w.heap.size w w' := by
  have hxsl := heapLt hxs
  have hxrl := heapLt hxr
  have hxtl := heapLt hxt
  have HF := Lib.hid (fun w h => final_any (tb := tb) (b := b) (off := off) (c := c) (wb := wb) (n := n) (sb := sb) (m := m) (os := os) (fw := fw) (fs := fs) o ro w h hid)
  have HV := Lib.hid (hides_eq os so ro o)
  have HFS : Hid (o.write = true → finV fs o ro = finB os o ro) := fun hw => by unfold finV finB; rw [hfs hw]
  have HTR := Lib.hid h
  have HXR := Lib.hid hxr
  have HXT := Lib.hid hxt
  have HXS := Lib.hid hxs
  have HSO := Lib.hid hso
  clear h hxs hxr hxt hfs hid hso
  have HPR := Lib.hid (fun s w => dprecedes_any s o w)
  obtain ⟨oid, oreg, oval, owr, oba, oera, oca, odo⟩ := o
  obtain ⟨rid, rreg, rval, rwr, rba, rera, rca, rdo⟩ := ro
  generalize hides os (so.map (·.2)) ⟨rid, rreg, rval, rwr, rba, rera, rca, rdo⟩ ⟨oid, oreg, oval, owr, oba, oera, oca, odo⟩ = res at *
  generalize finV fs ⟨oid, oreg, oval, owr, oba, oera, oca, odo⟩ ⟨rid, rreg, rval, rwr, rba, rera, rca, rdo⟩ = fv at *
  generalize finB os ⟨oid, oreg, oval, owr, oba, oera, oca, odo⟩ ⟨rid, rreg, rval, rwr, rba, rera, rca, rdo⟩ = fb at *
  unfold Opr.agg at HF HPR ⊢
  simp only at HF HPR HV HFS ⊢
  rcases so with _ | ⟨i, s⟩
  · have s0 : w.cell? ⟨xs, 0, none⟩ = some (.pointer none) := by rw [cell_of_row _ _ _ _ _ _ HXS.out]; rfl
    have HR : Hid (res = (owr && oreg == rreg && true && fb)) := HV.out
    clear HXS HSO HV
    go_enter Try.func82, Try.ntmps82
    go_wp2_with fail
    go_quiet (fail)
    generalize hW : (w.alloc _).drewN nq = W
    have hB : Below w.heap.size w W := by rw [← hW]; exact below_drewN ((Below.refl _ _).alloc (Nat.le_refl _) _) _
    have hnb : W.heap[w.heap.size]? = some (.cells (Opr.cells ⟨oid, oreg, oval, owr, oba, oera, oca, odo⟩).toArray 39) := by rw [← hW]; exact heap_alloc_new w _
    clear hW
    obtain ⟨q0, q1, q2, q3, q4, q5, q6, q7⟩ := boxO hnb
    obtain ⟨r0, r1, r2, r3, r4, r5, r6, r7⟩ := boxO (heapBelow HXR.out hB)
    simp only at q0 q1 q2 q3 q4 q5 q6 q7 r0 r1 r2 r3 r4 r5 r6 r7
    have t0 : W.cell? ⟨xt, 0, none⟩ = some (.pointer (some ⟨tb, 0, none⟩)) := by rw [cell_of_row _ _ _ _ _ _ (heapBelow HXT.out hB)]; rfl
    cases owr
    · go_wp2_with fail
      go_ret
      exact ⟨ret_bool (by rw [HR.out]; rfl), hB⟩
    by_cases hreg : oreg = rreg
    · subst hreg
      have HFC := HF.out _ (HTR.out.below hB)
      rw [HFS.out rfl] at HFC
      go_wp2_with fail
      refine HFC.mono ?_
      rintro r w3 ⟨rfl, hb3⟩
      cases fb
      · go_wp2
        go_ret
        exact ⟨ret_bool (by rw [HR.out]; simp), hB.trans (hb3.mono hB.size)⟩
      · go_wp2
        go_ret
        exact ⟨ret_bool (by rw [HR.out]; simp), hB.trans (hb3.mono hB.size)⟩
    · have hreg' : (oreg == rreg) = false := by simp [hreg]
      clear hreg
      go_wp2_with fail
      go_ret
      exact ⟨ret_bool (by rw [HR.out, hreg']; simp), hB⟩
  · have s0 : w.cell? ⟨xs, 0, none⟩ = some (.pointer (some ⟨b, off + i * 8, none⟩)) := by rw [cell_of_row _ _ _ _ _ _ HXS.out]; rfl
    obtain ⟨sid, sreg, sval, swr, sba, sera, sca, sdo⟩ := s
    have hi := HSO.out i _ rfl
    obtain ⟨b', off', s', hA, hbl, hi', p0, p1, p2, p3, p4, p5, p6, p7⟩ := OpS.at_ (HTR.out.ops) (List.getElem?_eq_some_iff.1 hi).1
    cases hA
    rw [hi] at hi'
    cases hi'
    simp only at p0 p1 p2 p3 p4 p5 p6 p7
    have HR : Hid (res = (owr && oreg == rreg && (precB ⟨sid, sreg, sval, swr, sba, sera, sca, sdo⟩ ⟨oid, oreg, oval, owr, oba, oera, oca, odo⟩ || decide (sera < oera)) && fb)) := HV.out
    have HP := Lib.hid (HPR.out ⟨sid, sreg, sval, swr, sba, sera, sca, sdo⟩)
    simp only at HP
    generalize precB ⟨sid, sreg, sval, swr, sba, sera, sca, sdo⟩ ⟨oid, oreg, oval, owr, oba, oera, oca, odo⟩ = pb at *
    clear HXS HSO HV HPR hi
    obtain ⟨W1, hW1⟩ : ∃ W1, W1 = w.alloc (.cells #[.int .i64 oid, .int .i64 oreg, .int .i64 oval, .bool owr, .bool oba, .int .i64 oera, .int .i64 oca, .int .i64 odo] 39) := ⟨_, rfl⟩
    have hB1 : Below w.heap.size w W1 := by rw [hW1]; exact (Below.refl _ _).alloc (Nat.le_refl _) _
    have hnb1 : W1.heap[w.heap.size]? = some (.cells (Opr.cells ⟨oid, oreg, oval, owr, oba, oera, oca, odo⟩).toArray 39) := by rw [hW1]; exact heap_alloc_new w _
    obtain ⟨q0, q1, q2, q3, q4, q5, q6, q7⟩ := boxO hnb1
    simp only at q0 q1 q2 q3 q4 q5 q6 q7
    have R := fun {a : Addr} {v : Value} (h : w.cell? a = some v) (d : Nat) (os : Array Obj) => cell_regrown (w := W1) (a := a) (v := v) ((hB1.cell (block_lt_of_cell h)).trans h) d os
    have s0' := R s0
    have p0' := R p0
    have p1' := R p1
    have p2' := R p2
    have p3' := R p3
    have p4' := R p4
    have p5' := R p5
    have p6' := R p6
    have p7' := R p7
    have q0' := cell_regrown q0
    have q1' := cell_regrown q1
    have q2' := cell_regrown q2
    have q3' := cell_regrown q3
    have q4' := cell_regrown q4
    have q5' := cell_regrown q5
    have q6' := cell_regrown q6
    have q7' := cell_regrown q7
    clear R p0 p1 p2 p3 p4 p5 p6 p7 q0 q1 q2 q3 q4 q5 q6 q7 s0
    have HW1 := Lib.hid hW1
    go_enter Try.func82, Try.ntmps82
    go_wp2_with fail
    rw [← HW1.out]
    clear hW1
    cases pb
    · by_cases hera : sera < oera
      · have HR2 : Hid (res = (owr && oreg == rreg && true && fb)) := by unfold Hid; rw [HR.out]; simp [hera]
        clear HR
        have HR := HR2
        clear HR2
        refine quiet_below (by kernel_rfl) (by kernel_rfl) ?_
        repeat (quiet_step (exact Calls.regrown_of (HP.out _)))
        refine wpQuiet_nil ?_
        intro W hBx
        have hB : Below w.heap.size w W := hB1.trans (hBx.mono hB1.size)
        have hnb := heapBelow hnb1 hBx
        clear hBx s0' p0' p1' p2' p3' p4' p5' p6' p7' q0' q1' q2' q3' q4' q5' q6' q7'
        obtain ⟨q0, q1, q2, q3, q4, q5, q6, q7⟩ := boxO hnb
        obtain ⟨r0, r1, r2, r3, r4, r5, r6, r7⟩ := boxO (heapBelow HXR.out hB)
        simp only at q0 q1 q2 q3 q4 q5 q6 q7 r0 r1 r2 r3 r4 r5 r6 r7
        have t0 : W.cell? ⟨xt, 0, none⟩ = some (.pointer (some ⟨tb, 0, none⟩)) := by rw [cell_of_row _ _ _ _ _ _ (heapBelow HXT.out hB)]; rfl
        cases owr
        · go_wp2_with fail
          go_ret
          exact ⟨ret_bool (by rw [HR.out]; rfl), hB⟩
        by_cases hreg : oreg = rreg
        · subst hreg
          have HFC := HF.out _ (HTR.out.below hB)
          rw [HFS.out rfl] at HFC
          go_wp2_with fail
          refine HFC.mono ?_
          rintro r w3 ⟨rfl, hb3⟩
          cases fb
          · go_wp2
            go_ret
            exact ⟨ret_bool (by rw [HR.out]; simp), hB.trans (hb3.mono hB.size)⟩
          · go_wp2
            go_ret
            exact ⟨ret_bool (by rw [HR.out]; simp), hB.trans (hb3.mono hB.size)⟩
        · have hreg' : (oreg == rreg) = false := by simp [hreg]
          clear hreg
          go_wp2_with fail
          go_ret
          exact ⟨ret_bool (by rw [HR.out, hreg']; simp), hB⟩
      · have hera' : decide (sera < oera) = false := by simpa using hera
        have HR2 : Hid (res = (owr && oreg == rreg && false && fb)) := by unfold Hid; rw [HR.out, hera']; rfl
        clear HR
        have HR := HR2
        clear HR2
        refine quiet_below (by kernel_rfl) (by kernel_rfl) ?_
        repeat (quiet_step (exact Calls.regrown_of (HP.out _)))
        refine wpQuiet_nil ?_
        intro W hBx
        have hB : Below w.heap.size w W := hB1.trans (hBx.mono hB1.size)
        have hnb := heapBelow hnb1 hBx
        clear hBx s0' p0' p1' p2' p3' p4' p5' p6' p7' q0' q1' q2' q3' q4' q5' q6' q7'
        obtain ⟨q0, q1, q2, q3, q4, q5, q6, q7⟩ := boxO hnb
        obtain ⟨r0, r1, r2, r3, r4, r5, r6, r7⟩ := boxO (heapBelow HXR.out hB)
        simp only at q0 q1 q2 q3 q4 q5 q6 q7 r0 r1 r2 r3 r4 r5 r6 r7
        go_wp2_with fail
        all_goals
          go_ret
          exact ⟨ret_bool (by rw [HR.out]; simp), hB⟩
    · have HR2 : Hid (res = (owr && oreg == rreg && true && fb)) := by unfold Hid; rw [HR.out]; simp
      clear HR
      have HR := HR2
      clear HR2
      refine quiet_below (by kernel_rfl) (by kernel_rfl) ?_
      repeat (quiet_step (exact Calls.regrown_of (HP.out _)))
      refine wpQuiet_nil ?_
      intro W hBx
      have hB : Below w.heap.size w W := hB1.trans (hBx.mono hB1.size)
      have hnb := heapBelow hnb1 hBx
      clear hBx s0' p0' p1' p2' p3' p4' p5' p6' p7' q0' q1' q2' q3' q4' q5' q6' q7'
      obtain ⟨q0, q1, q2, q3, q4, q5, q6, q7⟩ := boxO hnb
      obtain ⟨r0, r1, r2, r3, r4, r5, r6, r7⟩ := boxO (heapBelow HXR.out hB)
      simp only at q0 q1 q2 q3 q4 q5 q6 q7 r0 r1 r2 r3 r4 r5 r6 r7
      have t0 : W.cell? ⟨xt, 0, none⟩ = some (.pointer (some ⟨tb, 0, none⟩)) := by rw [cell_of_row _ _ _ _ _ _ (heapBelow HXT.out hB)]; rfl
      cases owr
      · go_wp2_with fail
        go_ret
        exact ⟨ret_bool (by rw [HR.out]; rfl), hB⟩
      by_cases hreg : oreg = rreg
      · subst hreg
        have HFC := HF.out _ (HTR.out.below hB)
        rw [HFS.out rfl] at HFC
        go_wp2_with fail
        refine HFC.mono ?_
        rintro r w3 ⟨rfl, hb3⟩
        cases fb
        · go_wp2
          go_ret
          exact ⟨ret_bool (by rw [HR.out]; simp), hB.trans (hb3.mono hB.size)⟩
        · go_wp2
          go_ret
          exact ⟨ret_bool (by rw [HR.out]; simp), hB.trans (hb3.mono hB.size)⟩
      · have hreg' : (oreg == rreg) = false := by simp [hreg]
        clear hreg
        go_wp2_with fail
        go_ret
        exact ⟨ret_bool (by rw [HR.out, hreg']; simp), hB⟩
end Go.Proofs.Ytcgbnlhloopnfaa
