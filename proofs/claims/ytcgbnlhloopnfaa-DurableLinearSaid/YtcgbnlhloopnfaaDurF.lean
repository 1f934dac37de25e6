/- Walk of durable: judge. -/
import Derived.Test.YtcgbnlhloopnfaaDurE
import Derived.Laws.ResultCell
namespace Go.Proofs.Ytcgbnlhloopnfaa
open Go.RowKit

def Flt.agg (f : Flt) : Value := .agg #[.int .i64 f.kind, .int .i64 f.read, .int .i64 f.by_]
def judgeV : Option Flt → Value
  | some f => .tuple #[f.agg, .bool true]
  | none => .tuple #[Flt.agg ⟨0, 0, 0⟩, .bool false]

theorem three_boxes {w W : World} {a b c : Obj} (hb : Below (((w.alloc a).alloc b).alloc c).heap.size (((w.alloc a).alloc b).alloc c) W) :
    W.heap[w.heap.size]? = some a ∧ W.heap[w.heap.size + 1]? = some b ∧ W.heap[w.heap.size + 1 + 1]? = some c ∧ w.heap.size + 1 + 1 < W.heap.size ∧ Below w.heap.size w W := by
  have hz := hb.size
  simp only [World.size_alloc] at hz
  refine ⟨?_, ?_, ?_, by omega, ((below_two _ _ _).alloc (by simp; omega) _).trans (hb.mono (by simp; omega))⟩
  · rw [hb.block _ (by simp; omega), Below.heap_alloc _ _ _ (by simp; omega), heap_alloc2_old]
  · rw [hb.block _ (by simp), Below.heap_alloc _ _ _ (by simp), heap_alloc2_new]
  · rw [hb.block _ (by simp)]
    have := heap_alloc_new ((w.alloc a).alloc b) c
    simpa using this
theorem fltCells {w : World} {x : Nat} (h : w.heap[x]? = some (.cells #[.int .i64 0, .int .i64 0, .int .i64 0] 85)) :
    w.cell? ⟨x, 0, none⟩ = some (.int .i64 0) ∧ w.cell? ⟨x, 1, none⟩ = some (.int .i64 0) ∧ w.cell? ⟨x, 2, none⟩ = some (.int .i64 0) ∧ w.frozen? ⟨x, 0, none⟩ = false ∧ w.frozen? ⟨x, 1, none⟩ = false ∧ w.frozen? ⟨x, 2, none⟩ = false := by
  refine ⟨?_, ?_, ?_, frozen_of_row _ _ _ _ _ h, frozen_of_row _ _ _ _ _ h, frozen_of_row _ _ _ _ _ h⟩ <;> rw [cell_of_row _ _ _ _ _ _ h] <;> rfl

set_option maxHeartbeats 2000000 in
set_option maxRecDepth 100000 in
theorem judge_inv {tb b off c wb n sb m : Nat} {os : List Opr} {fw : Lit → Option (Nat × Nat)} {fs : Lit → Bool} (ro : Opr) (w : World) (h : TrW w tb b off c os wb fw n sb fs m) (hsrc : SrcOk fw b off os)
    (hr : (Lit.int .i64 ro.reg).wf = true) (hv : (Lit.int .i64 ro.val).wf = true) (hs : srcOp os ro = none) (hval : ro.val ≠ 0) :
    Calls Try.prog 58 #[.pointer (some ⟨tb, 0, none⟩), ro.agg] w fun e w' => e = .returned (.tuple #[Flt.agg ⟨1, ro.id, -1⟩, .bool true]) ∧ Below w.heap.size w w' := by
  have htl : tb < w.heap.size := heapLt h.blk
  have HS := Lib.hid (fun w h => source_any (tb := tb) (b := b) (off := off) (c := c) (wb := wb) (n := n) (sb := sb) (m := m) (os := os) (fw := fw) (fs := fs) ro w h hr hv)
  have HTR := Lib.hid h
  have hfw : fw (vKey ro.reg ro.val) = none := by
    rcases src_cases hsrc ro hr hv with ⟨h1, _⟩ | ⟨i, s, _, _, h3⟩
    · exact h1
    · rw [hs] at h3; cases h3
  rw [hfw] at HS
  simp only [ptrV] at HS
  have hval' : (ro.val != 0) = true := by simpa using hval
  clear h hsrc hr hv hs hfw hval
  obtain ⟨rid, rreg, rval, rwr, rba, rera, rca, rdo⟩ := ro
  simp only at hval' HS ⊢
  unfold Opr.agg at HS ⊢
  simp only at HS ⊢
  go_enter Try.func58, Try.ntmps58
  go_wp2_with fail
  refine (HS.out _ (((HTR.out.alloc _).alloc _).alloc _)).mono ?_
  rintro r w1 ⟨rfl, hb1⟩
  obtain ⟨ht, hbx, hf, hz, hbw⟩ := three_boxes hb1
  clear hb1
  obtain ⟨f0, f1, f2, g0, g1, g2⟩ := fltCells hf
  obtain ⟨r0, r1, r2, r3, r4, r5, r6, r7⟩ := boxO (o := ⟨rid, rreg, rval, rwr, rba, rera, rca, rdo⟩) hbx
  simp only at r0 r1 r2 r3 r4 r5 r6 r7
  have hz1 : w.heap.size + 1 < w1.heap.size := by omega
  have hz0 : w.heap.size < w1.heap.size := by omega
  clear ht hbx hf
  go_wp2_with fail
  refine bodyPost_ret (v := .tuple #[Flt.agg ⟨1, rid, -1⟩, .bool true]) (by simp [results, Try.results58, go_sem, Flt.agg, f0, f1, f2, hz]) rfl ⟨rfl, ?_⟩
  repeat (first
    | exact hbw
    | refine Below.drew ?_
    | refine below_drewN ?_ _
    | refine Below.alloc ?_ (by first | omega | (simp; omega)) _
    | refine Below.setCell ?_ (show w.heap.size ≤ w.heap.size + 1 + 1 by omega) _)
set_option maxHeartbeats 2000000 in
set_option maxRecDepth 100000 in
theorem judge_early {tb b off c wb n sb m : Nat} {os : List Opr} {fw : Lit → Option (Nat × Nat)} {fs : Lit → Bool} (ro : Opr) (w : World) (h : TrW w tb b off c os wb fw n sb fs m) (hsrc : SrcOk fw b off os)
    (hr : (Lit.int .i64 ro.reg).wf = true) (hv : (Lit.int .i64 ro.val).wf = true) (so : Opr) (hs : srcOp os ro = some so) (hval : ro.done < so.call) :
    Calls Try.prog 58 #[.pointer (some ⟨tb, 0, none⟩), ro.agg] w fun e w' => e = .returned (.tuple #[Flt.agg ⟨2, ro.id, so.id⟩, .bool true]) ∧ Below w.heap.size w w' := by
  have htl : tb < w.heap.size := heapLt h.blk
  have HS := Lib.hid (fun w h => source_any (tb := tb) (b := b) (off := off) (c := c) (wb := wb) (n := n) (sb := sb) (m := m) (os := os) (fw := fw) (fs := fs) ro w h hr hv)
  have HTR := Lib.hid h
  obtain ⟨i, s', hfw, hi, hs'⟩ : ∃ i s', fw (vKey ro.reg ro.val) = some (b, off + i * 8) ∧ os[i]? = some s' ∧ srcOp os ro = some s' := by
    rcases src_cases hsrc ro hr hv with ⟨_, h1⟩ | h1
    · rw [hs] at h1; cases h1
    · exact h1
  obtain rfl : so = s' := by rw [hs] at hs'; exact Option.some.inj hs'
  rw [hfw] at HS
  simp only [ptrV] at HS
  have HI := Lib.hid hi
  have hval' := hval
  clear h hsrc hr hv hs hs' hfw hval hi
  obtain ⟨sid, sreg, sval, swr, sba, sera, sca, sdo⟩ := so
  obtain ⟨rid, rreg, rval, rwr, rba, rera, rca, rdo⟩ := ro
  simp only at hval' HS ⊢
  unfold Opr.agg at HS ⊢
  simp only at HS ⊢
  go_enter Try.func58, Try.ntmps58
  go_wp2_with fail
  refine (HS.out _ (((HTR.out.alloc _).alloc _).alloc _)).mono ?_
  rintro r w1 ⟨rfl, hb1⟩
  obtain ⟨ht, hbx, hf, hz, hbw⟩ := three_boxes hb1
  clear hb1
  obtain ⟨f0, f1, f2, g0, g1, g2⟩ := fltCells hf
  obtain ⟨r0, r1, r2, r3, r4, r5, r6, r7⟩ := boxO (o := ⟨rid, rreg, rval, rwr, rba, rera, rca, rdo⟩) hbx
  simp only at r0 r1 r2 r3 r4 r5 r6 r7
  have hz1 : w.heap.size + 1 < w1.heap.size := by omega
  have hz0 : w.heap.size < w1.heap.size := by omega
  obtain ⟨b', off', s', hA, hbl, hi', p0, p1, p2, p3, p4, p5, p6, p7⟩ := OpS.at_ ((HTR.out.below hbw).ops) (List.getElem?_eq_some_iff.1 HI.out).1
  cases hA
  rw [HI.out] at hi'
  cases hi'
  simp only at p0 p1 p2 p3 p4 p5 p6 p7
  clear ht hbx hf
  go_wp2_with fail
  go_quiet (fail)
  go_wp2
  go_region
  all_goals (try go_wp2)
  refine bodyPost_ret (v := .tuple #[Flt.agg ⟨2, rid, sid⟩, .bool true]) (by simp [results, Try.results58, go_sem, Flt.agg, f0, f1, f2, hz]) rfl ⟨rfl, ?_⟩
  repeat (first
    | exact hbw
    | refine Below.drew ?_
    | refine below_drewN ?_ _
    | refine Below.alloc ?_ (by first | omega | (simp; omega)) _
    | refine Below.setCell ?_ (show w.heap.size ≤ w.heap.size + 1 + 1 by omega) _)
set_option maxHeartbeats 2000000 in
set_option maxRecDepth 100000 in
theorem judge_rest0n {tb b off c wb n sb m : Nat} {os : List Opr} {fw : Lit → Option (Nat × Nat)} {fs : Lit → Bool} (ro : Opr) (w : World) (h : TrW w tb b off c os wb fw n sb fs m) (hsrc : SrcOk fw b off os)
    (hr : (Lit.int .i64 ro.reg).wf = true) (hv : (Lit.int .i64 ro.val).wf = true) (hs : srcOp os ro = none) (hval : ro.val = 0) (hidx : os.findIdx? (hides os none ro) = none) (hwf : WfO os) (hlen : os.length ≤ 1000000) (hfs : ∀ o ∈ os, o.write = true → fs (.int .i64 o.id) = certB os o) :
    Calls Try.prog 58 #[.pointer (some ⟨tb, 0, none⟩), ro.agg] w fun e w' => e = .returned (.tuple #[Flt.agg ⟨0, 0, 0⟩, .bool false]) ∧ Below w.heap.size w w' := by
  have htl : tb < w.heap.size := heapLt h.blk
  have HS := Lib.hid (fun w h => source_any (tb := tb) (b := b) (off := off) (c := c) (wb := wb) (n := n) (sb := sb) (m := m) (os := os) (fw := fw) (fs := fs) ro w h hr hv)
  have HTR := Lib.hid h
  have hmf : ∀ (fn : Fn) (first cap : Array Value) (w : World), (Instr.makeFunc fn first cap).run Try.prog w = .ok (.func fn first cap) w := fun _ _ _ _ => rfl
  have HID := Lib.hid (show ∀ o ∈ os, (Lit.int .i64 o.id).wf = true from fun o ho => (hwf o ho).2.2)
  have HFS := Lib.hid hfs
  have hfw : fw (vKey ro.reg ro.val) = none := by
    rcases src_cases hsrc ro hr hv with ⟨h1, _⟩ | ⟨i, s, _, _, h3⟩
    · exact h1
    · rw [hs] at h3; cases h3
  rw [hfw] at HS
  simp only [ptrV] at HS
  have hval' : (ro.val != 0) = false := by simpa using hval
  clear h hsrc hr hv hs hfw hval hwf hfs
  have HIDX := Lib.hid hidx
  clear hidx
  obtain ⟨rid, rreg, rval, rwr, rba, rera, rca, rdo⟩ := ro
  simp only at hval' HS ⊢
  unfold Opr.agg at HS ⊢
  simp only at HS ⊢
  go_enter Try.func58, Try.ntmps58
  go_wp2_with fail
  refine (HS.out _ (((HTR.out.alloc _).alloc _).alloc _)).mono ?_
  rintro r w1 ⟨rfl, hb1⟩
  obtain ⟨ht, hbx, hf, hz, hbw⟩ := three_boxes hb1
  clear hb1
  obtain ⟨f0, f1, f2, g0, g1, g2⟩ := fltCells hf
  obtain ⟨r0, r1, r2, r3, r4, r5, r6, r7⟩ := boxO (o := ⟨rid, rreg, rval, rwr, rba, rera, rca, rdo⟩) hbx
  simp only at r0 r1 r2 r3 r4 r5 r6 r7
  have hz1 : w.heap.size + 1 < w1.heap.size := by omega
  have hz0 : w.heap.size < w1.heap.size := by omega
  have HT := Lib.hid ht
  have HBX := Lib.hid hbx
  have t0 : w1.cell? ⟨w.heap.size, 0, none⟩ = some (.pointer (some ⟨tb, 0, none⟩)) := by rw [cell_of_row _ _ _ _ _ _ ht]; rfl
  have hT1 := HTR.out.below hbw
  have u0 : w1.cell? ⟨tb, 0, none⟩ = some (.slice (some ⟨b, off, none⟩) os.length c) := by rw [cell_of_row _ _ _ _ _ _ hT1.blk]; rfl
  have HT1 := Lib.hid hT1
  have htw : tb < w1.heap.size := by omega
  clear hT1
  have HF := Lib.hid hf
  clear hf hbx ht
  go_wp2_with fail
  go_quiet (fail)
  go_wp2_with fail
  obtain ⟨W, hW⟩ : ∃ W : World, W = (w1.alloc (.cells #[.pointer none] 64)).drewN nq := ⟨_, rfl⟩
  have hWb : Below w1.heap.size w1 W := by rw [hW]; exact below_drewN ((Below.refl _ _).alloc (Nat.le_refl _) _) _
  have hsb : W.heap[w1.heap.size]? = some (.cells #[.pointer none] 64) := by rw [hW]; exact heap_alloc_new w1 _
  rw [← hW]
  clear hW
  have hTW := HT1.out.below hWb
  have HC := index_j1 (hides os ((none : Option (Nat × Opr)).map (·.2)) ⟨rid, rreg, rval, rwr, rba, rera, rca, rdo⟩) w1.heap.size (w.heap.size + 1) w.heap.size os (some ⟨b, off, none⟩) c W.heap.size W hTW.ops (Nat.le_refl _) hlen
    (fun o ho w' hb' => judge1_any o _ (none : Option (Nat × Opr)) _ _ _ w' (hTW.below hb') (HID.out o ho) (by simp) (HFS.out o ho) (heapBelow hsb hb') (heapBelow (heapBelow HBX.out hWb) hb') (heapBelow (heapBelow HT.out hWb) hb'))
  have hidx := HIDX.out
  change Calls _ _ _ _ (fun r w' => r = .returned (.int .i64 (idxD (os.findIdx? (hides os none ⟨rid, rreg, rval, rwr, rba, rera, rca, rdo⟩)))) ∧ _) at HC
  rw [hidx] at HC
  simp only [idxD] at HC
  refine HC.mono ?_
  clear HC
  rintro r w3 ⟨rfl, hb3⟩
  have hb13 : Below w1.heap.size w1 w3 := hWb.trans (hb3.mono hWb.size)
  have hbw3 : Below w.heap.size w w3 := hbw.trans (hb13.mono hbw.size)
  have hz3 : w.heap.size + 1 + 1 < w3.heap.size := Nat.lt_of_lt_of_le hz hb13.size
  have hT3 := HT1.out.below hb13
  have HF3 := Lib.hid (fltCells (heapBelow HF.out hb13))
  have HR3 := Lib.hid (boxO (o := ⟨rid, rreg, rval, rwr, rba, rera, rca, rdo⟩) (heapBelow HBX.out hb13))
  have ht3 : w3.cell? ⟨w.heap.size, 0, none⟩ = some (.pointer (some ⟨tb, 0, none⟩)) := by rw [cell_of_row _ _ _ _ _ _ (heapBelow HT.out hb13)]; rfl
  have hu3 : w3.cell? ⟨tb, 0, none⟩ = some (.slice (some ⟨b, off, none⟩) os.length c) := by rw [cell_of_row _ _ _ _ _ _ hT3.blk]; rfl
  have HOPS := Lib.hid hT3.ops
  clear hT3 hTW hWb hsb hb3 hb13 t0 u0 f0 f1 f2 g0 g1 g2 r0 r1 r2 r3 r4 r5 r6 r7 HF HBX HT HT1 HFS HID HS HTR
  obtain ⟨f0, f1, f2, g0, g1, g2⟩ := HF3.out
  obtain ⟨r0, r1, r2, r3, r4, r5, r6, r7⟩ := HR3.out
  simp only at r0 r1 r2 r3 r4 r5 r6 r7
  have hz1' : w.heap.size + 1 < w3.heap.size := by omega
  have hz0' : w.heap.size < w3.heap.size := by omega
  clear hidx
  go_wp2
  refine bodyPost_ret (v := .tuple #[Flt.agg ⟨0, 0, 0⟩, .bool false]) (by simp [results, Try.results58, go_sem, Flt.agg, f0, f1, f2]) rfl ⟨rfl, ?_⟩
  repeat (first
    | exact hbw3
    | refine Below.drew ?_
    | refine below_drewN ?_ _
    | refine Below.alloc ?_ (by first | omega | (simp; omega)) _
    | refine Below.setCell ?_ (show w.heap.size ≤ w.heap.size + 1 + 1 by omega) _)
set_option maxHeartbeats 2000000 in
set_option maxRecDepth 100000 in
theorem judge_rest0s {tb b off c wb n sb m : Nat} {os : List Opr} {fw : Lit → Option (Nat × Nat)} {fs : Lit → Bool} (ro : Opr) (w : World) (h : TrW w tb b off c os wb fw n sb fs m) (hsrc : SrcOk fw b off os)
    (hr : (Lit.int .i64 ro.reg).wf = true) (hv : (Lit.int .i64 ro.val).wf = true) (hs : srcOp os ro = none) (hval : ro.val = 0) (j : Nat) (x : Opr) (hidx : os.findIdx? (hides os none ro) = some j) (hx : os[j]? = some x) (hwf : WfO os) (hlen : os.length ≤ 1000000) (hfs : ∀ o ∈ os, o.write = true → fs (.int .i64 o.id) = certB os o) :
    Calls Try.prog 58 #[.pointer (some ⟨tb, 0, none⟩), ro.agg] w fun e w' => e = .returned (.tuple #[Flt.agg ⟨3, ro.id, x.id⟩, .bool true]) ∧ Below w.heap.size w w' := by
  have htl : tb < w.heap.size := heapLt h.blk
  have HS := Lib.hid (fun w h => source_any (tb := tb) (b := b) (off := off) (c := c) (wb := wb) (n := n) (sb := sb) (m := m) (os := os) (fw := fw) (fs := fs) ro w h hr hv)
  have HTR := Lib.hid h
  have hmf : ∀ (fn : Fn) (first cap : Array Value) (w : World), (Instr.makeFunc fn first cap).run Try.prog w = .ok (.func fn first cap) w := fun _ _ _ _ => rfl
  have HID := Lib.hid (show ∀ o ∈ os, (Lit.int .i64 o.id).wf = true from fun o ho => (hwf o ho).2.2)
  have HFS := Lib.hid hfs
  have hfw : fw (vKey ro.reg ro.val) = none := by
    rcases src_cases hsrc ro hr hv with ⟨h1, _⟩ | ⟨i, s, _, _, h3⟩
    · exact h1
    · rw [hs] at h3; cases h3
  rw [hfw] at HS
  simp only [ptrV] at HS
  have hval' : (ro.val != 0) = false := by simpa using hval
  clear h hsrc hr hv hs hfw hval hwf hfs
  have HIDX := Lib.hid hidx
  clear hidx
  have HX := Lib.hid hx
  clear hx
  obtain ⟨rid, rreg, rval, rwr, rba, rera, rca, rdo⟩ := ro
  simp only at hval' HS ⊢
  unfold Opr.agg at HS ⊢
  simp only at HS ⊢
  go_enter Try.func58, Try.ntmps58
  go_wp2_with fail
  refine (HS.out _ (((HTR.out.alloc _).alloc _).alloc _)).mono ?_
  rintro r w1 ⟨rfl, hb1⟩
  obtain ⟨ht, hbx, hf, hz, hbw⟩ := three_boxes hb1
  clear hb1
  obtain ⟨f0, f1, f2, g0, g1, g2⟩ := fltCells hf
  obtain ⟨r0, r1, r2, r3, r4, r5, r6, r7⟩ := boxO (o := ⟨rid, rreg, rval, rwr, rba, rera, rca, rdo⟩) hbx
  simp only at r0 r1 r2 r3 r4 r5 r6 r7
  have hz1 : w.heap.size + 1 < w1.heap.size := by omega
  have hz0 : w.heap.size < w1.heap.size := by omega
  have HT := Lib.hid ht
  have HBX := Lib.hid hbx
  have t0 : w1.cell? ⟨w.heap.size, 0, none⟩ = some (.pointer (some ⟨tb, 0, none⟩)) := by rw [cell_of_row _ _ _ _ _ _ ht]; rfl
  have hT1 := HTR.out.below hbw
  have u0 : w1.cell? ⟨tb, 0, none⟩ = some (.slice (some ⟨b, off, none⟩) os.length c) := by rw [cell_of_row _ _ _ _ _ _ hT1.blk]; rfl
  have HT1 := Lib.hid hT1
  have htw : tb < w1.heap.size := by omega
  clear hT1
  have HF := Lib.hid hf
  clear hf hbx ht
  go_wp2_with fail
  go_quiet (fail)
  go_wp2_with fail
  obtain ⟨W, hW⟩ : ∃ W : World, W = (w1.alloc (.cells #[.pointer none] 64)).drewN nq := ⟨_, rfl⟩
  have hWb : Below w1.heap.size w1 W := by rw [hW]; exact below_drewN ((Below.refl _ _).alloc (Nat.le_refl _) _) _
  have hsb : W.heap[w1.heap.size]? = some (.cells #[.pointer none] 64) := by rw [hW]; exact heap_alloc_new w1 _
  rw [← hW]
  clear hW
  have hTW := HT1.out.below hWb
  have HC := index_j1 (hides os ((none : Option (Nat × Opr)).map (·.2)) ⟨rid, rreg, rval, rwr, rba, rera, rca, rdo⟩) w1.heap.size (w.heap.size + 1) w.heap.size os (some ⟨b, off, none⟩) c W.heap.size W hTW.ops (Nat.le_refl _) hlen
    (fun o ho w' hb' => judge1_any o _ (none : Option (Nat × Opr)) _ _ _ w' (hTW.below hb') (HID.out o ho) (by simp) (HFS.out o ho) (heapBelow hsb hb') (heapBelow (heapBelow HBX.out hWb) hb') (heapBelow (heapBelow HT.out hWb) hb'))
  have hidx := HIDX.out
  have hx := HX.out
  change Calls _ _ _ _ (fun r w' => r = .returned (.int .i64 (idxD (os.findIdx? (hides os none ⟨rid, rreg, rval, rwr, rba, rera, rca, rdo⟩)))) ∧ _) at HC
  rw [hidx] at HC
  simp only [idxD] at HC
  refine HC.mono ?_
  clear HC
  rintro r w3 ⟨rfl, hb3⟩
  have hb13 : Below w1.heap.size w1 w3 := hWb.trans (hb3.mono hWb.size)
  have hbw3 : Below w.heap.size w w3 := hbw.trans (hb13.mono hbw.size)
  have hz3 : w.heap.size + 1 + 1 < w3.heap.size := Nat.lt_of_lt_of_le hz hb13.size
  have hT3 := HT1.out.below hb13
  have HF3 := Lib.hid (fltCells (heapBelow HF.out hb13))
  have HR3 := Lib.hid (boxO (o := ⟨rid, rreg, rval, rwr, rba, rera, rca, rdo⟩) (heapBelow HBX.out hb13))
  have ht3 : w3.cell? ⟨w.heap.size, 0, none⟩ = some (.pointer (some ⟨tb, 0, none⟩)) := by rw [cell_of_row _ _ _ _ _ _ (heapBelow HT.out hb13)]; rfl
  have hu3 : w3.cell? ⟨tb, 0, none⟩ = some (.slice (some ⟨b, off, none⟩) os.length c) := by rw [cell_of_row _ _ _ _ _ _ hT3.blk]; rfl
  have HOPS := Lib.hid hT3.ops
  clear hT3 hTW hWb hsb hb3 hb13 t0 u0 f0 f1 f2 g0 g1 g2 r0 r1 r2 r3 r4 r5 r6 r7 HF HBX HT HT1 HFS HID HS HTR
  obtain ⟨f0, f1, f2, g0, g1, g2⟩ := HF3.out
  obtain ⟨r0, r1, r2, r3, r4, r5, r6, r7⟩ := HR3.out
  simp only at r0 r1 r2 r3 r4 r5 r6 r7
  have hz1' : w.heap.size + 1 < w3.heap.size := by omega
  have hz0' : w.heap.size < w3.heap.size := by omega
  have hjl : j < os.length := (List.findIdx?_eq_some_iff_getElem.1 hidx).1
  obtain ⟨b', off', x', hA, hxl, hx', x0, -⟩ := OpS.at_ HOPS.out hjl
  cases hA
  obtain rfl : x = x' := by rw [hx] at hx'; exact Option.some.inj hx'
  clear hidx hx hx'
  have hjc : (j : Int) < (os.length : Int) := by omega
  go_wp2
  go_region
  all_goals (try go_wp2)
  refine bodyPost_ret (v := .tuple #[Flt.agg ⟨3, rid, x.id⟩, .bool true]) (by simp [results, Try.results58, go_sem, Flt.agg, f0, f1, f2]) rfl ⟨rfl, ?_⟩
  repeat (first
    | exact hbw3
    | refine Below.drew ?_
    | refine below_drewN ?_ _
    | refine Below.alloc ?_ (by first | omega | (simp; omega)) _
    | refine Below.setCell ?_ (show w.heap.size ≤ w.heap.size + 1 + 1 by omega) _)
set_option maxHeartbeats 2000000 in
set_option maxRecDepth 100000 in
theorem judge_rest1n {tb b off c wb n sb m : Nat} {os : List Opr} {fw : Lit → Option (Nat × Nat)} {fs : Lit → Bool} (ro : Opr) (w : World) (h : TrW w tb b off c os wb fw n sb fs m) (hsrc : SrcOk fw b off os)
    (hr : (Lit.int .i64 ro.reg).wf = true) (hv : (Lit.int .i64 ro.val).wf = true) (so : Opr) (hs : srcOp os ro = some so) (hval : ¬ ro.done < so.call) (hidx : os.findIdx? (hides os (some so) ro) = none) (hwf : WfO os) (hlen : os.length ≤ 1000000) (hfs : ∀ o ∈ os, o.write = true → fs (.int .i64 o.id) = certB os o) :
    Calls Try.prog 58 #[.pointer (some ⟨tb, 0, none⟩), ro.agg] w fun e w' => e = .returned (.tuple #[Flt.agg ⟨0, 0, 0⟩, .bool false]) ∧ Below w.heap.size w w' := by
  have htl : tb < w.heap.size := heapLt h.blk
  have HS := Lib.hid (fun w h => source_any (tb := tb) (b := b) (off := off) (c := c) (wb := wb) (n := n) (sb := sb) (m := m) (os := os) (fw := fw) (fs := fs) ro w h hr hv)
  have HTR := Lib.hid h
  have hmf : ∀ (fn : Fn) (first cap : Array Value) (w : World), (Instr.makeFunc fn first cap).run Try.prog w = .ok (.func fn first cap) w := fun _ _ _ _ => rfl
  have HID := Lib.hid (show ∀ o ∈ os, (Lit.int .i64 o.id).wf = true from fun o ho => (hwf o ho).2.2)
  have HFS := Lib.hid hfs
  obtain ⟨i, s', hfw, hi, hs'⟩ : ∃ i s', fw (vKey ro.reg ro.val) = some (b, off + i * 8) ∧ os[i]? = some s' ∧ srcOp os ro = some s' := by
    rcases src_cases hsrc ro hr hv with ⟨_, h1⟩ | h1
    · rw [hs] at h1; cases h1
    · exact h1
  obtain rfl : so = s' := by rw [hs] at hs'; exact Option.some.inj hs'
  rw [hfw] at HS
  simp only [ptrV] at HS
  have HI := Lib.hid hi
  have hval' : decide (ro.done < so.call) = false := by simpa using hval
  clear h hsrc hr hv hs hs' hfw hval hi hwf hfs
  have HIDX := Lib.hid hidx
  clear hidx
  obtain ⟨sid, sreg, sval, swr, sba, sera, sca, sdo⟩ := so
  obtain ⟨rid, rreg, rval, rwr, rba, rera, rca, rdo⟩ := ro
  simp only at hval' HS ⊢
  unfold Opr.agg at HS ⊢
  simp only at HS ⊢
  go_enter Try.func58, Try.ntmps58
  go_wp2_with fail
  refine (HS.out _ (((HTR.out.alloc _).alloc _).alloc _)).mono ?_
  rintro r w1 ⟨rfl, hb1⟩
  obtain ⟨ht, hbx, hf, hz, hbw⟩ := three_boxes hb1
  clear hb1
  obtain ⟨f0, f1, f2, g0, g1, g2⟩ := fltCells hf
  obtain ⟨r0, r1, r2, r3, r4, r5, r6, r7⟩ := boxO (o := ⟨rid, rreg, rval, rwr, rba, rera, rca, rdo⟩) hbx
  simp only at r0 r1 r2 r3 r4 r5 r6 r7
  have hz1 : w.heap.size + 1 < w1.heap.size := by omega
  have hz0 : w.heap.size < w1.heap.size := by omega
  have HT := Lib.hid ht
  have HBX := Lib.hid hbx
  have t0 : w1.cell? ⟨w.heap.size, 0, none⟩ = some (.pointer (some ⟨tb, 0, none⟩)) := by rw [cell_of_row _ _ _ _ _ _ ht]; rfl
  have hT1 := HTR.out.below hbw
  have u0 : w1.cell? ⟨tb, 0, none⟩ = some (.slice (some ⟨b, off, none⟩) os.length c) := by rw [cell_of_row _ _ _ _ _ _ hT1.blk]; rfl
  have HT1 := Lib.hid hT1
  have htw : tb < w1.heap.size := by omega
  clear hT1
  obtain ⟨b', off', s', hA, hbl, hi', p0, p1, p2, p3, p4, p5, p6, p7⟩ := OpS.at_ ((HTR.out.below hbw).ops) (List.getElem?_eq_some_iff.1 HI.out).1
  cases hA
  rw [HI.out] at hi'
  cases hi'
  simp only at p0 p1 p2 p3 p4 p5 p6 p7
  have HF := Lib.hid hf
  clear hf hbx ht
  go_wp2_with fail
  go_quiet (fail)
  go_wp2_with fail
  obtain ⟨W, hW⟩ : ∃ W : World, W = (w1.alloc (.cells #[.pointer (some ⟨b, off + i * 8, none⟩)] 64)).drewN nq := ⟨_, rfl⟩
  have hWb : Below w1.heap.size w1 W := by rw [hW]; exact below_drewN ((Below.refl _ _).alloc (Nat.le_refl _) _) _
  have hsb : W.heap[w1.heap.size]? = some (.cells #[.pointer (some ⟨b, off + i * 8, none⟩)] 64) := by rw [hW]; exact heap_alloc_new w1 _
  rw [← hW]
  clear hW
  have hTW := HT1.out.below hWb
  have HC := index_j1 (hides os ((some (i, ⟨sid, sreg, sval, swr, sba, sera, sca, sdo⟩) : Option (Nat × Opr)).map (·.2)) ⟨rid, rreg, rval, rwr, rba, rera, rca, rdo⟩) w1.heap.size (w.heap.size + 1) w.heap.size os (some ⟨b, off, none⟩) c W.heap.size W hTW.ops (Nat.le_refl _) hlen
    (fun o ho w' hb' => judge1_any o _ (some (i, ⟨sid, sreg, sval, swr, sba, sera, sca, sdo⟩) : Option (Nat × Opr)) _ _ _ w' (hTW.below hb') (HID.out o ho) (by rintro i2 s2 ⟨⟩; exact HI.out) (HFS.out o ho) (heapBelow hsb hb') (heapBelow (heapBelow HBX.out hWb) hb') (heapBelow (heapBelow HT.out hWb) hb'))
  have hidx := HIDX.out
  change Calls _ _ _ _ (fun r w' => r = .returned (.int .i64 (idxD (os.findIdx? (hides os (some ⟨sid, sreg, sval, swr, sba, sera, sca, sdo⟩) ⟨rid, rreg, rval, rwr, rba, rera, rca, rdo⟩)))) ∧ _) at HC
  rw [hidx] at HC
  simp only [idxD] at HC
  refine HC.mono ?_
  clear HC
  rintro r w3 ⟨rfl, hb3⟩
  have hb13 : Below w1.heap.size w1 w3 := hWb.trans (hb3.mono hWb.size)
  have hbw3 : Below w.heap.size w w3 := hbw.trans (hb13.mono hbw.size)
  have hz3 : w.heap.size + 1 + 1 < w3.heap.size := Nat.lt_of_lt_of_le hz hb13.size
  have hT3 := HT1.out.below hb13
  have HF3 := Lib.hid (fltCells (heapBelow HF.out hb13))
  have HR3 := Lib.hid (boxO (o := ⟨rid, rreg, rval, rwr, rba, rera, rca, rdo⟩) (heapBelow HBX.out hb13))
  have ht3 : w3.cell? ⟨w.heap.size, 0, none⟩ = some (.pointer (some ⟨tb, 0, none⟩)) := by rw [cell_of_row _ _ _ _ _ _ (heapBelow HT.out hb13)]; rfl
  have hu3 : w3.cell? ⟨tb, 0, none⟩ = some (.slice (some ⟨b, off, none⟩) os.length c) := by rw [cell_of_row _ _ _ _ _ _ hT3.blk]; rfl
  have HOPS := Lib.hid hT3.ops
  clear hT3 hTW hWb hsb hb3 hb13 t0 u0 f0 f1 f2 g0 g1 g2 r0 r1 r2 r3 r4 r5 r6 r7 HF HBX HT HT1 HFS HID HS HTR p0 p1 p2 p3 p4 p5 p6 p7
  obtain ⟨f0, f1, f2, g0, g1, g2⟩ := HF3.out
  obtain ⟨r0, r1, r2, r3, r4, r5, r6, r7⟩ := HR3.out
  simp only at r0 r1 r2 r3 r4 r5 r6 r7
  have hz1' : w.heap.size + 1 < w3.heap.size := by omega
  have hz0' : w.heap.size < w3.heap.size := by omega
  clear hidx
  go_wp2
  refine bodyPost_ret (v := .tuple #[Flt.agg ⟨0, 0, 0⟩, .bool false]) (by simp [results, Try.results58, go_sem, Flt.agg, f0, f1, f2]) rfl ⟨rfl, ?_⟩
  repeat (first
    | exact hbw3
    | refine Below.drew ?_
    | refine below_drewN ?_ _
    | refine Below.alloc ?_ (by first | omega | (simp; omega)) _
    | refine Below.setCell ?_ (show w.heap.size ≤ w.heap.size + 1 + 1 by omega) _)
set_option maxHeartbeats 2000000 in
set_option maxRecDepth 100000 in
theorem judge_rest1s {tb b off c wb n sb m : Nat} {os : List Opr} {fw : Lit → Option (Nat × Nat)} {fs : Lit → Bool} (ro : Opr) (w : World) (h : TrW w tb b off c os wb fw n sb fs m) (hsrc : SrcOk fw b off os)
    (hr : (Lit.int .i64 ro.reg).wf = true) (hv : (Lit.int .i64 ro.val).wf = true) (so : Opr) (hs : srcOp os ro = some so) (hval : ¬ ro.done < so.call) (j : Nat) (x : Opr) (hidx : os.findIdx? (hides os (some so) ro) = some j) (hx : os[j]? = some x) (hwf : WfO os) (hlen : os.length ≤ 1000000) (hfs : ∀ o ∈ os, o.write = true → fs (.int .i64 o.id) = certB os o) :
    Calls Try.prog 58 #[.pointer (some ⟨tb, 0, none⟩), ro.agg] w fun e w' => e = .returned (.tuple #[Flt.agg ⟨3, ro.id, x.id⟩, .bool true]) ∧ Below w.heap.size w w' := by
  have htl : tb < w.heap.size := heapLt h.blk
  have HS := Lib.hid (fun w h => source_any (tb := tb) (b := b) (off := off) (c := c) (wb := wb) (n := n) (sb := sb) (m := m) (os := os) (fw := fw) (fs := fs) ro w h hr hv)
  have HTR := Lib.hid h
  have hmf : ∀ (fn : Fn) (first cap : Array Value) (w : World), (Instr.makeFunc fn first cap).run Try.prog w = .ok (.func fn first cap) w := fun _ _ _ _ => rfl
  have HID := Lib.hid (show ∀ o ∈ os, (Lit.int .i64 o.id).wf = true from fun o ho => (hwf o ho).2.2)
  have HFS := Lib.hid hfs
  obtain ⟨i, s', hfw, hi, hs'⟩ : ∃ i s', fw (vKey ro.reg ro.val) = some (b, off + i * 8) ∧ os[i]? = some s' ∧ srcOp os ro = some s' := by
    rcases src_cases hsrc ro hr hv with ⟨_, h1⟩ | h1
    · rw [hs] at h1; cases h1
    · exact h1
  obtain rfl : so = s' := by rw [hs] at hs'; exact Option.some.inj hs'
  rw [hfw] at HS
  simp only [ptrV] at HS
  have HI := Lib.hid hi
  have hval' : decide (ro.done < so.call) = false := by simpa using hval
  clear h hsrc hr hv hs hs' hfw hval hi hwf hfs
  have HIDX := Lib.hid hidx
  clear hidx
  have HX := Lib.hid hx
  clear hx
  obtain ⟨sid, sreg, sval, swr, sba, sera, sca, sdo⟩ := so
  obtain ⟨rid, rreg, rval, rwr, rba, rera, rca, rdo⟩ := ro
  simp only at hval' HS ⊢
  unfold Opr.agg at HS ⊢
  simp only at HS ⊢
  go_enter Try.func58, Try.ntmps58
  go_wp2_with fail
  refine (HS.out _ (((HTR.out.alloc _).alloc _).alloc _)).mono ?_
  rintro r w1 ⟨rfl, hb1⟩
  obtain ⟨ht, hbx, hf, hz, hbw⟩ := three_boxes hb1
  clear hb1
  obtain ⟨f0, f1, f2, g0, g1, g2⟩ := fltCells hf
  obtain ⟨r0, r1, r2, r3, r4, r5, r6, r7⟩ := boxO (o := ⟨rid, rreg, rval, rwr, rba, rera, rca, rdo⟩) hbx
  simp only at r0 r1 r2 r3 r4 r5 r6 r7
  have hz1 : w.heap.size + 1 < w1.heap.size := by omega
  have hz0 : w.heap.size < w1.heap.size := by omega
  have HT := Lib.hid ht
  have HBX := Lib.hid hbx
  have t0 : w1.cell? ⟨w.heap.size, 0, none⟩ = some (.pointer (some ⟨tb, 0, none⟩)) := by rw [cell_of_row _ _ _ _ _ _ ht]; rfl
  have hT1 := HTR.out.below hbw
  have u0 : w1.cell? ⟨tb, 0, none⟩ = some (.slice (some ⟨b, off, none⟩) os.length c) := by rw [cell_of_row _ _ _ _ _ _ hT1.blk]; rfl
  have HT1 := Lib.hid hT1
  have htw : tb < w1.heap.size := by omega
  clear hT1
  obtain ⟨b', off', s', hA, hbl, hi', p0, p1, p2, p3, p4, p5, p6, p7⟩ := OpS.at_ ((HTR.out.below hbw).ops) (List.getElem?_eq_some_iff.1 HI.out).1
  cases hA
  rw [HI.out] at hi'
  cases hi'
  simp only at p0 p1 p2 p3 p4 p5 p6 p7
  have HF := Lib.hid hf
  clear hf hbx ht
  go_wp2_with fail
  go_quiet (fail)
  go_wp2_with fail
  obtain ⟨W, hW⟩ : ∃ W : World, W = (w1.alloc (.cells #[.pointer (some ⟨b, off + i * 8, none⟩)] 64)).drewN nq := ⟨_, rfl⟩
  have hWb : Below w1.heap.size w1 W := by rw [hW]; exact below_drewN ((Below.refl _ _).alloc (Nat.le_refl _) _) _
  have hsb : W.heap[w1.heap.size]? = some (.cells #[.pointer (some ⟨b, off + i * 8, none⟩)] 64) := by rw [hW]; exact heap_alloc_new w1 _
  rw [← hW]
  clear hW
  have hTW := HT1.out.below hWb
  have HC := index_j1 (hides os ((some (i, ⟨sid, sreg, sval, swr, sba, sera, sca, sdo⟩) : Option (Nat × Opr)).map (·.2)) ⟨rid, rreg, rval, rwr, rba, rera, rca, rdo⟩) w1.heap.size (w.heap.size + 1) w.heap.size os (some ⟨b, off, none⟩) c W.heap.size W hTW.ops (Nat.le_refl _) hlen
    (fun o ho w' hb' => judge1_any o _ (some (i, ⟨sid, sreg, sval, swr, sba, sera, sca, sdo⟩) : Option (Nat × Opr)) _ _ _ w' (hTW.below hb') (HID.out o ho) (by rintro i2 s2 ⟨⟩; exact HI.out) (HFS.out o ho) (heapBelow hsb hb') (heapBelow (heapBelow HBX.out hWb) hb') (heapBelow (heapBelow HT.out hWb) hb'))
  have hidx := HIDX.out
  have hx := HX.out
  change Calls _ _ _ _ (fun r w' => r = .returned (.int .i64 (idxD (os.findIdx? (hides os (some ⟨sid, sreg, sval, swr, sba, sera, sca, sdo⟩) ⟨rid, rreg, rval, rwr, rba, rera, rca, rdo⟩)))) ∧ _) at HC
  rw [hidx] at HC
  simp only [idxD] at HC
  refine HC.mono ?_
  clear HC
  rintro r w3 ⟨rfl, hb3⟩
  have hb13 : Below w1.heap.size w1 w3 := hWb.trans (hb3.mono hWb.size)
  have hbw3 : Below w.heap.size w w3 := hbw.trans (hb13.mono hbw.size)
  have hz3 : w.heap.size + 1 + 1 < w3.heap.size := Nat.lt_of_lt_of_le hz hb13.size
  have hT3 := HT1.out.below hb13
  have HF3 := Lib.hid (fltCells (heapBelow HF.out hb13))
  have HR3 := Lib.hid (boxO (o := ⟨rid, rreg, rval, rwr, rba, rera, rca, rdo⟩) (heapBelow HBX.out hb13))
  have ht3 : w3.cell? ⟨w.heap.size, 0, none⟩ = some (.pointer (some ⟨tb, 0, none⟩)) := by rw [cell_of_row _ _ _ _ _ _ (heapBelow HT.out hb13)]; rfl
  have hu3 : w3.cell? ⟨tb, 0, none⟩ = some (.slice (some ⟨b, off, none⟩) os.length c) := by rw [cell_of_row _ _ _ _ _ _ hT3.blk]; rfl
  have HOPS := Lib.hid hT3.ops
  clear hT3 hTW hWb hsb hb3 hb13 t0 u0 f0 f1 f2 g0 g1 g2 r0 r1 r2 r3 r4 r5 r6 r7 HF HBX HT HT1 HFS HID HS HTR p0 p1 p2 p3 p4 p5 p6 p7
  obtain ⟨f0, f1, f2, g0, g1, g2⟩ := HF3.out
  obtain ⟨r0, r1, r2, r3, r4, r5, r6, r7⟩ := HR3.out
  simp only at r0 r1 r2 r3 r4 r5 r6 r7
  have hz1' : w.heap.size + 1 < w3.heap.size := by omega
  have hz0' : w.heap.size < w3.heap.size := by omega
  have hjl : j < os.length := (List.findIdx?_eq_some_iff_getElem.1 hidx).1
  obtain ⟨b', off', x', hA, hxl, hx', x0, -⟩ := OpS.at_ HOPS.out hjl
  cases hA
  obtain rfl : x = x' := by rw [hx] at hx'; exact Option.some.inj hx'
  clear hidx hx hx'
  have hjc : (j : Int) < (os.length : Int) := by omega
  go_wp2
  go_region
  all_goals (try go_wp2)
  refine bodyPost_ret (v := .tuple #[Flt.agg ⟨3, rid, x.id⟩, .bool true]) (by simp [results, Try.results58, go_sem, Flt.agg, f0, f1, f2]) rfl ⟨rfl, ?_⟩
  repeat (first
    | exact hbw3
    | refine Below.drew ?_
    | refine below_drewN ?_ _
    | refine Below.alloc ?_ (by first | omega | (simp; omega)) _
    | refine Below.setCell ?_ (show w.heap.size ≤ w.heap.size + 1 + 1 by omega) _)

theorem judge_any {tb b off c wb n sb m : Nat} {os : List Opr} {fw : Lit → Option (Nat × Nat)} {fs : Lit → Bool} (ro : Opr) (w : World) (h : TrW w tb b off c os wb fw n sb fs m) (hsrc : SrcOk fw b off os)
    (hr : (Lit.int .i64 ro.reg).wf = true) (hv : (Lit.int .i64 ro.val).wf = true) (hwf : WfO os) (hlen : os.length ≤ 1000000) (hfs : ∀ o ∈ os, o.write = true → fs (.int .i64 o.id) = certB os o) :
    Calls Try.prog 58 #[.pointer (some ⟨tb, 0, none⟩), ro.agg] w fun e w' => e = .returned (judgeV (judgeO os ro)) ∧ Below w.heap.size w w' := by
  unfold judgeO
  rcases hs : srcOp os ro with _ | so
  · by_cases hval : ro.val = 0
    · simp only [hval, ne_eq, not_true_eq_false, if_false]
      rw [find_of_idx]
      rcases hidx : os.findIdx? (hides os none ro) with _ | j
      · exact judge_rest0n ro w h hsrc hr hv hs hval hidx hwf hlen hfs
      · have hjl : j < os.length := (List.findIdx?_eq_some_iff_getElem.1 hidx).1
        have hx : os[j]? = some os[j] := List.getElem?_eq_getElem hjl
        simp only [Option.bind_some, hx, Option.map_some]
        exact judge_rest0s ro w h hsrc hr hv hs hval j os[j] hidx hx hwf hlen hfs
    · simp only [ne_eq, hval, not_false_eq_true, if_true]
      exact judge_inv ro w h hsrc hr hv hs hval
  · by_cases hval : ro.done < so.call
    · simp only [hval, if_true]
      exact judge_early ro w h hsrc hr hv so hs hval
    · simp only [hval, if_false]
      rw [find_of_idx]
      rcases hidx : os.findIdx? (hides os (some so) ro) with _ | j
      · exact judge_rest1n ro w h hsrc hr hv so hs hval hidx hwf hlen hfs
      · have hjl : j < os.length := (List.findIdx?_eq_some_iff_getElem.1 hidx).1
        have hx : os[j]? = some os[j] := List.getElem?_eq_getElem hjl
        simp only [Option.bind_some, hx, Option.map_some]
        exact judge_rest1s ro w h hsrc hr hv so hs hval j os[j] hidx hx hwf hlen hfs
end Go.Proofs.Ytcgbnlhloopnfaa
