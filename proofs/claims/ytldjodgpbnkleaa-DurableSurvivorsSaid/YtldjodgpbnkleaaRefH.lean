/- Walk of tegularef47's stale. -/
import Derived.Test.YtldjodgpbnkleaaRefG
import Derived.Test.YtldjodgpbnkleaaDurE
namespace Go.Proofs.Ytldjodgpbnkleaa
open Go.RowKit

def zfind {α : Type} (p : α → Nat → Bool) (l : List α) : Option Nat := l.zipIdx.findIdx? fun q => p q.1 q.2
theorem zfind_stop {α : Type} {p : α → Nat → Bool} {l : List α} {k : Nat} {x : α} (hx : l[k]? = some x) (hp : p x k = true) (hno : ∀ j y, j < k → l[j]? = some y → p y j = false) : zfind p l = some k := by
  refine idxN_stop (x := (x, k)) (by rw [List.getElem?_zipIdx, hx]; simp) hp ?_
  intro j y hj hy
  rw [List.getElem?_zipIdx] at hy
  rcases hl : l[j]? with _ | z
  · rw [hl] at hy; cases hy
  · rw [hl] at hy
    cases hy
    simpa using hno j z hj hl
theorem zfind_none {α : Type} {p : α → Nat → Bool} {l : List α} (hno : ∀ j y, j < l.length → l[j]? = some y → p y j = false) : zfind p l = none := by
  refine idxN_none ?_
  intro j y hj hy
  rw [List.length_zipIdx] at hj
  rw [List.getElem?_zipIdx] at hy
  rcases hl : l[j]? with _ | z
  · rw [hl] at hy; cases hy
  · rw [hl] at hy
    cases hy
    simpa using hno j z hj hl

/-- what makes a write stale, but for the source's part `tl` -/
def staB (os : List Opr) (r : Opr) (si : Int) (tl : Opr → Bool) (o : Opr) (k : Nat) : Bool := o.write && o.reg == r.reg && !((k : Int) == si) && finR os k o r && tl o
/-- the source's part -/
def SrcT (os : List Opr) (si : Int) (tl : Opr → Bool) : Prop := (si = -1 ∧ tl = fun _ => true) ∨ ∃ (i : Nat) (so : Opr), si = i ∧ os[i]? = some so ∧ tl = fun o => precB so o || decide (so.era < o.era)

set_option maxHeartbeats 4000000 in
set_option maxRecDepth 100000 in
theorem stale_any (os : List Opr) (A : Option Addr) (c B : Nat) (r : Opr) (si : Int) (tl : Opr → Bool) (w : World) (h : OpS w B A os) (hB : B ≤ w.heap.size) (hlen : os.length ≤ 1000000) (hs : SrcT os si tl) :
    Calls Try.prog 44 #[.slice A os.length c, r.agg, .int .i64 si] w fun e w' => e = .returned (.int .i64 (idxN (zfind (staB os r si tl) os))) ∧ Below w.heap.size w w' := by
  have HV0 : Hid (∀ o k, staB os r si tl o k = (o.write && o.reg == r.reg && !((k : Int) == si) && finR os k o r && tl o)) := fun _ _ => rfl
  have HFI := Lib.hid (fun k o (hk : os[k]? = some o) (b off : Nat) W (hA : A = some ⟨b, off, none⟩) (hW : Below w.heap.size w W) => rfinal_any os (some ⟨b, off, none⟩) c B k o r W (by rw [← hA]; exact h.below' hW hB) (by have := hW.size; omega) hlen hk)
  generalize staB os r si tl = st at *
  obtain ⟨rid, rreg, rval, rwr, rba, rera, rca, rdo⟩ := r
  simp only [Opr.agg] at HFI HV0 ⊢
  have HS := Lib.hid hs
  clear hs
  go_enter Try.func44, Try.ntmps44
  go_wp2
  generalize hW : w.alloc _ = W0
  have hbW0 : Below w.heap.size w W0 := by rw [← hW]; exact (Below.refl _ _).alloc (Nat.le_refl _) _
  have hxr : W0.heap[w.heap.size]? = some (.cells (Opr.cells ⟨rid, rreg, rval, rwr, rba, rera, rca, rdo⟩).toArray 59) := by rw [← hW]; exact heap_alloc_new w _
  have hWl0 : w.heap.size < W0.heap.size := (Array.getElem?_eq_some_iff.1 hxr).1
  clear hW
  have HXR := Lib.hid hxr
  clear hxr
  have hz0 := hbW0.size
  go_loopw [7] (fun i wr => ∃ k : Nat, k ≤ os.length ∧ i = .int .i64 k ∧ (∀ j o, j < k → os[j]? = some o → st o j = false) ∧ Below W0.heap.size W0 wr) (fun i _ => os.length - (intOf i).toNat)
  case atStart => exact ⟨0, by omega, rfl, fun j _ hj => absurd hj (by omega), Below.refl _ _⟩
  case round =>
    obtain ⟨k, hk, rfl, hno, hb⟩ := hrel
    have HN := Lib.hid hno
    clear hno
    have hz := hb.size
    have hbw : Below w.heap.size w wr := hbW0.trans (hb.mono hz0)
    by_cases hlt : k < os.length
    · have hops := h.below' hbw hB
      obtain ⟨b, off, o, hA, hbB, ho, c0, c1, c2, c3, c4, c5, c6, c7⟩ := OpS.at_ hops hlt
      have HFK := Lib.hid (fun W (hW : Below wr.heap.size wr W) => HFI.out k o ho b off W hA (hbw.trans (hW.mono hbw.size)))
      subst hA
      have hbl : b < wr.heap.size := by omega
      have HO := Lib.hid ho
      have HV := Lib.hid (HV0.out o k)
      have HOPS := Lib.hid (hops.more (show B ≤ wr.heap.size by omega))
      have hxw := heapBelow HXR.out hb
      have HP := Lib.hid (fun so w => rprec_any so o w)
      have hkl : (k : Int) < (os.length : Int) := by omega
      clear ho hops
      obtain ⟨oid, oreg, oval, owr, oba, oera, oca, odo⟩ := o
      simp only [Opr.agg] at c0 c1 c2 c3 c4 c5 c6 c7 HV HP HFK
      generalize finR os k ⟨oid, oreg, oval, owr, oba, oera, oca, odo⟩ ⟨rid, rreg, rval, rwr, rba, rera, rca, rdo⟩ = fv at *
      obtain ⟨x0, x1, x2, x3, x4, x5, x6, x7⟩ := boxR hxw
      have hxl : w.heap.size < wr.heap.size := by omega
      simp only at x0 x1 x2 x3 x4 x5 x6 x7
      have hbN : ∀ cs t W2, Below (wr.alloc (.cells cs t)).heap.size (wr.alloc (.cells cs t)) W2 → Below W0.heap.size W0 W2 := fun cs t W2 h2 => hb.trans (((Below.refl _ _).alloc (Nat.le_refl _) _).trans (h2.mono (by simp)) |>.mono hz)
      have HBN := Lib.hid hbN
      clear hbN hxw
      cases owr
      case false =>
        have HQ : Hid (st ⟨oid, oreg, oval, false, oba, oera, oca, odo⟩ k = false) := HV.out
        go_wp2_with fail
        go_roundw
        case rel => exact ⟨k + 1, by omega, by go_num, zno_succ HO.out HQ.out HN.out, HBN.out _ _ _ (Below.refl _ _)⟩
        case measure => simp [intOf]; omega
      by_cases hreg : oreg = rreg
      case neg =>
        have hreg1 : (oreg == rreg) = false := by simp [hreg]
        have hreg2 : (oreg != rreg) = true := by simp [hreg]
        have HQ : Hid (st ⟨oid, oreg, oval, true, oba, oera, oca, odo⟩ k = false) := by unfold Hid; rw [HV.out, hreg1]; rfl
        clear hreg
        go_wp2_with fail
        go_roundw
        case rel => exact ⟨k + 1, by omega, by go_num, zno_succ HO.out HQ.out HN.out, HBN.out _ _ _ (Below.refl _ _)⟩
        case measure => simp [intOf]; omega
      subst hreg
      by_cases hks : (k : Int) = si
      · have HQ : Hid (st ⟨oid, oreg, oval, true, oba, oera, oca, odo⟩ k = false) := by unfold Hid; rw [HV.out]; simp [hks]
        have hks' : ((k : Int) == si) = true := by simp [hks]
        clear hks
        go_wp2_with fail
        go_roundw
        case rel => exact ⟨k + 1, by omega, by go_num, zno_succ HO.out HQ.out HN.out, HBN.out _ _ _ (Below.refl _ _)⟩
        case measure => simp [intOf]; omega
      have hks' : ((k : Int) == si) = false := by simp [hks]
      clear hks
      have HV2 : Hid (st ⟨oid, oreg, oval, true, oba, oera, oca, odo⟩ k = (fv && tl ⟨oid, oreg, oval, true, oba, oera, oca, odo⟩)) := by unfold Hid; rw [HV.out, hks']; simp
      clear HV
      go_wp2_with fail
      refine (HFK.out _ ((Below.refl _ _).alloc (Nat.le_refl _) _)).mono ?_
      rintro r w2 ⟨rfl, hb2⟩
      have hbr : Below W0.heap.size W0 w2 := HBN.out _ _ _ hb2
      have hxo := newBox hb2
      have hb2' : Below wr.heap.size wr w2 := ((Below.refl _ _).alloc (Nat.le_refl _) _).trans (hb2.mono (by simp))
      clear hb2 c0 c1 c2 c3 c4 c5 c6 c7 x0 x1 x2 x3 x4 x5 x6 x7
      have hol := heapLt hxo
      cases fv
      case false =>
        have HQ : Hid (st ⟨oid, oreg, oval, true, oba, oera, oca, odo⟩ k = false) := HV2.out
        go_wp2
        go_roundw
        case rel => exact ⟨k + 1, by omega, by go_num, zno_succ HO.out HQ.out HN.out, hbr⟩
        case measure => simp [intOf]; omega
      go_wp2_with fail
      rcases HS.out with ⟨rfl, rfl⟩ | ⟨i, so, rfl, hso, rfl⟩
      · have HQ : Hid (st ⟨oid, oreg, oval, true, oba, oera, oca, odo⟩ k = true) := HV2.out
        refine quiet_below (by kernel_rfl) (by kernel_rfl) ?_
        repeat (go_big_quiet_step (fail))
        refine wpQuiet_nil ?_
        intro W2 hb3
        have hbr3 := hbr.trans (hb3.mono hbr.size)
        go_wp2
        go_ret
        exact ⟨ret_int (by rw [zfind_stop HO.out HQ.out HN.out]; rfl), hbW0.trans (hbr3.mono hz0)⟩
      · have HV3 : Hid (st ⟨oid, oreg, oval, true, oba, oera, oca, odo⟩ k = (precB so ⟨oid, oreg, oval, true, oba, oera, oca, odo⟩ || decide (so.era < oera))) := by unfold Hid; rw [HV2.out]; rfl
        have R := fun d xs => OpS.cells (((HOPS.out.below hb2').more hb2'.size).below (below_regrown w2 d xs)) hso
        have X := fun d xs => (boxR (o := ⟨oid, oreg, oval, true, oba, oera, oca, odo⟩) (heapBelow hxo (below_regrown w2 d xs)))
        have hil : i < os.length := (List.getElem?_eq_some_iff.1 hso).1
        have hil' : (i : Int) < (os.length : Int) := by omega
        have hi0 : decide ((i : Int) < 0) = false := by simp
        have HPS := Lib.hid (HP.out so)
        clear hso HV2 HP
        obtain ⟨sid, sreg, sval, swr, sba, sera, sca, sdo⟩ := so
        simp only at R X HPS HV3
        generalize precB ⟨sid, sreg, sval, swr, sba, sera, sca, sdo⟩ ⟨oid, oreg, oval, true, oba, oera, oca, odo⟩ = pb at *
        cases pb
        · by_cases hera : sera < oera
          · have hera' : decide (sera < oera) = true := by simpa using hera
            have HQ : Hid (st ⟨oid, oreg, oval, true, oba, oera, oca, odo⟩ k = true) := by unfold Hid; rw [HV3.out, hera']; rfl
            refine quiet_below (by kernel_rfl) (by kernel_rfl) ?_
            repeat (go_big_quiet_step ((go_at_call 65; exact Calls.regrown_of (HPS.out _))))
            refine wpQuiet_nil ?_
            intro W2 hb3
            clear R X
            have hbr3 := hbr.trans (hb3.mono hbr.size)
            go_wp2
            go_ret
            exact ⟨ret_int (by rw [zfind_stop HO.out HQ.out HN.out]; rfl), hbW0.trans (hbr3.mono hz0)⟩
          · have hera' : decide (sera < oera) = false := by simpa using hera
            have HQ : Hid (st ⟨oid, oreg, oval, true, oba, oera, oca, odo⟩ k = false) := by unfold Hid; rw [HV3.out, hera']; rfl
            refine quiet_below (by kernel_rfl) (by kernel_rfl) ?_
            repeat (go_big_quiet_step ((go_at_call 65; exact Calls.regrown_of (HPS.out _))))
            refine wpQuiet_nil ?_
            intro W2 hb3
            clear R X
            have hbr3 := hbr.trans (hb3.mono hbr.size)
            go_wp2
            go_roundw
            case rel => exact ⟨k + 1, by omega, by go_num, zno_succ HO.out HQ.out HN.out, hbr3⟩
            case measure => simp [intOf]; omega
        · have HQ : Hid (st ⟨oid, oreg, oval, true, oba, oera, oca, odo⟩ k = true) := HV3.out
          refine quiet_below (by kernel_rfl) (by kernel_rfl) ?_
          repeat (go_big_quiet_step ((go_at_call 65; exact Calls.regrown_of (HPS.out _))))
          refine wpQuiet_nil ?_
          intro W2 hb3
          clear R X
          have hbr3 := hbr.trans (hb3.mono hbr.size)
          go_wp2
          go_ret
          exact ⟨ret_int (by rw [zfind_stop HO.out HQ.out HN.out]; rfl), hbW0.trans (hbr3.mono hz0)⟩
    · obtain rfl : k = os.length := by omega
      go_wp2
      go_ret
      exact ⟨ret_int (by rw [zfind_none HN.out]; rfl), hbW0.trans (hb.mono hz0)⟩
end Go.Proofs.Ytldjodgpbnkleaa
