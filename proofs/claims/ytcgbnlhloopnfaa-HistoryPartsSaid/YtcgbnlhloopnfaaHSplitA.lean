/- Walks of history.Split: its closure, slices.IndexFunc and slices.DeleteFunc over events; tegularef45.Split. -/
import Derived.Test.YtcgbnlhloopnfaaHist
import Derived.Test.YtcgbnlhloopnfaaHistLaw
import Derived.Test.YtcgbnlhloopnfaaRecC
import Derived.Test.YtcgbnlhloopnfaaRefB
import Derived.Laws.IdiomCopy
import Derived.Maps.Range
namespace Go.Proofs.Ytcgbnlhloopnfaa
open Go.RowKit

def keepB (r : Int) (e : Ev) : Bool := e.kind == 3 || flushB e || e.reg == r

set_option maxHeartbeats 1000000 in
set_option maxRecDepth 100000 in
theorem split_del (r : Int) (e : Ev) (x0 : Nat) (w : World) (hx : w.cell? ⟨x0, 0, none⟩ = some (.int .i64 r)) (hxl : x0 < w.heap.size) :
    Calls Try.prog 35 #[e.agg, .pointer (some ⟨x0, 0, none⟩)] w fun s w' => s = .returned (.bool (!keepB r e)) ∧ Below w.heap.size w w' := by
  have HF := Lib.hid (fun W => flush_any e W)
  have HV : Hid (keepB r e = (e.kind == 3 || flushB e || e.reg == r)) := rfl
  generalize flushB e = fb at *
  have hne : x0 ≠ w.heap.size := by omega
  obtain ⟨ek, eo, ew, er, ev, eb⟩ := e
  simp only at HV HF
  unfold Ev.agg at HF ⊢
  simp only at HF ⊢
  by_cases h3 : ek = 3
  · have h3' : (ek != 3) = false := by simp [h3]
    have HR : Hid (keepB r ⟨ek, eo, ew, er, ev, eb⟩ = true) := by unfold Hid; rw [HV.out]; simp [h3]
    clear h3
    go_enter Try.func35, Try.ntmps35
    go_wp2
    go_ret
    exact ⟨ret_bool (by rw [HR.out]; rfl), below_laid⟩
  · have h3' : (ek != 3) = true := by simpa using h3
    have HR : Hid (keepB r ⟨ek, eo, ew, er, ev, eb⟩ = (fb || er == r)) := by
      have : (ek == 3) = false := by simpa using h3
      unfold Hid; rw [HV.out, this]; rfl
    clear h3
    go_enter Try.func35, Try.ntmps35
    go_wp2_with fail
    refine (HF.out _).mono ?_
    rintro q w1 ⟨rfl, hb1⟩
    have hb : Below w.heap.size w w1 := below_laid.trans (hb1.mono (by simp))
    have d3 : w1.cell? ⟨w.heap.size, 3, none⟩ = some (.int .i64 er) := (hb1.cell (p := ⟨w.heap.size, 3, none⟩) (by simp)).trans (by rw [cell_of_row _ _ _ _ _ _ (heap_alloc_new w _)]; rfl)
    have dx : w1.cell? ⟨x0, 0, none⟩ = some (.int .i64 r) := (hb.cell (p := ⟨x0, 0, none⟩) hxl).trans hx
    have hz1 : w.heap.size < w1.heap.size := by have := hb1.size; simp at this; omega
    have hxl1 : x0 < w1.heap.size := by omega
    clear hb1
    cases fb
    · go_wp2
      all_goals
        go_ret
        exact ⟨ret_bool (by rw [HR.out]; rfl), hb⟩
    · go_wp2
      go_ret
      exact ⟨ret_bool (by rw [HR.out]; rfl), hb⟩

def idxE : Option Nat → Int
  | some i => i
  | none => -1
set_option maxHeartbeats 1000000 in
set_option maxRecDepth 100000 in
theorem index_ev (p : Ev → Bool) (x0 : Nat) (l : List Ev) (A : Option Addr) (c B : Nat) (w : World) (h : EvS w B A l) (hB : B ≤ w.heap.size) (hlen : l.length ≤ 1000000)
    (hf : ∀ e, ∀ w', Below w.heap.size w w' → Calls Try.prog 35 #[e.agg, .pointer (some ⟨x0, 0, none⟩)] w' fun r w2 => r = .returned (.bool (p e)) ∧ Below w'.heap.size w' w2) :
    Calls Try.prog 60 #[.slice A l.length c, .func (.func 35) #[] #[.pointer (some ⟨x0, 0, none⟩)]] w fun r w' => r = .returned (.int .i64 (idxE (l.findIdx? p))) ∧ Below w.heap.size w w' := by
  have HF := Lib.hid hf
  clear hf
  go_enter Try.func60, Try.ntmps60
  go_wp2
  go_loopw [8] (fun i wr => ∃ k : Nat, k ≤ l.length ∧ i = .int .i64 k ∧ (∀ j o, j < k → l[j]? = some o → p o = false) ∧ Below w.heap.size w wr) (fun i _ => l.length - (intOf i).toNat)
  case atStart => exact ⟨0, by omega, rfl, fun j _ hj => absurd hj (by omega), Below.refl _ _⟩
  case round =>
    obtain ⟨k, hk, rfl, hno, hb⟩ := hrel
    have HN := Lib.hid hno
    clear hno
    by_cases hlt : k < l.length
    · obtain ⟨b, off, o, rfl, hbB, ho, c0, c1, c2, c3, c4, c5⟩ := EvS.at_ (h.below' hb hB) (k := k) hlt
      have HO := Lib.hid ho
      clear ho
      have hs := hb.size
      have HC := Lib.hid (HF.out o wr hb)
      rcases hp : p o with _ | _
      · rw [hp] at HC
        have HP := Lib.hid hp
        clear hp
        go_wp2_with fail
        refine HC.out.mono ?_
        rintro r w1 ⟨rfl, hb1⟩
        go_wp2
        go_roundw
        case rel => exact ⟨k + 1, by omega, by go_num, fun j o' hj hjo => by
          rcases Nat.lt_or_eq_of_le (Nat.le_of_lt_succ hj) with hj' | rfl
          · exact HN.out j o' hj' hjo
          · rw [HO.out] at hjo; cases hjo; exact HP.out, hb.trans (hb1.mono hs)⟩
        case measure => simp [intOf]; omega
      · rw [hp] at HC
        have HP := Lib.hid hp
        clear hp
        go_wp2_with fail
        refine HC.out.mono ?_
        rintro r w1 ⟨rfl, hb1⟩
        go_wp2
        go_ret
        have hfi : l.findIdx? p = some k := by
          rw [List.findIdx?_eq_some_iff_getElem]
          have hel : l[k] = o := by have := HO.out; rw [List.getElem?_eq_getElem hlt] at this; exact Option.some.inj this
          exact ⟨hlt, by rw [hel]; exact HP.out, fun j hj => by rw [HN.out j l[j] hj (List.getElem?_eq_getElem (by omega))]; simp⟩
        exact ⟨ret_int (by rw [hfi]; rfl), hb.trans (hb1.mono hs)⟩
    · obtain rfl : k = l.length := by omega
      go_wp2
      go_ret
      have hfi : l.findIdx? p = none := by
        rw [List.findIdx?_eq_none_iff]
        intro o ho
        obtain ⟨j, hj, rfl⟩ := List.getElem_of_mem ho
        exact HN.out j _ hj (List.getElem?_eq_getElem hj)
      exact ⟨ret_int (by rw [hfi]; rfl), hb⟩

end Go.Proofs.Ytcgbnlhloopnfaa
