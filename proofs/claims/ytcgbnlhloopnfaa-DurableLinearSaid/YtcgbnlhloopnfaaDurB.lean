/- Walks of durable: the closures of certain, slices.IndexFunc and slices.ContainsFunc over them, final. (Printed in part by a program.) -/
import Derived.Test.YtcgbnlhloopnfaaDurA
import Derived.StillTailTactics
import Derived.Laws.EntriesVeiled
namespace Go.Proofs.Ytcgbnlhloopnfaa
open Go.RowKit

theorem boxO {w : World} {x : Nat} {o : Opr} (h : w.heap[x]? = some (.cells o.cells.toArray 39)) :
    w.cell? ⟨x, 0, none⟩ = some (.int .i64 o.id) ∧ w.cell? ⟨x, 1, none⟩ = some (.int .i64 o.reg) ∧ w.cell? ⟨x, 2, none⟩ = some (.int .i64 o.val) ∧ w.cell? ⟨x, 3, none⟩ = some (.bool o.write) ∧
    w.cell? ⟨x, 4, none⟩ = some (.bool o.barrier) ∧ w.cell? ⟨x, 5, none⟩ = some (.int .i64 o.era) ∧ w.cell? ⟨x, 6, none⟩ = some (.int .i64 o.call) ∧ w.cell? ⟨x, 7, none⟩ = some (.int .i64 o.done) := by
  refine ⟨?_, ?_, ?_, ?_, ?_, ?_, ?_, ?_⟩ <;> rw [cell_of_row _ _ _ _ _ _ h] <;> rfl
theorem heapBelow {w w' : World} {x : Nat} {o : Obj} (h : w.heap[x]? = some o) (hb : Below w.heap.size w w') : w'.heap[x]? = some o := (hb.block x (Array.getElem?_eq_some_iff.1 h).1).trans h
theorem heapLt {w : World} {x : Nat} {o : Obj} (h : w.heap[x]? = some o) : x < w.heap.size := (Array.getElem?_eq_some_iff.1 h).1

set_option maxHeartbeats 1000000 in
set_option maxRecDepth 100000 in
theorem cert1_any (o wo : Opr) (x : Nat) (w : World) (hx : w.heap[x]? = some (.cells wo.cells.toArray 39)) :
    Calls Try.prog 103 #[o.agg, .pointer (some ⟨x, 0, none⟩)] w fun r w' => r = .returned (.bool (rule1 wo o)) ∧ Below w.heap.size w w' := by
  obtain ⟨oid, oreg, oval, owr, oba, oera, oca, odo⟩ := o
  obtain ⟨wid, wreg, wval, wwr, wba, wera, wca, wdo⟩ := wo
  obtain ⟨x0, x1, x2, x3, x4, x5, x6, x7⟩ := boxO hx
  simp only at x0 x1 x2 x3 x4 x5 x6 x7
  have hxl := heapLt hx
  have HPR := Lib.hid (fun w => dprecedes_any ⟨wid, wreg, wval, wwr, wba, wera, wca, wdo⟩ ⟨oid, oreg, oval, owr, oba, oera, oca, odo⟩ w)
  have HV : Hid (rule1 ⟨wid, wreg, wval, wwr, wba, wera, wca, wdo⟩ ⟨oid, oreg, oval, owr, oba, oera, oca, odo⟩ = (oba && decide (0 ≤ odo) && oera == wera && precB ⟨wid, wreg, wval, wwr, wba, wera, wca, wdo⟩ ⟨oid, oreg, oval, owr, oba, oera, oca, odo⟩)) := rfl
  unfold Opr.agg at HPR ⊢
  simp only at HPR ⊢
  generalize rule1 ⟨wid, wreg, wval, wwr, wba, wera, wca, wdo⟩ ⟨oid, oreg, oval, owr, oba, oera, oca, odo⟩ = res at *
  generalize precB ⟨wid, wreg, wval, wwr, wba, wera, wca, wdo⟩ ⟨oid, oreg, oval, owr, oba, oera, oca, odo⟩ = pb at *
  clear hx
  cases oba
  · have HR : Hid (res = false) := HV.out
    go_enter Try.func103, Try.ntmps103
    go_wp2_with fail
    go_ret
    exact ⟨ret_bool HR.out.symm, (Below.refl _ _).alloc (Nat.le_refl _) _⟩
  by_cases h2 : 0 ≤ odo
  · by_cases h3 : oera = wera
    · subst h3
      have HR : Hid (res = pb) := by unfold Hid; rw [HV.out]; simp [h2]
      go_enter Try.func103, Try.ntmps103
      go_wp2_with fail
      refine (HPR.out _).mono ?_
      rintro r w1 ⟨rfl, hb1⟩
      have hb : Below w.heap.size w w1 := ((Below.refl _ _).alloc (Nat.le_refl _) _).trans (hb1.mono (by simp))
      cases pb
      · go_wp2
        go_ret
        exact ⟨ret_bool HR.out.symm, hb⟩
      · go_wp2
        go_ret
        exact ⟨ret_bool HR.out.symm, hb⟩
    · have h3' : (oera == wera) = false := by simp [h3]
      have HR : Hid (res = false) := by unfold Hid; rw [HV.out, h3']; simp
      clear h3
      go_enter Try.func103, Try.ntmps103
      go_wp2_with fail
      go_ret
      exact ⟨ret_bool HR.out.symm, (Below.refl _ _).alloc (Nat.le_refl _) _⟩
  · have h2' : decide (0 ≤ odo) = false := by simpa using h2
    have HR : Hid (res = false) := by unfold Hid; rw [HV.out, h2']; simp
    go_enter Try.func103, Try.ntmps103
    go_wp2_with fail
    go_ret
    exact ⟨ret_bool HR.out.symm, (Below.refl _ _).alloc (Nat.le_refl _) _⟩

def idxD : Option Nat → Int
  | some i => i
  | none => -1

set_option maxHeartbeats 1000000 in
set_option maxRecDepth 100000 in
theorem index_c1 (p : Opr → Bool) (x0 : Nat) (os : List Opr) (A : Option Addr) (c B : Nat) (w : World) (h : OpS w B A os) (hB : B ≤ w.heap.size) (hlen : os.length ≤ 1000000)
    (hf : ∀ o ∈ os, ∀ w', Below w.heap.size w w' → Calls Try.prog 103 #[o.agg, .pointer (some ⟨x0, 0, none⟩)] w' fun r w2 => r = .returned (.bool (p o)) ∧ Below w'.heap.size w' w2) :
    Calls Try.prog 81 #[.slice A os.length c, .func (.func 103) #[] #[.pointer (some ⟨x0, 0, none⟩)]] w fun r w' => r = .returned (.int .i64 (idxD (os.findIdx? p))) ∧ Below w.heap.size w w' := by
  have HF := Lib.hid hf
  clear hf
  go_enter Try.func81, Try.ntmps81
  go_wp2
  go_loopw [8] (fun i wr => ∃ k : Nat, k ≤ os.length ∧ i = .int .i64 k ∧ (∀ j o, j < k → os[j]? = some o → p o = false) ∧ Below w.heap.size w wr) (fun i _ => os.length - (intOf i).toNat)
  case atStart => exact ⟨0, by omega, rfl, fun j _ hj => absurd hj (by omega), Below.refl _ _⟩
  case round =>
    obtain ⟨k, hk, rfl, hno, hb⟩ := hrel
    have HN := Lib.hid hno
    clear hno
    by_cases hlt : k < os.length
    · obtain ⟨b, off, o, rfl, hbB, ho, c0, c1, c2, c3, c4, c5, c6, c7⟩ := OpS.at_ (h.below' hb hB) hlt
      have HO := Lib.hid ho
      clear ho
      have hs := hb.size
      have HC := Lib.hid (HF.out o (List.mem_of_getElem? HO.out) wr hb)
      rcases hp : p o with _ | _
      · rw [hp] at HC
        have HP := Lib.hid hp
        clear hp
        go_wp2_with fail
        refine HC.out.mono ?_
        rintro r w1 ⟨rfl, hb1⟩
        go_wp2
        go_roundw
        case rel => exact ⟨k + 1, by omega, by go_num, fun j o' hj hjo => by
          rcases Nat.lt_or_eq_of_le (Nat.le_of_lt_succ hj) with hj' | rfl
          · exact HN.out j o' hj' hjo
          · rw [HO.out] at hjo; cases hjo; exact HP.out, hb.trans (hb1.mono hs)⟩
        case measure => simp [intOf]; omega
      · rw [hp] at HC
        have HP := Lib.hid hp
        clear hp
        go_wp2_with fail
        refine HC.out.mono ?_
        rintro r w1 ⟨rfl, hb1⟩
        go_wp2
        go_ret
        have hfi : os.findIdx? p = some k := by
          rw [List.findIdx?_eq_some_iff_getElem]
          have hel : os[k] = o := by have := HO.out; rw [List.getElem?_eq_getElem hlt] at this; exact Option.some.inj this
          exact ⟨hlt, by rw [hel]; exact HP.out, fun j hj => by rw [HN.out j os[j] hj (List.getElem?_eq_getElem (by omega))]; simp⟩
        exact ⟨ret_int (by rw [hfi]; rfl), hb.trans (hb1.mono hs)⟩
    · obtain rfl : k = os.length := by omega
      go_wp2
      go_ret
      have hfi : os.findIdx? p = none := by
        rw [List.findIdx?_eq_none_iff]
        intro o ho
        obtain ⟨j, hj, rfl⟩ := List.getElem_of_mem ho
        exact HN.out j _ hj (List.getElem?_eq_getElem hj)
      exact ⟨ret_int (by rw [hfi]; rfl), hb⟩

set_option maxHeartbeats 1000000 in
set_option maxRecDepth 100000 in
theorem index_c2 (p : Opr → Bool) (x0 x1 : Nat) (os : List Opr) (A : Option Addr) (c B : Nat) (w : World) (h : OpS w B A os) (hB : B ≤ w.heap.size) (hlen : os.length ≤ 1000000)
    (hf : ∀ o ∈ os, ∀ w', Below w.heap.size w w' → Calls Try.prog 104 #[o.agg, .pointer (some ⟨x0, 0, none⟩), .pointer (some ⟨x1, 0, none⟩)] w' fun r w2 => r = .returned (.bool (p o)) ∧ Below w'.heap.size w' w2) :
    Calls Try.prog 81 #[.slice A os.length c, .func (.func 104) #[] #[.pointer (some ⟨x0, 0, none⟩), .pointer (some ⟨x1, 0, none⟩)]] w fun r w' => r = .returned (.int .i64 (idxD (os.findIdx? p))) ∧ Below w.heap.size w w' := by
  have HF := Lib.hid hf
  clear hf
  go_enter Try.func81, Try.ntmps81
  go_wp2
  go_loopw [8] (fun i wr => ∃ k : Nat, k ≤ os.length ∧ i = .int .i64 k ∧ (∀ j o, j < k → os[j]? = some o → p o = false) ∧ Below w.heap.size w wr) (fun i _ => os.length - (intOf i).toNat)
  case atStart => exact ⟨0, by omega, rfl, fun j _ hj => absurd hj (by omega), Below.refl _ _⟩
  case round =>
    obtain ⟨k, hk, rfl, hno, hb⟩ := hrel
    have HN := Lib.hid hno
    clear hno
    by_cases hlt : k < os.length
    · obtain ⟨b, off, o, rfl, hbB, ho, c0, c1, c2, c3, c4, c5, c6, c7⟩ := OpS.at_ (h.below' hb hB) hlt
      have HO := Lib.hid ho
      clear ho
      have hs := hb.size
      have HC := Lib.hid (HF.out o (List.mem_of_getElem? HO.out) wr hb)
      rcases hp : p o with _ | _
      · rw [hp] at HC
        have HP := Lib.hid hp
        clear hp
        go_wp2_with fail
        refine HC.out.mono ?_
        rintro r w1 ⟨rfl, hb1⟩
        go_wp2
        go_roundw
        case rel => exact ⟨k + 1, by omega, by go_num, fun j o' hj hjo => by
          rcases Nat.lt_or_eq_of_le (Nat.le_of_lt_succ hj) with hj' | rfl
          · exact HN.out j o' hj' hjo
          · rw [HO.out] at hjo; cases hjo; exact HP.out, hb.trans (hb1.mono hs)⟩
        case measure => simp [intOf]; omega
      · rw [hp] at HC
        have HP := Lib.hid hp
        clear hp
        go_wp2_with fail
        refine HC.out.mono ?_
        rintro r w1 ⟨rfl, hb1⟩
        go_wp2
        go_ret
        have hfi : os.findIdx? p = some k := by
          rw [List.findIdx?_eq_some_iff_getElem]
          have hel : os[k] = o := by have := HO.out; rw [List.getElem?_eq_getElem hlt] at this; exact Option.some.inj this
          exact ⟨hlt, by rw [hel]; exact HP.out, fun j hj => by rw [HN.out j os[j] hj (List.getElem?_eq_getElem (by omega))]; simp⟩
        exact ⟨ret_int (by rw [hfi]; rfl), hb.trans (hb1.mono hs)⟩
    · obtain rfl : k = os.length := by omega
      go_wp2
      go_ret
      have hfi : os.findIdx? p = none := by
        rw [List.findIdx?_eq_none_iff]
        intro o ho
        obtain ⟨j, hj, rfl⟩ := List.getElem_of_mem ho
        exact HN.out j _ hj (List.getElem?_eq_getElem hj)
      exact ⟨ret_int (by rw [hfi]; rfl), hb⟩

set_option maxHeartbeats 1000000 in
set_option maxRecDepth 100000 in
theorem index_j1 (p : Opr → Bool) (x0 x1 x2 : Nat) (os : List Opr) (A : Option Addr) (c B : Nat) (w : World) (h : OpS w B A os) (hB : B ≤ w.heap.size) (hlen : os.length ≤ 1000000)
    (hf : ∀ o ∈ os, ∀ w', Below w.heap.size w w' → Calls Try.prog 82 #[o.agg, .pointer (some ⟨x0, 0, none⟩), .pointer (some ⟨x1, 0, none⟩), .pointer (some ⟨x2, 0, none⟩)] w' fun r w2 => r = .returned (.bool (p o)) ∧ Below w'.heap.size w' w2) :
    Calls Try.prog 81 #[.slice A os.length c, .func (.func 82) #[] #[.pointer (some ⟨x0, 0, none⟩), .pointer (some ⟨x1, 0, none⟩), .pointer (some ⟨x2, 0, none⟩)]] w fun r w' => r = .returned (.int .i64 (idxD (os.findIdx? p))) ∧ Below w.heap.size w w' := by
  have HF := Lib.hid hf
  clear hf
  go_enter Try.func81, Try.ntmps81
  go_wp2
  go_loopw [8] (fun i wr => ∃ k : Nat, k ≤ os.length ∧ i = .int .i64 k ∧ (∀ j o, j < k → os[j]? = some o → p o = false) ∧ Below w.heap.size w wr) (fun i _ => os.length - (intOf i).toNat)
  case atStart => exact ⟨0, by omega, rfl, fun j _ hj => absurd hj (by omega), Below.refl _ _⟩
  case round =>
    obtain ⟨k, hk, rfl, hno, hb⟩ := hrel
    have HN := Lib.hid hno
    clear hno
    by_cases hlt : k < os.length
    · obtain ⟨b, off, o, rfl, hbB, ho, c0, c1, c2, c3, c4, c5, c6, c7⟩ := OpS.at_ (h.below' hb hB) hlt
      have HO := Lib.hid ho
      clear ho
      have hs := hb.size
      have HC := Lib.hid (HF.out o (List.mem_of_getElem? HO.out) wr hb)
      rcases hp : p o with _ | _
      · rw [hp] at HC
        have HP := Lib.hid hp
        clear hp
        go_wp2_with fail
        refine HC.out.mono ?_
        rintro r w1 ⟨rfl, hb1⟩
        go_wp2
        go_roundw
        case rel => exact ⟨k + 1, by omega, by go_num, fun j o' hj hjo => by
          rcases Nat.lt_or_eq_of_le (Nat.le_of_lt_succ hj) with hj' | rfl
          · exact HN.out j o' hj' hjo
          · rw [HO.out] at hjo; cases hjo; exact HP.out, hb.trans (hb1.mono hs)⟩
        case measure => simp [intOf]; omega
      · rw [hp] at HC
        have HP := Lib.hid hp
        clear hp
        go_wp2_with fail
        refine HC.out.mono ?_
        rintro r w1 ⟨rfl, hb1⟩
        go_wp2
        go_ret
        have hfi : os.findIdx? p = some k := by
          rw [List.findIdx?_eq_some_iff_getElem]
          have hel : os[k] = o := by have := HO.out; rw [List.getElem?_eq_getElem hlt] at this; exact Option.some.inj this
          exact ⟨hlt, by rw [hel]; exact HP.out, fun j hj => by rw [HN.out j os[j] hj (List.getElem?_eq_getElem (by omega))]; simp⟩
        exact ⟨ret_int (by rw [hfi]; rfl), hb.trans (hb1.mono hs)⟩
    · obtain rfl : k = os.length := by omega
      go_wp2
      go_ret
      have hfi : os.findIdx? p = none := by
        rw [List.findIdx?_eq_none_iff]
        intro o ho
        obtain ⟨j, hj, rfl⟩ := List.getElem_of_mem ho
        exact HN.out j _ hj (List.getElem?_eq_getElem hj)
      exact ⟨ret_int (by rw [hfi]; rfl), hb⟩

set_option maxHeartbeats 400000 in
theorem contains_c1 (p : Opr → Bool) (x0 : Nat) (os : List Opr) (A : Option Addr) (c B : Nat) (w : World) (h : OpS w B A os) (hB : B ≤ w.heap.size) (hlen : os.length ≤ 1000000)
    (hf : ∀ o ∈ os, ∀ w', Below w.heap.size w w' → Calls Try.prog 103 #[o.agg, .pointer (some ⟨x0, 0, none⟩)] w' fun r w2 => r = .returned (.bool (p o)) ∧ Below w'.heap.size w' w2) :
    Calls Try.prog 97 #[.slice A os.length c, .func (.func 103) #[] #[.pointer (some ⟨x0, 0, none⟩)]] w fun r w' => r = .returned (.bool (os.any p)) ∧ Below w.heap.size w w' := by
  have HI := Lib.hid (index_c1 p x0 os A c B w h hB hlen hf)
  rcases hfi : os.findIdx? p with _ | i
  · have HA : Hid (os.any p = false) := by
      rw [List.findIdx?_eq_none_iff] at hfi
      unfold Hid
      rw [List.any_eq_false]
      intro o ho
      rw [hfi o ho]
      simp
    rw [hfi] at HI
    simp only [idxD] at HI
    clear hf hfi
    go_enter Try.func97, Try.ntmps97
    go_wp2_with fail
    refine HI.out.mono ?_
    rintro r w1 ⟨rfl, hb1⟩
    go_wp2
    go_ret
    exact ⟨ret_bool HA.out.symm, hb1⟩
  · have HA : Hid (os.any p = true) := by
      obtain ⟨hlt, hp, _⟩ := List.findIdx?_eq_some_iff_getElem.1 hfi
      unfold Hid
      rw [List.any_eq_true]
      exact ⟨os[i], List.getElem_mem hlt, hp⟩
    rw [hfi] at HI
    simp only [idxD] at HI
    clear hf hfi
    go_enter Try.func97, Try.ntmps97
    go_wp2_with fail
    refine HI.out.mono ?_
    rintro r w1 ⟨rfl, hb1⟩
    go_wp2
    go_ret
    exact ⟨ret_bool (by rw [HA.out]), hb1⟩

set_option maxHeartbeats 400000 in
theorem contains_c2 (p : Opr → Bool) (x0 x1 : Nat) (os : List Opr) (A : Option Addr) (c B : Nat) (w : World) (h : OpS w B A os) (hB : B ≤ w.heap.size) (hlen : os.length ≤ 1000000)
    (hf : ∀ o ∈ os, ∀ w', Below w.heap.size w w' → Calls Try.prog 104 #[o.agg, .pointer (some ⟨x0, 0, none⟩), .pointer (some ⟨x1, 0, none⟩)] w' fun r w2 => r = .returned (.bool (p o)) ∧ Below w'.heap.size w' w2) :
    Calls Try.prog 97 #[.slice A os.length c, .func (.func 104) #[] #[.pointer (some ⟨x0, 0, none⟩), .pointer (some ⟨x1, 0, none⟩)]] w fun r w' => r = .returned (.bool (os.any p)) ∧ Below w.heap.size w w' := by
  have HI := Lib.hid (index_c2 p x0 x1 os A c B w h hB hlen hf)
  rcases hfi : os.findIdx? p with _ | i
  · have HA : Hid (os.any p = false) := by
      rw [List.findIdx?_eq_none_iff] at hfi
      unfold Hid
      rw [List.any_eq_false]
      intro o ho
      rw [hfi o ho]
      simp
    rw [hfi] at HI
    simp only [idxD] at HI
    clear hf hfi
    go_enter Try.func97, Try.ntmps97
    go_wp2_with fail
    refine HI.out.mono ?_
    rintro r w1 ⟨rfl, hb1⟩
    go_wp2
    go_ret
    exact ⟨ret_bool HA.out.symm, hb1⟩
  · have HA : Hid (os.any p = true) := by
      obtain ⟨hlt, hp, _⟩ := List.findIdx?_eq_some_iff_getElem.1 hfi
      unfold Hid
      rw [List.any_eq_true]
      exact ⟨os[i], List.getElem_mem hlt, hp⟩
    rw [hfi] at HI
    simp only [idxD] at HI
    clear hf hfi
    go_enter Try.func97, Try.ntmps97
    go_wp2_with fail
    refine HI.out.mono ?_
    rintro r w1 ⟨rfl, hb1⟩
    go_wp2
    go_ret
    exact ⟨ret_bool (by rw [HA.out]), hb1⟩
end Go.Proofs.Ytcgbnlhloopnfaa
