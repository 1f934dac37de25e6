/- Walks of linear's find, and of ready over follow's closure. (Lines of LinC, FndB.)
Walk of linear's follow. -/
import Derived.Test.YtcgbnlhloopnfaaDoorFndD
import Derived.Test.YtcgbnlhloopnfaaDoorGMem
import Derived.Test.YtcgbnlhloopnfaaDoorGPln
namespace Go.Proofs.YtcgbnlhloopnfaaDoor
open Go.RowKit

def readyQB (X : List Opr) (q : Nat → Bool) (i k : Nat) : Bool := k == i || q k || !precO (opAt X k) (opAt X i)
def readyQ (X : List Opr) (q : Nat → Bool) (i : Nat) : Bool := (List.range X.length).all fun k => readyQB X q i k
theorem readyQ_true {X : List Opr} {q : Nat → Bool} {i : Nat} (h : ∀ k, k < X.length → readyQB X q i k = true) : readyQ X q i = true := List.all_eq_true.2 fun k hk => h k (by simpa using hk)
theorem readyQ_false {X : List Opr} {q : Nat → Bool} {i k : Nat} (hk : k < X.length) (h : readyQB X q i k = false) : readyQ X q i = false :=
  List.all_eq_false.2 ⟨k, by simpa using hk, fun hc => by rw [h] at hc; cases hc⟩

set_option maxHeartbeats 1000000 in
set_option maxRecDepth 100000 in
theorem index_fd (p : Opr → Bool) (x0 : Nat) (os : List Opr) (A : Option Addr) (c B : Nat) (w : World) (h : OpS w B A os) (hB : B ≤ w.heap.size) (hlen : os.length ≤ 1000000)
    (hf : ∀ o ∈ os, ∀ w', Below w.heap.size w w' → Calls Tryd.prog 75 #[o.agg, .pointer (some ⟨x0, 0, none⟩)] w' fun r w2 => r = .returned (.bool (p o)) ∧ Below w'.heap.size w' w2) :
    Calls Tryd.prog 74 #[.slice A os.length c, .func (.func 75) #[] #[.pointer (some ⟨x0, 0, none⟩)]] w fun r w' => r = .returned (.int .i64 (idxI (os.findIdx? p))) ∧ Below w.heap.size w w' := by
  have HF := Lib.hid hf
  clear hf
  go_enter Tryd.func74, Tryd.ntmps74
  go_wp2
  go_loopw [8] (fun i wr => ∃ k : Nat, k ≤ os.length ∧ i = .int .i64 k ∧ (∀ j o, j < k → os[j]? = some o → p o = false) ∧ Below w.heap.size w wr) (fun i _ => os.length - (intOf i).toNat)
  case atStart => exact ⟨0, by omega, rfl, fun j _ hj => absurd hj (by omega), Below.refl _ _⟩
  case round =>
    obtain ⟨k, hk, rfl, hno, hb⟩ := hrel
    have HN := Lib.hid hno
    clear hno
    by_cases hlt : k < os.length
    · obtain ⟨b, off, o, rfl, hbB, ho, c0, c1, c2, c3, c4, c5, c6, c7⟩ := OpS.at_ (h.below' hb hB) hlt
      have HO := Lib.hid ho
      clear ho
      have hs := hb.size
      have HC := Lib.hid (HF.out o (List.mem_of_getElem? HO.out) wr hb)
      rcases hp : p o with _ | _
      · rw [hp] at HC
        have HP := Lib.hid hp
        clear hp
        go_wp2_with fail
        refine HC.out.mono ?_
        rintro r w1 ⟨rfl, hb1⟩
        go_wp2
        go_roundw
        case rel => exact ⟨k + 1, by omega, by go_num, fun j o' hj hjo => by
          rcases Nat.lt_or_eq_of_le (Nat.le_of_lt_succ hj) with hj' | rfl
          · exact HN.out j o' hj' hjo
          · rw [HO.out] at hjo; cases hjo; exact HP.out, hb.trans (hb1.mono hs)⟩
        case measure => simp [intOf]; omega
      · rw [hp] at HC
        have HP := Lib.hid hp
        clear hp
        go_wp2_with fail
        refine HC.out.mono ?_
        rintro r w1 ⟨rfl, hb1⟩
        go_wp2
        go_ret
        have hfi : os.findIdx? p = some k := by
          rw [List.findIdx?_eq_some_iff_getElem]
          have hel : os[k] = o := by have := HO.out; rw [List.getElem?_eq_getElem hlt] at this; exact Option.some.inj this
          exact ⟨hlt, by rw [hel]; exact HP.out, fun j hj => by rw [HN.out j os[j] hj (List.getElem?_eq_getElem (by omega))]; simp⟩
        exact ⟨ret_int (by rw [hfi]; rfl), hb.trans (hb1.mono hs)⟩
    · obtain rfl : k = os.length := by omega
      go_wp2
      go_ret
      have hfi : os.findIdx? p = none := by
        rw [List.findIdx?_eq_none_iff]
        intro o ho
        obtain ⟨j, hj, rfl⟩ := List.getElem_of_mem ho
        exact HN.out j _ hj (List.getElem?_eq_getElem hj)
      exact ⟨ret_int (by rw [hfi]; rfl), hb⟩

set_option maxHeartbeats 2000000 in
set_option maxRecDepth 100000 in
theorem readyF_any (x i : Nat) (q : Nat → Bool) {X : List Opr} (Ao As : Option Addr) (co cs ms : Nat) (last : Bool) (w : World) (h : OwS w 0 94 8 (.slice Ao X.length co) (X.map Opr.cells))
    (hf : ∀ k, k < X.length → ∀ W, Below w.heap.size w W → Calls Tryd.prog 57 #[.int .i64 (k : Int), .pointer (some ⟨x, 0, none⟩)] W fun r w' => r = .returned (.bool (q k)) ∧ w' = W)
    (hi : i < X.length) (hlen : X.length ≤ 100000) :
    Calls Tryd.prog 56 #[.agg #[.slice Ao X.length co, .slice As ms cs, .bool last], .func (.func 57) #[] #[.pointer (some ⟨x, 0, none⟩)], .int .i64 (i : Int)] w
      fun r w' => r = .returned (.bool (readyQ X q i)) ∧ Below w.heap.size w w' := by
  obtain ⟨bo, off, rfl⟩ := ops_at h (by omega)
  have HX := Lib.hid h
  have HH := Lib.hid (fun (k : Nat) (hk : k < X.length) (W : World) (hW : Below w.heap.size w W) => (hf k hk W hW).mono (fun r w' ⟨h1, h2⟩ => ⟨h1, h2 ▸ Below.refl _ _⟩ : ∀ r w', _ → r = .returned (.bool (q k)) ∧ Below W.heap.size W w'))
  clear h hf
  go_enter Tryd.func56, Tryd.ntmps56
  go_wp2_with fail
  generalize hW0 : w.alloc _ = w0
  have hb0 : Below w.heap.size w w0 := by rw [← hW0]; exact (Below.refl _ _).alloc (Nat.le_refl _) _
  have hbox : w0.heap[w.heap.size]? = some (.cells #[.slice (some ⟨bo, off, none⟩) X.length co, .slice As ms cs, .bool last] 71) := by rw [← hW0]; exact heap_alloc_new w _
  clear hW0
  have HB0 := Lib.hid hbox
  clear hbox
  have hz0 := hb0.size
  go_loopw [12] (fun v wr => ∃ k : Nat, k ≤ X.length ∧ v = .int .i64 k ∧ (∀ j, j < k → readyQB X q i j = true) ∧ Below w0.heap.size w0 wr) (fun v _ => X.length - (intOf v).toNat)
  case atStart => exact ⟨0, by omega, rfl, fun j hj => absurd hj (by omega), Below.refl _ _⟩
  case round =>
    obtain ⟨k, hk, rfl, hno, hb⟩ := hrel
    have HN := Lib.hid hno
    clear hno
    by_cases hlt : k < X.length
    · have hbw := hb0.trans (hb.mono hz0)
      have HXr := Lib.hid (HX.out.below hbw)
      obtain ⟨hbl, c0, c1, c2, c3, c4, c5, c6, c7⟩ := ops_cells HXr.out hlt
      have HP := Lib.hid (fun W => precedes_any (opAt X k) (opAt X i) W)
      have HHk := Lib.hid (fun W (hW : Below w.heap.size w W) => HH.out k hlt W hW)
      have HV : Hid (readyQB X q i k = (k == i || q k || !precO (opAt X k) (opAt X i))) := rfl
      obtain ⟨i0, i1, i2, i3, i4, i5, i6, i7, hoi⟩ : ∃ a b c d e f g h, opAt X i = ⟨a, b, c, d, e, f, g, h⟩ := ⟨_, _, _, _, _, _, _, _, rfl⟩
      obtain ⟨o0, o1, o2, o3, o4, o5, o6, o7, hok⟩ : ∃ a b c d e f g h, opAt X k = ⟨a, b, c, d, e, f, g, h⟩ := ⟨_, _, _, _, _, _, _, _, rfl⟩
      obtain ⟨rb, HRB⟩ : ∃ rb, Hid (readyQB X q i k = rb) := ⟨_, rfl⟩
      rw [HRB.out] at HV
      generalize q k = tb at *
      generalize precO (opAt X k) (opAt X i) = pb at *
      rw [hok] at c0 c1 c2 c3 c4 c5 c6 c7 HP
      rw [hoi] at HP
      simp only at c0 c1 c2 c3 c4 c5 c6 c7 HP
      have hkl : (k : Int) < (X.length : Int) := by omega
      go_wp2_with fail
      generalize hW : wr.alloc _ = W
      have hbW : Below wr.heap.size wr W := by rw [← hW]; exact (Below.refl _ _).alloc (Nat.le_refl _) _
      have hxb : W.heap[wr.heap.size]? = some (.cells (Opr.cells ⟨o0, o1, o2, o3, o4, o5, o6, o7⟩).toArray 94) := by rw [← hW]; exact heap_alloc_new wr _
      clear hW c0 c1 c2 c3 c4 c5 c6 c7
      have R := fun d xs => ops_cells ((HXr.out.below hbW).below (below_regrown W d xs)) hi
      rw [hoi] at R
      have Xb := fun d xs => (opBox (o := ⟨o0, o1, o2, o3, o4, o5, o6, o7⟩) (keptB hxb (below_regrown W d xs)))
      have E := fun d xs => keptB (keptB (keptB HB0.out hb) hbW) (below_regrown W d xs)
      have E0 := fun d xs => show (Sort.grow (redrawn W d) xs).cell? ⟨w.heap.size, 0, none⟩ = some (.slice (some ⟨bo, off, none⟩) X.length co) by rw [cell_of_row _ _ _ _ _ _ (E d xs)]; rfl
      have HH2 := Lib.hid (fun d xs => HHk.out (Sort.grow (redrawn W d) xs) ((hbw.trans (hbW.mono hbw.size)).trans ((below_regrown W d xs).mono (Nat.le_trans hbw.size hbW.size))))
      simp only at R Xb
      clear E HHk
      have hbn := hbw.trans (hbW.mono hbw.size)
      by_cases hki : k = i
      case pos =>
        have hki1 : ((k : Int) != (i : Int)) = false := by simp [hki]
        have HQ : Hid (rb = true) := by unfold Hid; rw [HV.out]; simp [hki]
        refine quiet_below (by kernel_rfl) (by kernel_rfl) ?_
        repeat (go_big_quiet_step (fail))
        refine wpQuiet_nil ?_
        intro W2 hb2
        clear R Xb E0 HH2 hki hki1
        have hbr : Below w0.heap.size w0 W2 := hb.trans ((hbW.trans (hb2.mono hbW.size)).mono hb.size)
        go_wp2
        go_roundw
        case rel => exact ⟨k + 1, by omega, by go_num, fun j hj => by
          rcases Nat.lt_or_eq_of_le (Nat.le_of_lt_succ hj) with hj' | rfl
          · exact HN.out j hj'
          · rw [HRB.out]; exact HQ.out, hbr⟩
        case measure => simp [intOf]; omega
      have hki1 : ((k : Int) != (i : Int)) = true := by simp; omega
      cases tb
      case true =>
        have HQ : Hid (rb = true) := by unfold Hid; rw [HV.out]; simp
        refine quiet_below (by kernel_rfl) (by kernel_rfl) ?_
        repeat (go_big_quiet_step ((go_at_call 57; exact Calls.regrown_of (HH2.out _ _))))
        refine wpQuiet_nil ?_
        intro W2 hb2
        clear R Xb E0 HH2 hki hki1
        have hbr : Below w0.heap.size w0 W2 := hb.trans ((hbW.trans (hb2.mono hbW.size)).mono hb.size)
        go_wp2
        go_roundw
        case rel => exact ⟨k + 1, by omega, by go_num, fun j hj => by
          rcases Nat.lt_or_eq_of_le (Nat.le_of_lt_succ hj) with hj' | rfl
          · exact HN.out j hj'
          · rw [HRB.out]; exact HQ.out, hbr⟩
        case measure => simp [intOf]; omega
      cases pb
      case false =>
        have HQ : Hid (rb = true) := by unfold Hid; rw [HV.out]; simp
        refine quiet_below (by kernel_rfl) (by kernel_rfl) ?_
        repeat (go_big_quiet_step (first | (go_at_call 57; exact Calls.regrown_of (HH2.out _ _)) | (go_at_call 66; exact Calls.regrown_of (HP.out _))))
        refine wpQuiet_nil ?_
        intro W2 hb2
        clear R Xb E0 HH2 hki hki1
        have hbr : Below w0.heap.size w0 W2 := hb.trans ((hbW.trans (hb2.mono hbW.size)).mono hb.size)
        go_wp2
        go_roundw
        case rel => exact ⟨k + 1, by omega, by go_num, fun j hj => by
          rcases Nat.lt_or_eq_of_le (Nat.le_of_lt_succ hj) with hj' | rfl
          · exact HN.out j hj'
          · rw [HRB.out]; exact HQ.out, hbr⟩
        case measure => simp [intOf]; omega
      case true =>
        have HQ : Hid (rb = false) := by unfold Hid; rw [HV.out]; simp [hki]
        refine quiet_below (by kernel_rfl) (by kernel_rfl) ?_
        repeat (go_big_quiet_step (first | (go_at_call 57; exact Calls.regrown_of (HH2.out _ _)) | (go_at_call 66; exact Calls.regrown_of (HP.out _))))
        refine wpQuiet_nil ?_
        intro W2 hb2
        clear R Xb E0 HH2 hki hki1
        have hbr := hbn.trans (hb2.mono hbn.size)
        go_wp2
        go_ret
        exact ⟨ret_bool (readyQ_false hlt (HRB.out.trans HQ.out)).symm, hbr⟩
    · obtain rfl : k = X.length := by omega
      go_wp2
      go_ret
      exact ⟨ret_bool (readyQ_true HN.out).symm, hb0.trans (hb.mono hz0)⟩

set_option maxHeartbeats 400000 in
theorem fd1_any (y : Nat) (id : Int) (o : Opr) (w : World) (hy : w.cell? ⟨y, 0, none⟩ = some (.int .i64 id)) :
    Calls Tryd.prog 75 #[o.agg, .pointer (some ⟨y, 0, none⟩)] w fun r w' => r = .returned (.bool (o.id == id)) ∧ Below w.heap.size w w' := by
  obtain ⟨o0, o1, o2, o3, o4, o5, o6, o7⟩ := o
  unfold Opr.agg
  have hyl : y < w.heap.size := block_lt_of_cell hy
  have hne : y ≠ w.heap.size := by omega
  go_enter Tryd.func75, Tryd.ntmps75
  go_wp2
  go_ret
  exact ⟨rfl, below_laid⟩
set_option maxHeartbeats 1000000 in
set_option maxRecDepth 100000 in
theorem find_era {X : List Opr} (Ao As : Option Addr) (co cs ms : Nat) (last : Bool) (id : Int) (w : World) (h : OwS w 0 94 8 (.slice Ao X.length co) (X.map Opr.cells)) (hlen : X.length ≤ 1000000) :
    Calls Tryd.prog 55 #[.agg #[.slice Ao X.length co, .slice As ms cs, .bool last], .int .i64 id] w fun r w' => r = .returned (.int .i64 (idxI (X.findIdx? fun o => o.id == id))) ∧ Below w.heap.size w w' := by
  have HC : Hid (∀ W, Below w.heap.size w W → (∀ W2, Below W.heap.size W W2 → W2.cell? ⟨w.heap.size + 1, 0, none⟩ = some (.int .i64 id)) → Calls Tryd.prog 74 #[.slice Ao X.length co, .func (.func 75) #[] #[.pointer (some ⟨w.heap.size + 1, 0, none⟩)]] W
      fun r w' => r = .returned (.int .i64 (idxI (X.findIdx? fun o => o.id == id))) ∧ Below W.heap.size W w') :=
    fun W hW hy => index_fd (fun o => o.id == id) (w.heap.size + 1) X Ao co W.heap.size W (show OpS W W.heap.size Ao X from (h.below hW).reads) (Nat.le_refl _) hlen fun o _ w' hb => fd1_any _ id o w' (hy w' hb)
  clear h
  generalize idxI (X.findIdx? fun o => o.id == id) = fi at *
  go_enter Tryd.func55, Tryd.ntmps55
  go_wp2_with fail
  generalize hWd : (w.alloc _).alloc _ = W
  have hbW : Below w.heap.size w W := by rw [← hWd]; exact below_laid.alloc (by simp) _
  have hy : W.heap[w.heap.size + 1]? = some (.cells #[.int .i64 id] 3) := by rw [← hWd]; exact heap_new_at _ _ (by simp)
  clear hWd
  refine (HC.out W hbW (fun W2 hb => by rw [cell_of_row _ _ _ _ _ _ (keptB hy hb)]; rfl)).mono ?_
  rintro r w1 ⟨rfl, hb1⟩
  have HB := Lib.hid (hbW.trans (hb1.mono hbW.size))
  clear hb1 hbW hy HC
  go_wp2
  go_ret
  exact ⟨rfl, HB.out⟩
end Go.Proofs.YtcgbnlhloopnfaaDoor
namespace Go.Proofs.YtcgbnlhloopnfaaDoor
open Go.RowKit

def folR (X : List Opr) (safe : Opr → Bool) (last : Bool) (ids : List Int) (kept v : Int) : Option Int := if keptOk last (ids, kept) then followI X safe kept v ids else none
def resF : Option Int → Ending
  | some e => .returned (.tuple #[.int .i64 e, .bool true])
  | none => .returned (.tuple #[.int .i64 0, .bool false])
def doneQ (X : List Opr) (dn : List Int) (k : Nat) : Bool := dn.contains (opAt X k).id
theorem run_no {X : List Opr} {safe : Opr → Bool} {kept : Int} {n : Nat} {dn : List Int} {v e id : Int} {r : List Int} (h : X.findIdx? (fun o => o.id == id) = none) : runI X safe kept n dn v e (id :: r) = none := by
  have hf : findO X id = none := by
    unfold findO
    rw [List.find?_eq_none]
    rw [List.findIdx?_eq_none_iff] at h
    intro o ho
    rw [h o ho]
    simp
  rw [runI, hf]
theorem ready_q {X : List Opr} (hids : (X.map (·.id)).Nodup) {dn : List Int} {k : Nat} (hk : k < X.length) : (X.all fun b => b.id == (opAt X k).id || dn.contains b.id || !precO b (opAt X k)) = readyQ X (doneQ X dn) k := by
  rw [Bool.eq_iff_iff]
  unfold readyQ readyQB doneQ
  simp only [List.all_eq_true]
  have key : ∀ j, j < X.length → ((opAt X j).id == (opAt X k).id) = (j == k) := fun j hj => by
    rw [Bool.eq_iff_iff]; simp
    exact ⟨fun e => id_inj hids hj hk e, fun e => by rw [e]⟩
  constructor
  · intro h j hj
    have hj' : j < X.length := by simpa using hj
    have := h _ (opAt_mem hj')
    rwa [key j hj'] at this
  · intro h b hb
    obtain ⟨j, hj, rfl⟩ := List.getElem_of_mem hb
    have he : opAt X j = X[j] := opAt_of (List.getElem?_eq_getElem hj)
    have := h j (by simpa using hj)
    rw [← he, key j hj]
    exact this
theorem run_at {X : List Opr} (hids : (X.map (·.id)).Nodup) {safe : Opr → Bool} {kept : Int} {n : Nat} {dn : List Int} {v e id : Int} {r : List Int} {k : Nat} (h : X.findIdx? (fun o => o.id == id) = some k) :
    k < X.length ∧ (opAt X k).id = id ∧ runI X safe kept n dn v e (id :: r) = (if doneQ X dn k || !readyQ X (doneQ X dn) k then none else if !(opAt X k).write && (decide ((opAt X k).done < 0) || !((opAt X k).val == v)) then none
      else if (n : Int) < kept then runI X safe kept (n + 1) (dn ++ [id]) (valTo (opAt X k) v) (valTo (opAt X k) v) r else if safe (opAt X k) then none else runI X safe kept (n + 1) (dn ++ [id]) (valTo (opAt X k) v) e r) := by
  obtain ⟨hk, hp, -⟩ := List.findIdx?_eq_some_iff_getElem.1 h
  have he : opAt X k = X[k] := opAt_of (List.getElem?_eq_getElem hk)
  have hid : (opAt X k).id = id := by rw [he]; simpa using hp
  refine ⟨hk, hid, ?_⟩
  have hf : findO X id = some (opAt X k) := by rw [← hid]; exact findO_at hids hk
  rw [runI, hf]
  simp only
  rw [ready_q hids hk, show dn.contains id = doneQ X dn k by unfold doneQ; rw [hid]]
theorem run_next {X : List Opr} (hids : (X.map (·.id)).Nodup) {safe : Opr → Bool} {kept : Int} {n : Nat} {dn : List Int} {v e id : Int} {r : List Int} {k : Nat} (h : X.findIdx? (fun o => o.id == id) = some k) (h1 : doneQ X dn k = false) (h2 : readyQ X (doneQ X dn) k = true)
    (h3 : (opAt X k).write = true ∨ (0 ≤ (opAt X k).done ∧ (opAt X k).val = v)) : runI X safe kept n dn v e (id :: r) = if (n : Int) < kept then runI X safe kept (n + 1) (dn ++ [id]) (opAt X k).val (opAt X k).val r else if safe (opAt X k) then none else runI X safe kept (n + 1) (dn ++ [id]) (opAt X k).val e r := by
  rw [(run_at hids h).2.2, h1, h2, if_neg (by simp), if_neg]
  · have hv : valTo (opAt X k) v = (opAt X k).val := by
      unfold valTo
      split
      · rfl
      · rename_i hw
        rcases h3 with h3 | h3
        · exact absurd h3 hw
        · exact h3.2.symm
    rw [hv]
  · rcases h3 with h3 | ⟨h3, h4⟩
    · simp [h3]
    · simp [h4]
      intro _
      omega
theorem run_bad {X : List Opr} (hids : (X.map (·.id)).Nodup) {safe : Opr → Bool} {kept : Int} {n : Nat} {dn : List Int} {v e id : Int} {r : List Int} {k : Nat} (h : X.findIdx? (fun o => o.id == id) = some k)
    (h1 : doneQ X dn k = true ∨ readyQ X (doneQ X dn) k = false ∨ ((opAt X k).write = false ∧ ((opAt X k).done < 0 ∨ (opAt X k).val ≠ v))) : runI X safe kept n dn v e (id :: r) = none := by
  rw [(run_at hids h).2.2]
  by_cases hc : (doneQ X dn k || !readyQ X (doneQ X dn) k) = true
  · rw [if_pos hc]
  · rw [if_neg hc, if_pos]
    simp only [Bool.or_eq_true, not_or, Bool.not_eq_true, Bool.not_eq_true'] at hc
    rcases h1 with h1 | h1 | ⟨h1, h2⟩
    · rw [h1] at hc; simp at hc
    · rw [h1] at hc; simp at hc
    · rw [h1]
      rcases h2 with h2 | h2
      · simp [h2]
      · simp [h2]
def endB (X : List Opr) (ids : List Int) (i : Nat) : Bool := decide ((opAt X i).done < 0) || doneQ X ids i
theorem fol_end {X : List Opr} {safe : Opr → Bool} {last : Bool} {ids : List Int} {kept v e : Int} (hk : keptOk last (ids, kept) = true) (hr : runI X safe kept 0 [] v v ids = some (ids, e)) (h : ∀ i, i < X.length → endB X ids i = true) : folR X safe last ids kept v = some e := by
  unfold folR followI
  rw [if_pos hk, hr]
  simp only
  rw [if_pos]
  rw [List.all_eq_true]
  intro o ho
  obtain ⟨i, hi, rfl⟩ := List.getElem_of_mem ho
  have := h i hi
  unfold endB doneQ at this
  rwa [opAt_of (List.getElem?_eq_getElem hi)] at this
theorem fol_bad {X : List Opr} {safe : Opr → Bool} {last : Bool} {ids : List Int} {kept v e : Int} {i : Nat} (hr : runI X safe kept 0 [] v v ids = some (ids, e)) (hi : i < X.length) (h : endB X ids i = false) : folR X safe last ids kept v = none := by
  unfold folR followI
  split
  · rw [hr]
    simp only
    rw [if_neg]
    intro hall
    have := List.all_eq_true.1 hall _ (opAt_mem hi)
    unfold endB doneQ at h
    rw [h] at this
    cases this
  · rfl
/-- the operations that were performed, in memory -/
structure DoneM (w : World) (t8 db : Nat) (X : List Opr) (dn : List Int) : Prop where
  var : w.heap[t8]? = some (.cells #[.slice (some ⟨db, 0, none⟩) X.length X.length] 52 (0, 0))
  row : ∃ cur, w.heap[db]? = some (.cells cur 4 (0, 0)) ∧ ∀ k, k < X.length → cur[k]? = some (.bool (doneQ X dn k))
theorem DoneM.below {w w' : World} {t8 db : Nat} {X : List Opr} {dn : List Int} (h : DoneM w t8 db X dn) (hb : Below w.heap.size w w') : DoneM w' t8 db X dn := by
  obtain ⟨h1, cur, h2, h3⟩ := h
  exact ⟨keptB h1 hb, cur, keptB h2 hb, h3⟩
theorem DoneM.cells {w : World} {t8 db : Nat} {X : List Opr} {dn : List Int} (h : DoneM w t8 db X dn) : w.cell? ⟨t8, 0, none⟩ = some (.slice (some ⟨db, 0, none⟩) X.length X.length) ∧ ∀ k, k < X.length → w.cell? ⟨db, k, none⟩ = some (.bool (doneQ X dn k)) ∧ w.frozen? ⟨db, k, none⟩ = false := by
  obtain ⟨h1, cur, h2, h3⟩ := h
  refine ⟨by rw [cell_of_row _ _ _ _ _ _ h1]; rfl, fun k hk => ⟨?_, frozen_of_row _ _ _ _ _ h2⟩⟩
  rw [cell_of_row _ _ _ _ _ _ h2]; exact h3 k hk
theorem DoneM.mark {w : World} {t8 db : Nat} {X : List Opr} {dn : List Int} (hids : (X.map (·.id)).Nodup) (h : DoneM w t8 db X dn) {k : Nat} (hk : k < X.length) (hne : t8 ≠ db) : DoneM (w.setCell ⟨db, k, none⟩ (.bool true)) t8 db X (dn ++ [(opAt X k).id]) := by
  obtain ⟨h1, cur, h2, h3⟩ := h
  refine ⟨by rw [heap_setCell_other _ _ _ _ (by simpa using hne)]; exact h1, _, by rw [heap_setCell_same _ _ _ _ _ _ h2], fun j hj => ?_⟩
  by_cases hjk : j = k
  · subst hjk
    rw [Array.getElem?_setIfInBounds_self_of_lt (Array.getElem?_eq_some_iff.1 (h3 j hj)).1]
    simp [doneQ]
  · rw [Array.getElem?_setIfInBounds_ne (by omega), h3 j hj]
    have : ((opAt X k).id == (opAt X j).id) = false := by simp; exact fun e => hjk (id_inj hids hk hj e).symm
    unfold doneQ
    rw [List.contains_append]
    simp
    intro e
    exact absurd (id_inj hids hj hk e) hjk
set_option maxHeartbeats 1000000 in
theorem fol1_any (t8 db k : Nat) {X : List Opr} {dn : List Int} (w : World) (h : DoneM w t8 db X dn) (hk : k < X.length) :
    Calls Tryd.prog 57 #[.int .i64 (k : Int), .pointer (some ⟨t8, 0, none⟩)] w fun r w' => r = .returned (.bool (doneQ X dn k)) ∧ w' = w := by
  obtain ⟨c0, c1⟩ := h.cells
  have c2 := (c1 k hk).1
  have hkl : (k : Int) < (X.length : Int) := by omega
  clear c1 h
  generalize doneQ X dn k = qb at *
  go_enter Tryd.func57, Tryd.ntmps57
  go_wp2
  go_ret
  exact ⟨rfl, rfl⟩
theorem make_bools (w : World) (n : Nat) (h : n ≤ 100000000) : (Instr.makeSlice 52 (.int .i64 (n : Int)) (.int .i64 (n : Int))).run Tryd.prog w = .ok (.slice (some ⟨w.heap.size, 0, none⟩) n n) (w.alloc (.cells (madeCells #[.bool false] n) 4)) := by
  obtain ⟨i, hi, h1, h2, h3⟩ := info_parts (P := Tryd.prog) (e := 4) (z := .bool false) (size := 1) (bytes := 1) (by kernel_rfl)
  have hr := run_make (P := Tryd.prog) w 52 4 i _ Tryd.underlying52 hi h1 .i64 .i64 n n (by omega) (Int.le_refl _) (by rw [h3]; omega) (by omega)
  simp only [Int.toNat_natCast, h2, Nat.mul_one] at hr
  exact hr
end Go.Proofs.YtcgbnlhloopnfaaDoor
