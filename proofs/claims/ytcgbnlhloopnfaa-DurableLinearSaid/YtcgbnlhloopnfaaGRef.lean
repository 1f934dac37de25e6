/- Walks of tegularef45: find, cut, call.
Walks of tegularef45: event, Valid, Ops.
Walk of tegularef45.Ops. -/
import Derived.Test.YtcgbnlhloopnfaaGPln
import Derived.Test.YtcgbnlhloopnfaaGMem
import Derived.Deep.QuietTactic
import Derived.BigQuiet
import Derived.Outline
namespace Go.Proofs.Ytcgbnlhloopnfaa
open Go.RowKit

set_option maxHeartbeats 400000 in
theorem find_any (l : List Ev) (A : Option Addr) (c B : Nat) (kind op : Int) (before : Nat) (w : World) (h : EvS w B A l) (hb : before ≤ l.length) (hlen : l.length ≤ 1000000) :
    Calls Try.prog 63 #[.slice A l.length c, .int .i64 kind, .int .i64 op, .int .i64 before] w fun e w' => e = .returned (.int .i64 (findE l kind op before)) ∧ w = w' := by
  go_enter Try.func63, Try.ntmps63
  go_wp2
  go_loop [9] (fun i => ∃ k : Nat, k ≤ before ∧ i = .int .i64 k ∧ ∀ j e', j < k → l[j]? = some e' → hitE kind op e' = false) (fun i => before - (intOf i).toNat)
  case atStart => exact ⟨0, by omega, rfl, fun j _ hj => absurd hj (by omega)⟩
  case round =>
    obtain ⟨k, hk1, rfl, hno⟩ := hrel
    by_cases hlt : k < before
    · obtain ⟨b, off, e, rfl, hbB, he, c0, c1, -⟩ := h.at_ (k := k) (by omega)
      have HE := Lib.hid he
      have HN := Lib.hid hno
      clear he hno
      by_cases hh : hitE kind op e = true
      · have h1 : (e.kind == kind) = true := by simp [hitE] at hh; simp [hh.1]
        have h2 : (e.op == op) = true := by simp [hitE] at hh; simp [hh.2]
        have HH := Lib.hid hh
        clear hh
        go_wp2
        go_ret
        exact ⟨ret_int (find_stop hb hlt HE.out HH.out HN.out).symm, rfl⟩
      · have hf : hitE kind op e = false := by simpa using hh
        have HF := Lib.hid hf
        clear hh hf
        go_wp2
        all_goals first
          | (go_round
             case rel => exact ⟨k + 1, by omega, by go_num, fun j e' hj hje => by
               rcases Nat.lt_or_eq_of_le (Nat.le_of_lt_succ hj) with hj' | rfl
               · exact HN.out j e' hj' hje
               · have := HE.out; rw [this] at hje; cases hje; exact HF.out⟩
             case measure => simp [intOf]; omega)
          | (exfalso; have := HF.out; simp_all [hitE])
    · obtain rfl : k = before := by omega
      have HN := Lib.hid hno
      clear hno
      go_wp2
      go_ret
      exact ⟨ret_int (find_none HN.out).symm, rfl⟩

set_option maxHeartbeats 400000 in
theorem cut_any (l : List Ev) (A : Option Addr) (c B : Nat) (i n : Nat) (w : World) (h : EvS w B A l) (hi : i ≤ n) (hb : n ≤ l.length) (hlen : l.length ≤ 1000000) :
    Calls Try.prog 45 #[.slice A l.length c, .int .i64 i, .int .i64 n] w fun e w' => e = .returned (.bool (cutE l i n)) ∧ w = w' := by
  go_enter Try.func45, Try.ntmps45
  go_wp2
  go_loop [7] (fun x => ∃ k : Nat, i ≤ k ∧ k ≤ n ∧ x = .int .i64 k ∧ ∀ j e', i ≤ j → j < k → l[j]? = some e' → e'.kind ≠ 3) (fun x => n - (intOf x).toNat)
  case atStart => exact ⟨i, by omega, hi, rfl, fun j _ hj hj' => absurd hj (by omega)⟩
  case round =>
    obtain ⟨k, hk0, hk1, rfl, hno⟩ := hrel
    by_cases hlt : k < n
    · obtain ⟨b, off, e, rfl, hbB, he, c0, -⟩ := h.at_ (k := k) (by omega)
      have HE := Lib.hid he
      have HN := Lib.hid hno
      clear he hno
      by_cases hh : e.kind = 3
      · have h1 : (e.kind == 3) = true := by simp [hh]
        have HH := Lib.hid hh
        clear hh
        go_wp2
        go_ret
        exact ⟨ret_bool (cut_stop hlt hk0 HE.out HH.out).symm, rfl⟩
      · have h1 : (e.kind == 3) = false := by simp [hh]
        have HH := Lib.hid hh
        clear hh
        go_wp2
        go_round
        case rel => exact ⟨k + 1, by omega, by omega, by go_num, fun j e' hj0 hj hje => by
               rcases Nat.lt_or_eq_of_le (Nat.le_of_lt_succ hj) with hj' | rfl
               · exact HN.out j e' hj0 hj' hje
               · have := HE.out; rw [this] at hje; cases hje; exact HH.out⟩
        case measure => simp [intOf]; omega
    · obtain rfl : k = n := by omega
      have HN := Lib.hid hno
      clear hno
      go_wp2
      go_ret
      exact ⟨ret_bool (cut_none HN.out).symm, rfl⟩

set_option maxHeartbeats 400000 in
theorem call_any (e : Ev) (w : World) :
    Calls Try.prog 47 #[e.agg] w fun r w' => r = .returned (.bool (callOk e)) ∧ Below w.heap.size w w' := by
  unfold Ev.agg
  go_enter Try.func47, Try.ntmps47
  go_wp2
  all_goals
    go_ret
    exact ⟨ret_bool (by simp_all [callOk]; try omega), (Below.refl _ _).alloc (Nat.le_refl _) _⟩
end Go.Proofs.Ytcgbnlhloopnfaa
namespace Go.Proofs.Ytcgbnlhloopnfaa
open Go.RowKit

theorem evOk_cut {l : List Ev} {i : Nat} {e : Ev} (hk : e.kind = 3) : evOk l i e = (e.op == 0 && !e.write && e.reg == 0 && e.val == 0 && !e.barrier) := by
  unfold evOk
  rw [if_pos hk]
  obtain ⟨k, o, wr, r, v, b⟩ := e
  simp only [Ev.cut] at *
  subst hk
  rw [Bool.eq_iff_iff]
  simp [and_assoc]
theorem evOk_call {l : List Ev} {i : Nat} {e : Ev} (hk : e.kind = 1) : evOk l i e = (callOk e && decide (findE l 1 e.op i < 0)) := by
  unfold evOk
  rw [if_neg (by omega), if_pos hk]

set_option maxHeartbeats 400000 in
theorem event_cut (l : List Ev) (A : Option Addr) (c B : Nat) (i : Nat) (e : Ev) (w : World) (h : EvS w B A l) (hi : l[i]? = some e) (hk : e.kind = 3) :
    Calls Try.prog 39 #[.slice A l.length c, .int .i64 i] w fun r w' => r = .returned (.bool (evOk l i e)) ∧ Below w.heap.size w w' := by
  have hil : i < l.length := (List.getElem?_eq_some_iff.1 hi).1
  obtain ⟨b, off, e', rfl, hbB, he, c0, c1, c2, c3, c4, c5⟩ := h.at_ (k := i) hil
  obtain rfl : e = e' := by rw [hi] at he; exact Option.some.inj he
  have HI := Lib.hid hi
  clear hi he
  have h3 : (e.kind == 3) = true := by simp [hk]
  have HK := Lib.hid hk
  clear hk
  go_enter Try.func39, Try.ntmps39
  go_wp2_with fail
  all_goals
    go_ret
    exact ⟨ret_bool (by rw [evOk_cut HK.out]; simp_all), (Below.refl _ _).alloc (Nat.le_refl _) _⟩

set_option maxHeartbeats 400000 in
theorem event_call (l : List Ev) (A : Option Addr) (c B : Nat) (i : Nat) (e : Ev) (w : World) (h : EvS w B A l) (hB : B ≤ w.heap.size) (hi : l[i]? = some e) (hlen : l.length ≤ 1000000) (hk : e.kind = 1) :
    Calls Try.prog 39 #[.slice A l.length c, .int .i64 i] w fun r w' => r = .returned (.bool (evOk l i e)) ∧ Below w.heap.size w w' := by
  have hil : i < l.length := (List.getElem?_eq_some_iff.1 hi).1
  obtain ⟨b, off, e', rfl, hbB, he, c0, c1, c2, c3, c4, c5⟩ := h.at_ (k := i) hil
  obtain rfl : e = e' := by rw [hi] at he; exact Option.some.inj he
  have HI := Lib.hid hi
  clear hi he
  have h3 : (e.kind == 3) = false := by simp [hk]
  have h1 : (e.kind == 1) = true := by simp [hk]
  have HK := Lib.hid hk
  clear hk
  go_enter Try.func39, Try.ntmps39
  go_wp2_with fail
  refine (call_any e _).mono ?_
  rintro r w1 ⟨rfl, hb1⟩
  obtain ⟨hc1, hf1⟩ := bcell hb1
  go_wp2_with fail
  · refine (find_any l _ c B 1 e.op i w1 ((h.below ((Below.refl _ _).alloc hB _)).below' hb1 (by simp; omega)) (by omega) hlen).mono ?_
    rintro r w2 ⟨rfl, rfl⟩
    go_wp2
    all_goals
      go_ret
      exact ⟨ret_bool (by rw [evOk_call HK.out]; simp_all), ((Below.refl _ _).alloc (Nat.le_refl _) _).trans (hb1.mono (by simp))⟩
  · go_ret
    exact ⟨ret_bool (by rw [evOk_call HK.out]; simp_all), ((Below.refl _ _).alloc (Nat.le_refl _) _).trans (hb1.mono (by simp))⟩

theorem evOk_else {l : List Ev} {i : Nat} {e : Ev} (h1 : e.kind ≠ 1) (h2 : e.kind ≠ 2) (h3 : e.kind ≠ 3) : evOk l i e = false := by
  unfold evOk
  rw [if_neg h3, if_neg h1, if_neg h2]

set_option maxHeartbeats 400000 in
theorem event_else (l : List Ev) (A : Option Addr) (c B : Nat) (i : Nat) (e : Ev) (w : World) (h : EvS w B A l) (hi : l[i]? = some e) (hk1 : e.kind ≠ 1) (hk2 : e.kind ≠ 2) (hk3 : e.kind ≠ 3) :
    Calls Try.prog 39 #[.slice A l.length c, .int .i64 i] w fun r w' => r = .returned (.bool (evOk l i e)) ∧ Below w.heap.size w w' := by
  have hil : i < l.length := (List.getElem?_eq_some_iff.1 hi).1
  obtain ⟨b, off, e', rfl, hbB, he, c0, c1, c2, c3, c4, c5⟩ := h.at_ (k := i) hil
  obtain rfl : e = e' := by rw [hi] at he; exact Option.some.inj he
  have HV := Lib.hid (evOk_else (l := l) (i := i) hk1 hk2 hk3)
  clear hi he
  have h3 : (e.kind == 3) = false := by simp [hk3]
  have h1 : (e.kind == 1) = false := by simp [hk1]
  have h2 : (e.kind == 2) = false := by simp [hk2]
  clear hk1 hk2 hk3
  go_enter Try.func39, Try.ntmps39
  go_wp2_with fail
  go_ret
  exact ⟨ret_bool HV.out.symm, (Below.refl _ _).alloc (Nat.le_refl _) _⟩

theorem evOk_done {l : List Ev} {i : Nat} {e : Ev} (h2 : e.kind = 2) : evOk l i e = doneAt l i e (findE l 1 e.op i) (findE l 2 e.op i) := by
  unfold evOk
  rw [if_neg (by omega), if_neg (by omega), if_pos h2]

set_option maxHeartbeats 1000000 in
theorem event_done (l : List Ev) (A : Option Addr) (c B : Nat) (i : Nat) (e : Ev) (w : World) (h : EvS w B A l) (hB : B ≤ w.heap.size) (hi : l[i]? = some e) (hlen : l.length ≤ 1000000) (hk : e.kind = 2) :
    Calls Try.prog 39 #[.slice A l.length c, .int .i64 i] w fun r w' => r = .returned (.bool (evOk l i e)) ∧ Below w.heap.size w w' := by
  have hil : i < l.length := (List.getElem?_eq_some_iff.1 hi).1
  obtain ⟨b, off, e', rfl, hbB, he, c0, c1, c2, c3, c4, c5⟩ := h.at_ (k := i) hil
  obtain rfl : e = e' := by rw [hi] at he; exact Option.some.inj he
  have HD := Lib.hid (evOk_done (l := l) (i := i) hk)
  have h3 : (e.kind == 3) = false := by simp [hk]
  have h1 : (e.kind == 1) = false := by simp [hk]
  have h2 : (e.kind == 2) = true := by simp [hk]
  clear hk hi he
  have H1 := Lib.hid (fun w h => find_any l (some ⟨b, off, none⟩) c B 1 e.op i w h (by omega) hlen)
  have H2 := Lib.hid (fun w h => find_any l (some ⟨b, off, none⟩) c B 2 e.op i w h (by omega) hlen)
  have HL := findE_lt l 1 e.op i
  generalize findE l 1 e.op i = k1 at *
  generalize findE l 2 e.op i = k2 at *
  by_cases hk1 : k1 < 0
  · go_enter Try.func39, Try.ntmps39
    go_wp2_with fail
    refine (H1.out _ (h.below (((Below.refl _ _).alloc hB _)))).mono ?_
    rintro r w2 ⟨rfl, rfl⟩
    go_wp2
    go_ret
    exact ⟨ret_bool (by rw [HD.out, doneAt_neg hk1]), (Below.refl _ _).alloc (Nat.le_refl _) _⟩
  obtain ⟨kn, rfl⟩ := Int.eq_ofNat_of_zero_le (by omega : 0 ≤ k1)
  have hki : kn < i := by omega
  by_cases hk2 : 0 ≤ k2
  · go_enter Try.func39, Try.ntmps39
    go_wp2_with fail
    refine (H1.out _ (h.below (((Below.refl _ _).alloc hB _)))).mono ?_
    rintro r w2 ⟨rfl, rfl⟩
    go_wp2_with fail
    refine (H2.out _ (h.below (((Below.refl _ _).alloc hB _)))).mono ?_
    rintro r w2 ⟨rfl, rfl⟩
    go_wp2
    go_ret
    exact ⟨ret_bool (by rw [HD.out, doneAt_two hk2]), (Below.refl _ _).alloc (Nat.le_refl _) _⟩
  have HC := Lib.hid (fun w h => cut_any l (some ⟨b, off, none⟩) c B kn i w h (by omega) (by omega) hlen)
  obtain ⟨b', off', e', hbe, hbB', he, d0, d1, d2, d3, d4, d5⟩ := h.at_ (k := kn) (by omega)
  cases hbe
  have hbw : b < w.heap.size := by omega
  have HV := Lib.hid (HD.out.trans (doneAt_at (by omega) he))
  clear HD he
  simp only [doneOk] at HV
  generalize cutE l kn i = ct at *
  cases ct
  · go_enter Try.func39, Try.ntmps39
    go_wp2_with fail
    refine (H1.out _ (h.below (((Below.refl _ _).alloc hB _)))).mono ?_
    rintro r w2 ⟨rfl, rfl⟩
    go_wp2_with fail
    refine (H2.out _ (h.below (((Below.refl _ _).alloc hB _)))).mono ?_
    rintro r w2 ⟨rfl, rfl⟩
    go_wp2_with fail
    refine (HC.out _ (h.below (((Below.refl _ _).alloc hB _)))).mono ?_
    rintro r w2 ⟨rfl, rfl⟩
    go_wp2
    all_goals
      go_ret
      exact ⟨ret_bool (by rw [HV.out]; simp_all), (((Below.refl _ _).alloc (Nat.le_refl _) _).alloc (by simp) _)⟩
  · go_enter Try.func39, Try.ntmps39
    go_wp2_with fail
    refine (H1.out _ (h.below (((Below.refl _ _).alloc hB _)))).mono ?_
    rintro r w2 ⟨rfl, rfl⟩
    go_wp2_with fail
    refine (H2.out _ (h.below (((Below.refl _ _).alloc hB _)))).mono ?_
    rintro r w2 ⟨rfl, rfl⟩
    go_wp2_with fail
    refine (HC.out _ (h.below (((Below.refl _ _).alloc hB _)))).mono ?_
    rintro r w2 ⟨rfl, rfl⟩
    go_wp2
    go_ret
    exact ⟨ret_bool (by rw [HV.out]; rfl), ((Below.refl _ _).alloc (Nat.le_refl _) _)⟩

theorem event_any (l : List Ev) (A : Option Addr) (c B : Nat) (i : Nat) (e : Ev) (w : World) (h : EvS w B A l) (hB : B ≤ w.heap.size) (hi : l[i]? = some e) (hlen : l.length ≤ 1000000) :
    Calls Try.prog 39 #[.slice A l.length c, .int .i64 i] w fun r w' => r = .returned (.bool (evOk l i e)) ∧ Below w.heap.size w w' := by
  by_cases h1 : e.kind = 1
  · exact event_call l A c B i e w h hB hi hlen h1
  by_cases h2 : e.kind = 2
  · exact event_done l A c B i e w h hB hi hlen h2
  by_cases h3 : e.kind = 3
  · exact event_cut l A c B i e w h hi h3
  exact event_else l A c B i e w h hi h1 h2 h3

theorem validTo_succ {l : List Ev} {k : Nat} {e : Ev} (he : l[k]? = some e) : validTo l (k + 1) = (validTo l k && evOk l k e) := by
  unfold validTo
  have hk : k < l.length := (List.getElem?_eq_some_iff.1 he).1
  have ht : l.take (k + 1) = l.take k ++ [e] := by rw [List.take_add_one, he]; rfl
  rw [ht, List.zipIdx_append, List.all_append]
  simp [Nat.min_eq_left (Nat.le_of_lt hk)]
theorem validTo_stop {l : List Ev} {k : Nat} {e : Ev} (he : l[k]? = some e) (hv : evOk l k e = false) : validL l = false := by
  unfold validL validTo
  rw [List.all_eq_false]
  have hk : k < l.length := (List.getElem?_eq_some_iff.1 he).1
  refine ⟨(e, k), ?_, by simp [hv]⟩
  rw [List.take_length, List.mem_iff_getElem?]
  exact ⟨k, by simp [he]⟩

set_option maxHeartbeats 400000 in
theorem refvalid_any (l : List Ev) (A : Option Addr) (c B : Nat) (w : World) (h : EvS w B A l) (hB : B ≤ w.heap.size) (hlen : l.length ≤ 1000000) :
    Calls Try.prog 12 #[.slice A l.length c] w fun r w' => r = .returned (.bool (validL l)) ∧ Below w.heap.size w w' := by
  go_enter Try.func12, Try.ntmps12
  go_wp2
  go_loopw [3] (fun i wr => ∃ k : Nat, k ≤ l.length ∧ i = .int .i64 k ∧ validTo l k = true ∧ Below w.heap.size w wr) (fun i _ => l.length - (intOf i).toNat)
  case atStart => exact ⟨0, by omega, rfl, rfl, Below.refl _ _⟩
  case round =>
    obtain ⟨k, hk, rfl, hv, hb⟩ := hrel
    have HV := Lib.hid hv
    clear hv
    by_cases hlt : k < l.length
    · obtain ⟨e, he⟩ : ∃ e, l[k]? = some e := ⟨l[k], List.getElem?_eq_getElem hlt⟩
      have HE := Lib.hid he
      clear he
      have hs := hb.size
      go_wp2_with fail
      refine (event_any l A c B k e wr (h.below' hb hB) (by omega) HE.out hlen).mono ?_
      rintro r w1 ⟨rfl, hb1⟩
      go_wp2
      all_goals first
        | (go_roundw
           case rel => exact ⟨k + 1, by omega, by go_num, by rw [validTo_succ HE.out, HV.out]; simp_all, hb.trans (hb1.mono hs)⟩
           case measure => simp [intOf]; omega)
        | (go_ret
           exact ⟨ret_bool (validTo_stop HE.out (by simp_all)).symm, hb.trans (hb1.mono hs)⟩)
    · obtain rfl : k = l.length := by omega
      go_wp2
      go_ret
      exact ⟨ret_bool HV.out.symm, hb⟩
end Go.Proofs.Ytcgbnlhloopnfaa
namespace Go.Proofs.Ytcgbnlhloopnfaa
open Go.RowKit

theorem elemROp : Elem Try.prog 69 72 8 56 := Elem.mk (z := (Opr.agg ⟨0, 0, 0, false, false, 0, 0, 0⟩)) Try.underlying69 (by kernel_rfl) (by decide) rfl

/-- the state of the inner loop behind m rounds -/
def finTo (e : Ev) (i : Nat) (os : List Opr) (m : Nat) : List Opr := (os.take m).map (Opr.fin e i) ++ os.drop m
theorem finTo_length (e : Ev) (i : Nat) (os : List Opr) (m : Nat) : (finTo e i os m).length = os.length := by
  unfold finTo; simp; omega
theorem finTo_get {e : Ev} {i : Nat} {os : List Opr} {m : Nat} {o : Opr} (h : os[m]? = some o) : (finTo e i os m)[m]? = some o := by
  unfold finTo
  have hm : m < os.length := (List.getElem?_eq_some_iff.1 h).1
  rw [List.getElem?_append_right (by simp; omega)]
  simp [Nat.min_eq_left (Nat.le_of_lt hm), h]
theorem finTo_succ {e : Ev} {i : Nat} {os : List Opr} {m : Nat} {o : Opr} (h : os[m]? = some o) : finTo e i os (m + 1) = (finTo e i os m).set m (Opr.fin e i o) := by
  unfold finTo
  have hm : m < os.length := (List.getElem?_eq_some_iff.1 h).1
  have hd : os.drop m = o :: os.drop (m + 1) := by
    rw [List.drop_eq_getElem_cons hm]
    rw [List.getElem?_eq_getElem hm] at h
    cases h; rfl
  rw [List.take_add_one, h, hd, List.set_append_right _ _ (by simp; omega)]
  simp [Nat.min_eq_left (Nat.le_of_lt hm)]
theorem finTo_skip {e : Ev} {i : Nat} {os : List Opr} {m : Nat} {o : Opr} (h : os[m]? = some o) (hne : o.id ≠ e.op) : finTo e i os (m + 1) = finTo e i os m := by
  rw [finTo_succ h]
  have hf : Opr.fin e i o = o := by unfold Opr.fin; rw [if_neg hne]
  rw [hf]
  apply List.ext_getElem?
  intro j
  by_cases hj : m = j
  · subst hj
    rw [List.getElem?_set_self (by rw [finTo_length]; exact (List.getElem?_eq_some_iff.1 h).1), finTo_get h]
  · rw [List.getElem?_set_ne hj]
theorem finTo_all (e : Ev) (i : Nat) (os : List Opr) : finTo e i os os.length = os.map (Opr.fin e i) := by
  unfold finTo; simp
theorem finTo_zero (e : Ev) (i : Nat) (os : List Opr) : finTo e i os 0 = os := by
  unfold finTo; simp

set_option maxHeartbeats 1000000 in
set_option maxRecDepth 100000 in
theorem refops_valid (l : List Ev) (A : Option Addr) (c B : Nat) (w : World) (h : EvS w B A l) (hB : B ≤ w.heap.size) (hlen : l.length ≤ 1000000) (hv : validL l = true) :
    Calls Try.prog 42 #[.slice A l.length c] w fun r w' => ∃ v, r = .returned (.tuple #[v, .int .i64 0]) ∧ OwS w' w.heap.size 72 8 v ((rawOps l).map Opr.cells) ∧ Below w.heap.size w w' := by
  have HC := Lib.hid (refvalid_any l A c B w h hB hlen)
  rw [hv] at HC
  clear hv
  go_enter Try.func42, Try.ntmps42
  go_wp2_with fail
  refine HC.out.mono ?_
  rintro r w1 ⟨rfl, hb1⟩
  go_wp2
  go_loopw [4, 5, 6] (fun v er i wr => ∃ k : Nat, k ≤ l.length ∧ i = .int .i64 k ∧ er = .int .i64 (rawTo l k).2 ∧ OwS wr w.heap.size 72 8 v ((rawTo l k).1.map Opr.cells) ∧ Below w.heap.size w wr) (fun _ _ i _ => l.length - (intOf i).toNat)
  case atStart => exact ⟨0, by omega, rfl, rfl, OwS.nil _ _ _ _, hb1⟩
  case round =>
    obtain ⟨k, hk, rfl, rfl, hown, hb⟩ := hrel
    have hbd := rawTo_bd l k
    by_cases hlt : k < l.length
    · obtain ⟨b, off, e, rfl, hbB, he, c0, c1, c2, c3, c4, c5⟩ := EvS.at_ (h.below' hb hB) (k := k) hlt
      have hbw : b < wr.heap.size := by have := hb.size; omega
      have hT := rawTo_succ he
      unfold rawStep at hT
      have HE := Lib.hid he
      clear he
      by_cases h3 : e.kind = 3
      · rw [if_pos h3] at hT
        have HT := Lib.hid hT
        have h3' : (e.kind == 3) = true := by simp [h3]
        clear hT h3
        go_wp2
        go_roundw
        case rel => exact ⟨k + 1, by omega, by go_num, by rw [HT.out], by rw [HT.out]; exact hown.alloc _, hb.alloc hb.size _⟩
        case measure => simp [intOf]; omega
      rw [if_neg h3] at hT
      have h3' : (e.kind == 3) = false := by simp [h3]
      clear h3
      by_cases h1 : e.kind = 1
      · rw [if_pos h1] at hT
        have HT := Lib.hid hT
        have h1' : (e.kind == 1) = true := by simp [h1]
        clear hT h1
        go_wp2_with (at_builtin; refine wpList_ap1 rfl (.tmp 55) (.tmp 69) _ rfl elemROp rfl (hown.alloc _) (Opr.cells (Opr.of e (rawTo l k).2 k)) _ rfl _ rfl (by simp) (Opr.one _) (by simp [maxLen]; omega) (by simp; omega) (by have := hb.size; simp; omega) ?_)
        intro v1 w2 hown1 hg1 _
        have hb2 : Below w.heap.size w w2 := ((hb.alloc hb.size _).alloc (by have := hb.size; simp; omega) _).grown hg1 (by have := hb.size; simp; omega) (fun g hg => (hown.lt hg).1)
        go_wp2
        go_roundw
        case rel => exact ⟨k + 1, by omega, by go_num, by rw [HT.out], by rw [HT.out]; simpa using hown1, hb2⟩
        case measure => simp [intOf]; omega
      · rw [if_neg h1] at hT
        have HT := Lib.hid hT
        have h1' : (e.kind == 1) = false := by simp [h1]
        clear hT h1
        obtain ⟨Av, cv, hv, hlc, hcm⟩ := hown.form
        generalize (rawTo l k).1 = os at *
        rw [List.length_map] at hv hlc
        subst hv
        go_wp2
        obtain ⟨wo, rfl⟩ : ∃ wo : World, wo = wr := ⟨_, rfl⟩
        go_loopw [8] (fun m wr => ∃ j : Nat, j ≤ os.length ∧ m = .int .i64 j ∧ OwS wr w.heap.size 72 8 (.slice Av os.length cv) ((finTo e k os j).map Opr.cells) ∧ Below w.heap.size w wr ∧
            wo.heap.size < wr.heap.size ∧ wr.heap[wo.heap.size]? = some (.cells #[.int .i64 e.kind, .int .i64 e.op, .bool e.write, .int .i64 e.reg, .int .i64 e.val, .bool e.barrier] 56)) (fun m _ => os.length - (intOf m).toNat)
        case atStart => exact ⟨0, by omega, rfl, by rw [finTo_zero]; exact hown.alloc _, hb.alloc hb.size _, by simp, heap_alloc_new _ _⟩
        case round =>
          obtain ⟨j, hj, rfl, howr, hbi, hzi, hbox⟩ := hrel
          by_cases hjl : j < os.length
          · obtain ⟨o, ho⟩ : ∃ o, os[j]? = some o := ⟨os[j], List.getElem?_eq_getElem hjl⟩
            have hrow : ((finTo e k os j).map Opr.cells)[j]? = some o.cells := by rw [List.getElem?_map, finTo_get ho]; rfl
            obtain ⟨g, cap, hv, hgb, hgz⟩ := howr.pos (by rw [List.length_map, finTo_length]; omega)
            injection hv with hA hlen' hcap
            clear hlen' hcap
            subst hA
            have d0 := howr.cell hrow (j := 0) rfl
            have d2 := howr.cell hrow (j := 2) rfl
            have d7 := howr.cell hrow (j := 7) rfl
            have hfr := fun x => howr.frozen x
            have b1 : wr.cell? ⟨wo.heap.size, 1, none⟩ = some (.int .i64 e.op) := by rw [cell_of_row _ _ _ _ _ _ hbox]; rfl
            have b4 : wr.cell? ⟨wo.heap.size, 4, none⟩ = some (.int .i64 e.val) := by rw [cell_of_row _ _ _ _ _ _ hbox]; rfl
            have HO := Lib.hid ho
            have HB := Lib.hid hbox
            have HR := Lib.hid hrow
            clear ho hbox hrow
            simp only [Nat.add_zero] at d0
            by_cases hid : o.id = e.op
            · have hq : (o.id == e.op) = true := by simp [hid]
              have HD := Lib.hid hid
              clear hid
              go_wp2_with fail
              go_quiet (fail)
              go_wp2
              · have hgne : (Value.slice (some ⟨g, 0, none⟩) os.length cv).ownBlock ≠ some wo.heap.size := howr.blk_ne HB.out (by decide)
                have S1 := OwS.set (k := j) (j := 2) (howr.drewN nq) HR.out (by decide) (.int .i64 e.val)
                have S2 := OwS.set (k := j) (j := 7) S1.1 (by rw [List.getElem?_set_self (List.getElem?_eq_some_iff.1 HR.out).1]) (by decide) (.int .i64 (k : Int))
                have hrows : (((finTo e k os j).map Opr.cells).set j (o.cells.set 2 (.int .i64 e.val))).set j ((o.cells.set 2 (.int .i64 e.val)).set 7 (.int .i64 (k : Int))) = (finTo e k os (j + 1)).map Opr.cells := by
                  rw [List.set_set, finTo_succ HO.out, List.map_set]
                  congr 1
                  simp [Opr.fin, HD.out, Opr.cells]
                rw [hrows] at S2
                go_roundw
                case rel => exact ⟨j + 1, by omega, by go_num, S2.1, ((Below.setCell (Below.setCell (below_drewN hbi nq) hgb _) hgb _)), by simp [World.setCell]; exact hzi, by
                  rw [heap_setCell_other _ _ _ _ (fun e => hgne (by simp only [Value.ownBlock]; rw [e])), heap_setCell_other _ _ _ _ (fun e => hgne (by simp only [Value.ownBlock]; rw [e]))]; exact HB.out⟩
                case measure => simp [intOf]; omega
            · have hq : (o.id == e.op) = false := by simp [hid]
              have HD := Lib.hid hid
              clear hid
              go_wp2_with fail
              go_quiet (fail)
              go_wp2
              · go_roundw
                case rel => exact ⟨j + 1, by omega, by go_num, by rw [finTo_skip HO.out HD.out]; exact howr.drewN nq, below_drewN hbi nq, hzi, HB.out⟩
                case measure => simp [intOf]; omega
          · obtain rfl : j = os.length := by omega
            rw [finTo_all] at howr
            go_wp2
            go_roundw
            case rel => exact ⟨k + 1, by omega, by go_num, by rw [HT.out], by rw [HT.out]; exact howr, hbi⟩
            case measure => simp [intOf]; omega
    · obtain rfl : k = l.length := by omega
      go_wp2
      go_ret2
      exact ⟨_, rfl, hown, hb⟩

set_option maxHeartbeats 400000 in
theorem refops_not (l : List Ev) (A : Option Addr) (c B : Nat) (w : World) (h : EvS w B A l) (hB : B ≤ w.heap.size) (hlen : l.length ≤ 1000000) (hv : validL l = false) :
    Calls Try.prog 42 #[.slice A l.length c] w fun r w' => r = .returned (.tuple #[.slice none 0 0, .int .i64 1]) ∧ Below w.heap.size w w' := by
  have HC := Lib.hid (refvalid_any l A c B w h hB hlen)
  rw [hv] at HC
  clear hv
  go_enter Try.func42, Try.ntmps42
  go_wp2_with fail
  refine HC.out.mono ?_
  rintro r w1 ⟨rfl, hb1⟩
  go_wp2
  go_ret2
  exact ⟨rfl, hb1⟩
end Go.Proofs.Ytcgbnlhloopnfaa
