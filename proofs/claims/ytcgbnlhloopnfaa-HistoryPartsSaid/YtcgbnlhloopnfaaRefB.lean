/- Walks of tegularef45: event, Valid, Ops. -/
import Derived.Test.YtcgbnlhloopnfaaRefA
namespace Go.Proofs.Ytcgbnlhloopnfaa
open Go.RowKit

theorem evOk_cut {l : List Ev} {i : Nat} {e : Ev} (hk : e.kind = 3) : evOk l i e = (e.op == 0 && !e.write && e.reg == 0 && e.val == 0 && !e.barrier) := by
  unfold evOk
  rw [if_pos hk]
  obtain ⟨k, o, wr, r, v, b⟩ := e
  simp only [Ev.cut] at *
  subst hk
  rw [Bool.eq_iff_iff]
  simp [and_assoc]
theorem evOk_call {l : List Ev} {i : Nat} {e : Ev} (hk : e.kind = 1) : evOk l i e = (callOk e && decide (findE l 1 e.op i < 0)) := by
  unfold evOk
  rw [if_neg (by omega), if_pos hk]

set_option maxHeartbeats 400000 in
theorem event_cut (l : List Ev) (A : Option Addr) (c B : Nat) (i : Nat) (e : Ev) (w : World) (h : EvS w B A l) (hi : l[i]? = some e) (hk : e.kind = 3) :
    Calls Try.prog 39 #[.slice A l.length c, .int .i64 i] w fun r w' => r = .returned (.bool (evOk l i e)) ∧ Below w.heap.size w w' := by
  have hil : i < l.length := (List.getElem?_eq_some_iff.1 hi).1
  obtain ⟨b, off, e', rfl, hbB, he, c0, c1, c2, c3, c4, c5⟩ := h.at_ (k := i) hil
  obtain rfl : e = e' := by rw [hi] at he; exact Option.some.inj he
  have HI := Lib.hid hi
  clear hi he
  have h3 : (e.kind == 3) = true := by simp [hk]
  have HK := Lib.hid hk
  clear hk
  go_enter Try.func39, Try.ntmps39
  go_wp2_with fail
  all_goals
    go_ret
    exact ⟨ret_bool (by rw [evOk_cut HK.out]; simp_all), (Below.refl _ _).alloc (Nat.le_refl _) _⟩

set_option maxHeartbeats 400000 in
theorem event_call (l : List Ev) (A : Option Addr) (c B : Nat) (i : Nat) (e : Ev) (w : World) (h : EvS w B A l) (hB : B ≤ w.heap.size) (hi : l[i]? = some e) (hlen : l.length ≤ 1000000) (hk : e.kind = 1) :
    Calls Try.prog 39 #[.slice A l.length c, .int .i64 i] w fun r w' => r = .returned (.bool (evOk l i e)) ∧ Below w.heap.size w w' := by
  have hil : i < l.length := (List.getElem?_eq_some_iff.1 hi).1
  obtain ⟨b, off, e', rfl, hbB, he, c0, c1, c2, c3, c4, c5⟩ := h.at_ (k := i) hil
  obtain rfl : e = e' := by rw [hi] at he; exact Option.some.inj he
  have HI := Lib.hid hi
  clear hi he
  have h3 : (e.kind == 3) = false := by simp [hk]
  have h1 : (e.kind == 1) = true := by simp [hk]
  have HK := Lib.hid hk
  clear hk
  go_enter Try.func39, Try.ntmps39
  go_wp2_with fail
  refine (call_any e _).mono ?_
  rintro r w1 ⟨rfl, hb1⟩
  obtain ⟨hc1, hf1⟩ := bcell hb1
  go_wp2_with fail
  · refine (find_any l _ c B 1 e.op i w1 ((h.below ((Below.refl _ _).alloc hB _)).below' hb1 (by simp; omega)) (by omega) hlen).mono ?_
    rintro r w2 ⟨rfl, rfl⟩
    go_wp2
    all_goals
      go_ret
      exact ⟨ret_bool (by rw [evOk_call HK.out]; simp_all), ((Below.refl _ _).alloc (Nat.le_refl _) _).trans (hb1.mono (by simp))⟩
  · go_ret
    exact ⟨ret_bool (by rw [evOk_call HK.out]; simp_all), ((Below.refl _ _).alloc (Nat.le_refl _) _).trans (hb1.mono (by simp))⟩

theorem evOk_else {l : List Ev} {i : Nat} {e : Ev} (h1 : e.kind ≠ 1) (h2 : e.kind ≠ 2) (h3 : e.kind ≠ 3) : evOk l i e = false := by
  unfold evOk
  rw [if_neg h3, if_neg h1, if_neg h2]

set_option maxHeartbeats 400000 in
theorem event_else (l : List Ev) (A : Option Addr) (c B : Nat) (i : Nat) (e : Ev) (w : World) (h : EvS w B A l) (hi : l[i]? = some e) (hk1 : e.kind ≠ 1) (hk2 : e.kind ≠ 2) (hk3 : e.kind ≠ 3) :
    Calls Try.prog 39 #[.slice A l.length c, .int .i64 i] w fun r w' => r = .returned (.bool (evOk l i e)) ∧ Below w.heap.size w w' := by
  have hil : i < l.length := (List.getElem?_eq_some_iff.1 hi).1
  obtain ⟨b, off, e', rfl, hbB, he, c0, c1, c2, c3, c4, c5⟩ := h.at_ (k := i) hil
  obtain rfl : e = e' := by rw [hi] at he; exact Option.some.inj he
  have HV := Lib.hid (evOk_else (l := l) (i := i) hk1 hk2 hk3)
  clear hi he
  have h3 : (e.kind == 3) = false := by simp [hk3]
  have h1 : (e.kind == 1) = false := by simp [hk1]
  have h2 : (e.kind == 2) = false := by simp [hk2]
  clear hk1 hk2 hk3
  go_enter Try.func39, Try.ntmps39
  go_wp2_with fail
  go_ret
  exact ⟨ret_bool HV.out.symm, (Below.refl _ _).alloc (Nat.le_refl _) _⟩

theorem evOk_done {l : List Ev} {i : Nat} {e : Ev} (h2 : e.kind = 2) : evOk l i e = doneAt l i e (findE l 1 e.op i) (findE l 2 e.op i) := by
  unfold evOk
  rw [if_neg (by omega), if_neg (by omega), if_pos h2]

set_option maxHeartbeats 1000000 in
theorem event_done (l : List Ev) (A : Option Addr) (c B : Nat) (i : Nat) (e : Ev) (w : World) (h : EvS w B A l) (hB : B ≤ w.heap.size) (hi : l[i]? = some e) (hlen : l.length ≤ 1000000) (hk : e.kind = 2) :
    Calls Try.prog 39 #[.slice A l.length c, .int .i64 i] w fun r w' => r = .returned (.bool (evOk l i e)) ∧ Below w.heap.size w w' := by
  have hil : i < l.length := (List.getElem?_eq_some_iff.1 hi).1
  obtain ⟨b, off, e', rfl, hbB, he, c0, c1, c2, c3, c4, c5⟩ := h.at_ (k := i) hil
  obtain rfl : e = e' := by rw [hi] at he; exact Option.some.inj he
  have HD := Lib.hid (evOk_done (l := l) (i := i) hk)
  have h3 : (e.kind == 3) = false := by simp [hk]
  have h1 : (e.kind == 1) = false := by simp [hk]
  have h2 : (e.kind == 2) = true := by simp [hk]
  clear hk hi he
  have H1 := Lib.hid (fun w h => find_any l (some ⟨b, off, none⟩) c B 1 e.op i w h (by omega) hlen)
  have H2 := Lib.hid (fun w h => find_any l (some ⟨b, off, none⟩) c B 2 e.op i w h (by omega) hlen)
  have HL := findE_lt l 1 e.op i
  generalize findE l 1 e.op i = k1 at *
  generalize findE l 2 e.op i = k2 at *
  by_cases hk1 : k1 < 0
  · go_enter Try.func39, Try.ntmps39
    go_wp2_with fail
    refine (H1.out _ (h.below (((Below.refl _ _).alloc hB _)))).mono ?_
    rintro r w2 ⟨rfl, rfl⟩
    go_wp2
    go_ret
    exact ⟨ret_bool (by rw [HD.out, doneAt_neg hk1]), (Below.refl _ _).alloc (Nat.le_refl _) _⟩
  obtain ⟨kn, rfl⟩ := Int.eq_ofNat_of_zero_le (by omega : 0 ≤ k1)
  have hki : kn < i := by omega
  by_cases hk2 : 0 ≤ k2
  · go_enter Try.func39, Try.ntmps39
    go_wp2_with fail
    refine (H1.out _ (h.below (((Below.refl _ _).alloc hB _)))).mono ?_
    rintro r w2 ⟨rfl, rfl⟩
    go_wp2_with fail
    refine (H2.out _ (h.below (((Below.refl _ _).alloc hB _)))).mono ?_
    rintro r w2 ⟨rfl, rfl⟩
    go_wp2
    go_ret
    exact ⟨ret_bool (by rw [HD.out, doneAt_two hk2]), (Below.refl _ _).alloc (Nat.le_refl _) _⟩
  have HC := Lib.hid (fun w h => cut_any l (some ⟨b, off, none⟩) c B kn i w h (by omega) (by omega) hlen)
  obtain ⟨b', off', e', hbe, hbB', he, d0, d1, d2, d3, d4, d5⟩ := h.at_ (k := kn) (by omega)
  cases hbe
  have hbw : b < w.heap.size := by omega
  have HV := Lib.hid (HD.out.trans (doneAt_at (by omega) he))
  clear HD he
  simp only [doneOk] at HV
  generalize cutE l kn i = ct at *
  cases ct
  · go_enter Try.func39, Try.ntmps39
    go_wp2_with fail
    refine (H1.out _ (h.below (((Below.refl _ _).alloc hB _)))).mono ?_
    rintro r w2 ⟨rfl, rfl⟩
    go_wp2_with fail
    refine (H2.out _ (h.below (((Below.refl _ _).alloc hB _)))).mono ?_
    rintro r w2 ⟨rfl, rfl⟩
    go_wp2_with fail
    refine (HC.out _ (h.below (((Below.refl _ _).alloc hB _)))).mono ?_
    rintro r w2 ⟨rfl, rfl⟩
    go_wp2
    all_goals
      go_ret
      exact ⟨ret_bool (by rw [HV.out]; simp_all), (((Below.refl _ _).alloc (Nat.le_refl _) _).alloc (by simp) _)⟩
  · go_enter Try.func39, Try.ntmps39
    go_wp2_with fail
    refine (H1.out _ (h.below (((Below.refl _ _).alloc hB _)))).mono ?_
    rintro r w2 ⟨rfl, rfl⟩
    go_wp2_with fail
    refine (H2.out _ (h.below (((Below.refl _ _).alloc hB _)))).mono ?_
    rintro r w2 ⟨rfl, rfl⟩
    go_wp2_with fail
    refine (HC.out _ (h.below (((Below.refl _ _).alloc hB _)))).mono ?_
    rintro r w2 ⟨rfl, rfl⟩
    go_wp2
    go_ret
    exact ⟨ret_bool (by rw [HV.out]; rfl), ((Below.refl _ _).alloc (Nat.le_refl _) _)⟩

theorem event_any (l : List Ev) (A : Option Addr) (c B : Nat) (i : Nat) (e : Ev) (w : World) (h : EvS w B A l) (hB : B ≤ w.heap.size) (hi : l[i]? = some e) (hlen : l.length ≤ 1000000) :
    Calls Try.prog 39 #[.slice A l.length c, .int .i64 i] w fun r w' => r = .returned (.bool (evOk l i e)) ∧ Below w.heap.size w w' := by
  by_cases h1 : e.kind = 1
  · exact event_call l A c B i e w h hB hi hlen h1
  by_cases h2 : e.kind = 2
  · exact event_done l A c B i e w h hB hi hlen h2
  by_cases h3 : e.kind = 3
  · exact event_cut l A c B i e w h hi h3
  exact event_else l A c B i e w h hi h1 h2 h3

theorem validTo_succ {l : List Ev} {k : Nat} {e : Ev} (he : l[k]? = some e) : validTo l (k + 1) = (validTo l k && evOk l k e) := by
  unfold validTo
  have hk : k < l.length := (List.getElem?_eq_some_iff.1 he).1
  have ht : l.take (k + 1) = l.take k ++ [e] := by rw [List.take_add_one, he]; rfl
  rw [ht, List.zipIdx_append, List.all_append]
  simp [Nat.min_eq_left (Nat.le_of_lt hk)]
theorem validTo_stop {l : List Ev} {k : Nat} {e : Ev} (he : l[k]? = some e) (hv : evOk l k e = false) : validL l = false := by
  unfold validL validTo
  rw [List.all_eq_false]
  have hk : k < l.length := (List.getElem?_eq_some_iff.1 he).1
  refine ⟨(e, k), ?_, by simp [hv]⟩
  rw [List.take_length, List.mem_iff_getElem?]
  exact ⟨k, by simp [he]⟩

set_option maxHeartbeats 400000 in
theorem refvalid_any (l : List Ev) (A : Option Addr) (c B : Nat) (w : World) (h : EvS w B A l) (hB : B ≤ w.heap.size) (hlen : l.length ≤ 1000000) :
    Calls Try.prog 12 #[.slice A l.length c] w fun r w' => r = .returned (.bool (validL l)) ∧ Below w.heap.size w w' := by
  go_enter Try.func12, Try.ntmps12
  go_wp2
  go_loopw [3] (fun i wr => ∃ k : Nat, k ≤ l.length ∧ i = .int .i64 k ∧ validTo l k = true ∧ Below w.heap.size w wr) (fun i _ => l.length - (intOf i).toNat)
  case atStart => exact ⟨0, by omega, rfl, rfl, Below.refl _ _⟩
  case round =>
    obtain ⟨k, hk, rfl, hv, hb⟩ := hrel
    have HV := Lib.hid hv
    clear hv
    by_cases hlt : k < l.length
    · obtain ⟨e, he⟩ : ∃ e, l[k]? = some e := ⟨l[k], List.getElem?_eq_getElem hlt⟩
      have HE := Lib.hid he
      clear he
      have hs := hb.size
      go_wp2_with fail
      refine (event_any l A c B k e wr (h.below' hb hB) (by omega) HE.out hlen).mono ?_
      rintro r w1 ⟨rfl, hb1⟩
      go_wp2
      all_goals first
        | (go_roundw
           case rel => exact ⟨k + 1, by omega, by go_num, by rw [validTo_succ HE.out, HV.out]; simp_all, hb.trans (hb1.mono hs)⟩
           case measure => simp [intOf]; omega)
        | (go_ret
           exact ⟨ret_bool (validTo_stop HE.out (by simp_all)).symm, hb.trans (hb1.mono hs)⟩)
    · obtain rfl : k = l.length := by omega
      go_wp2
      go_ret
      exact ⟨ret_bool HV.out.symm, hb⟩
end Go.Proofs.Ytcgbnlhloopnfaa
