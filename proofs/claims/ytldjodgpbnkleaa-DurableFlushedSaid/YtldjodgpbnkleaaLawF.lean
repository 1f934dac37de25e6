/- Walk of tegulalaw47's DurableFlushed: it answers true, whatever the numbers. -/
import Derived.Test.YtldjodgpbnkleaaFlushLaw
import Derived.IntWalk
namespace Go.Proofs.Ytldjodgpbnkleaa
open Go.RowKit

set_option maxHeartbeats 4000000 in
set_option maxRecDepth 100000 in
theorem durableflushed_any (n fl got : Nat) (hn : n < 256) (hf : fl < 256) (hg : got < 256) (w : World) :
    Calls Try.prog 5 #[.int .u8 n, .int .u8 fl, .int .u8 got] w fun e w' => e = .returned (.bool true) ∧ Below w.heap.size w w' := by
  have HA := Lib.hid (awake_any w)
  obtain ⟨k, hk⟩ : ∃ k, k = n % 13 := ⟨_, rfl⟩
  have hk13 : k < 13 := by omega
  obtain ⟨m, hm⟩ : ∃ m, m = fl % (k + 1) := ⟨_, rfl⟩
  obtain ⟨v, hv⟩ : ∃ v, v = got % (k + 1) := ⟨_, rfl⟩
  have hmk : m < k + 1 := by rw [hm]; exact Nat.mod_lt _ (by omega)
  have hvk : v < k + 1 := by rw [hv]; exact Nat.mod_lt _ (by omega)
  have hrem : ((n : Int) % 13) = (k : Int) := by omega
  have hrm : ((fl : Int) % ((k : Int) + 1)) = (m : Int) := by rw [hm]; simp
  have hrv : ((got : Int) % ((k : Int) + 1)) = (v : Int) := by rw [hv]; simp
  have HW := Lib.hid (fun (i : Nat) W => lawwrite_any (i : Int) 3 ((i : Int) + 1) W)
  have HFL := Lib.hid (fun W => lawflush_any 100 W)
  have HR := Lib.hid (fun W => lawread_any (k : Int) 3 (v : Int) W)
  go_enter Try.func5, Try.ntmps5
  go_wp2_with fail
  refine HA.out.mono ?_
  rintro r w1 ⟨rfl, hb1⟩
  have hz1 := hb1.size
  have kc1 : ∀ W, (convert 5 3 (.int .u8 ((n : Int) % 13))).run Try.prog W = .ok (.int .i64 (k : Int)) W := fun W => by rw [conv_u8 ((n : Int) % 13) (by omega) (by omega) W, hrem]
  have kc2 := fun W => conv_u8 (fl : Int) (by omega) (by omega) W
  have kc3 := fun W => conv_u8 (got : Int) (by omega) (by omega) W
  clear hrem hk hm hv
  go_wp2
  have hs1 : IntKind.i64.wrap ((k : Int) + 1) = (k : Int) + 1 := IntWalk.i64_in _ (by omega)
  have hs2 : ((k : Int) + 1 == 0) = false := by simp; omega
  have ht1 : Int.tmod (fl : Int) ((k : Int) + 1) = (m : Int) := by rw [Int.tmod_eq_emod_of_nonneg (by omega), hrm]
  have ht2 : Int.tmod (got : Int) ((k : Int) + 1) = (v : Int) := by rw [Int.tmod_eq_emod_of_nonneg (by omega), hrv]
  go_quiet (fail)
  clear hs1 hs2 ht1 ht2 hrm hrv kc1 kc2 kc3
  go_wp2
  have hb2 := below_drewN hb1 nq
  generalize w1.drewN nq = w2 at *
  clear hb1 hz1
  have hz1 := hb2.size
  go_loopw [10, 11] (fun s i wr => ∃ j : Nat, j ≤ k + 1 ∧ i = .int .i64 j ∧ OwS wr w2.heap.size 39 6 s ((flPart k m j).map Ev.cells) ∧ Below w2.heap.size w2 wr) (fun _ i _ => k + 1 - (intOf i).toNat)
  case atStart => exact ⟨0, by omega, rfl, OwS.nil _ _ _ _, Below.refl _ _⟩
  case round =>
    obtain ⟨j, hj, rfl, hown, hb⟩ := hrel
    have hz := hb.size
    have hll := flPart_len k m j
    by_cases hlt : j < k + 1
    · have hjk : (j : Int) ≤ (k : Int) := by omega
      -- the flush
      have HS : ∀ (s : Value) (wr : World), OwS wr w2.heap.size 39 6 s ((flPart k m j ++ (if j = m then flE 100 else []) ++ (if j < k then wrE (j : Int) 3 ((j : Int) + 1) else [])).map Ev.cells) → OwS wr w2.heap.size 39 6 s ((flPart k m (j + 1)).map Ev.cells) := by
        intro s wr h
        rw [flPart_succ, flOne, ← List.append_assoc]
        exact h
      by_cases hjm : j = m
      · have e1 : ((j : Int) == (m : Int)) = true := by simp [hjm]
        rw [if_pos hjm] at HS
        clear hjm
        go_wp2_with fail
        refine (HFL.out _).mono ?_
        rintro r w3 ⟨v3, rfl, hown3, hb3⟩
        have hown := hown.below hb3
        have hb13 := hb.trans (hb3.mono hz)
        have hz3 := hb13.size
        obtain ⟨A3, c3, rfl, -, -⟩ := hown3.form
        have hr3 := hown3.reads
        clear hown3 hb3
        go_wp2_with (at_builtin; refine wpList_apS rfl (.tmp 39) (.tmp 40) _ rfl elemEv rfl hown w3.heap.size A3 _ c3 ((flE 100).map Ev.cells) rfl hr3 rfl OwS.oneEv (by simp [flE, maxLen]; omega) (by simp [flE]; omega) hz3 ?_)
        intro v4 w4 hown4 hg4 _
        have hb4 : Below w2.heap.size w2 w4 := hb13.grown hg4 hz3 (fun g hg => (hown.lt hg).1)
        have hz4 := hb4.size
        clear hg4 hown hr3 hb13
        by_cases hlt2 : j < k
        · have hjk2 : (j : Int) < (k : Int) := by omega
          rw [if_pos hlt2] at HS
          go_wp2_with fail
          refine (HW.out j _).mono ?_
          rintro r w5 ⟨v5, rfl, hown5, hb5⟩
          have hown4 := hown4.below hb5
          have hb15 := hb4.trans (hb5.mono hz4)
          have hz5 := hb15.size
          obtain ⟨A5, c5, rfl, -, -⟩ := hown5.form
          have hr5 := hown5.reads
          clear hown5 hb5
          go_wp2_with (at_builtin; refine wpList_apS rfl (.tmp 45) (.tmp 49) _ rfl elemEv rfl hown4 w5.heap.size A5 _ c5 ((wrE (j : Int) 3 ((j : Int) + 1)).map Ev.cells) rfl hr5 rfl OwS.oneEv (by simp [wrE, flE, maxLen]; omega) (by simp [wrE, flE]; omega) hz5 ?_)
          intro v6 w6 hown6 hg6 _
          have hb6 : Below w2.heap.size w2 w6 := hb15.grown hg6 hz5 (fun g hg => (hown4.lt hg).1)
          clear hg6
          go_wp2
          go_roundw
          case rel => exact ⟨j + 1, by omega, by go_num, HS _ _ (by simpa using hown6), hb6⟩
          case measure => simp [intOf]; omega
        · have hjk2 : ¬ (j : Int) < (k : Int) := by omega
          rw [if_neg hlt2] at HS
          go_wp2
          go_roundw
          case rel => exact ⟨j + 1, by omega, by go_num, HS _ _ (by simpa using hown4), hb4⟩
          case measure => simp [intOf]; omega
      · have e1 : ((j : Int) == (m : Int)) = false := by simp; omega
        rw [if_neg hjm] at HS
        clear hjm
        by_cases hlt2 : j < k
        · have hjk2 : (j : Int) < (k : Int) := by omega
          rw [if_pos hlt2] at HS
          go_wp2_with fail
          refine (HW.out j _).mono ?_
          rintro r w5 ⟨v5, rfl, hown5, hb5⟩
          have hown := hown.below hb5
          have hb15 := hb.trans (hb5.mono hz)
          have hz5 := hb15.size
          obtain ⟨A5, c5, rfl, -, -⟩ := hown5.form
          have hr5 := hown5.reads
          clear hown5 hb5
          go_wp2_with (at_builtin; refine wpList_apS rfl (.tmp 45) (.tmp 49) _ rfl elemEv rfl hown w5.heap.size A5 _ c5 ((wrE (j : Int) 3 ((j : Int) + 1)).map Ev.cells) rfl hr5 rfl OwS.oneEv (by simp [wrE, flE, maxLen]; omega) (by simp [wrE, flE]; omega) hz5 ?_)
          intro v6 w6 hown6 hg6 _
          have hb6 : Below w2.heap.size w2 w6 := hb15.grown hg6 hz5 (fun g hg => (hown.lt hg).1)
          clear hg6
          go_wp2
          go_roundw
          case rel => exact ⟨j + 1, by omega, by go_num, HS _ _ (by simpa using hown6), hb6⟩
          case measure => simp [intOf]; omega
        · have hjk2 : ¬ (j : Int) < (k : Int) := by omega
          rw [if_neg hlt2] at HS
          go_wp2
          go_roundw
          case rel => exact ⟨j + 1, by omega, by go_num, HS _ _ (by simpa using hown), hb⟩
          case measure => simp [intOf]; omega
    · have hje : j = k + 1 := by omega
      have hjk : ¬ (j : Int) ≤ (k : Int) := by omega
      have hjk' : (k : Int) < (j : Int) := by omega
      rw [hje] at hown hll
      have HJ := Lib.hid hje
      clear hje hlt hj
      go_wp2_with (at_builtin; refine wpList_ap1 rfl (.tmp 51) (.tmp 53) _ rfl elemEv rfl hown Ev.cut.cells _ rfl _ rfl (by simp) (Ev.one _) (by simp [maxLen]; omega) (by simp; omega) hz ?_)
      intro v3 w3 hown3 hg3 _
      have hb3 : Below w2.heap.size w2 w3 := (hb.alloc hz _).grown hg3 (by simp; omega) (fun g hg => (hown.lt hg).1)
      have hz3 := hb3.size
      clear hown hg3 hb
      go_wp2_with fail
      refine (HR.out _).mono ?_
      rintro r w4 ⟨v4, rfl, hown4, hb4⟩
      have hown3 := hown3.below hb4
      have hb34 := hb3.trans (hb4.mono hz3)
      have hz4 := hb34.size
      obtain ⟨A4, c4, rfl, -, -⟩ := hown4.form
      have hr4 := hown4.reads
      clear hown4 hb4 hb3
      go_wp2_with (at_builtin; refine wpList_apS rfl (.tmp 54) (.tmp 57) _ rfl elemEv rfl hown3 w4.heap.size A4 _ c4 ((rdE (k : Int) 3 (v : Int)).map Ev.cells) rfl hr4 rfl OwS.oneEv (by simp [rdE, maxLen]; omega) (by simp [rdE]; omega) hz4 ?_)
      intro v5 w5 hown5 hg5 _
      have hb5 : Below w2.heap.size w2 w5 := hb34.grown hg5 hz4 (fun g hg => (hown3.lt hg).1)
      have hown5 : OwS w5 w2.heap.size 39 6 v5 ((flL k m v).map Ev.cells) := by simpa [flL] using hown5
      have hz5 := hb5.size
      clear hown3 hg5 hr4 hb34
      obtain ⟨A5, c5, rfl, -, -⟩ := hown5.form
      have hr5 : EvS w5 w5.heap.size A5 (flL k m v) := hown5.reads
      have hln := flL_len k m v hk13
      have hwf : WfE (flL k m v) := flL_wf hk13 (by omega)
      have HCK := check_any (flL k m v) A5 c5 w5.heap.size w5 hr5 (Nat.le_refl _) (by omega) hwf
      have HSV := Lib.hid (fun w6 (hb : Below w5.heap.size w5 w6) => survivors_any (flL k m v) A5 c5 w5.heap.size w6 (hr5.below' hb (Nat.le_refl _)) hb.size (by omega) hwf)
      unfold ChkPost SurPost at *
      rw [flush_chk k hk13 m hmk v hvk] at HCK
      rw [flush_sur k hk13 m hmk v hvk] at HSV
      simp only at HCK HSV
      rw [List.length_map]
      have HCH := Lib.hid HCK
      have HF : Hid (flF k m v = if v < m then [⟨3, k, v⟩] else []) := rfl
      have HSL : Hid ((flS m v).length = max m v) := by simp [Hid, flS]
      generalize (flL k m v).length = ln at *
      clear HCK hown5 hr5 hwf hln hll
      go_wp2_with fail
      refine HCH.out.mono ?_
      rintro r w6 ⟨va, rfl, howna, hb6⟩
      go_wp2_with fail
      refine (HSV.out _ hb6).mono ?_
      rintro r w7 ⟨vs, rfl, howns, hb7⟩
      have hb67 : Below w.heap.size w w7 := (hb2.trans (((hb5.trans (hb6.mono hz5)).trans (hb7.mono ((hb5.trans (hb6.mono hz5)).size))).mono hz1))
      have howna := howna.below hb7
      rw [HF.out] at howna
      obtain ⟨As, cs, hvs, -, -⟩ := howns.form
      rw [List.length_map, HSL.out] at hvs
      subst hvs
      clear howns
      by_cases hvm : v < m
      · rw [if_pos hvm] at howna
        obtain ⟨ga, ca, rfl, -, hga⟩ := howna.pos (by simp)
        have a0 := howna.cell (k := 0) (j := 0) rfl rfl
        have a1 := howna.cell (k := 0) (j := 1) rfl rfl
        have a2 := howna.cell (k := 0) (j := 2) rfl rfl
        simp only [Nat.zero_mul, Nat.zero_add] at a0 a1 a2
        have hvm' : (v : Int) < (m : Int) := by omega
        have hmx : max m v = m := by omega
        rw [hmx]
        clear howna hmx
        go_wp2
        go_ret
        exact ⟨rfl, hb67⟩
      · rw [if_neg hvm] at howna
        obtain ⟨Ab, cb, rfl, -, -⟩ := howna.form
        have hvm' : ¬ (v : Int) < (m : Int) := by omega
        have hmx : max m v = v := by omega
        rw [hmx]
        clear howna hmx
        by_cases hmv : m < v
        · have hmv' : (m : Int) < (v : Int) := by omega
          go_wp2
          go_ret
          exact ⟨rfl, hb67⟩
        · obtain rfl : m = v := by omega
          go_wp2
          go_ret
          exact ⟨rfl, hb67⟩
end Go.Proofs.Ytldjodgpbnkleaa
