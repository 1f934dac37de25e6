/- Walk of tegulalaw47's DurableReplaced: it answers true, whatever the numbers. -/
import Derived.Test.YtldjodgpbnkleaaReplLaw
import Derived.Test.YtldjodgpbnkleaaByte
namespace Go.Proofs.Ytldjodgpbnkleaa
open Go.RowKit

theorem wrsL_len (k : Nat) : (wrsL k).length = 2 * k := by
  induction k with
  | zero => rfl
  | succ k ih => rw [wrsL_succ, List.length_append, ih]; simp [wrE]; omega
theorem wrsL_wf {k : Nat} (hk : k < 13) : WfE (wrsL k) := by
  induction k with
  | zero => simp [wrsL, WfE]
  | succ k ih =>
    rw [wrsL_succ]
    intro e he
    rcases List.mem_append.1 he with he | he
    · exact ih (by omega) e he
    · exact wr_wf (by omega) e he

theorem replL_wf {k v : Nat} (hk : k < 13) (hv : v < 256) : WfE (replL k v) := by
  intro e he
  rcases List.mem_append.1 he with he | he
  · exact wrsL_wf hk e he
  · have h1 := small_wf k (by omega)
    have h2 := small_wf v (by omega)
    have h3 := small_wf 3 (by omega)
    have h0 := small_wf 0 (by omega)
    simp only [rdE, List.mem_cons, List.not_mem_nil, or_false] at he
    rcases he with rfl | rfl
    · exact ⟨h1, h3, h0⟩
    · exact ⟨h1, h3, h2⟩

set_option maxHeartbeats 2000000 in
set_option maxRecDepth 100000 in
theorem durablereplaced_any (n got : Nat) (hn : n < 256) (hg : got < 256) (w : World) :
    Calls Try.prog 4 #[.int .u8 n, .int .u8 got] w fun e w' => e = .returned (.bool true) ∧ Below w.heap.size w w' := by
  have HA := Lib.hid (awake_any w)
  obtain ⟨k, hk⟩ : ∃ k, k = n % 13 := ⟨_, rfl⟩
  have hk13 : k < 13 := by omega
  have hrem : ((n : Int) % 13) = (k : Int) := by omega
  have HW := Lib.hid (fun (i : Nat) W => lawwrite_any (i : Int) 3 ((i : Int) + 1) W)
  have HR := Lib.hid (fun W => lawread_any (k : Int) 3 (got : Int) W)
  go_enter Try.func4, Try.ntmps4
  go_wp2_with fail
  refine HA.out.mono ?_
  rintro r w1 ⟨rfl, hb1⟩
  have hz1 := hb1.size
  have kc1 : ∀ W, (convert 5 3 (.int .u8 ((n : Int) % 13))).run Try.prog W = .ok (.int .i64 (k : Int)) W := fun W => by rw [conv_u8 ((n : Int) % 13) (by omega) (by omega) W, hrem]
  have kc2 := fun W => conv_u8 (got : Int) (by omega) (by omega) W
  clear hrem hk
  go_wp2
  go_loopw [7, 8] (fun v i wr => ∃ j : Nat, j ≤ k ∧ i = .int .i64 j ∧ OwS wr w1.heap.size 39 6 v ((wrsL j).map Ev.cells) ∧ Below w1.heap.size w1 wr) (fun _ i _ => k - (intOf i).toNat)
  case atStart => exact ⟨0, by omega, rfl, OwS.nil _ _ _ _, Below.refl _ _⟩
  case round =>
    obtain ⟨j, hj, rfl, hown, hb⟩ := hrel
    have hz := hb.size
    by_cases hlt : j < k
    · have hjk : (j : Int) < (k : Int) := by omega
      go_wp2_with fail
      refine (HW.out j _).mono ?_
      rintro r w2 ⟨v2, rfl, hown2, hb2⟩
      have hown := hown.below hb2
      have hb12 := hb.trans (hb2.mono hz)
      have hz2 := hb12.size
      obtain ⟨A2, c2, rfl, -, -⟩ := hown2.form
      have hr2 := hown2.reads
      have hll := wrsL_len j
      clear hown2 hb2
      go_wp2_with (at_builtin; refine wpList_apS rfl (.tmp 23) (.tmp 27) _ rfl elemEv rfl hown w2.heap.size A2 _ c2 ((wrE (j : Int) 3 ((j : Int) + 1)).map Ev.cells) rfl hr2 rfl OwS.oneEv (by simp [wrE, maxLen]; omega) (by simp [wrE]; omega) hz2 ?_)
      intro v3 w3 hown3 hg3 _
      have hb3 : Below w1.heap.size w1 w3 := hb12.grown hg3 hz2 (fun g hg => (hown.lt hg).1)
      clear hg3
      go_wp2
      go_roundw
      case rel => exact ⟨j + 1, by omega, by go_num, by rw [wrsL_succ]; simpa using hown3, hb3⟩
      case measure => simp [intOf]; omega
    · obtain rfl : j = k := by omega
      have hll := wrsL_len j
      go_wp2_with fail
      refine (HR.out _).mono ?_
      rintro r w2 ⟨v2, rfl, hown2, hb2⟩
      have hown := hown.below hb2
      have hb12 := hb.trans (hb2.mono hz)
      have hz2 := hb12.size
      obtain ⟨A2, c2, rfl, -, -⟩ := hown2.form
      have hr2 := hown2.reads
      clear hown2 hb2
      go_wp2_with (at_builtin; refine wpList_apS rfl (.tmp 29) (.tmp 32) _ rfl elemEv rfl hown w2.heap.size A2 _ c2 ((rdE (j : Int) 3 (got : Int)).map Ev.cells) rfl hr2 rfl OwS.oneEv (by simp [rdE, maxLen]; omega) (by simp [rdE]; omega) hz2 ?_)
      intro v3 w3 hown3 hg3 _
      have hb3 : Below w1.heap.size w1 w3 := hb12.grown hg3 hz2 (fun g hg => (hown.lt hg).1)
      rw [← List.map_append] at hown3
      have hz3 := hb3.size
      clear hown hg3 hr2 hb12
      obtain ⟨A3, c3, rfl, -, -⟩ := hown3.form
      have hr3 : EvS w3 w3.heap.size A3 (replL j got) := hown3.reads
      have HCK := check_any (replL j got) A3 c3 w3.heap.size w3 hr3 (Nat.le_refl _) (by simp [replL, rdE, hll]; omega) (replL_wf hk13 hg)
      unfold ChkPost at HCK
      rw [repl_chk j got hk13 hg] at HCK
      simp only at HCK
      have hlen : ((wrsL j ++ rdE (j : Int) 3 (got : Int)).map Ev.cells).length = (replL j got).length := by rw [List.length_map]; rfl
      rw [hlen]
      have HCH := Lib.hid HCK
      have HF : Hid (replF j got = if got = j then [] else if j < got then [⟨1, j, -1⟩] else [⟨3, j, got⟩]) := rfl
      generalize (replL j got).length = ln at *
      clear HCK hown3 hr3
      go_wp2_with fail
      refine HCH.out.mono ?_
      rintro r w4 ⟨va, rfl, howna, hb4⟩
      have hb14 : Below w.heap.size w w4 := hb1.trans ((hb3.trans (hb4.mono hz3)).mono hz1)
      rw [HF.out] at howna
      by_cases h1 : got = j
      · rw [if_pos h1] at howna
        obtain ⟨Ab, cb, rfl, -, -⟩ := howna.form
        subst h1
        clear howna
        go_wp2
        go_ret
        exact ⟨rfl, hb14⟩
      · have h1' : ((got : Int) == (j : Int)) = false := by simp; omega
        rw [if_neg h1] at howna
        by_cases h2 : j < got
        · rw [if_pos h2] at howna
          have h2' : decide ((got : Int) > (j : Int)) = true := by simp; omega
          obtain ⟨ga, ca, rfl, -, hga⟩ := howna.pos (by simp)
          have a0 := howna.cell (k := 0) (j := 0) rfl rfl
          have a1 := howna.cell (k := 0) (j := 1) rfl rfl
          have a2 := howna.cell (k := 0) (j := 2) rfl rfl
          simp only [Nat.zero_mul, Nat.zero_add] at a0 a1 a2
          clear howna
          go_wp2
          go_ret
          exact ⟨rfl, hb14⟩
        · rw [if_neg h2] at howna
          have h2' : decide ((j : Int) < (got : Int)) = false := by simp; omega
          obtain ⟨ga, ca, rfl, -, hga⟩ := howna.pos (by simp)
          have a0 := howna.cell (k := 0) (j := 0) rfl rfl
          have a1 := howna.cell (k := 0) (j := 1) rfl rfl
          have a2 := howna.cell (k := 0) (j := 2) rfl rfl
          simp only [Nat.zero_mul, Nat.zero_add] at a0 a1 a2
          clear howna
          go_wp2
          go_ret
          exact ⟨rfl, hb14⟩
end Go.Proofs.Ytldjodgpbnkleaa
