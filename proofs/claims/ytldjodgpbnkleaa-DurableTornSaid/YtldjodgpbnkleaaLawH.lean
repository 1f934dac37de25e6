/- Walk of tegulalaw47's DurableTorn: it answers true, whatever the registers and the numbers. -/
import Derived.Test.YtldjodgpbnkleaaLawG
namespace Go.Proofs.Ytldjodgpbnkleaa
open Go.RowKit

theorem ByS.whole {w w' : World} {B C : Nat} {A : Option Addr} {l : List Nat} (h : ByS w B A l) (hb : Below C w w') (hBC : B ≤ C) : ByS w' B A l := h.keep fun _ hp => hb.cell (by omega)

set_option maxHeartbeats 4000000 in
set_option maxRecDepth 100000 in
theorem durabletorn_any (rs : List Nat) (A : Option Addr) (c x y z : Nat) (hx : x < 256) (hy : y < 256) (hz : z < 256) (w : World) (h : ByS w w.heap.size A rs) :
    Calls Try.prog 6 #[.slice A rs.length c, .agg #[.int .u8 x, .int .u8 y, .int .u8 z]] w fun e w' => e = .returned (.bool true) ∧ Below w.heap.size w w' := by
  have HA := Lib.hid (fun W => awake_any W)
  obtain ⟨n, hnn⟩ : ∃ n, n = rs.length := ⟨_, rfl⟩
  rw [← hnn]
  by_cases h0 : n = 0
  · have h0' : ((n : Int) == 0) = true := by simpa using h0
    clear h0 h hnn
    go_enter Try.func6, Try.ntmps6
    go_wp2_with fail
    refine (HA.out _).mono ?_
    rintro r w1 ⟨rfl, hb1⟩
    have hb : Below w.heap.size w w1 := below_laid.trans (hb1.mono (by simp))
    go_wp2
    go_ret
    exact ⟨rfl, hb⟩
  have h0' : ((n : Int) == 0) = false := by simpa using h0
  by_cases h12 : 12 < n
  · have h12' : (12 : Int) < (n : Int) := by omega
    clear h0 h hnn
    go_enter Try.func6, Try.ntmps6
    go_wp2_with fail
    refine (HA.out _).mono ?_
    rintro r w1 ⟨rfl, hb1⟩
    have hb : Below w.heap.size w w1 := below_laid.trans (hb1.mono (by simp))
    go_wp2
    go_ret
    exact ⟨rfl, hb⟩
  have h12' : ¬ (12 : Int) < (n : Int) := by omega
  obtain ⟨k, hk⟩ : ∃ k, k = x % n := ⟨_, rfl⟩
  obtain ⟨got, hg⟩ : ∃ got, got = z % (n + 1) := ⟨_, rfl⟩
  obtain ⟨ot, hot⟩ : ∃ ot, ot = y % 4 := ⟨_, rfl⟩
  have hn0 : 0 < n := by omega
  have hkn : k < n := by rw [hk]; exact Nat.mod_lt _ (by omega)
  have hgn : got ≤ n := by have := Nat.mod_lt z (show 0 < n + 1 by omega); omega
  have hot4 : ot < 4 := by omega
  have HT := Lib.hid (fun (W : World) (hW : Below w.heap.size w W) => torn_walk rs A c k got ot w.heap.size W (h.whole hW (Nat.le_refl _)) hW.size (by omega) (by omega) (by omega) hot4)
  rw [← hnn] at HT
  have HK := Lib.hid hk
  have HG := Lib.hid hg
  have HO := Lib.hid hot
  clear hk hg hot h hnn h0
  go_enter Try.func6, Try.ntmps6
  go_wp2_with fail
  refine (HA.out _).mono ?_
  rintro r w1 ⟨rfl, hb1⟩
  have hbw : Below w.heap.size w w1 := below_laid.trans (hb1.mono (by simp))
  have x0 : w1.cell? ⟨w.heap.size, 0, none⟩ = some (.int .u8 x) := (hb1.cell (p := ⟨w.heap.size, 0, none⟩) (by simp)).trans (by rw [cell_of_row _ _ _ _ _ _ (heap_alloc_new w _)]; rfl)
  have x1 : w1.cell? ⟨w.heap.size, 1, none⟩ = some (.int .u8 y) := (hb1.cell (p := ⟨w.heap.size, 1, none⟩) (by simp)).trans (by rw [cell_of_row _ _ _ _ _ _ (heap_alloc_new w _)]; rfl)
  have x2 : w1.cell? ⟨w.heap.size, 2, none⟩ = some (.int .u8 z) := (hb1.cell (p := ⟨w.heap.size, 2, none⟩) (by simp)).trans (by rw [cell_of_row _ _ _ _ _ _ (heap_alloc_new w _)]; rfl)
  go_wp2
  have kx := fun W => conv_u8 (x : Int) (by omega) (by omega) W
  have ky := fun W => conv_u8 ((ot : Nat) : Int) (by omega) (by omega) W
  have kz := fun W => conv_u8 (z : Int) (by omega) (by omega) W
  have hs1 : IntKind.i64.wrap ((n : Int) + 1) = (n : Int) + 1 := IntWalk.i64_in _ (by omega)
  have ht1 : Int.tmod (x : Int) (n : Int) = (k : Int) := by rw [Int.tmod_eq_emod_of_nonneg (by omega), HK.out]; simp
  have ht2 : Int.tmod (y : Int) 4 = ((ot : Nat) : Int) := by rw [Int.tmod_eq_emod_of_nonneg (by omega), HO.out]; simp
  have ht3 : Int.tmod (z : Int) ((n : Int) + 1) = (got : Int) := by rw [Int.tmod_eq_emod_of_nonneg (by omega), HG.out]; simp
  have hs2 : ((n : Int) + 1 == 0) = false := by simp; omega
  have hs3 : ¬ (n : Int) + 1 = 0 := by omega
  have hs4 : ¬ n = 0 := by omega
  refine still_tail_drew 16 (by kernel_rfl) (by kernel_rfl) ?_
  simp only [List.take_succ_cons, List.take_zero, List.drop_succ_cons, List.drop_zero]
  repeat still_step
  refine wpStill_nil ?_
  clear hs1 ht1 ht2 ht3 hs2 hs3 hs4 kx ky kz
  go_wp2_with fail
  refine (HT.out _ (show Below w.heap.size w w1.drew from ⟨hbw.os, hbw.tape, hbw.output, hbw.size, hbw.block⟩)).mono ?_
  rintro r w2 ⟨rfl, hb2⟩
  have hb12 : Below w.heap.size w w2 := hbw.trans ((show Below w1.heap.size w1 w2 from ⟨hb2.os, hb2.tape, hb2.output, hb2.size, hb2.block⟩).mono hbw.size)
  go_wp2
  go_ret
  exact ⟨rfl, hb12⟩
end Go.Proofs.Ytldjodgpbnkleaa
