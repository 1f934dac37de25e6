/- Walk of tegulalaw45's HistorySplit: it answers true, whatever the list and the register. -/
import Derived.Test.YtcgbnlhloopnfaaHAwake
import Derived.Test.YtcgbnlhloopnfaaHSplitD
import Derived.Test.YtcgbnlhloopnfaaHSame
namespace Go.Proofs.Ytcgbnlhloopnfaa
open Go.RowKit

set_option maxHeartbeats 2000000 in
set_option maxRecDepth 100000 in
theorem historysplit_any (l : List Ev) (r : Int) (A : Option Addr) (c : Nat) (w : World) (h : EvS w w.heap.size A l) (hwf : WfOp l) :
    Calls Try.prog 3 #[.slice A l.length c, .int .i64 r] w fun e w' => e = .returned (.bool true) ∧ Below w.heap.size w w' := by
  have HA := Lib.hid (hawake_any w)
  by_cases hl : 60 < l.length
  · have hl' : (60 : Int) < (l.length : Int) := by omega
    go_enter Try.func3, Try.ntmps3
    go_wp2_with fail
    refine HA.out.mono ?_
    rintro r w1 ⟨rfl, hb1⟩
    go_wp2
    go_ret
    exact ⟨rfl, hb1⟩
  have hl' : ¬ (60 : Int) < (l.length : Int) := by omega
  have HC := Lib.hid (fun w1 (hb : Below w.heap.size w w1) => split_any l r A c w.heap.size w1 (h.below' hb (Nat.le_refl _)) hb.size (by omega) hwf)
  have HR := Lib.hid (fun w1 (hb : Below w.heap.size w w1) => refsplit_any l r A c w.heap.size w1 (h.below' hb (Nat.le_refl _)) hb.size (by omega))
  have hsl : (splitOf l r).length ≤ 60 := by
    unfold splitOf
    split
    · have := List.length_filter_le (keepB r) l; omega
    · simp
  generalize splitOf l r = xs at *
  clear h hl
  go_enter Try.func3, Try.ntmps3
  go_wp2_with fail
  refine HA.out.mono ?_
  rintro s w1 ⟨rfl, hb1⟩
  have hz1 := hb1.size
  go_wp2_with fail
  refine (HC.out _ hb1).mono ?_
  rintro s w2 ⟨va, rfl, howna, hb2⟩
  have hb12 := hb1.trans (hb2.mono hz1)
  have hz2 := hb12.size
  go_wp2_with fail
  refine (HR.out _ hb12).mono ?_
  rintro s w3 ⟨vb, rfl, hownb, hb3⟩
  have hb13 := hb12.trans (hb3.mono hz2)
  have hz3 := hb13.size
  have howna := howna.below hb3
  obtain ⟨Aa, ca, rfl, -, -⟩ := howna.form
  obtain ⟨Ab, cb, rfl, -, -⟩ := hownb.form
  rw [List.length_map] at *
  have HS := Lib.hid (same_any xs Aa Ab ca cb w3.heap.size w3 howna.reads hownb.reads (Nat.le_refl _) (by omega))
  clear howna hownb hb2 hb3 hb1 hb12
  go_wp2_with fail
  refine HS.out.mono ?_
  rintro s w4 ⟨rfl, hb4⟩
  have hb14 := hb13.trans (hb4.mono hz3)
  go_wp2
  go_ret
  exact ⟨rfl, hb14⟩
end Go.Proofs.Ytcgbnlhloopnfaa
