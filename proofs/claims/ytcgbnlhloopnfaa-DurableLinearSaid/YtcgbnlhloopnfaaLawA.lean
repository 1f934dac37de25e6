/- Walks of the laws' own helpers: write, read, flush, example. -/
import Derived.Test.YtcgbnlhloopnfaaGMem
import Derived.Test.YtcgbnlhloopnfaaGPln
import Derived.BigQuiet
import Derived.Outline
namespace Go.Proofs.Ytcgbnlhloopnfaa
open Go.RowKit

def wrE (op reg val : Int) : List Ev := [⟨1, op, true, reg, val, false⟩, ⟨2, op, true, reg, val, false⟩]
def rdE (op reg val : Int) : List Ev := [⟨1, op, false, reg, 0, false⟩, ⟨2, op, false, reg, val, false⟩]
def flE (op : Int) : List Ev := [⟨1, op, false, 0, 0, true⟩, ⟨2, op, false, 0, 0, true⟩]

set_option maxHeartbeats 1000000 in
set_option maxRecDepth 100000 in
theorem lawread_any (op reg val : Int) (w : World) : Calls Try.prog 69 #[.int .i64 op, .int .i64 reg, .int .i64 val] w (LayE w (rdE op reg val)) := by
  go_enter Try.func69, Try.ntmps69
  go_wp2
  go_ret
  exact ⟨_, rfl, OwS.lit (by simp [rdE, Ev.cells]) (heap_alloc_new w _) rfl rfl (by decide) (Nat.le_refl _), below_laid⟩

set_option maxHeartbeats 1000000 in
set_option maxRecDepth 100000 in
theorem lawwrite_any (op reg val : Int) (w : World) : Calls Try.prog 68 #[.int .i64 op, .int .i64 reg, .int .i64 val] w (LayE w (wrE op reg val)) := by
  go_enter Try.func68, Try.ntmps68
  go_wp2
  go_ret
  exact ⟨_, rfl, OwS.lit (by simp [wrE, Ev.cells]) (heap_third _ _ _ _) rfl rfl (by decide) (by omega), ((below_laid.alloc (by simp) _).alloc (by simp; omega) _)⟩

def exE (res : Int) : List Ev := wrE 0 0 1 ++ wrE 1 1 2 ++ [Ev.cut] ++ rdE 2 1 res ++ rdE 3 0 0

set_option maxHeartbeats 2000000 in
set_option maxRecDepth 100000 in
theorem example_any (res : Int) (w : World) : Calls Try.prog 48 #[.int .i64 res] w (LayE w (exE res)) := by
  have HW0 := Lib.hid (fun W => lawwrite_any 0 0 1 W)
  have HW1 := Lib.hid (fun W => lawwrite_any 1 1 2 W)
  have HR2 := Lib.hid (fun W => lawread_any 2 1 res W)
  have HR3 := Lib.hid (fun W => lawread_any 3 0 0 W)
  go_enter Try.func48, Try.ntmps48
  go_wp2_with fail
  refine (HW0.out _).mono ?_
  rintro r w1 ⟨v1, rfl, hown1, hb1⟩
  have hz1 := hb1.size
  go_wp2_with fail
  refine (HW1.out _).mono ?_
  rintro r w2 ⟨v2, rfl, hown2, hb2⟩
  have hown1 := hown1.below hb2
  have hb12 := hb1.trans (hb2.mono hz1)
  obtain ⟨A2, c2, rfl, -, -⟩ := hown2.form
  have hr2 := hown2.reads
  have hz12 := hb12.size
  clear hown2 hb2 hb1
  go_wp2_with (at_builtin; refine wpList_apS rfl (.tmp 4) (.tmp 5) _ rfl elemEv rfl hown1 w2.heap.size A2 _ c2 ((wrE 1 1 2).map Ev.cells) rfl hr2 rfl OwS.oneEv (by simp [wrE, maxLen]) (by simp [wrE]) hz12 ?_)
  intro v3 w3 hown3 hg3 _
  have hb3 : Below w.heap.size w w3 := hb12.grown hg3 hz12 (fun g hg => (hown1.lt hg).1)
  have hz3 := hb3.size
  clear hown1 hg3 hr2 hb12
  go_wp2_with (at_builtin; refine wpList_ap1 rfl (.tmp 7) (.tmp 9) _ rfl elemEv rfl hown3 Ev.cut.cells _ rfl _ rfl (by simp) (Ev.one _) (by simp [wrE, maxLen]) (by simp [wrE]) hz3 ?_)
  intro v4 w4 hown4 hg4 _
  have hb4 : Below w.heap.size w w4 := (hb3.alloc hz3 _).grown hg4 (by simp; omega) (fun g hg => (hown3.lt hg).1)
  have hz4 := hb4.size
  clear hown3 hg4 hb3
  go_wp2_with fail
  refine (HR2.out _).mono ?_
  rintro r w5 ⟨v5, rfl, hown5, hb5⟩
  have hown4 := hown4.below hb5
  have hb45 := hb4.trans (hb5.mono hz4)
  obtain ⟨A5, c5, rfl, -, -⟩ := hown5.form
  have hr5 := hown5.reads
  have hz5 := hb45.size
  clear hown5 hb5 hb4
  go_wp2_with (at_builtin; refine wpList_apS rfl (.tmp 10) (.tmp 12) _ rfl elemEv rfl hown4 w5.heap.size A5 _ c5 ((rdE 2 1 res).map Ev.cells) rfl hr5 rfl OwS.oneEv (by simp [wrE, rdE, maxLen]) (by simp [wrE, rdE]) hz5 ?_)
  intro v6 w6 hown6 hg6 _
  have hb6 : Below w.heap.size w w6 := hb45.grown hg6 hz5 (fun g hg => (hown4.lt hg).1)
  have hz6 := hb6.size
  clear hown4 hg6 hr5 hb45
  go_wp2_with fail
  refine (HR3.out _).mono ?_
  rintro r w7 ⟨v7, rfl, hown7, hb7⟩
  have hown6 := hown6.below hb7
  have hb67 := hb6.trans (hb7.mono hz6)
  obtain ⟨A7, c7, rfl, -, -⟩ := hown7.form
  have hr7 := hown7.reads
  have hz7 := hb67.size
  clear hown7 hb7 hb6
  go_wp2_with (at_builtin; refine wpList_apS rfl (.tmp 14) (.tmp 15) _ rfl elemEv rfl hown6 w7.heap.size A7 _ c7 ((rdE 3 0 0).map Ev.cells) rfl hr7 rfl OwS.oneEv (by simp [wrE, rdE, maxLen]) (by simp [wrE, rdE]) hz7 ?_)
  intro v8 w8 hown8 hg8 _
  have hb8 : Below w.heap.size w w8 := hb67.grown hg8 hz7 (fun g hg => (hown6.lt hg).1)
  go_wp2
  go_ret
  exact ⟨_, rfl, by simpa [exE] using hown8, hb8⟩
end Go.Proofs.Ytcgbnlhloopnfaa
