/- Walk of tegulalaw22.copied. -/
import Derived.Test.YtkjjojmidhjjdaaTwW
namespace Go.Proofs.Ytkjjojmidhjjdaa
open Go.RowKit

set_option maxHeartbeats 1000000 in
set_option maxRecDepth 100000 in
theorem copied_any {A : Option Addr} {B c : Nat} {ms : List Mv} (w : World) (h : MvS w B A ms) (hB : B ≤ w.heap.size) (hn : ms.length ≤ 100000) :
    Calls Try.prog 16 #[.slice A ms.length c] w fun r w' => (∃ v, r = .returned v ∧ OwS w' w.heap.size 47 4 v (ms.map Mv.cells)) ∧ Below w.heap.size w w' := by
  have H := Lib.hid h
  clear h
  go_enter Try.func16, Try.ntmps16
  have hz : OwS (w.alloc (.cells #[] 47)) w.heap.size 47 4 (.slice (some ⟨w.heap.size, 0, none⟩) 0 0) [] := OwS.lit (by simp) (heap_alloc_new w _) rfl rfl (by decide) (Nat.le_refl _)
  have hrr : MvS (w.alloc (.cells #[] 47)) w.heap.size A ms := (H.out.below' (below_laid.mono hB) (Nat.le_refl _)).more hB
  go_wp2_with (at_builtin; refine wpList_apS rfl (.tmp 3) (.tmp 4) _ rfl elemMv rfl hz w.heap.size _ _ c (ms.map Mv.cells) rfl hrr (by simp) (fun r hr => by obtain ⟨m, -, rfl⟩ := List.mem_map.1 hr; exact Mv.one m) (by simp [maxLen]; omega) (by simp; omega) (by simp) ?_)
  intro v3 w3 hown3 hg3 _
  have hb3 : Below w.heap.size w w3 := ((Below.refl w.heap.size w).alloc (Nat.le_refl _) _).grown hg3 (by simp) (fun k h => (hz.lt h).1)
  clear hg3 hz
  go_wp2
  go_ret
  exact ⟨⟨_, rfl, by simpa using hown3⟩, hb3⟩
end Go.Proofs.Ytkjjojmidhjjdaa
