/- Walk of tegulalaw47's DurableStorage: it answers true, whatever the script. -/
import Derived.Test.YtldjodgpbnkleaaStoQ
import Derived.Test.YtldjodgpbnkleaaStoF
import Derived.Test.YtldjodgpbnkleaaLawB
namespace Go.Proofs.Ytldjodgpbnkleaa
open Go.RowKit

set_option maxHeartbeats 4000000 in
set_option maxRecDepth 100000 in
theorem durablestorage_any (acts : List ActN) (hby : ∀ a ∈ acts, a.kind < 256 ∧ a.reg < 256 ∧ a.which < 256) (A : Option Addr) (c : Nat) (w : World) (h : RdS w w.heap.size 3 A (acts.map ActN.cells)) :
    Calls Try.prog 9 #[.slice A acts.length c] w fun e w' => e = .returned (.bool true) ∧ Below w.heap.size w w' := by
  have HA := Lib.hid (awake_any w)
  by_cases hl : 80 < acts.length
  · have hl' : (80 : Int) < (acts.length : Int) := by omega
    clear h hby
    go_enter Try.func9, Try.ntmps9
    go_wp2_with fail
    refine HA.out.mono ?_
    rintro r w1 ⟨rfl, hb1⟩
    go_wp2
    go_ret
    exact ⟨rfl, hb1⟩
  have hl' : ¬ (80 : Int) < (acts.length : Int) := by omega
  have HST := Lib.hid (fun w1 (hb : Below w.heap.size w w1) => storage_any acts hby A c w.heap.size w1 (h.below' hb (Nat.le_refl _)) hb.size (by omega))
  have hln := (sbd_to acts acts.length (Nat.le_refl _)).l
  have hwf := sto_wf acts (by omega)
  obtain ⟨hck, htr⟩ := sto_law (sok_to acts acts.length)
  generalize (stoTo acts acts.length).l = l at *
  have HC := Lib.hid (fun A c W (h : EvS W W.heap.size A l) => by have := check_any l A c W.heap.size W h (Nat.le_refl _) (by omega) hwf; unfold ChkPost at this; rw [hck] at this; exact this)
  have HT := Lib.hid (fun A c w0 W (h : EvS w0 w0.heap.size A l) (hb : Below w0.heap.size w0 W) => by have := traceable_any l A c w0.heap.size W (h.below' hb (Nat.le_refl _)) hb.size (by omega) hwf; rw [htr] at this; exact this)
  clear h hby hck htr hwf hln hl
  go_enter Try.func9, Try.ntmps9
  go_wp2_with fail
  refine HA.out.mono ?_
  rintro r w1 ⟨rfl, hb1⟩
  have hz1 := hb1.size
  go_wp2_with fail
  refine (HST.out _ hb1).mono ?_
  rintro r w2 ⟨v2, rfl, hown2, hb2⟩
  have hb12 := hb1.trans (hb2.mono hz1)
  have hz2 := hb12.size
  obtain ⟨A2, c2, rfl, -, -⟩ := hown2.form
  have hr2 := hown2.reads
  rw [List.length_map]
  clear hown2 hb2 HST
  have HR2 := Lib.hid hr2
  generalize hll : l.length = ln at *
  clear hr2 hll
  go_wp2_with fail
  refine (HC.out _ _ _ HR2.out).mono ?_
  rintro r w3 ⟨va, rfl, howna, hb3⟩
  have hb13 := hb12.trans (hb3.mono hz2)
  have hz3 := hb13.size
  obtain ⟨Aa, ca, rfl, -, -⟩ := howna.form
  clear howna
  go_wp2_with fail
  refine (HT.out _ _ _ _ HR2.out hb3).mono ?_
  rintro r w4 ⟨rfl, hb4⟩
  have hb14 := hb13.trans (hb4.mono hz3)
  go_wp2
  go_ret
  exact ⟨rfl, hb14⟩
end Go.Proofs.Ytldjodgpbnkleaa
