/- Walk of tegulalaw46's LinearFind: it answers true for every list. -/
import Derived.Test.YtcgbnlhloopnfaaDoorGEnd
import Derived.Test.YtcgbnlhloopnfaaDoorLimA
namespace Go.Proofs.YtcgbnlhloopnfaaDoor
open Go.RowKit

theorem outS_below {w w' : World} {b : Nat} {ov : Value} {wl : List (List Int × Int)} (h : @OutS ⟨b⟩ w ov wl) (hb : Below w.heap.size w w') : @OutS ⟨b⟩ w' ov wl := by
  obtain ⟨es, h1, h2, h3⟩ := h
  exact ⟨es, h1, h2.below hb, fun x hx => ⟨(h3 x hx).1, (h3 x hx).2.below hb⟩⟩
theorem find_bad {l : List Ev} (ho : oneL l = false) (hlen : l.length ≤ 100000) (hwf : WfOp l ∧ WfReg l ∧ ∀ e ∈ l, (Lit.int .i64 e.val).wf = true) (A : Option Addr) (c B : Nat) (w : World) (h : EvS w B A l) (hB : B ≤ w.heap.size) :
    Calls Tryd.prog 15 #[.slice A l.length c] w fun r w' => r = .returned (.tuple #[.slice none 0 0, .bool false, .int .i64 1]) ∧ Below w.heap.size w w' := by
  refine (lfind_any l A c B w h hB hlen hwf.1 hwf.2.1 hwf.2.2).mono ?_
  intro r w' ⟨hbl, hr⟩
  rw [ho] at hr
  simp only [Bool.false_eq_true, if_false] at hr
  exact ⟨hr, hbl⟩
set_option maxHeartbeats 8000000 in
set_option maxRecDepth 100000 in
theorem linearfind_any (l : List Ev) (A : Option Addr) (c : Nat) (w : World) (h : EvS w w.heap.size A l) (hwf : WfOp l ∧ WfReg l ∧ ∀ e ∈ l, (Lit.int .i64 e.val).wf = true) (hc : CutG w) :
    Calls Tryd.prog 3 #[.slice A l.length c] w fun e w' => e = .returned (.bool true) ∧ Below w.heap.size w w' := by
  have HA := Lib.hid (awake46_any w hc)
  have HE := Lib.hid h
  clear h hc
  by_cases hlen : l.length ≤ 50
  case neg =>
    have hlen' : (l.length : Int) > 50 := by omega
    go_enter Tryd.func3, Tryd.ntmps3
    go_wp2_with fail
    refine HA.out.mono ?_
    rintro r w1 ⟨rfl, hb1⟩
    go_wp2
    go_ret
    exact ⟨rfl, hb1⟩
  case pos =>
    have hlen' : ¬ (l.length : Int) > 50 := by omega
    have HON := Lib.hid (fun W (hW : Below w.heap.size w W) => one_any l A c w.heap.size W (HE.out.below hW) hW.size (by omega))
    obtain ⟨on, hon⟩ : ∃ on, oneL l = on := ⟨_, rfl⟩
    rw [hon] at HON
    cases on
    case false =>
      have HFB := Lib.hid (fun W (hW : Below w.heap.size w W) => find_bad hon (by omega) hwf A c w.heap.size W (HE.out.below hW) hW.size)
      clear hon
      go_enter Tryd.func3, Tryd.ntmps3
      go_wp2_with fail
      refine HA.out.mono ?_
      rintro r w1 ⟨rfl, hb1⟩
      have HB1 := Lib.hid hb1
      clear hb1
      go_wp2_with fail
      refine (HON.out _ HB1.out).mono ?_
      rintro r w2 ⟨rfl, hb2⟩
      have HB2 := Lib.hid (HB1.out.trans (hb2.mono HB1.out.size))
      clear hb2
      go_wp2_with fail
      refine (HFB.out _ HB2.out).mono ?_
      rintro r w3 ⟨rfl, hb3⟩
      have HB3 := Lib.hid (HB2.out.trans (hb3.mono HB2.out.size))
      clear hb3
      go_wp2_with fail
      refine (HON.out _ HB3.out).mono ?_
      rintro r w4 ⟨rfl, hb4⟩
      go_wp2
      go_ret
      exact ⟨rfl, HB3.out.trans (hb4.mono HB3.out.size)⟩
    case true =>
      have hv := one_valid hon
      have HMO := Lib.hid (fun W (hW : Below w.heap.size w W) => most_any l A c w.heap.size W (HE.out.below hW) hW.size (by omega) hv)
      by_cases hmo : mostL l ≤ 8
      case neg =>
        have hmo' : (mostL l : Int) > 8 := by omega
        clear hon hv
        generalize mostL l = mo at *
        go_enter Tryd.func3, Tryd.ntmps3
        go_wp2_with fail
        refine HA.out.mono ?_
        rintro r w1 ⟨rfl, hb1⟩
        have HB1 := Lib.hid hb1
        clear hb1
        go_wp2_with fail
        refine (HON.out _ HB1.out).mono ?_
        rintro r w2 ⟨rfl, hb2⟩
        have HB2 := Lib.hid (HB1.out.trans (hb2.mono HB1.out.size))
        clear hb2
        go_wp2_with fail
        refine (HMO.out _ HB2.out).mono ?_
        rintro r w3 ⟨rfl, hb3⟩
        go_wp2
        go_ret
        exact ⟨rfl, HB2.out.trans (hb3.mono HB2.out.size)⟩
      case pos =>
        have hmo' : ¬ (mostL l : Int) > 8 := by omega
        have hab := most_big (l := l) (by omega)
        have hfo : FindOk l := ⟨hon, by omega, hwf.1, hwf.2.1, hwf.2.2⟩
        have HLZ := Lib.hid (fun W (hW : Below w.heap.size w W) => linz_any l A c w.heap.size W (HE.out.below hW) hW.size (by omega) hv hmo)
        by_cases hex : ExpL l
        case pos =>
          have HFY := Lib.hid (fun W (hW : Below w.heap.size w W) => find_yes hfo hab hex A c w.heap.size W (HE.out.below hW) hW.size)
          have HEX := Lib.hid hex
          have HRAC := Lib.hid (fun (wl : List (List Int × Int)) (ha : AccL l wl) Aw cw W (hW : Below w.heap.size w W) (hI : WinS W W.heap.size Aw wl) => racc_yes hon ha A Aw c cw W.heap.size W ((HE.out.below hW).more hW.size) hI (Nat.le_refl _) (by omega) (fun x hx => by have := acc_small hv wl 0 0 ha.2 x hx; omega) (by have := ha.1; have h2 : cutsL l ≤ l.length := List.countP_le_length; omega))
          have HSAM := Lib.hid (fun (wl : List (List Int × Int)) A c b W (h : @OutS ⟨b⟩ W (.slice A wl.length c) wl) (hl : wl.length ≤ 100000) => sameW_any wl A c b W h hl)
          have HCB : Hid (cutsL l ≤ 50) := Nat.le_trans List.countP_le_length (by omega)
          clear hon hv hab hfo hex hmo hwf
          generalize mostL l = mo at *
          go_enter Tryd.func3, Tryd.ntmps3
          go_wp2_with fail
          refine HA.out.mono ?_
          rintro r w1 ⟨rfl, hb1⟩
          have HB1 := Lib.hid hb1
          clear hb1
          go_wp2_with fail
          refine (HON.out _ HB1.out).mono ?_
          rintro r w2 ⟨rfl, hb2⟩
          have HB2 := Lib.hid (HB1.out.trans (hb2.mono HB1.out.size))
          clear hb2
          go_wp2_with fail
          refine (HMO.out _ HB2.out).mono ?_
          rintro r w3 ⟨rfl, hb3⟩
          have HB3 := Lib.hid (HB2.out.trans (hb3.mono HB2.out.size))
          clear hb3
          go_wp2_with fail
          refine (HFY.out _ HB3.out).mono ?_
          rintro r w4 ⟨⟨ov, wl, rfl, hac, hou⟩, hb4⟩
          have HB4 := Lib.hid (HB3.out.trans (hb4.mono HB3.out.size))
          obtain ⟨A4, c4, rfl⟩ := hou.isSlice
          have HAC := Lib.hid hac
          have HOU := Lib.hid hou
          have hz3 := HB3.out.size
          have hwl : wl.length ≤ 100000 := by have := hac.1; have := HCB.out; omega
          clear hac hou hb4
          go_wp2_with fail
          refine (HON.out _ HB4.out).mono ?_
          rintro r w5 ⟨rfl, hb5⟩
          have HB5 := Lib.hid (HB4.out.trans (hb5.mono HB4.out.size))
          have HO5 := Lib.hid (outS_below HOU.out hb5)
          clear hb5
          go_wp2_with fail
          refine (HLZ.out _ HB5.out).mono ?_
          rintro r w6 ⟨⟨b, rfl, hbb⟩, hb6⟩
          obtain rfl : b = true := hbb.2 HEX.out
          have HB6 := Lib.hid (HB5.out.trans (hb6.mono HB5.out.size))
          have HO6 := Lib.hid (outS_below HO5.out hb6)
          clear hb6 hbb
          have HSA := Lib.hid (HSAM.out wl A4 c4 w3.heap.size w6 HO6.out hwl)
          have HRX := Lib.hid (fun A' c' W (hW : Below w.heap.size w W) (hI : WinS W W.heap.size A' wl) => HRAC.out wl HAC.out A' c' W hW hI)
          clear HRAC HSAM hwl
          generalize wl.length = wn at *
          go_wp2_with fail
          refine HSA.out.mono ?_
          rintro r w7 ⟨⟨A7, c7, rfl, hw7⟩, hb7⟩
          have HB7 := Lib.hid (HB6.out.trans (hb7.mono HB6.out.size))
          have HRY := Lib.hid (HRX.out A7 c7 w7 HB7.out hw7)
          clear hw7 hb7
          go_wp2_with fail
          refine HRY.out.mono ?_
          rintro r w8 ⟨rfl, hb8⟩
          go_wp2
          go_ret
          exact ⟨rfl, HB7.out.trans (hb8.mono HB7.out.size)⟩
        case neg =>
          have HFN := Lib.hid (fun W (hW : Below w.heap.size w W) => find_no hfo hab hex A c w.heap.size W (HE.out.below hW) hW.size)
          have HEX := Lib.hid (show ExpO (rawOps l) (cutsL l) 0 0 → False from hex)
          clear hon hv hab hfo hex hmo hwf
          generalize mostL l = mo at *
          go_enter Tryd.func3, Tryd.ntmps3
          go_wp2_with fail
          refine HA.out.mono ?_
          rintro r w1 ⟨rfl, hb1⟩
          have HB1 := Lib.hid hb1
          clear hb1
          go_wp2_with fail
          refine (HON.out _ HB1.out).mono ?_
          rintro r w2 ⟨rfl, hb2⟩
          have HB2 := Lib.hid (HB1.out.trans (hb2.mono HB1.out.size))
          clear hb2
          go_wp2_with fail
          refine (HMO.out _ HB2.out).mono ?_
          rintro r w3 ⟨rfl, hb3⟩
          have HB3 := Lib.hid (HB2.out.trans (hb3.mono HB2.out.size))
          clear hb3
          go_wp2_with fail
          refine (HFN.out _ HB3.out).mono ?_
          rintro r w4 ⟨rfl, hb4⟩
          have HB4 := Lib.hid (HB3.out.trans (hb4.mono HB3.out.size))
          clear hb4
          go_wp2_with fail
          refine (HON.out _ HB4.out).mono ?_
          rintro r w5 ⟨rfl, hb5⟩
          have HB5 := Lib.hid (HB4.out.trans (hb5.mono HB4.out.size))
          clear hb5
          go_wp2_with fail
          refine (HLZ.out _ HB5.out).mono ?_
          rintro r w6 ⟨⟨b, rfl, hbb⟩, hb6⟩
          obtain rfl : b = false := by
            rcases b with _ | _
            · rfl
            · exact (HEX.out (hbb.1 rfl)).elim
          have HB6 := Lib.hid (HB5.out.trans (hb6.mono HB5.out.size))
          clear hb6 hbb
          go_wp2
          go_ret
          exact ⟨rfl, HB6.out⟩
end Go.Proofs.YtcgbnlhloopnfaaDoor
