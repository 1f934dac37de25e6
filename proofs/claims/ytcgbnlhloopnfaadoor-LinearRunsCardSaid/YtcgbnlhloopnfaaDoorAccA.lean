/- Walk of tegulalaw46's LinearAccepts: it answers true, whatever the list and the explanation. -/
import Derived.Test.YtcgbnlhloopnfaaDoorGRc
import Derived.Test.YtcgbnlhloopnfaaDoorFrcA
import Derived.Deep.RegionLaw
namespace Go.Proofs.YtcgbnlhloopnfaaDoor
open Go.RowKit

def rowW (p : (Option Addr × Nat) × (List Int × Int)) : List Value := [.slice p.1.1 p.2.1.length p.1.2, .int .i64 p.2.2]
theorem rowW_one (p : (Option Addr × Nat) × (List Int × Int)) : ∀ u ∈ rowW p, u.oneCell' = true := by
  intro u hu
  simp [rowW] at hu
  rcases hu with rfl | rfl <;> rfl
set_option maxHeartbeats 8000000 in
set_option maxRecDepth 100000 in
theorem linearaccepts_any (l : List Ev) (xs : List (List Int × Int)) (A Aw : Option Addr) (c cw : Nat) (w : World) (h : EvS w w.heap.size A l) (hwf : WfOp l ∧ WfReg l ∧ ∀ e ∈ l, (Lit.int .i64 e.val).wf = true) (hW : WinS w w.heap.size Aw xs) (hc : CutG w) :
    Calls Tryd.prog 4 #[.slice A l.length c, .slice Aw xs.length cw] w fun e w' => e = .returned (.bool true) ∧ Below w.heap.size w w' := by
  have HA := Lib.hid (awake46_any w hc)
  have HE := Lib.hid h
  have HW0 := Lib.hid hW
  clear h hc
  by_cases hlen : l.length ≤ 50
  case neg =>
    have hlen' : (l.length : Int) > 50 := by omega
    go_enter Tryd.func4, Tryd.ntmps4
    go_wp2_with fail
    refine HA.out.mono ?_
    rintro r w1 ⟨rfl, hb1⟩
    go_wp2
    go_ret
    exact ⟨rfl, hb1⟩
  case pos =>
    have hlen' : ¬ (l.length : Int) > 50 := by omega
    by_cases hxl : xs.length ≤ 10
    case neg =>
      have hxl' : (xs.length : Int) > 10 := by omega
      go_enter Tryd.func4, Tryd.ntmps4
      go_wp2_with fail
      refine HA.out.mono ?_
      rintro r w1 ⟨rfl, hb1⟩
      go_wp2
      go_ret
      exact ⟨rfl, hb1⟩
    case pos =>
      have hxl' : ¬ (xs.length : Int) > 10 := by omega
      obtain ⟨vs, hvl, hrd, hin⟩ := hW
      have HIN := Lib.hid hin
      have HVL := Lib.hid hvl
      have HRD : Hid (RdS w w.heap.size 2 Aw ((vs.zip xs).map rowW)) := hrd
      have hzl : (vs.zip xs).length = xs.length := by rw [List.length_zip, hvl, Nat.min_self]
      have HZL := Lib.hid hzl
      have HACC := Lib.hid (fun (hlx : ∀ x ∈ xs, x.1.length ≤ 100000) Ax cx W (hWb : Below w.heap.size w W) (hx : WinS W W.heap.size Ax xs) => accepts_any l xs A Ax c cx W.heap.size W ((HE.out.below hWb).more hWb.size) hx (Nat.le_refl _) (by omega) hlx (by omega) hwf.1 hwf.2.1)
      have HRACC := Lib.hid (fun (hlx : ∀ x ∈ xs, x.1.length ≤ 100000) W (hWb : Below w.heap.size w W) => raccepts_any l xs A Aw c cw w.heap.size W (HE.out.below hWb) (HW0.out.below hWb (Nat.le_refl _)) hWb.size (by omega) hlx (by omega))
      clear hwf hrd hin hvl hzl
      go_enter Tryd.func4, Tryd.ntmps4
      go_wp2_with fail
      refine HA.out.mono ?_
      rintro r w1 ⟨rfl, hb1⟩
      have HB1 := Lib.hid hb1
      have hz1 := hb1.size
      clear hb1
      go_wp2
      go_loopw [5, 6] (fun s i wr => ∃ k : Nat, k ≤ xs.length ∧ i = .int .i64 k ∧ (∀ j x, j < k → xs[j]? = some x → x.1.length ≤ 30) ∧ OwS wr w1.heap.size 37 2 s (((vs.zip xs).take k).map rowW) ∧ Below w1.heap.size w1 wr) (fun _ i _ => xs.length - (intOf i).toNat)
      case atStart => exact ⟨0, by omega, rfl, fun j x hj => absurd hj (by omega), by simpa using OwS.nil _ _ _ _, Below.refl _ _⟩
      case round =>
        obtain ⟨k, hk, rfl, hle, hown, hb⟩ := hrel
        have HLE := Lib.hid hle
        have HOW := Lib.hid hown
        have HB := Lib.hid hb
        have hz := hb.size
        clear hle hown
        by_cases hlt : k < xs.length
        · have hkx : (k : Int) < (xs.length : Int) := by omega
          obtain ⟨x, hx⟩ : ∃ x, xs[k]? = some x := ⟨_, List.getElem?_eq_getElem hlt⟩
          have hkv : k < vs.length := by rw [HVL.out]; exact hlt
          obtain ⟨p, hp⟩ : ∃ p, vs[k]? = some p := ⟨_, List.getElem?_eq_getElem hkv⟩
          have hzk : (vs.zip xs)[k]? = some (p, x) := by rw [List.getElem?_zip_eq_some]; exact ⟨hp, hx⟩
          have HZK := Lib.hid hzk
          have HXK := Lib.hid hx
          obtain ⟨xo, xk⟩ := x
          obtain ⟨pA, pc⟩ := p
          obtain ⟨bb, off, rfl, hbb, hcc⟩ := (HRD.out.below (HB1.out.trans (hb.mono hz1))).2 (by rw [List.length_map, HZL.out]; omega)
          have r0 := hcc k (rowW ((pA, pc), (xo, xk))) (by rw [List.getElem?_map, HZK.out]; rfl) 0 _ rfl
          have r1 := hcc k (rowW ((pA, pc), (xo, xk))) (by rw [List.getElem?_map, HZK.out]; rfl) 1 _ rfl
          rw [Nat.add_zero] at r0
          simp only at r0 r1
          clear hx hp hzk hkv hcc hb
          by_cases hxo : xo.length ≤ 30
          case neg =>
            have hxo' : (xo.length : Int) > 30 := by omega
            clear hxo
            go_wp2
            go_ret
            exact ⟨rfl, HB1.out.trans (HB.out.mono hz1)⟩
          case pos =>
            have hxo' : ¬ (xo.length : Int) > 30 := by omega
            have HXO := Lib.hid hxo
            clear hxo
            have htl : (((vs.zip xs).take k).map rowW).length = k := by rw [List.length_map, List.length_take, HZL.out]; omega
            have HTL := Lib.hid htl
            clear htl
            go_upto_region 11 with (fail)
            go_region_law (refine step_ap1 (by rfl) (.tmp 34) (.tmp 46) _ (by rfl) elemEra (by rfl) (HOW.out.drewN 1) (rowW ((pA, pc), (xo, xk))) _ (by rfl) wr.heap.size (by rfl) (by simp) (rowW_one _) (by rw [HTL.out]; simp [maxLen]; omega) (by rw [HTL.out]; omega) (by simpa using hz) ?_; intro v6 w6 hown6 hg6 hv6)
            all_goals
              have HO6 : Hid (OwS w6 w1.heap.size 37 2 v6 (((vs.zip xs).take (k + 1)).map rowW)) := by
                unfold Hid
                rw [List.take_add_one, HZK.out]
                simpa using hown6
              have HB6 := Lib.hid (HB.out.grown (grow_drewN (grow_alloc hg6)) hz (fun q hq => (HOW.out.lt hq).1))
              clear hown6 hg6 hv6 r0 r1
              go_wp2
              go_roundw
              case rel => exact ⟨k + 1, by omega, by go_num, fun j y hj hjy => by
                rcases Nat.lt_or_eq_of_le (Nat.le_of_lt_succ hj) with h | rfl
                · exact HLE.out j y h hjy
                · have := HXK.out.symm.trans hjy
                  cases this
                  exact HXO.out, HO6.out, HB6.out⟩
              case measure => simp [intOf]; omega
        · obtain rfl : k = xs.length := by omega
          have hown := HOW.out
          rw [List.take_of_length_le (by rw [HZL.out]; exact Nat.le_refl _)] at hown
          obtain ⟨Ax, cx, rfl, -, -⟩ := hown.form
          rw [List.length_map, HZL.out] at hown ⊢
          have hlx : ∀ x ∈ xs, x.1.length ≤ 100000 := fun x hx => by
            obtain ⟨j, hj⟩ := List.mem_iff_getElem?.1 hx
            have := HLE.out j x (List.getElem?_eq_some_iff.1 hj).1 hj
            omega
          have HBW := Lib.hid (HB1.out.trans (hb.mono hz1))
          have hwx : WinS wr wr.heap.size Ax xs := ⟨vs, HVL.out, hown.reads, fun i p x hp hx => ((HIN.out i p x hp hx).below HBW.out).more HBW.out.size⟩
          have HX := Lib.hid hwx
          have HR1 := Lib.hid (HACC.out hlx Ax cx wr HBW.out HX.out)
          have HR2 := Lib.hid (fun W (hW : Below w.heap.size w W) => HRACC.out hlx W hW)
          unfold AccP at HR1 HR2
          clear hown hwx hlx hb HACC HRACC
          obtain ⟨acc, hacc⟩ : ∃ acc, (decide (xs.length = cutsL l + 1) && accI (rawOps l) (cutsL l) 0 0 xs) = acc := ⟨_, rfl⟩
          obtain ⟨on, hon⟩ : ∃ on, oneL l = on := ⟨_, rfl⟩
          rw [hacc, hon] at HR1
          simp only [hacc, hon] at HR2
          clear hacc hon
          generalize xs.length = xn at *
          generalize l.length = ln at *
          cases on
          · simp only [Bool.false_eq_true, if_false] at HR1 HR2
            go_wp2_with fail
            refine HR1.out.mono ?_
            rintro r w2 ⟨hb2, rfl⟩
            have HB2 := Lib.hid (HBW.out.trans (hb2.mono HBW.out.size))
            clear hb2
            go_wp2_with fail
            refine (HR2.out _ HB2.out).mono ?_
            rintro r w3 ⟨hb3, rfl⟩
            go_wp2
            go_ret
            exact ⟨rfl, HB2.out.trans (hb3.mono HB2.out.size)⟩
          · simp only [if_true] at HR1 HR2
            go_wp2_with fail
            refine HR1.out.mono ?_
            rintro r w2 ⟨hb2, rfl⟩
            have HB2 := Lib.hid (HBW.out.trans (hb2.mono HBW.out.size))
            clear hb2
            go_wp2_with fail
            refine (HR2.out _ HB2.out).mono ?_
            rintro r w3 ⟨hb3, rfl⟩
            cases acc
            · go_wp2
              go_ret
              exact ⟨rfl, HB2.out.trans (hb3.mono HB2.out.size)⟩
            · go_wp2
              go_ret
              exact ⟨rfl, HB2.out.trans (hb3.mono HB2.out.size)⟩
end Go.Proofs.YtcgbnlhloopnfaaDoor
