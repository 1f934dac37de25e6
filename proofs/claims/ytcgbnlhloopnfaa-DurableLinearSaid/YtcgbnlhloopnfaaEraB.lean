/- Walk of tegularef46.eras. -/
import Derived.Test.YtcgbnlhloopnfaaEraA
import Derived.Test.YtcgbnlhloopnfaaGLin
import Derived.Deep.RegionLaw
namespace Go.Proofs.Ytcgbnlhloopnfaa
open Go.RowKit

def cutsTo (l : List Ev) (j : Nat) : Nat := cutsL (l.take j)
theorem cutsTo_succ {l : List Ev} {j : Nat} {e : Ev} (he : l[j]? = some e) : cutsTo l (j + 1) = cutsTo l j + if e.kind = 3 then 1 else 0 := by
  unfold cutsTo cutsL
  rw [List.take_add_one, he]
  simp [List.countP_append, List.countP_cons]
theorem cutsTo_all (l : List Ev) : cutsTo l l.length = cutsL l := by unfold cutsTo; rw [List.take_length]
def nilRow : List Value := [.slice none 0 0]
/-- the operations of the eras, behind the first j -/
def roR (os : List Opr) (j k : Nat) : List Opr := eraO (os.take j) k
theorem roR_succ {os : List Opr} {j : Nat} {o : Opr} (ho : os[j]? = some o) {k0 : Nat} (he : o.era = (k0 : Int)) : roR os (j + 1) = updN (roR os j) k0 (roR os j k0 ++ [o]) := by
  funext k
  unfold roR eraO updN
  rw [List.take_add_one, ho]
  simp only [Option.toList_some, List.filter_append, List.filter_cons, List.filter_nil, he]
  by_cases hk : k = k0
  · subst hk; simp
  · rw [if_neg hk]
    have : ((k0 : Int) == (k : Int)) = false := by simp; omega
    rw [this]
    simp
theorem roR_len (os : List Opr) (j k : Nat) : (roR os j k).length ≤ os.length := by
  unfold roR eraO
  exact Nat.le_trans (List.length_filter_le _ _) (by rw [List.length_take]; omega)
/-- what eras leaves -/
def ErasP (l : List Ev) (w : World) (r : Ending) (w' : World) : Prop := (∃ g cap, r = .returned (.slice (some ⟨g, 0, none⟩) (cutsL l + 1) cap) ∧ ErV w' w.heap.size w.heap.size g cap (cutsL l + 1) (fun k => eraO (rawOps l) k)) ∧ Below w.heap.size w w'
set_option maxHeartbeats 8000000 in
set_option maxRecDepth 100000 in
theorem eras_any (l : List Ev) (A : Option Addr) (c B : Nat) (w : World) (h : EvS w B A l) (hB : B ≤ w.heap.size) (hlen : l.length ≤ 100000) (hv : validL l = true) :
    Calls Try.prog 50 #[.slice A l.length c] w (ErasP l w) := by
  have HO := Lib.hid (fun W (hW : Below w.heap.size w W) => refops_valid l A c B W (h.below' hW hB) (Nat.le_trans hB hW.size) (by omega) hv)
  have HE := Lib.hid h
  have HBD := Lib.hid (era_bd hv)
  have hol : (rawOps l).length ≤ 100000 := Nat.le_trans (rawTo_bd l l.length).1 hlen
  have hcb : cutsL l ≤ 100000 := Nat.le_trans List.countP_le_length hlen
  clear h hv
  unfold ErasP
  go_enter Try.func50, Try.ntmps50
  go_upto_region 2 with (fail)
  have hb1 := below_laid (w := w) (o := .cells #[.slice none 0 0] 69)
  have hown1 : OwS (w.alloc (.cells #[.slice none 0 0] 69)) w.heap.size 69 1 (.slice (some ⟨w.heap.size, 0, none⟩) 1 1) [nilRow] := OwS.lit (by simp [nilRow]) (heap_alloc_new w _) (by rfl) rfl (by decide) (Nat.le_refl _)
  generalize w.alloc (.cells #[.slice none 0 0] 69) = w1 at *
  have HB1 := Lib.hid hb1
  have hz1 := hb1.size
  have HOW1 := Lib.hid hown1
  clear hb1 hown1
  go_wp2
  go_loopw [3, 4] (fun s i wr => ∃ j : Nat, j ≤ l.length ∧ i = .int .i64 j ∧ OwS wr w.heap.size 69 1 s (List.replicate (cutsTo l j + 1) nilRow) ∧ Below w.heap.size w wr) (fun _ i _ => l.length - (intOf i).toNat)
  case atStart => exact ⟨0, by omega, rfl, HOW1.out, HB1.out⟩
  case round =>
    obtain ⟨j, hj, rfl, hown, hb⟩ := hrel
    have hz := hb.size
    by_cases hlt : j < l.length
    · have hjl : (j : Int) < (l.length : Int) := by omega
      obtain ⟨bb, off, e, rfl, -, he, e0, -⟩ := EvS.at_ (HE.out.below' hb hB) hlt
      have HCS := Lib.hid (cutsTo_succ he)
      have hcl : cutsTo l j ≤ 100000 := Nat.le_trans List.countP_le_length (by rw [List.length_take]; omega)
      obtain ⟨ek, eo, ew, er, ev, eb⟩ := e
      simp only at e0 HCS
      by_cases hk : ek = 3
      · subst hk
        go_wp2_with (at_builtin; refine wpList_ap1 rfl (.tmp 21) (.tmp 22) _ rfl elemEraR rfl hown nilRow _ (by rfl) wr.heap.size (by rfl) (by rfl) (by simp [nilRow, Value.oneCell']) (by simp [maxLen]; omega) (by simp; omega) hz ?_)
        intro v2 w2 hown2 hg2 _
        have hb2 : Below w.heap.size w w2 := (hb.alloc hz _).grown hg2 (by simp; omega) (fun g hg => (hown.lt hg).1)
        have hown2 : OwS w2 w.heap.size 69 1 v2 (List.replicate (cutsTo l (j + 1) + 1) nilRow) := by rw [HCS.out]; simp only [if_true]; rw [List.replicate_succ']; exact hown2
        clear hg2 hown
        go_wp2
        go_roundw
        case rel => exact ⟨j + 1, by omega, by go_num, hown2, hb2⟩
        case measure => simp [intOf]; omega
      · have hk' : (ek == 3) = false := by simpa using hk
        have HC2 : Hid (cutsTo l (j + 1) = cutsTo l j) := by unfold Hid; rw [HCS.out, if_neg hk]; rfl
        clear hk
        go_wp2
        go_roundw
        case rel => exact ⟨j + 1, by omega, by go_num, by rw [HC2.out]; exact hown, hb⟩
        case measure => simp [intOf]; omega
    · obtain rfl : j = l.length := by omega
      rw [cutsTo_all] at hown
      obtain ⟨g, cap, rfl, hgb, hgs⟩ := hown.pos (by simp)
      rw [List.length_replicate] at hown ⊢
      have HM := Lib.hid (fun Bi => ErV.empty Bi hown)
      have HB := Lib.hid hb
      clear hown hb
      go_wp2_with fail
      refine (HO.out _ HB.out).mono ?_
      rintro r w2 ⟨v2, rfl, hown2, hb2⟩
      have hb2w := HB.out.trans (hb2.mono hz)
      obtain ⟨A2, c2, rfl, -, -⟩ := hown2.form
      rw [List.length_map] at hown2 ⊢
      have HOS := Lib.hid hown2
      have HM2 := Lib.hid ((HM.out w2.heap.size).below hb2)
      have hgw2 : g < w2.heap.size := Nat.lt_of_lt_of_le hgs hb2.size
      have HB2 := Lib.hid hb2w
      have hz2 := hb2w.size
      clear hown2 hb2 hb2w
      obtain ⟨os, hos⟩ : ∃ os, rawOps l = os := ⟨_, rfl⟩
      have HOE := Lib.hid hos
      rw [hos] at HO HBD hol HOS
      simp only [hos]
      clear hos
      generalize wr = wo at *
      have HOB := Lib.hid (fun W (hW : BelR w2.heap.size g w2 W) => (HOS.out.kept (w' := W) (row := some g) ⟨hW.os, hW.tape, hW.output, hW.size, fun k hk hne => hW.block k hk (by simpa using hne)⟩ (by
        rcases HOS.out.ne (show OwS w2 w.heap.size 69 1 (.slice (some ⟨g, 0, none⟩) (cutsL l + 1) cap) _ from HM2.out.choose_spec.1) (by decide) with h | h
        · exact .inl h
        · exact .inr h) : OwS W wo.heap.size 72 8 (.slice A2 os.length c2) (os.map Opr.cells)))
      have HBW : Hid (∀ W, BelR w2.heap.size g w2 W → Below w.heap.size w W) := fun W hW => HB2.out.trans ⟨hW.os, hW.tape, hW.output, hW.size, fun k hk => hW.block k (by omega) (by omega)⟩
      clear HE HO HOW1 HM HB1
      go_wp2
      go_loopw [7] (fun i wx => ∃ k : Nat, k ≤ os.length ∧ i = .int .i64 k ∧ ErV wx w.heap.size w2.heap.size g cap (cutsL l + 1) (roR os k) ∧ BelR w2.heap.size g w2 wx) (fun i _ => os.length - (intOf i).toNat)
      case atStart => exact ⟨0, by omega, rfl, HM2.out, BelR.refl _ _ _⟩
      case round =>
        obtain ⟨k, hk, rfl, hm, hbr⟩ := hrel
        have hzx := hbr.size
        by_cases hlt : k < os.length
        · have hko : (k : Int) < (os.length : Int) := by omega
          obtain ⟨o, ho⟩ : ∃ o, os[k]? = some o := ⟨os[k], List.getElem?_eq_getElem hlt⟩
          obtain ⟨k0, hke, hkc⟩ := HBD.out o (List.mem_of_getElem? ho)
          have HRS := Lib.hid (roR_succ ho hke)
          have oe := HOB.out _ hbr
          obtain ⟨go, c', hvv, -, hgo⟩ := oe.pos (by rw [List.length_map]; omega)
          injection hvv with hv1 hv2 hv3
          subst hv1
          clear hv2 hv3
          have hrow : (os.map Opr.cells)[k]? = some o.cells := by rw [List.getElem?_map, ho]; rfl
          have hgo2 : go < w2.heap.size := (HOS.out.lt rfl).2
          obtain ⟨o0, o1, o2, o3, o4, o5, o6, o7⟩ := o
          simp only at hke
          subst hke
          have d0 := oe.cell hrow (j := 0) rfl
          have d1 := oe.cell hrow (j := 1) rfl
          have d2 := oe.cell hrow (j := 2) rfl
          have d3 := oe.cell hrow (j := 3) rfl
          have d4 := oe.cell hrow (j := 4) rfl
          have d5 := oe.cell hrow (j := 5) rfl
          have d6 := oe.cell hrow (j := 6) rfl
          have d7 := oe.cell hrow (j := 7) rfl
          rw [Nat.add_zero] at d0
          have HO5 := Lib.hid d5
          obtain ⟨ov, hcv, hov, hK⟩ := hm.opn (k0 := k0) (by omega)
          obtain ⟨Ao, no, co, rfl⟩ := hov.isSlice
          have HOV := Lib.hid hov
          have HK := Lib.hid hK
          have HBR := Lib.hid hbr
          have hrl := roR_len os k k0
          have HRL := Lib.hid hrl
          have hkc' : (k0 : Int) < (cutsL l : Int) + 1 := by omega
          have hgx : g < wr.heap.size := hm.lt.2
          have hne : ¬ go = g := by
            intro e
            subst e
            have := oe.ne (show OwS wr w.heap.size 69 1 (.slice (some ⟨go, 0, none⟩) (cutsL l + 1) cap) _ from hm.choose_spec.1) (by decide)
            rcases this with h | h
            · cases h
            · exact h rfl
          clear hov hK hbr hm oe ho hrow hrl
          go_upto_region 11 with (fail)
          have hi1 : (k0 : Int) < ((cutsL l + 1 : Nat) : Int) := by omega
          go_region_law (refine step_ap1 (by rfl) (.tmp 48) (.tmp 53) _ (by rfl) elemROp (by rfl) (HOV.out.drewN 1) (Opr.cells ⟨o0, o1, o2, o3, o4, k0, o6, o7⟩) _ (by rfl) wr.heap.size (by rfl) (by simp) (by intro u hu; simp [Opr.cells] at hu; rcases hu with rfl | rfl | rfl | rfl | rfl | rfl | rfl | rfl <;> rfl) (by have := HRL.out; simp [maxLen]; omega) (by have := HRL.out; simp; omega) (by simpa using hzx) ?_; intro v6 w6 hown6 hg6 hv6; obtain ⟨A6, n6, c6, rfl⟩ := hown6.isSlice; have hg6' := grow_drewN (grow_alloc hg6); have hK6 := Lib.hid (HK.out _ _ (roR os k k0 ++ [⟨o0, o1, o2, o3, o4, k0, o6, o7⟩]) hg6' (by simpa using hown6) (hv6.imp id fun h => ⟨_, h, by simp⟩)); have z0 := hK6.out.2.1; have y0 := hK6.out.2.2; have x5 : w6.cell? ⟨go, k * 8 + 5, none⟩ = some (.int .i64 k0) := (World.cell?_of_block (hg6'.block go (by omega) (fun he => by have := (HOV.out.lt he.symm).1; omega))).trans HO5.out)
          all_goals
            have HD3 := Lib.hid hK6.out.1
            have HB3 := Lib.hid ((HBR.out.grown hg6' hzx (fun q hq => (HOV.out.lt hq).1)).setCell (p := ⟨g, k0, none⟩) (.inr rfl) (.slice A6 n6 c6))
            clear hK6 hg6' z0 y0 x5 hown6 hv6 hg6 d0 d1 d2 d3 d4 d5 d6 d7 hcv hgx hne hi1
            go_wp2
            go_roundw
            case rel => exact ⟨k + 1, by omega, by go_num, by rw [HRS.out]; exact HD3.out, HB3.out⟩
            case measure => simp [intOf]; omega
        · obtain rfl : k = os.length := by omega
          go_wp2
          go_ret
          refine ⟨⟨g, cap, rfl, ?_⟩, HBW.out _ hbr⟩
          have := hm.mono (Nat.le_refl w.heap.size) hz2
          unfold roR at this
          rw [HOE.out]
          rwa [List.take_length] at this
end Go.Proofs.Ytcgbnlhloopnfaa
