/- Walk of linear.Accepts. -/
import Derived.Test.YtcgbnlhloopnfaaDoorLinF
import Derived.Test.YtcgbnlhloopnfaaDoorDivB
namespace Go.Proofs.YtcgbnlhloopnfaaDoor
open Go.RowKit

/-- explained eras that came in, or that the law has laid -/
def WinS (w : World) (B : Nat) (A : Option Addr) (xs : List (List Int × Int)) : Prop := ∃ vs : List (Option Addr × Nat), vs.length = xs.length ∧
  RdS w B 2 A ((vs.zip xs).map fun p => [.slice p.1.1 p.2.1.length p.1.2, .int .i64 p.2.2]) ∧ ∀ (i : Nat) (p : Option Addr × Nat) (x : List Int × Int), vs[i]? = some p → xs[i]? = some x → IntS w B p.1 x.1
theorem WinS.below {w w' : World} {B C : Nat} {A : Option Addr} {xs : List (List Int × Int)} (h : WinS w B A xs) (hb : Below C w w') (hC : B ≤ C) : WinS w' B A xs := by
  obtain ⟨vs, h1, h2, h3⟩ := h
  exact ⟨vs, h1, h2.below' hb hC, fun i p x hp hx => (h3 i p x hp hx).below' hb hC⟩
theorem WinS.at_ {w : World} {B : Nat} {A : Option Addr} {xs : List (List Int × Int)} (h : WinS w B A xs) {k : Nat} {x : List Int × Int} (hx : xs[k]? = some x) : ∃ b off Ai ci, A = some ⟨b, off, none⟩ ∧ b < B ∧ ∀ W C, Below C w W → B ≤ C → W.cell? ⟨b, off + k * 2, none⟩ = some (.slice Ai x.1.length ci) ∧
    W.cell? ⟨b, off + k * 2 + 1, none⟩ = some (.int .i64 x.2) ∧ IntS W B Ai x.1 := by
  obtain ⟨vs, h1, h2, h3⟩ := h
  have hk : k < xs.length := (List.getElem?_eq_some_iff.1 hx).1
  have hp : vs[k]? = some vs[k] := List.getElem?_eq_getElem (by omega)
  obtain ⟨b, off, rfl, hb, hc⟩ := h2.2 (by simp; omega)
  have hz : (vs.zip xs)[k]? = some (vs[k], x) := by rw [List.getElem?_zip_eq_some]; exact ⟨hp, hx⟩
  have hr : ((vs.zip xs).map fun p => [Value.slice p.1.1 p.2.1.length p.1.2, .int .i64 p.2.2])[k]? = some [.slice vs[k].1 x.1.length vs[k].2, .int .i64 x.2] := by rw [List.getElem?_map, hz]; rfl
  exact ⟨b, off, vs[k].1, vs[k].2, rfl, hb, fun W C hW hC => ⟨(hW.cell (p := ⟨b, off + k * 2, none⟩) (by show b < C; omega)).trans (hc k _ hr 0 _ rfl), (hW.cell (p := ⟨b, off + k * 2 + 1, none⟩) (by show b < C; omega)).trans (hc k _ hr 1 _ rfl), (h3 k _ _ hp hx).below' hW hC⟩⟩
/-- what Accepts leaves -/
def AccP (l : List Ev) (xs : List (List Int × Int)) (w : World) (r : Ending) (w' : World) : Prop := Below w.heap.size w w' ∧
  r = (if oneL l then .returned (.tuple #[.bool (decide (xs.length = cutsL l + 1) && accI (rawOps l) (cutsL l) 0 0 xs), .int .i64 0]) else .returned (.tuple #[.bool false, .int .i64 1]))
/-- one era of Accepts -/
def accN (os : List Opr) (cuts i : Nat) (r : List (List Int × Int)) : Option Int → Bool
  | none => false
  | some v => accI os cuts (i + 1) v r
theorem acc_step {os : List Opr} {cuts i : Nat} {v : Int} {x : List Int × Int} {r : List (List Int × Int)} : accI os cuts i v (x :: r) = accN os cuts i r (folR (eraX os i) (durI os) (i == cuts) x.1 x.2 v) := by
  unfold folR eraX
  rw [accI]
  by_cases h : keptOk (i == cuts) (x.1, x.2) = true
  · rw [if_pos h, if_pos h]
    cases followI _ _ _ _ _ <;> rfl
  · rw [if_neg h, if_neg h]
    rfl
theorem acc_kept {os : List Opr} {cuts i : Nat} {v : Int} {x : List Int × Int} {r : List (List Int × Int)} (h : keptOk (i == cuts) x = false) : accI os cuts i v (x :: r) = false := by
  rw [accI, h]
  rfl

set_option maxHeartbeats 8000000 in
set_option maxRecDepth 100000 in
theorem accepts_any (l : List Ev) (xs : List (List Int × Int)) (A Aw : Option Addr) (c cw B : Nat) (w : World) (h : EvS w B A l) (hW : WinS w B Aw xs) (hB : B ≤ w.heap.size) (hlen : l.length ≤ 100000) (hlx : ∀ x ∈ xs, x.1.length ≤ 100000) (hxl : xs.length ≤ 100000) (hwf : WfOp l) (hwr : WfReg l) :
    Calls Tryd.prog 19 #[.slice A l.length c, .slice Aw xs.length cw] w (AccP l xs w) := by
  have HD := Lib.hid (divide_any l A c B w h hB hlen hwf hwr)
  unfold DivP at HD
  unfold AccP
  have hcb : cutsL l ≤ 100000 := Nat.le_trans List.countP_le_length hlen
  cases hone : oneL l
  case false =>
    rw [hone] at HD
    simp only [Bool.false_eq_true, if_false] at HD ⊢
    clear h hwf hwr hcb hone hW hlx hxl
    go_enter Tryd.func19, Tryd.ntmps19
    go_wp2_with fail
    refine HD.out.mono ?_
    rintro r w1 ⟨rfl, hb1⟩
    go_wp2
    go_ret2
    exact ⟨hb1, rfl⟩
  case true =>
    have hv : validL l = true := by
      unfold oneL at hone
      rcases hv : validL l with _ | _
      · rw [hv] at hone; cases hone
      · rfl
    rw [hone] at HD
    simp only [if_true] at HD ⊢
    have hol : (rawOps l).length ≤ 100000 := Nat.le_trans (rawTo_bd l l.length).1 hlen
    have HND := Lib.hid (nd_ids hv)
    have HOL := Lib.hid hol
    have HCB := Lib.hid hcb
    have HWI := Lib.hid hW
    have HLX := Lib.hid hlx
    clear h hwf hwr hone hv hol hcb hW hlx
    obtain ⟨os, hos⟩ : ∃ os, rawOps l = os := ⟨_, rfl⟩
    obtain ⟨cuts, hcuts⟩ : ∃ n, cutsL l = n := ⟨_, rfl⟩
    rw [hos] at HND HOL
    rw [hcuts] at HCB
    simp only [hos, hcuts] at HD ⊢
    clear hos hcuts
    have hcb := HCB.out
    obtain ⟨acc, hacc⟩ : ∃ acc, (decide (xs.length = cuts + 1) && accI os cuts 0 0 xs) = acc := ⟨_, rfl⟩
    have HAC := Lib.hid hacc
    simp only [hacc]
    clear hacc
    go_enter Tryd.func19, Tryd.ntmps19
    go_wp2_with fail
    refine HD.out.mono ?_
    rintro r w1 ⟨eb, ce, rfl, her, hb1⟩
    have HER := Lib.hid her
    have HB1 := Lib.hid hb1
    clear her hb1 HD
    by_cases hxc : xs.length = cuts + 1
    case neg =>
      have hne : ((xs.length : Int) != (cuts : Int) + 1) = true := by simp; omega
      have hne2 : ((xs.length : Int) != ((cuts + 1 : Nat) : Int)) = true := by simp; omega
      have HF : Hid (acc = false) := by unfold Hid; rw [← HAC.out, show decide (xs.length = cuts + 1) = false by simpa using hxc]; rfl
      go_wp2
      go_ret2
      exact ⟨HB1.out, by rw [HF.out]; rfl⟩
    case pos =>
      have hne : ((xs.length : Int) != (cuts : Int) + 1) = false := by simp; omega
      have hne2 : ((xs.length : Int) != ((cuts + 1 : Nat) : Int)) = false := by simp; omega
      have HAA : Hid (accI os cuts 0 0 xs = acc) := by unfold Hid; rw [← HAC.out, show decide (xs.length = cuts + 1) = true by simpa using hxc]; rfl
      have HXC := Lib.hid hxc
      clear HAC
      go_wp2_with fail
      clear hne hne2 hxc
      go_loopw [8, 25] (fun s8 s25 wr => ∃ (i : Nat) (v : Int), i ≤ cuts + 1 ∧ s25 = .int .i64 i ∧ s8 = .int .i64 v ∧ accI os cuts i v (xs.drop i) = acc ∧ Below w1.heap.size w1 wr) (fun _ s25 _ => cuts + 1 - (intOf s25).toNat)
      case atStart => exact ⟨0, 0, by omega, rfl, rfl, by simpa using HAA.out, Below.refl _ _⟩
      case round =>
        obtain ⟨i, v, hi, rfl, rfl, hac, hb⟩ := hrel
        have HA := Lib.hid hac
        have HB := Lib.hid hb
        have HBW := Lib.hid (HB1.out.trans (hb.mono HB1.out.size))
        have hzr := hb.size
        clear hac
        by_cases hlt : i < cuts + 1
        · have hix : i < xs.length := by rw [HXC.out]; exact hlt
          obtain ⟨x, hx⟩ : ∃ x, xs[i]? = some x := ⟨_, List.getElem?_eq_getElem hix⟩
          have HDR : Hid (xs.drop i = x :: xs.drop (i + 1)) := by unfold Hid; rw [List.drop_eq_getElem_cons hix]; congr 1; exact Option.some.inj ((List.getElem?_eq_getElem hix).symm.trans hx)
          obtain ⟨cur, hcur, hall⟩ := HER.out
          obtain ⟨Ao, co, As, cs, g1, g2, g3, g4, g5⟩ := hall i (by omega)
          have hcw := (hb.block eb (Array.getElem?_eq_some_iff.1 hcur).1).trans hcur
          have e0 : wr.cell? ⟨eb, i * 3, none⟩ = some (.slice Ao (eraX os i).length co) := by rw [Nat.mul_comm, cell_of_row _ _ _ _ _ _ hcw]; exact g1
          have e1 : wr.cell? ⟨eb, i * 3 + 1, none⟩ = some (.slice As (eraX os i).length cs) := by rw [Nat.mul_comm, cell_of_row _ _ _ _ _ _ hcw]; exact g2
          have e2 : wr.cell? ⟨eb, i * 3 + 2, none⟩ = some (.bool (i == cuts)) := by rw [Nat.mul_comm, cell_of_row _ _ _ _ _ _ hcw]; exact g3
          have HG4 := Lib.hid g4
          have HG5 := Lib.hid g5
          have hXl : (eraX os i).length ≤ 100000 := Nat.le_trans (List.length_filter_le _ _) (Nat.le_trans (List.length_filter_le _ _) HOL.out)
          obtain ⟨xo, xk⟩ := x
          have HXL := Lib.hid (HLX.out _ (List.mem_of_getElem? hx))
          obtain ⟨bw, ow, Ai, ci, rfl, hbw, hwx⟩ := HWI.out.at_ hx
          have HWX : Hid (∀ W, Below w.heap.size w W → W.cell? ⟨bw, ow + i * 2, none⟩ = some (.slice Ai xo.length ci) ∧ W.cell? ⟨bw, ow + i * 2 + 1, none⟩ = some (.int .i64 xk) ∧ IntS W B Ai xo) := fun W hW => hwx W _ hW hB
          obtain ⟨lb, hlb⟩ : ∃ lb, (i == cuts) = lb := ⟨_, rfl⟩
          rw [hlb] at e2
          have HLB := Lib.hid hlb
          obtain ⟨fr, hfr⟩ : ∃ fr, folR (eraX os i) (durI os) (i == cuts) xo xk v = fr := ⟨_, rfl⟩
          have HAF : Hid (acc = accN os cuts i (xs.drop (i + 1)) fr) := by unfold Hid; rw [← HA.out, HDR.out, acc_step, hfr]
          rw [hlb] at hfr
          have HFO : Hid (∀ W, Below w1.heap.size w1 W → Calls Tryd.prog 35 #[.agg #[.slice Ao (eraX os i).length co, .slice As (eraX os i).length cs, .bool lb], .agg #[.slice Ai xo.length ci, .int .i64 xk], .int .i64 v] W fun r w' => r = resF fr ∧ Below W.heap.size W w') := (fun W (hW : Below w1.heap.size w1 W) => hfr ▸ follow_any (eraX_ids HND.out i) (durI os) Ao As Ai co cs ci B lb xo xk v W (HG4.out.below hW) (HG5.out.below hW) (HWX.out W (HB1.out.trans (hW.mono HB1.out.size))).2.2 (Nat.le_trans hB (HB1.out.trans (hW.mono HB1.out.size)).size) hXl HXL.out)
          have HKF : Hid (keptOk lb (xo, xk) = false → acc = false) := fun hk => by rw [← HA.out, HDR.out]; exact acc_kept (by rw [hlb]; exact hk)
          clear hlb hfr hx hwx hall hcur hcw g1 g2 g3 g4 g5
          have hil : (i : Int) < (cuts : Int) + 1 := by omega
          have hixl : (i : Int) < (xs.length : Int) := by omega
          go_upto_region 10 with (fail)
          have hba := below_laid (w := wr) (o := .cells #[.slice Ao (eraX os i).length co, .slice As (eraX os i).length cs, .bool lb] 71)
          have hbx : (wr.alloc (.cells #[.slice Ao (eraX os i).length co, .slice As (eraX os i).length cs, .bool lb] 71)).heap[wr.heap.size]? = some (.cells #[.slice Ao (eraX os i).length co, .slice As (eraX os i).length cs, .bool lb] 71) := heap_new_at _ _ rfl
          clear e0 e1 e2
          generalize wr.alloc _ = w2 at *
          have HB2 := Lib.hid (HB.out.trans (hba.mono hzr))
          have HX2 := Lib.hid hbx
          have y2 : w2.cell? ⟨wr.heap.size, 2, none⟩ = some (.bool lb) := by rw [cell_of_row _ _ _ _ _ _ hbx]; rfl
          have hbw2 := HB2.out
          obtain ⟨u0, u1, -⟩ := HWX.out _ (HB1.out.trans (hbw2.mono HB1.out.size))
          clear hba hbx hbw2
          by_cases hbad : lb = true ∧ xk ≠ (xo.length : Int)
          · obtain ⟨rfl, hne⟩ := hbad
            have HF : Hid (acc = false) := HKF.out (by unfold keptOk; have : (xk == (xo.length : Int)) = false := by simpa using hne
                                                       simp only [this]; simp)
            have hneb : (xk != (xo.length : Int)) = true := by simpa using hne
            clear hne
            go_wp2_with fail
            go_quiet (fail)
            go_wp2
            go_ret2
            exact ⟨HB1.out.trans ((below_drewN HB2.out _).mono HB1.out.size), by rw [HF.out]; rfl⟩
          · have hgood : lb = false ∨ (lb = true ∧ xk = (xo.length : Int)) := by
              cases lb
              · exact .inl rfl
              · exact .inr ⟨rfl, by simpa using hbad⟩
            clear hbad
            rcases hgood with rfl | ⟨rfl, rfl⟩
            all_goals
              go_wp2_with fail
              go_quiet (fail)
              go_upto_region 12 with (fail)
              have hbq := below_drewN HB2.out nq
              have hxq := keptB HX2.out (below_drewN (Below.refl w2.heap.size w2) nq)
              clear y2 u0 u1
              generalize w2.drewN nq = wq at *
              have HBQ := Lib.hid hbq
              have hzq := hbq.size
              have X0 := fun d xs => keptB hxq (below_regrown wq d xs)
              have y0 := fun d xs => ((cell_of_row _ _ 0 _ _ _ (X0 d xs)).trans (by rfl) : (Sort.grow (redrawn wq d) xs).cell? ⟨wr.heap.size, 0, none⟩ = some (.slice Ao (eraX os i).length co))
              have y1 := fun d xs => ((cell_of_row _ _ 1 _ _ _ (X0 d xs)).trans (by rfl) : (Sort.grow (redrawn wq d) xs).cell? ⟨wr.heap.size, 1, none⟩ = some (.slice As (eraX os i).length cs))
              have y2 := fun d xs => ((cell_of_row _ _ 2 _ _ _ (X0 d xs)).trans (by rfl) : (Sort.grow (redrawn wq d) xs).cell? ⟨wr.heap.size, 2, none⟩ = some (.bool _))
              have hbg := fun d xs => HBQ.out.trans ((below_regrown wq d xs).mono hzq)
              have u0 := fun d xs => (HWX.out _ (HB1.out.trans ((hbg d xs).mono HB1.out.size))).1
              have u1 := fun d xs => (HWX.out _ (HB1.out.trans ((hbg d xs).mono HB1.out.size))).2.1
              have HFW := Lib.hid (fun d xs => HFO.out _ (hbg d xs))
              clear X0 hbq hxq hbg
              cases fr
              · refine quiet_below (by kernel_rfl) (by kernel_rfl) ?_
                repeat (go_big_quiet_step ((go_at_call 35; exact Calls.regrown_of (HFW.out _ _))))
                refine wpQuiet_nil ?_
                intro W3 hb3
                clear y0 y1 y2 u0 u1
                have HB3 := Lib.hid (HB1.out.trans ((HBQ.out.trans (hb3.mono hzq)).mono HB1.out.size))
                go_wp2
                go_ret2
                exact ⟨HB3.out, by rw [HAF.out]; rfl⟩
              · refine quiet_below (by kernel_rfl) (by kernel_rfl) ?_
                repeat (go_big_quiet_step ((go_at_call 35; exact Calls.regrown_of (HFW.out _ _))))
                refine wpQuiet_nil ?_
                intro W3 hb3
                clear y0 y1 y2 u0 u1
                have HB3 := Lib.hid (HBQ.out.trans (hb3.mono hzq))
                go_wp2
                go_roundw
                case rel => exact ⟨i + 1, _, by omega, by go_num, rfl, HAF.out.symm, HB3.out⟩
                case measure => simp [intOf]; omega
        · obtain rfl : i = cuts + 1 := by omega
          have HF : Hid (acc = true) := by unfold Hid; rw [← HA.out, List.drop_eq_nil_of_le (by rw [HXC.out]; exact Nat.le_refl _)]; rfl
          clear hb
          go_wp2
          go_ret2
          exact ⟨HBW.out, by rw [HF.out]; rfl⟩
end Go.Proofs.YtcgbnlhloopnfaaDoor
