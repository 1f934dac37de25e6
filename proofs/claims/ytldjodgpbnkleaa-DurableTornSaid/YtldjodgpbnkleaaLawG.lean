/- Walk of tegulalaw47's torn and DurableTorn: they answer true, whatever the numbers. -/
import Derived.Test.YtldjodgpbnkleaaLawB
import Derived.Test.YtldjodgpbnkleaaTornLaw
import Derived.Test.YtldjodgpbnkleaaByte
import Derived.IntWalk
import Derived.Deep.DeepCutAuto
import Derived.Deep.RegionHeld3
import Derived.Test.YtldjodgpbnkleaaStepAp
import Derived.StillTailTactics
namespace Go.Proofs.Ytldjodgpbnkleaa
open Go.RowKit

def bcellN (x : Nat) : List Value := [.int .u8 x]
abbrev ByS (w : World) (B : Nat) (A : Option Addr) (l : List Nat) : Prop := RdS w B 1 A (l.map bcellN)
theorem ByS.at_ {w : World} {B : Nat} {A : Option Addr} {l : List Nat} (h : ByS w B A l) {k : Nat} (hk : k < l.length) : ∃ b off, A = some ⟨b, off, none⟩ ∧ b < B ∧ w.cell? ⟨b, off + k, none⟩ = some (.int .u8 ((l[k]?.getD 0 : Nat) : Int)) := by
  obtain ⟨b, off, rfl, hb, hc⟩ := h.2 (by simp; omega)
  have he : l[k]? = some l[k] := List.getElem?_eq_getElem hk
  have hr : (l.map bcellN)[k]? = some (bcellN l[k]) := by simp [he]
  exact ⟨b, off, rfl, hb, by rw [he]; simpa using hc k _ hr 0 _ rfl⟩
/-- a register of the list -/
def regI (rs : List Nat) (i : Nat) : Int := ((rs[i]?.getD 0 % 4 : Nat) : Int)
theorem regI_bd (rs : List Nat) (i : Nat) : 0 ≤ regI rs i ∧ regI rs i < 4 := by unfold regI; omega
theorem conv_reg (rs : List Nat) (i : Nat) (W : World) : (convert 5 3 (.int .u8 (((rs[i]?.getD 0 : Nat) : Int) % 4))).run Try.prog W = .ok (.int .i64 (regI rs i)) W := by
  rw [conv_u8 _ (by omega) (by omega) W]
  unfold regI
  simp
def anyB (rs : List Nat) (k i : Nat) : Bool := (List.range i).any fun q => decide (k < q ∧ regI rs q = regI rs k)
theorem anyB_succ (rs : List Nat) (k i : Nat) : anyB rs k (i + 1) = (anyB rs k i || decide (k < i ∧ regI rs i = regI rs k)) := by
  unfold anyB
  rw [List.range_succ, List.any_append]
  simp
theorem anyB_low (rs : List Nat) {k i : Nat} (h : i ≤ k + 1) : anyB rs k i = false := by
  unfold anyB
  rw [List.any_eq_false]
  intro q hq
  have := List.mem_range.1 hq
  simp
  omega
theorem anyB_true {rs : List Nat} {k i : Nat} (h : anyB rs k i = true) : ∃ q, k < q ∧ q < i ∧ regI rs q = regI rs k := by
  unfold anyB at h
  obtain ⟨q, hq, h⟩ := List.any_eq_true.1 h
  have := List.mem_range.1 hq
  simp only [decide_eq_true_eq] at h
  exact ⟨q, h.1, this, h.2⟩
theorem anyB_false {rs : List Nat} {k i : Nat} (h : anyB rs k i = false) : ∀ q, k < q → q < i → regI rs q ≠ regI rs k := by
  intro q h1 h2 h3
  unfold anyB at h
  have := List.any_eq_false.1 h q (List.mem_range.2 h2)
  simp [h1, h3] at this
theorem regI_eq (rs : List Nat) (i k : Nat) : ((((rs[i]?.getD 0 : Nat) : Int) % 4) == (((rs[k]?.getD 0 : Nat) : Int) % 4)) = decide (regI rs i = regI rs k) := by
  unfold regI
  rw [Bool.eq_iff_iff]
  simp
theorem tornL_wf {reg : Nat → Int} {n k got : Nat} {other : Int} (hreg : ∀ i, 0 ≤ reg i ∧ reg i < 4) (hn : n < 1000) (hk : k < 1000) (hg : got < 1000) (h0 : 0 ≤ other) (h4 : other < 4) : WfE (tornL reg n k got other) := by
  have sm : ∀ x : Int, 0 ≤ x → x < 100000 → (Lit.int .i64 x).wf = true := by
    intro x h0 h1
    rw [Lit.wf_int_iff, IntKind.min_i64, IntKind.max_i64]
    omega
  have h3 := hreg k
  intro e he
  unfold tornL wrsG at he
  simp only [List.mem_append, List.mem_flatMap, List.mem_singleton, rdE, wrE, List.mem_cons, List.not_mem_nil, or_false, List.mem_range] at he
  rcases he with ((⟨i, hi, rfl | rfl⟩ | rfl) | rfl | rfl) | rfl | rfl
  · have := hreg i
    exact ⟨sm _ (by simp) (by simp; omega), sm _ (by simp; omega) (by simp; omega), sm _ (by simp; omega) (by simp; omega)⟩
  · have := hreg i
    exact ⟨sm _ (by simp) (by simp; omega), sm _ (by simp; omega) (by simp; omega), sm _ (by simp; omega) (by simp; omega)⟩
  · exact ⟨sm _ (by simp [Ev.cut]) (by simp [Ev.cut]), sm _ (by simp [Ev.cut]) (by simp [Ev.cut]), sm _ (by simp [Ev.cut]) (by simp [Ev.cut])⟩
  all_goals exact ⟨sm _ (by simp; try omega) (by simp; try omega), sm _ (by simp; try omega) (by simp; try omega), sm _ (by simp; try omega) (by simp; try omega)⟩

set_option maxHeartbeats 4000000 in
set_option maxRecDepth 100000 in
theorem torn_walk (rs : List Nat) (A : Option Addr) (c k got other B : Nat) (w : World) (h : ByS w B A rs) (hB : B ≤ w.heap.size) (hn : rs.length ≤ 12) (hk : k < rs.length) (hg : got ≤ rs.length) (ho : other < 4) :
    Calls Try.prog 22 #[.slice A rs.length c, .int .i64 k, .int .i64 other, .int .i64 got] w fun e w' => e = .returned (.bool true) ∧ Below w.heap.size w w' := by
  obtain ⟨n, hnn⟩ : ∃ n, n = rs.length := ⟨_, rfl⟩
  rw [← hnn] at hn hk hg ⊢
  obtain ⟨bk, offk, rfl, hbk, ck⟩ := h.at_ (k := k) (by omega)
  have kk := conv_reg rs k
  have hlk : (k : Int) < (n : Int) := by omega
  by_cases e1 : (other : Int) = regI rs k
  · have e1' : ((other : Int) == regI rs k) = true := by simpa using e1
    clear e1
    go_enter Try.func22, Try.ntmps22
    go_wp2
    go_ret
    exact ⟨rfl, Below.refl _ _⟩
  have e1' : ((other : Int) == regI rs k) = false := by simpa using e1
  have kgot : 0 < got → ByS w B (some ⟨bk, offk, none⟩) rs → w.cell? ⟨bk, offk + (got - 1), none⟩ = some (.int .u8 ((rs[got - 1]?.getD 0 : Nat) : Int)) := by
    intro h0 h
    obtain ⟨b, o, hA, _, hc⟩ := h.at_ (k := got - 1) (by omega)
    cases hA
    exact hc
  by_cases hA : 0 < got ∧ regI rs (got - 1) ≠ (other : Int)
  · obtain ⟨h0, hne⟩ := hA
    have h0' : (0 : Int) < (got : Int) := by omega
    have cg := kgot h0 h
    have kg := conv_reg rs (got - 1)
    have e2 : (regI rs (got - 1) != (other : Int)) = true := by simpa using hne
    have ht : ((got : Int) - 1).toNat = got - 1 := by omega
    have hi0 : (0 : Int) ≤ (got : Int) - 1 := by omega
    have hi1 : (got : Int) - 1 < (n : Int) := by omega
    clear hne e1
    go_enter Try.func22, Try.ntmps22
    go_wp2
    go_ret
    exact ⟨rfl, Below.refl _ _⟩
  have hgr : 0 < got → regI rs (got - 1) = (other : Int) := fun h0 => Classical.byContradiction fun hne => hA ⟨h0, hne⟩
  have HGR := Lib.hid hgr
  have HH := Lib.hid h
  have HN := Lib.hid hnn
  clear h hA hnn
  have HW := Lib.hid (fun (i : Nat) W => lawwrite_any (i : Int) (regI rs i) ((i : Int) + 1) W)
  have HR1 := Lib.hid (fun W => lawread_any (n : Int) (regI rs k) ((k : Int) + 1) W)
  have HR2 := Lib.hid (fun W => lawread_any ((n : Int) + 1) (other : Int) (got : Int) W)
  by_cases h0 : got = 0
  all_goals
    first
    | (have h0' : ¬ (0 : Int) < (got : Int) := by omega
       clear h0 kgot hgr)
    | (have h0' : (0 : Int) < (got : Int) := by omega
       have cg := kgot (by omega) HH.out
       have kg := conv_reg rs (got - 1)
       rw [hgr (by omega)] at kg
       have ht : ((got : Int) - 1).toNat = got - 1 := by omega
       have hi0 : (0 : Int) ≤ (got : Int) - 1 := by omega
       have hi1 : (got : Int) - 1 < (n : Int) := by omega
       clear h0 kgot hgr)
    go_enter Try.func22, Try.ntmps22
    go_wp2
    go_loopw [10, 11] (fun s i wr => ∃ j : Nat, j ≤ n ∧ i = .int .i64 j ∧ OwS wr w.heap.size 39 6 s ((wrsG (regI rs) j).map Ev.cells) ∧ Below w.heap.size w wr) (fun _ i _ => n - (intOf i).toNat)
    case atStart => exact ⟨0, by omega, rfl, OwS.nil _ _ _ _, Below.refl _ _⟩
    case round =>
      obtain ⟨j, hj, rfl, hown, hb⟩ := hrel
      have hz := hb.size
      have hll := wrsG_len (regI rs) j
      by_cases hlt : j < n
      · have hjk : (j : Int) < (n : Int) := by omega
        have kj := conv_reg rs j
        have cj : wr.cell? ⟨bk, offk + j, none⟩ = some (.int .u8 ((rs[j]?.getD 0 : Nat) : Int)) := by
          obtain ⟨b, o, hA, hbl, hc⟩ := HH.out.at_ (k := j) (by have := HN.out; omega)
          cases hA
          exact (hb.cell (p := ⟨bk, offk + j, none⟩) (by show bk < _; omega)).trans hc
        have HLL := Lib.hid hll
        clear hll
        go_wp2_with fail
        refine (HW.out j _).mono ?_
        rintro r w2 ⟨v2, rfl, hown2, hb2⟩
        have hown := hown.below hb2
        have hb12 := hb.trans (hb2.mono hz)
        have hz2 := hb12.size
        obtain ⟨A2, c2, rfl, -, -⟩ := hown2.form
        have hr2 := hown2.reads
        clear hown2 hb2 cj
        go_wp2_with (at_builtin; refine wpList_apS rfl (.tmp 47) (.tmp 57) _ rfl elemEv rfl hown w2.heap.size A2 _ c2 ((wrE (j : Int) (regI rs j) ((j : Int) + 1)).map Ev.cells) rfl hr2 rfl OwS.oneEv (by have := HLL.out; simp [wrE, maxLen]; omega) (by have := HLL.out; simp [wrE]; omega) hz2 ?_)
        intro v3 w3 hown3 hg3 _
        have hb3 : Below w.heap.size w w3 := hb12.grown hg3 hz2 (fun g hg => (hown.lt hg).1)
        clear hg3
        go_wp2
        go_roundw
        case rel => exact ⟨j + 1, by omega, by go_num, by rw [wrsG_succ]; simpa using hown3, hb3⟩
        case measure => simp [intOf]; omega
      · obtain rfl : j = n := by omega
        clear hlt hj
        have ck' : wr.cell? ⟨bk, offk + k, none⟩ = some (.int .u8 ((rs[k]?.getD 0 : Nat) : Int)) := (hb.cell (p := ⟨bk, offk + k, none⟩) (by show bk < _; omega)).trans ck
        have HLL := Lib.hid hll
        clear hll
        have ck0 := ck
        clear ck
        have HCK0 := Lib.hid ck0
        clear ck0
        go_wp2
        go_cut [10] (fun s10 wx => OwS wx w.heap.size 39 6 s10 ((wrsG (regI rs) j ++ [Ev.cut] ++ rdE (j : Int) (regI rs k) ((k : Int) + 1)).map Ev.cells) ∧ Below w.heap.size w wx)
        case first =>
          have hB0 : w.heap.size ≤ wr.heap.size := hz
          have hs1 : IntKind.i64.wrap ((k : Int) + 1) = (k : Int) + 1 := IntWalk.i64_in _ (by omega)
          have ht1 : Int.tmod ((rs[k]?.getD 0 : Nat) : Int) 4 = ((rs[k]?.getD 0 : Nat) : Int) % 4 := Int.tmod_eq_emod_of_nonneg (by omega)
          go_region_held3 (fun w' => w'.cell? ⟨bk, offk + k, none⟩ = some (.int .u8 ((rs[k]?.getD 0 : Nat) : Int))) (first | go_keep | exact hck3.out | exact hck4.out | exact hck5.out)
            (first
              | (go_at_call 19; ((with_reducible refine (HR1.out _).mono ?_); rintro r w4 ⟨v4, rfl, hown4, hb4'⟩); have hown3 := hown3.below hb4'; have hb4 := hb3.trans (hb4'.mono hb3.size); have hck4 := Lib.hid ((hb4.cell (p := ⟨bk, offk + k, none⟩) (by show bk < _; omega)).trans HCK0.out); obtain ⟨A4, c4, rfl, -, -⟩ := hown4.form; have hr4 := hown4.reads; clear hown4 hb3 hb4')
              | ((refine step_ap1 (by rfl) (.tmp 59) (.tmp 61) _ (by rfl) elemEv (by rfl) (hown.drewN 1) Ev.cut.cells _ (by rfl) wr.heap.size (by rfl) (by rfl) (Ev.one _) (by simp [maxLen, HLL.out]; omega) (by simp [HLL.out]; omega) hB0 ?_; intro v3 w3 hown3 hg3 _; have hb3 : Below w.heap.size w w3 := ((below_drewN hb 1).alloc hB0 _).grown hg3 (by simp; omega) (fun g hg => (hown.lt hg).1); have hck3 := Lib.hid ((hb3.cell (p := ⟨bk, offk + k, none⟩) (by show bk < _; omega)).trans HCK0.out); clear hg3))
              | ((refine step_apS (by rfl) (.tmp 62) (.tmp 72) _ (by rfl) elemEv (by rfl) hown3 w4.heap.size A4 _ c4 ((rdE (j : Int) (regI rs k) ((k : Int) + 1)).map Ev.cells) (by rfl) hr4 (by rfl) OwS.oneEv (by simp [rdE, maxLen, HLL.out]; omega) (by simp [rdE, HLL.out]; omega) hb4.size ?_; intro v5 w5 hown5 hg5 _; have hb5 : Below w.heap.size w w5 := hb4.grown hg5 hb4.size (fun g hg => (hown3.lt hg).1); have hck5 := Lib.hid ((hb5.cell (p := ⟨bk, offk + k, none⟩) (by show bk < _; omega)).trans HCK0.out); clear hg5))
              | fail)
          clear hs1 ht1
          go_wp2_with fail
          go_meet
          exact ⟨by simpa using hown5, hb5⟩
        case rest =>
          obtain ⟨hown, hbx⟩ := hcut
          have hzx := hbx.size
          have HLL2 : Hid ((wrsG (regI rs) j ++ [Ev.cut] ++ rdE (j : Int) (regI rs k) ((k : Int) + 1)).length = 2 * j + 3) := by unfold Hid; simp [HLL.out, rdE]
          clear hb hz ck'
          go_wp2_with fail
          refine (HR2.out _).mono ?_
          rintro r w4 ⟨v4, rfl, hown4, hb4⟩
          have hown := hown.below hb4
          have hb34 := hbx.trans (hb4.mono hzx)
          have hz4 := hb34.size
          obtain ⟨A4, c4, rfl, -, -⟩ := hown4.form
          have hr4 := hown4.reads
          clear hown4 hb4 hbx
          go_wp2_with (at_builtin; refine wpList_apS rfl (.tmp 74) (.tmp 79) _ rfl elemEv rfl hown w4.heap.size A4 _ c4 ((rdE ((j : Int) + 1) (other : Int) (got : Int)).map Ev.cells) rfl hr4 rfl OwS.oneEv (by rw [List.length_map, HLL2.out]; simp [rdE, maxLen]; omega) (by rw [List.length_map, HLL2.out]; simp [rdE]; omega) hz4 ?_)
          intro v5 w5 hown5 hg5 _
          have hb5 : Below w.heap.size w w5 := hb34.grown hg5 hz4 (fun g hg => (hown.lt hg).1)
          have hown5 : OwS w5 w.heap.size 39 6 v5 ((tornL (regI rs) j k got (other : Int)).map Ev.cells) := by simpa [tornL] using hown5
          have hz5 := hb5.size
          clear hown hg5 hr4 hb34
          obtain ⟨A5, c5, rfl, -, -⟩ := hown5.form
          have hr5 : EvS w5 w5.heap.size A5 (tornL (regI rs) j k got (other : Int)) := hown5.reads
          have hreg := fun i => (regI_bd rs i).1
          have hne : (other : Int) ≠ regI rs k := fun e => by simp [e] at e1'
          obtain ⟨fs, hfs⟩ : ∃ fs, checkD (tornL (regI rs) j k got (other : Int)) = some fs := ⟨_, torn_check hreg (by omega)⟩
          have HLAW := Lib.hid (fun (b : Nat) (hgb : got ≤ b) (hbn : b ≤ j) (hno : ∀ q, got ≤ q → q < b → regI rs q ≠ (other : Int)) (hat : b < j → regI rs b = (other : Int)) => torn_law hreg (by omega : (0 : Int) ≤ (other : Int)) hk hg HGR.out hne hgb hbn hno hat)
          rw [hfs] at HLAW
          have HCK := check_any (tornL (regI rs) j k got (other : Int)) A5 c5 w5.heap.size w5 hr5 (Nat.le_refl _) (by rw [tornL_len]; omega) (tornL_wf (regI_bd rs) (by omega) (by omega) (by omega) (by omega) (by omega))
          unfold ChkPost at HCK
          rw [hfs] at HCK
          simp only at HCK
          have HCH := Lib.hid HCK
          rw [List.length_map]
          generalize (tornL (regI rs) j k got (other : Int)).length = ln at *
          clear HCK hown5 hr5 hreg hne hfs HR1 HR2 HW e1'
          go_wp2_with fail
          refine HCH.out.mono ?_
          rintro r w6 ⟨va, rfl, howna, hb6⟩
          have hb16 := hb5.trans (hb6.mono hz5)
          have hz6 := hb16.size
          clear HCH hb5 hb6
          go_wp2
          go_loop [14] (fun u => ∃ b : Nat, got ≤ b ∧ b ≤ j ∧ u = .int .i64 b ∧ Hid (∀ q, got ≤ q → q < b → regI rs q ≠ (other : Int))) (fun u => j - (intOf u).toNat)
          case atStart => exact ⟨got, Nat.le_refl _, hg, rfl, fun q h1 h2 => by omega⟩
          case round =>
            obtain ⟨b, hgb, hbj, rfl, HNO⟩ := hrel
            have hbrd : b < j → w6.cell? ⟨bk, offk + b, none⟩ = some (.int .u8 ((rs[b]?.getD 0 : Nat) : Int)) := by
              intro hlt
              obtain ⟨b', o, hA, hbl, hc⟩ := HH.out.at_ (k := b) (by have := HN.out; omega)
              cases hA
              exact (hb16.cell (p := ⟨bk, offk + b, none⟩) (by show bk < _; omega)).trans hc
            have kb := conv_reg rs b
            by_cases hc : b < j ∧ regI rs b ≠ (other : Int)
            · obtain ⟨hlt, hne⟩ := hc
              have cb := hbrd hlt
              have hjk : (b : Int) < (j : Int) := by omega
              have e2 : (regI rs b != (other : Int)) = true := by simpa using hne
              clear hbrd
              have HNE := Lib.hid hne
              clear hne
              go_wp2
              go_round
              case rel => exact ⟨b + 1, by omega, by omega, by go_num, fun q h1 h2 => by
                rcases Nat.lt_or_ge q b with h | h
                · exact HNO.out q h1 h
                · obtain rfl : q = b := by omega
                  exact HNE.out⟩
              case measure => simp [intOf]; omega
            · have hat : b < j → regI rs b = (other : Int) := fun hlt => Classical.byContradiction fun hne => hc ⟨hlt, hne⟩
              obtain ⟨fs', hfs', HL⟩ := HLAW.out b hgb hbj HNO.out hat
              cases hfs'
              have hlen : fs.length ≤ 1 := by
                rcases Nat.lt_or_ge b k with h | h
                · rw [HL.1 h]; simp
                · by_cases hex : ∃ i, k < i ∧ i + 1 < got ∧ regI rs i = regI rs k
                  · obtain ⟨x, hx⟩ := HL.2.1 h hex; rw [hx]; simp
                  · rw [HL.2.2 h (fun i h1 h2 h3 => hex ⟨i, h1, h2, h3⟩)]; simp
              have HLH := Lib.hid HL
              clear HL HLAW hc HNO
              obtain ⟨Av, cv, hva, -, -⟩ := howna.form
              rw [List.length_map] at hva
              subst hva
              have hl1 : ¬ (1 : Int) < (fs.length : Int) := by omega
              have HAT := Lib.hid hat
              clear hat
              by_cases hbj' : b < j
              all_goals
                first
                | (have hjk : (b : Int) < (j : Int) := by omega
                   have cb := hbrd hbj'
                   have e2 : (regI rs b != (other : Int)) = false := by simp [HAT.out hbj']
                   clear hbrd)
                | (have hjk : ¬ (b : Int) < (j : Int) := by omega
                   clear hbrd)
                by_cases hg0 : 0 < got
                · first
                  | (exfalso; omega)
                  | (go_wp2
                     go_loopw [15, 16] (fun u v wr => ∃ (i : Nat) (fb : Bool), k + 1 ≤ i ∧ (i = k + 1 ∨ i + 1 ≤ got) ∧ v = .int .i64 i ∧ u = .bool fb ∧ Hid (fb = anyB rs k i) ∧ Below w6.heap.size w6 wr) (fun _ v _ => got - (intOf v).toNat)
                     case atStart => exact ⟨k + 1, false, by omega, .inl rfl, by go_num, rfl, (anyB_low rs (Nat.le_refl _)).symm, Below.refl _ _⟩
                     case round =>
                       obtain ⟨i, fb, hki, hig, rfl, rfl, HFB, hbr⟩ := hrel
                       by_cases hc : i + 1 < got
                       · have hi1 : (i : Int) < (got : Int) - 1 := by omega
                         have hij : (i : Int) < (j : Int) := by omega
                         have hi0 : (0 : Int) ≤ (i : Int) := by omega
                         have ci : wr.cell? ⟨bk, offk + i, none⟩ = some (.int .u8 ((rs[i]?.getD 0 : Nat) : Int)) := by
                           obtain ⟨b', o, hA, hbl, hc⟩ := HH.out.at_ (k := i) (by have := HN.out; omega)
                           cases hA
                           exact (hbr.cell (p := ⟨bk, offk + i, none⟩) (by show bk < _; omega)).trans ((hb16.cell (p := ⟨bk, offk + i, none⟩) (by show bk < _; omega)).trans hc)
                         have ck2 : wr.cell? ⟨bk, offk + k, none⟩ = some (.int .u8 ((rs[k]?.getD 0 : Nat) : Int)) := (hbr.cell (p := ⟨bk, offk + k, none⟩) (by show bk < _; omega)).trans ((hb16.cell (p := ⟨bk, offk + k, none⟩) (by show bk < _; omega)).trans HCK0.out)
                         have HSC := Lib.hid (anyB_succ rs k i)
                         have hre := regI_eq rs i k
                         have ht1 : Int.tmod ((rs[k]?.getD 0 : Nat) : Int) 4 = ((rs[k]?.getD 0 : Nat) : Int) % 4 := Int.tmod_eq_emod_of_nonneg (by omega)
                         have ht2 : Int.tmod ((rs[i]?.getD 0 : Nat) : Int) 4 = ((rs[i]?.getD 0 : Nat) : Int) % 4 := Int.tmod_eq_emod_of_nonneg (by omega)
                         have hdk : decide (k < i ∧ regI rs i = regI rs k) = decide (regI rs i = regI rs k) := by rw [Bool.eq_iff_iff]; simp; intro _; omega
                         rw [hdk] at HSC
                         generalize decide (regI rs i = regI rs k) = db at *
                         clear hdk
                         cases fb
                         all_goals
                           go_wp2
                           go_quiet (fail)
                           clear hre ht1 ht2
                           go_wp2
                           go_roundw
                           case rel => exact ⟨i + 1, _, by omega, .inr (by omega), by go_num, rfl, (by unfold Hid; rw [HSC.out, ← HFB.out]; rfl), below_drewN hbr _⟩
                           case measure => simp [intOf]; omega
                       · have hi1 : ¬ (i : Int) < (got : Int) - 1 := by omega
                         have HFIN : (b < k ∧ fs = [⟨3, j + 1, b⟩]) ∨ (k ≤ b ∧ fb = true ∧ ∃ x, fs = [⟨3, j, x⟩]) ∨ (k ≤ b ∧ fb = false ∧ fs = []) := by
                           rcases Nat.lt_or_ge b k with h | h
                           · exact .inl ⟨h, HLH.out.1 h⟩
                           · cases hfb : fb
                             · refine .inr (.inr ⟨h, rfl, HLH.out.2.2 h fun q h1 h2 => ?_⟩)
                               exact anyB_false (HFB.out.symm.trans hfb) q h1 (by omega)
                             · obtain ⟨q, h1, h2, h3⟩ := anyB_true (HFB.out.symm.trans hfb)
                               exact .inr (.inl ⟨h, rfl, HLH.out.2.1 h ⟨q, h1, by omega, h3⟩⟩)
                         have hownr := howna.below hbr
                         clear HFB
                         rcases HFIN with ⟨hbk', hfs⟩ | ⟨hbk', rfl, x, hfs⟩ | ⟨hbk', rfl, hfs⟩
                         · first
                           | (exfalso; omega)
                           | (subst hfs
                              have hbI : (b : Int) < (k : Int) := by omega
                              obtain ⟨ga, ca, hva, -, hga⟩ := hownr.pos (by simp)
                              injection hva with hA1 hA2 hA3
                              subst hA1
                              clear hA2 hA3
                              have a0 := hownr.cell (k := 0) (j := 0) rfl rfl
                              have a1 := hownr.cell (k := 0) (j := 1) rfl rfl
                              have a2 := hownr.cell (k := 0) (j := 2) rfl rfl
                              simp only [Nat.zero_mul, Nat.zero_add] at a0 a1 a2
                              clear hownr howna
                              go_wp2
                              go_ret
                              exact ⟨rfl, hb16.trans (hbr.mono hz6)⟩)
                         · subst hfs
                           have hbI : ¬ (b : Int) < (k : Int) := by omega
                           obtain ⟨ga, ca, hva, -, hga⟩ := hownr.pos (by simp)
                           injection hva with hA1 hA2 hA3
                           subst hA1
                           clear hA2 hA3
                           have a0 := hownr.cell (k := 0) (j := 0) rfl rfl
                           have a1 := hownr.cell (k := 0) (j := 1) rfl rfl
                           simp only [Nat.zero_mul, Nat.zero_add] at a0 a1
                           clear hownr howna
                           go_wp2
                           go_ret
                           exact ⟨rfl, hb16.trans (hbr.mono hz6)⟩
                         · subst hfs
                           have hbI : ¬ (b : Int) < (k : Int) := by omega
                           clear hownr howna
                           go_wp2
                           go_ret
                           exact ⟨rfl, hb16.trans (hbr.mono hz6)⟩
                         )
                · first
                  | (exfalso; omega)
                  | (have HFIN : (b < k ∧ fs = [⟨3, j + 1, b⟩]) ∨ (k ≤ b ∧ false = true ∧ ∃ x, fs = [⟨3, j, x⟩]) ∨ (k ≤ b ∧ false = false ∧ fs = []) := by
                       rcases Nat.lt_or_ge b k with h | h
                       · exact .inl ⟨h, HLH.out.1 h⟩
                       · exact .inr (.inr ⟨h, rfl, HLH.out.2.2 h fun q h1 h2 => by omega⟩)
                     have hownr := howna
                     rcases HFIN with ⟨hbk', hfs⟩ | ⟨_, hx, _⟩ | ⟨hbk', _, hfs⟩
                     · first
                       | (exfalso; omega)
                       | (subst hfs
                          have hbI : (b : Int) < (k : Int) := by omega
                          obtain ⟨ga, ca, hva, -, hga⟩ := hownr.pos (by simp)
                          injection hva with hA1 hA2 hA3
                          subst hA1
                          clear hA2 hA3
                          have a0 := hownr.cell (k := 0) (j := 0) rfl rfl
                          have a1 := hownr.cell (k := 0) (j := 1) rfl rfl
                          have a2 := hownr.cell (k := 0) (j := 2) rfl rfl
                          simp only [Nat.zero_mul, Nat.zero_add] at a0 a1 a2
                          clear hownr howna
                          go_wp2
                          go_ret
                          exact ⟨rfl, hb16⟩)
                     · cases hx
                     · subst hfs
                       have hbI : ¬ (b : Int) < (k : Int) := by omega
                       clear hownr howna
                       go_wp2
                       go_ret
                       exact ⟨rfl, hb16⟩)
end Go.Proofs.Ytldjodgpbnkleaa
