/- Walk of tegulalaw46's LinearForced: it answers true, whatever the flags and the number. -/
import Derived.Test.YtcgbnlhloopnfaaDoorAwkB
import Derived.Test.YtcgbnlhloopnfaaDoorGLin
import Derived.Test.YtcgbnlhloopnfaaDoorGMem
import Derived.IntWalk
namespace Go.Proofs.YtcgbnlhloopnfaaDoor
open Go.RowKit

/-- a list of bools that came in -/
abbrev BoolS (w : World) (B : Nat) (A : Option Addr) (l : List Bool) : Prop := RdS w B 1 A (l.map flCell)
theorem BoolS.at_ {w : World} {B : Nat} {A : Option Addr} {l : List Bool} (h : BoolS w B A l) {k : Nat} (hk : k < l.length) : ∃ b off, ∃ x : Bool, A = some ⟨b, off, none⟩ ∧ b < B ∧ l[k]? = some x ∧ w.cell? ⟨b, off + k, none⟩ = some (.bool x) := by
  obtain ⟨b, off, rfl, hb, hc⟩ := h.2 (by simp; omega)
  have he : l[k]? = some l[k] := List.getElem?_eq_getElem hk
  have hr : (l.map flCell)[k]? = some (flCell l[k]) := by simp [he]
  exact ⟨b, off, l[k], rfl, hb, he, by simpa using hc k _ hr 0 _ rfl⟩
/-- small numbers -/
def SmE (e : Ev) : Prop := e.op.natAbs ≤ 100000 ∧ e.reg.natAbs ≤ 100000 ∧ e.val.natAbs ≤ 100000
theorem sm_wf {x : Int} (h : x.natAbs ≤ 100000) : (Lit.int .i64 x).wf = true := by
  rw [Lit.wf_int_iff, IntKind.min_i64, IntKind.max_i64]
  omega
theorem smL_wf {l : List Ev} (h : ∀ e ∈ l, SmE e) : WfOp l ∧ WfReg l ∧ ∀ e ∈ l, (Lit.int .i64 e.val).wf = true := ⟨fun e he => sm_wf (h e he).1, fun e he => sm_wf (h e he).2.1, fun e he => sm_wf (h e he).2.2⟩
theorem stE_sm {i : Nat} {s : Stp} (hi : i ≤ 1000) (hv : s.v.natAbs ≤ 1000) : ∀ e ∈ stE i s, SmE e := by
  intro e he
  simp only [stE, List.mem_cons, List.not_mem_nil, or_false] at he
  rcases he with rfl | rfl
  · refine ⟨by simp; omega, by simp, ?_⟩
    show (if s.w = true then s.v else 0).natAbs ≤ 100000
    split
    · omega
    · simp
  · exact ⟨by simp; omega, by simp, by simp; omega⟩
theorem stL_sm {ss : List Stp} (hv : ∀ s ∈ ss, s.v.natAbs ≤ 1000) {k : Nat} (hk : k ≤ 1000) : ∀ e ∈ stL ss k, SmE e := by
  induction k with
  | zero => simp [stL]
  | succ k ih =>
    intro e he
    simp only [stL] at he
    rcases List.mem_append.1 he with he | he
    · exact ih (by omega) e he
    · refine stE_sm (by omega) ?_ e he
      unfold sAt
      rcases hs : ss[k]? with _ | s
      · simp [stD]
      · exact hv s (List.mem_of_getElem? hs)
theorem cut_sm : SmE Ev.cut := ⟨by simp [Ev.cut], by simp [Ev.cut], by simp [Ev.cut]⟩
/-- Find at a list of which it is known whether it has an explanation -/
theorem find_dec {l : List Ev} (ho : FindOk l) (hb : anyBig (rawOps l) (cutsL l) = false) (b : Bool) (hl : ExpL l ↔ b = true) (A : Option Addr) (c B : Nat) (w : World) (h : EvS w B A l) (hB : B ≤ w.heap.size) :
    Calls Tryd.prog 15 #[.slice A l.length c] w fun r w' => (∃ A' n' c', r = .returned (.tuple #[.slice A' n' c', .bool b, .int .i64 0])) ∧ Below w.heap.size w w' := by
  cases b
  · refine (find_no ho hb (fun h => by cases hl.1 h) A c B w h hB).mono ?_
    rintro r w' ⟨rfl, hb'⟩
    exact ⟨⟨_, _, _, rfl⟩, hb'⟩
  · refine (find_yes ho hb (hl.2 rfl) A c B w h hB).mono ?_
    rintro r w' ⟨⟨ov, wl, rfl, -, ho'⟩, hb'⟩
    obtain ⟨A', c', rfl⟩ := OutS.isSlice ho'
    exact ⟨⟨_, _, _, rfl⟩, hb'⟩
theorem anyBig_of {os : List Opr} {cuts : Nat} (h : ∀ k, k ≤ cuts → (eraX os k).length ≤ 16) : anyBig os cuts = false := by
  unfold anyBig
  rw [List.any_eq_false]
  intro k hk
  have := h k (by have := List.mem_range.1 hk; omega)
  unfold bigE
  simp
  omega
theorem frc_ok (fs : List Bool) (val : Nat) (hn : fs.length ≤ 6) (hv : val ≤ 1000) : FindOk (frcL fs val) ∧ anyBig (rawOps (frcL fs val)) (cutsL (frcL fs val)) = false := by
  obtain ⟨h1, h2⟩ := raw_of (frc_parse fs val)
  have hsm : ∀ e ∈ frcL fs val, SmE e := by
    intro e he
    unfold frcL at he
    rcases List.mem_append.1 he with he | he
    · rcases List.mem_append.1 he with he | he
      · refine stL_sm (fun s hs => ?_) (by omega) e he
        obtain ⟨p, hp, rfl⟩ := List.mem_map.1 hs
        obtain ⟨h3, h4⟩ := List.mem_zipIdx' hp
        show ((p.2 : Int) + 1).natAbs ≤ 1000
        omega
      · simp at he
        subst he
        exact cut_sm
    · exact stE_sm (by omega) (by simp; omega) e he
  obtain ⟨w1, w2, w3⟩ := smL_wf hsm
  refine ⟨⟨one_of h1 fun o ho => ?_, ?_, w1, w2, w3⟩, ?_⟩
  · rw [h2] at ho
    unfold frcO at ho
    rcases List.mem_append.1 ho with ho | ho
    · obtain ⟨i, -, rfl⟩ := List.mem_map.1 ho
      rfl
    · simp at ho
      subst ho
      rfl
  · unfold frcL
    simp [stL_len, stE]
    omega
  · rw [h2, frc_cuts]
    refine anyBig_of fun k hk => ?_
    match k, hk with
    | 0, _ => rw [frc_era0, stX_len]; omega
    | 1, _ => rw [frc_era1]; simp

set_option maxHeartbeats 4000000 in
set_option maxRecDepth 100000 in
theorem linearforced_any (fs : List Bool) (A : Option Addr) (c got : Nat) (hg : got < 256) (w : World) (h : BoolS w w.heap.size A fs) (hc : CutG w) :
    Calls Tryd.prog 9 #[.slice A fs.length c, .int .u8 got] w fun e w' => e = .returned (.bool true) ∧ Below w.heap.size w w' := by
  have hgp := hc.pos
  have HA := Lib.hid (awake46_any w hc)
  have HG : Hid (∀ W, Below w.heap.size w W → CutG W) := fun W hW => hc.below hW hgp
  have HS := Lib.hid h
  clear h hc
  by_cases hn : fs.length ≤ 6
  case neg =>
    have hn' : (fs.length : Int) > 6 := by omega
    go_enter Tryd.func9, Tryd.ntmps9
    go_wp2_with fail
    refine HA.out.mono ?_
    rintro r w1 ⟨rfl, hb1⟩
    go_wp2
    go_ret
    exact ⟨rfl, hb1⟩
  case pos =>
    obtain ⟨n, hnn⟩ : ∃ n, n = fs.length := ⟨_, rfl⟩
    have hn6 : n ≤ 6 := by omega
    obtain ⟨v, hv⟩ : ∃ v, v = got % (n + 2) := ⟨_, rfl⟩
    have hvn : v < n + 2 := by rw [hv]; exact Nat.mod_lt _ (by omega)
    have hrv : ((got : Int) % ((n : Int) + 2)) = (v : Int) := by rw [hv]; simp
    obtain ⟨hfo, hab⟩ := frc_ok fs v hn (by omega)
    have hll : ∀ j, lst fs j ≤ j := fun j => (lst_le fs j j).2 fun k hk _ => hk
    obtain ⟨b, hb⟩ : ∃ b, b = (decide (lst fs n ≤ v) && decide (v ≤ n)) := ⟨_, rfl⟩
    have hexp : ExpL (frcL fs v) ↔ b = true := by
      unfold ExpL
      rw [frc_exp, hb, ← hnn, Bool.and_eq_true, decide_eq_true_eq, decide_eq_true_eq]
    have HW := Lib.hid (fun (i : Nat) (f : Bool) W => write46_any (i : Int) ((i : Int) + 1) f W)
    have HR := Lib.hid (fun W => read46_any (n : Int) (v : Int) W)
    have HF := Lib.hid (fun A c W (h : EvS W W.heap.size A (frcL fs v)) => find_dec hfo hab b hexp A c W.heap.size W h (Nat.le_refl _))
    have HLN : Hid ((frcL fs v).length = 2 * n + 3) := by unfold Hid frcL; simp [stL_len, stE]; omega
    have HL := Lib.hid hll
    have HB := Lib.hid hb
    have HN := Lib.hid hnn
    have HV := Lib.hid hrv
    clear hfo hab hexp hll hb hv hrv hn
    rw [← HN.out]
    clear hnn
    go_enter Tryd.func9, Tryd.ntmps9
    have hn' : ¬ (n : Int) > 6 := by omega
    go_wp2_with fail
    refine HA.out.mono ?_
    rintro r w1 ⟨rfl, hb1⟩
    have HB1 := Lib.hid hb1
    have hz1 := hb1.size
    clear hb1
    go_wp2
    clear hn'
    go_loopw [6, 7, 8] (fun s lv i wr => ∃ j : Nat, j ≤ n ∧ i = .int .i64 j ∧ lv = .int .i64 (lst fs j : Nat) ∧ OwS wr w1.heap.size 45 6 s ((stL (frcS fs) j).map Ev.cells) ∧ Below w1.heap.size w1 wr) (fun _ _ i _ => n - (intOf i).toNat)
    case atStart => exact ⟨0, by omega, rfl, rfl, OwS.nil _ _ _ _, Below.refl _ _⟩
    case round =>
      obtain ⟨j, hj, rfl, rfl, hown, hb⟩ := hrel
      have hz := hb.size
      by_cases hlt : j < n
      · have hjn : (j : Int) < (n : Int) := by omega
        obtain ⟨bb, off, f, rfl, hbb, hf, -⟩ := BoolS.at_ HS.out (k := j) (by rw [← HN.out]; exact hlt)
        have HC : Hid (∀ W, Below w1.heap.size w1 W → W.cell? ⟨bb, off + j, none⟩ = some (.bool f)) := fun W hW => by
          obtain ⟨b', off', f', h1, -, h3, h4⟩ := BoolS.at_ (HS.out.below (HB1.out.trans (hW.mono hz1))) (k := j) (by rw [← HN.out]; exact hlt)
          cases h1
          rw [hf] at h3
          cases h3
          exact h4
        have HSU : Hid (stL (frcS fs) (j + 1) = stL (frcS fs) j ++ w46 (j : Int) ((j : Int) + 1) f) := by
          unfold Hid
          simp only [stL]
          rw [frcS_at (by rw [← HN.out]; exact hlt), hf]
          simp [stE, w46]
        have HLU : Hid (lst fs (j + 1) = if f then j + 1 else lst fs j) := by
          unfold Hid
          simp only [lst]
          rw [hf]
          rfl
        have hcr := HC.out _ hb
        have hln := stL_len (frcS fs) j
        have hw8 : IntKind.i64.wrap ((j : Int) + 1) = (j : Int) + 1 := IntWalk.i64_in _ (by omega)
        clear hf
        go_wp2_with fail
        refine (HW.out j f _).mono ?_
        rintro r w2 ⟨v2, rfl, hown2, hb2⟩
        have hown := hown.below hb2
        have hb12 := hb.trans (hb2.mono hz)
        have hz2 := hb12.size
        obtain ⟨A2, c2, rfl, -, -⟩ := hown2.form
        have hr2 := hown2.reads
        clear hown2 hb2 hcr
        go_wp2_with (at_builtin; refine wpList_apS rfl (.tmp 24) (.tmp 32) _ rfl elemEv rfl hown w2.heap.size A2 _ c2 ((w46 (j : Int) ((j : Int) + 1) f).map Ev.cells) rfl hr2 rfl OwS.oneEv (by simp [w46, maxLen]; omega) (by simp [w46]; omega) hz2 ?_)
        intro v3 w3 hown3 hg3 _
        have hb3 : Below w1.heap.size w1 w3 := hb12.grown hg3 hz2 (fun g hg => (hown.lt hg).1)
        have hcr := HC.out _ hb3
        clear hg3 hown hr2 hb12
        cases f
        · go_wp2
          go_roundw
          case rel => exact ⟨j + 1, by omega, by go_num, by rw [HLU.out]; rfl, by rw [HSU.out]; simpa using hown3, hb3⟩
          case measure => simp [intOf]; omega
        · go_wp2
          go_roundw
          case rel => exact ⟨j + 1, by omega, by go_num, by rw [HLU.out]; rfl, by rw [HSU.out]; simpa using hown3, hb3⟩
          case measure => simp [intOf]; omega
      · obtain rfl : j = n := by omega
        have hln := stL_len (frcS fs) j
        have kc := fun W => conv_u8 (got : Int) (by omega) (by omega) W
        have hs2 : ((j : Int) + 2 == 0) = false := by simp; omega
        have hs1 : IntKind.i64.wrap ((j : Int) + 2) = (j : Int) + 2 := IntWalk.i64_in _ (by omega)
        have ht1 : Int.tmod (got : Int) ((j : Int) + 2) = (v : Int) := by rw [Int.tmod_eq_emod_of_nonneg (by omega), HV.out]
        obtain ⟨c0, c1, c2, c3, c4, c5⟩ := HG.out wr (HB1.out.trans (hb.mono hz1))
        go_wp2_with (at_builtin; refine wpList_ap1 rfl (.tmp 45) (.tmp 47) _ rfl elemEv rfl hown Ev.cut.cells _ (by rfl) wr.heap.size (by rfl) (by rfl) (Ev.one _) (by simp [maxLen]; omega) (by simp; omega) hz ?_)
        intro v2 w2 hown2 hg2 _
        have hb2 : Below w1.heap.size w1 w2 := (hb.alloc hz _).grown hg2 (by simp; omega) (fun g hg => (hown.lt hg).1)
        have hz2 := hb2.size
        clear hg2 hown c0 c1 c2 c3 c4 c5 hs1 hs2 ht1 kc
        go_wp2_with fail
        refine (HR.out _).mono ?_
        rintro r w3 ⟨v3, rfl, hown3, hb3⟩
        have hown2 := hown2.below hb3
        have hb13 := hb2.trans (hb3.mono hz2)
        have hz3 := hb13.size
        obtain ⟨A3, k3, rfl, -, -⟩ := hown3.form
        have hr3 := hown3.reads
        clear hown3 hb3
        go_wp2_with (at_builtin; refine wpList_apS rfl (.tmp 48) (.tmp 51) _ rfl elemEv rfl hown2 w3.heap.size A3 _ k3 ((r46 (j : Int) (v : Int)).map Ev.cells) rfl hr3 rfl OwS.oneEv (by simp [r46, maxLen]; omega) (by simp [r46]; omega) hz3 ?_)
        intro v4 w4 hown4 hg4 _
        have hb4 : Below w1.heap.size w1 w4 := hb13.grown hg4 hz3 (fun g hg => (hown2.lt hg).1)
        have hz4 := hb4.size
        have hEQ : (stL (frcS fs) j).map Ev.cells ++ [Ev.cut.cells] ++ (r46 (j : Int) (v : Int)).map Ev.cells = (frcL fs v).map Ev.cells := by
          unfold frcL
          rw [← HN.out]
          simp [stE, r46]
        have hown4 : OwS w4 w1.heap.size 45 6 v4 ((frcL fs v).map Ev.cells) := by rw [← hEQ]; simpa using hown4
        clear hg4 hown2 hr3 hb13 hEQ
        obtain ⟨A4, k4, rfl, -, -⟩ := hown4.form
        rw [List.length_map]
        have hr4 : EvS w4 w4.heap.size A4 (frcL fs v) := hown4.reads
        have HFF := Lib.hid (HF.out A4 k4 w4 hr4)
        clear hown4 hr4
        generalize (frcL fs v).length = ln at *
        go_wp2_with fail
        refine HFF.out.mono ?_
        rintro r w5 ⟨⟨A5, n5, k5, rfl⟩, hb5⟩
        have hb15 : Below w.heap.size w w5 := HB1.out.trans ((hb4.trans (hb5.mono hz4)).mono hz1)
        have HBO := HB.out
        have hlj := HL.out j
        clear hb5
        generalize lst fs j = ls at *
        by_cases h1 : ls ≤ v
        · have h1' : (ls : Int) ≤ (v : Int) := by omega
          by_cases h2 : v ≤ j
          · have h2' : (v : Int) ≤ (j : Int) := by omega
            have hbt : b = true := by rw [HBO]; simp [h1, h2]
            clear HBO
            subst hbt
            go_wp2
            go_ret
            exact ⟨rfl, hb15⟩
          · have h2' : ¬ (v : Int) ≤ (j : Int) := by omega
            have hbt : b = false := by rw [HBO]; simp [h2]
            clear HBO
            subst hbt
            go_wp2
            go_ret
            exact ⟨rfl, hb15⟩
        · have h1' : ¬ (ls : Int) ≤ (v : Int) := by omega
          have hbt : b = false := by rw [HBO]; simp [h1]
          clear HBO
          subst hbt
          go_wp2
          go_ret
          exact ⟨rfl, hb15⟩
end Go.Proofs.YtcgbnlhloopnfaaDoor
