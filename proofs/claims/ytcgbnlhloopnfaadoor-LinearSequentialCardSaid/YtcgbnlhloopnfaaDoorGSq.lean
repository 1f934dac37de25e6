/- The histories of LinearSequential, on lists. Plain: no program is walked here.
Walk of tegulalaw46's LinearSequential: it answers true, whatever the values. -/
import Derived.Test.YtcgbnlhloopnfaaDoorFrcA
namespace Go.Proofs.YtcgbnlhloopnfaaDoor

/-- odd numbers are written, also forced; even ones are halved and read -/
def sqS (v : Int) : Stp := if v.tmod 2 = 0 then ⟨false, v.tdiv 2, false⟩ else ⟨true, max v (-v), decide (v < 0)⟩
def sqL (vs : List Int) (k : Nat) : List Ev := stL (vs.map sqS) k
def sqV (vs : List Int) (k : Nat) : Int := stV (vs.map sqS) k
def sqOk (vs : List Int) : Nat → Bool
  | 0 => true
  | k + 1 => sqOk vs k && ((sAt (vs.map sqS) k).w || (sAt (vs.map sqS) k).v == sqV vs k)
theorem sq_at {vs : List Int} {k : Nat} {v : Int} (h : vs[k]? = some v) : sAt (vs.map sqS) k = sqS v := by
  unfold sAt
  rw [List.getElem?_map, h]
  rfl
theorem sq_all (vs : List Int) (k : Nat) : sqOk vs k = true ↔ ∀ j, j < k → ((sAt (vs.map sqS) j).w || (sAt (vs.map sqS) j).v == sqV vs j) = true := by
  induction k with
  | zero => simp [sqOk]
  | succ k ih =>
    simp only [sqOk, Bool.and_eq_true, ih]
    constructor
    · rintro ⟨h1, h2⟩ j hj
      rcases Nat.lt_or_eq_of_le (Nat.le_of_lt_succ hj) with h | rfl
      · exact h1 j h
      · exact h2
    · exact fun h => ⟨fun j hj => h j (by omega), h k (by omega)⟩
theorem sq_pos {v : Int} : (sqS v).w = true → 0 ≤ (sqS v).v := by
  unfold sqS
  split
  · intro h; simp at h
  · intro _; show 0 ≤ max v (-v); omega
theorem sq_small {v : Int} (h0 : -128 ≤ v) (h1 : v ≤ 127) : (sqS v).v.natAbs ≤ 1000 := by
  unfold sqS
  split
  · show (v.tdiv 2).natAbs ≤ 1000
    have h2 : (v.tdiv 2).natAbs = v.natAbs / 2 := by rw [Int.natAbs_tdiv]; rfl
    omega
  · show (max v (-v)).natAbs ≤ 1000
    omega
theorem sq_ok {vs : List Int} (hv : ∀ v ∈ vs, -128 ≤ v ∧ v ≤ 127) (hn : vs.length ≤ 14) : FindOk (sqL vs vs.length) ∧ anyBig (rawOps (sqL vs vs.length)) (cutsL (sqL vs vs.length)) = false ∧ (ExpL (sqL vs vs.length) ↔ sqOk vs vs.length = true) ∧
    ∀ wl, AccL (sqL vs vs.length) wl → wl = [((List.range vs.length).map fun (i : Nat) => (i : Int), (vs.length : Int))] := by
  have hp : ∀ s ∈ vs.map sqS, s.w = true → 0 ≤ s.v := fun s hs => by obtain ⟨v, -, rfl⟩ := List.mem_map.1 hs; exact sq_pos
  obtain ⟨h1, h2⟩ := raw_of (stL_parse hp vs.length)
  obtain ⟨w1, w2, w3⟩ := smL_wf (stL_sm (ss := vs.map sqS) (k := vs.length) (fun s hs => by obtain ⟨v, hv', rfl⟩ := List.mem_map.1 hs; exact sq_small (hv v hv').1 (hv v hv').2) (by omega))
  refine ⟨⟨one_of h1 fun o ho => ?_, ?_, w1, w2, w3⟩, ?_, ?_, fun wl hw => stL_one hp vs.length hw.1 hw.2⟩
  · change o ∈ rawOps (stL (vs.map sqS) vs.length) at ho
    rw [h2] at ho
    obtain ⟨i, -, rfl⟩ := List.mem_map.1 ho
    rfl
  · show (stL (vs.map sqS) vs.length).length ≤ 100000
    rw [stL_len]
    omega
  · show anyBig (rawOps (stL (vs.map sqS) vs.length)) (cutsL (stL (vs.map sqS) vs.length)) = false
    rw [h2, stL_cuts]
    refine anyBig_of fun k hk => ?_
    obtain rfl : k = 0 := by omega
    rw [show eraX (stX (vs.map sqS) vs.length) 0 = stX (vs.map sqS) vs.length from stX_eff _ _, stX_len]
    omega
  · rw [sq_all]
    exact stL_exp hp vs.length
end Go.Proofs.YtcgbnlhloopnfaaDoor
namespace Go.Proofs.YtcgbnlhloopnfaaDoor
open Go.RowKit

/-- small numbers that came in -/
abbrev I8S (w : World) (B : Nat) (A : Option Addr) (l : List Int) : Prop := RdS w B 1 A (l.map fun b => [.int .i8 b])
theorem I8S.at_ {w : World} {B : Nat} {A : Option Addr} {l : List Int} (h : I8S w B A l) {k : Nat} (hk : k < l.length) : ∃ b off, ∃ x : Int, A = some ⟨b, off, none⟩ ∧ b < B ∧ l[k]? = some x ∧ w.cell? ⟨b, off + k, none⟩ = some (.int .i8 x) := by
  obtain ⟨b, off, rfl, hb, hc⟩ := h.2 (by simp; omega)
  have he : l[k]? = some l[k] := List.getElem?_eq_getElem hk
  have hr : (l.map fun b => [Value.int .i8 b])[k]? = some [.int .i8 l[k]] := by simp [he]
  exact ⟨b, off, l[k], rfl, hb, he, by simpa using hc k _ hr 0 _ rfl⟩
theorem conv_i8 (x : Int) (h0 : -128 ≤ x) (h1 : x ≤ 127) (W : World) : (convert 48 3 (.int .i8 x)).run Tryd.prog W = .ok (.int .i64 x) W := by
  rw [run_convert_int W 48 3 .i8 x (by rw [Tryd.underlying48]; rfl) (by kernel_rfl)]
  have hk : Tryd.prog.intKind 3 = .i64 := by kernel_rfl
  rw [hk]
  have : IntKind.i64.wrap x = x := IntWalk.i64_in _ (by omega)
  rw [this]
/-- one explained era, in memory -/
theorem out_one {b : Nat} {w : World} {ov : Value} {ids : List Int} {k : Int} (h : @OutS ⟨b⟩ w ov [(ids, k)]) : ∃ g cap Ao co, ov = .slice (some ⟨g, 0, none⟩) 1 cap ∧ ∀ W, Below w.heap.size w W → W.cell? ⟨g, 0, none⟩ = some (.slice Ao ids.length co) ∧ W.cell? ⟨g, 1, none⟩ = some (.int .i64 k) ∧ IntS W w.heap.size Ao ids := by
  obtain ⟨es, h1, h2, h3⟩ := h
  match es, h1 with
  | [(x, y)], h1 =>
    simp at h1
    subst h1
    obtain ⟨⟨Ao, co, hx⟩, ho⟩ := h3 (x, (ids, k)) (by simp)
    simp only at hx ho
    subst hx
    obtain ⟨g, cap, rfl, -, hg⟩ := h2.pos (by simp)
    have a0 := h2.cell (k := 0) (j := 0) (u := .slice Ao ids.length co) rfl rfl
    have a1 := h2.cell (k := 0) (j := 1) (u := .int .i64 k) rfl rfl
    exact ⟨g, cap, Ao, co, rfl, fun W hW => ⟨(hW.cell (p := ⟨g, 0, none⟩) hg).trans a0, (hW.cell (p := ⟨g, 1, none⟩) hg).trans a1, ho.reads.below hW⟩⟩

set_option maxHeartbeats 4000000 in
set_option maxRecDepth 100000 in
theorem linearsequential_any (vs : List Int) (hv : ∀ v ∈ vs, -128 ≤ v ∧ v ≤ 127) (A : Option Addr) (c : Nat) (w : World) (h : I8S w w.heap.size A vs) (hc : CutG w) :
    Calls Tryd.prog 8 #[.slice A vs.length c] w fun e w' => e = .returned (.bool true) ∧ Below w.heap.size w w' := by
  have HA := Lib.hid (awake46_any w hc)
  have HS := Lib.hid h
  clear h hc
  by_cases hn : vs.length ≤ 14
  case neg =>
    have hn' : (vs.length : Int) > 14 := by omega
    go_enter Tryd.func8, Tryd.ntmps8
    go_wp2_with fail
    refine HA.out.mono ?_
    rintro r w1 ⟨rfl, hb1⟩
    go_wp2
    go_ret
    exact ⟨rfl, hb1⟩
  case pos =>
    obtain ⟨n, hnn⟩ : ∃ n, n = vs.length := ⟨_, rfl⟩
    have hn6 : n ≤ 14 := by omega
    obtain ⟨hfo, hab, hexp, hone⟩ := sq_ok hv hn
    rw [← hnn] at hfo hab hexp hone
    have HW := Lib.hid (fun (i : Nat) (v : Int) (f : Bool) W => write46_any (i : Int) v f W)
    have HR := Lib.hid (fun (i : Nat) (v : Int) W => read46_any (i : Int) v W)
    have HFY := Lib.hid (fun (ht : sqOk vs n = true) A c W (h : EvS W W.heap.size A (sqL vs n)) => find_yes hfo hab (hexp.2 ht) A c W.heap.size W h (Nat.le_refl _))
    have HFN := Lib.hid (fun (ht : sqOk vs n = false) A c W (h : EvS W W.heap.size A (sqL vs n)) => find_no hfo hab (fun h => by have := hexp.1 h; rw [ht] at this; cases this) A c W.heap.size W h (Nat.le_refl _))
    have HLN : ∀ j, Hid ((sqL vs j).length = 2 * j) := fun j => stL_len _ _
    have HONE := Lib.hid hone
    have HN := Lib.hid hnn
    have HV := Lib.hid hv
    clear hfo hab hexp hone hv hn
    rw [← HN.out]
    clear hnn
    go_enter Tryd.func8, Tryd.ntmps8
    have hn' : ¬ (n : Int) > 14 := by omega
    go_wp2_with fail
    refine HA.out.mono ?_
    rintro r w1 ⟨rfl, hb1⟩
    have HB1 := Lib.hid hb1
    have hz1 := hb1.size
    clear hb1
    go_wp2
    clear hn'
    go_loopw [3, 4, 5, 6] (fun s lv ok i wr => ∃ j : Nat, j ≤ n ∧ i = .int .i64 j ∧ lv = .int .i64 (sqV vs j) ∧ ok = .bool (sqOk vs j) ∧ OwS wr w1.heap.size 45 6 s ((sqL vs j).map Ev.cells) ∧ Below w1.heap.size w1 wr) (fun _ _ _ i _ => n - (intOf i).toNat)
    case atStart => exact ⟨0, by omega, rfl, rfl, rfl, OwS.nil _ _ _ _, Below.refl _ _⟩
    case round =>
      obtain ⟨j, hj, rfl, rfl, rfl, hown, hb⟩ := hrel
      have hz := hb.size
      have hln := (HLN j).out
      by_cases hlt : j < n
      · have hjn : (j : Int) < (n : Int) := by omega
        obtain ⟨bb, off, v, rfl, hbb, hf, hcr⟩ := I8S.at_ (HS.out.below (HB1.out.trans (hb.mono hz1))) (k := j) (by rw [← HN.out]; exact hlt)
        have hvr := HV.out v (List.mem_of_getElem? hf)
        have kc := fun W => conv_i8 v hvr.1 hvr.2 W
        have HAT := Lib.hid (sq_at hf)
        obtain ⟨lv, hlv⟩ : ∃ lv, sqV vs j = lv := ⟨_, rfl⟩
        obtain ⟨ob, hob⟩ : ∃ ob, sqOk vs j = ob := ⟨_, rfl⟩
        have HSU : Hid (sqL vs (j + 1) = sqL vs j ++ stE j (sqS v)) := by unfold Hid; show stL _ (j + 1) = _; simp only [stL]; rw [HAT.out]; rfl
        have HVU : Hid (sqV vs (j + 1) = if (sqS v).w then (sqS v).v else lv) := by unfold Hid; rw [← hlv]; show stV _ (j + 1) = _; simp only [stV]; rw [HAT.out]; rfl
        have HOU : Hid (sqOk vs (j + 1) = (ob && ((sqS v).w || (sqS v).v == lv))) := by unfold Hid; rw [← hlv, ← hob]; simp only [sqOk]; rw [HAT.out]
        simp only [hlv, hob]
        clear hf hlv hob HAT
        by_cases ht : v.tmod 2 = 0
        · obtain ⟨q, hq⟩ : ∃ q, v.tdiv 2 = q := ⟨_, rfl⟩
          have HQ : Hid (sqS v = ⟨false, q, false⟩) := by unfold Hid sqS; rw [if_pos ht, hq]
          have hqa : q.natAbs = v.natAbs / 2 := by rw [← hq, Int.natAbs_tdiv]; rfl
          have hq2 : IntKind.i64.wrap q = q := IntWalk.i64_in _ (by constructor <;> omega)
          clear hqa
          rw [HQ.out] at HSU HVU HOU
          go_wp2_with fail
          refine (HR.out j q _).mono ?_
          rintro r w2 ⟨v2, rfl, hown2, hb2⟩
          have hown := hown.below hb2
          have hb12 := hb.trans (hb2.mono hz)
          have hz2 := hb12.size
          obtain ⟨A2, c2, rfl, -, -⟩ := hown2.form
          have hr2 := hown2.reads
          clear hown2 hb2 hcr
          go_wp2_with (at_builtin; refine wpList_apS rfl (.tmp 42) (.tmp 46) _ rfl elemEv rfl hown w2.heap.size A2 _ c2 ((r46 (j : Int) q).map Ev.cells) rfl hr2 rfl OwS.oneEv (by simp [r46, maxLen]; omega) (by simp [r46]; omega) hz2 ?_)
          intro v3 w3 hown3 hg3 _
          have hb3 : Below w1.heap.size w1 w3 := hb12.grown hg3 hz2 (fun g hg => (hown.lt hg).1)
          have hown3 : OwS w3 w1.heap.size 45 6 v3 ((sqL vs (j + 1)).map Ev.cells) := by rw [HSU.out]; simpa [stE, r46] using hown3
          clear hg3 hown hr2 hb12
          cases ob
          · go_wp2
            go_roundw
            case rel => exact ⟨j + 1, by omega, by go_num, by rw [HVU.out]; rfl, by rw [HOU.out]; rfl, hown3, hb3⟩
            case measure => simp [intOf]; omega
          · by_cases he : q = lv
            · have he' : (q == lv) = true := by simp [he]
              have HE : Hid (sqOk vs (j + 1) = true) := by unfold Hid; rw [HOU.out]; simp [he]
              clear he
              go_wp2
              go_roundw
              case rel => exact ⟨j + 1, by omega, by go_num, by rw [HVU.out]; rfl, by rw [HE.out], hown3, hb3⟩
              case measure => simp [intOf]; omega
            · have he' : (q == lv) = false := by simpa using he
              have HE : Hid (sqOk vs (j + 1) = false) := by unfold Hid; rw [HOU.out]; simp [he']
              clear he
              go_wp2
              go_roundw
              case rel => exact ⟨j + 1, by omega, by go_num, by rw [HVU.out]; rfl, by rw [HE.out], hown3, hb3⟩
              case measure => simp [intOf]; omega
        · obtain ⟨m, hm⟩ : ∃ m, v.tmod 2 = m := ⟨_, rfl⟩
          have hmn : (m != 0) = true := by rw [← hm]; simpa using ht
          have hv0 : v ≠ 0 := fun h => by subst h; exact ht rfl
          have hw1 : IntKind.i64.wrap (-v) = -v := IntWalk.i64_in _ (by constructor <;> omega)
          have hcase : (v < 0 ∧ max v (-v) = -v) ∨ (0 < v ∧ max v (-v) = v) := by omega
          have HQ0 : Hid (sqS v = ⟨true, max v (-v), decide (v < 0)⟩) := by unfold Hid sqS; rw [if_neg ht]
          clear ht
          rcases hcase with ⟨hs, hmx⟩ | ⟨hs, hmx⟩
          · have HQ : Hid (sqS v = ⟨true, -v, true⟩) := by unfold Hid; rw [HQ0.out, hmx]; simp [hs]
            have hs1 : v < -v := by omega
            have hs2 : decide (v < 0) = true := by simpa using hs
            clear HQ0
            rw [HQ.out] at HSU HVU HOU
            go_wp2_with fail
            refine (HW.out j (-v) true _).mono ?_
            rintro r w2 ⟨v2, rfl, hown2, hb2⟩
            have hown := hown.below hb2
            have hb12 := hb.trans (hb2.mono hz)
            have hz2 := hb12.size
            obtain ⟨A2, c2, rfl, -, -⟩ := hown2.form
            have hr2 := hown2.reads
            clear hown2 hb2 hcr
            go_wp2_with (at_builtin; refine wpList_apS rfl (.tmp 35) (.tmp 40) _ rfl elemEv rfl hown w2.heap.size A2 _ c2 ((w46 (j : Int) (-v) true).map Ev.cells) rfl hr2 rfl OwS.oneEv (by simp [w46, maxLen]; omega) (by simp [w46]; omega) hz2 ?_)
            intro v3 w3 hown3 hg3 _
            have hb3 : Below w1.heap.size w1 w3 := hb12.grown hg3 hz2 (fun g hg => (hown.lt hg).1)
            have hown3 : OwS w3 w1.heap.size 45 6 v3 ((sqL vs (j + 1)).map Ev.cells) := by rw [HSU.out]; simpa [stE, w46] using hown3
            clear hg3 hown hr2 hb12
            go_wp2
            go_roundw
            case rel => exact ⟨j + 1, by omega, by go_num, by rw [HVU.out]; rfl, by rw [HOU.out]; simp, hown3, hb3⟩
            case measure => simp [intOf]; omega
          · have HQ : Hid (sqS v = ⟨true, v, false⟩) := by unfold Hid; rw [HQ0.out, hmx]; simp; omega
            have hs1 : ¬ v < -v := by omega
            have hs2 : decide (v < 0) = false := by simp; omega
            have hs3 : -v < v := by omega
            clear HQ0
            rw [HQ.out] at HSU HVU HOU
            go_wp2_with fail
            refine (HW.out j v false _).mono ?_
            rintro r w2 ⟨v2, rfl, hown2, hb2⟩
            have hown := hown.below hb2
            have hb12 := hb.trans (hb2.mono hz)
            have hz2 := hb12.size
            obtain ⟨A2, c2, rfl, -, -⟩ := hown2.form
            have hr2 := hown2.reads
            clear hown2 hb2 hcr
            go_wp2_with (at_builtin; refine wpList_apS rfl (.tmp 35) (.tmp 40) _ rfl elemEv rfl hown w2.heap.size A2 _ c2 ((w46 (j : Int) v false).map Ev.cells) rfl hr2 rfl OwS.oneEv (by simp [w46, maxLen]; omega) (by simp [w46]; omega) hz2 ?_)
            intro v3 w3 hown3 hg3 _
            have hb3 : Below w1.heap.size w1 w3 := hb12.grown hg3 hz2 (fun g hg => (hown.lt hg).1)
            have hown3 : OwS w3 w1.heap.size 45 6 v3 ((sqL vs (j + 1)).map Ev.cells) := by rw [HSU.out]; simpa [stE, w46] using hown3
            clear hg3 hown hr2 hb12
            go_wp2
            go_roundw
            case rel => exact ⟨j + 1, by omega, by go_num, by rw [HVU.out]; rfl, by rw [HOU.out]; simp, hown3, hb3⟩
            case measure => simp [intOf]; omega
      · obtain rfl : j = n := by omega
        obtain ⟨Aw, kw, rfl, -, -⟩ := hown.form
        rw [List.length_map]
        have hrw : EvS wr wr.heap.size Aw (sqL vs j) := hown.reads
        have HRW := Lib.hid hrw
        clear hown hrw hln
        obtain ⟨ob, hob⟩ : ∃ ob, sqOk vs j = ob := ⟨_, rfl⟩
        simp only [hob]
        have HOB := Lib.hid hob
        clear hob
        generalize (sqL vs j).length = ln at *
        cases ob
        · have HFF := Lib.hid (HFN.out HOB.out Aw kw wr HRW.out)
          go_wp2_with fail
          refine HFF.out.mono ?_
          rintro r w5 ⟨rfl, hb5⟩
          go_wp2
          go_ret
          exact ⟨rfl, HB1.out.trans ((hb.trans (hb5.mono hz)).mono hz1)⟩
        · have HFF := Lib.hid (HFY.out HOB.out Aw kw wr HRW.out)
          go_wp2_with fail
          refine HFF.out.mono ?_
          rintro r w5 ⟨⟨ov, wl, rfl, hac, ho⟩, hb5⟩
          have hwl := HONE.out wl hac
          subst hwl
          obtain ⟨g, cap, Ao, co, rfl, hq⟩ := out_one ho
          have HB5 := Lib.hid (HB1.out.trans ((hb.trans (hb5.mono hz)).mono hz1))
          have HQ := Lib.hid hq
          have hzz := HB5.out.size
          obtain ⟨q0, q1, -⟩ := hq w5 (Below.refl _ _)
          rw [show ((List.range j).map fun (i : Nat) => (i : Int)).length = j by simp] at q0
          have e1 : ((j : Int) != (j : Int)) = false := by simp
          clear hac ho hq hb5
          go_wp2
          clear q0 q1 e1
          go_loopw [11] (fun i wq => ∃ k : Nat, k ≤ j ∧ i = .int .i64 k ∧ Below w5.heap.size w5 wq) (fun i _ => j - (intOf i).toNat)
          case atStart => exact ⟨0, by omega, rfl, Below.refl _ _⟩
          case round =>
            obtain ⟨k, hk, rfl, hbk⟩ := hrel
            by_cases hlk : k < j
            · have hkj : (k : Int) < (j : Int) := by omega
              obtain ⟨q0, -, qi⟩ := HQ.out _ hbk
              rw [show ((List.range j).map fun (i : Nat) => (i : Int)).length = j by simp] at q0
              obtain ⟨bi, oi, x, rfl, -, hx, qx⟩ := IntS.at_ qi (k := k) (by simpa using hlk)
              obtain rfl : x = (k : Int) := by simpa [hlk] using hx.symm
              clear hx qi
              have e1 : ((k : Int) != (k : Int)) = false := by simp
              go_wp2
              go_roundw
              case rel => exact ⟨k + 1, by omega, by go_num, hbk⟩
              case measure => simp [intOf]; omega
            · obtain rfl : k = j := by omega
              go_wp2
              go_ret
              exact ⟨rfl, HB5.out.trans (hbk.mono hzz)⟩
end Go.Proofs.YtcgbnlhloopnfaaDoor
