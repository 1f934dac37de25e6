/- Walk of tegulalaw45's HistoryChanged: it answers true, whatever the script and the places. -/
import Derived.Test.YtldjodgpbnkleaaHAwake
import Derived.Test.YtldjodgpbnkleaaHRecord
import Derived.Test.YtldjodgpbnkleaaHPlain
import Derived.Test.YtldjodgpbnkleaaByte
import Derived.Test.YtldjodgpbnkleaaRefC
import Derived.Test.YtldjodgpbnkleaaStepAp
import Derived.IntWalk
import Derived.Deep.DeepCutAuto
import Derived.Deep.RegionHeld3
namespace Go.Proofs.Ytldjodgpbnkleaa
open Go.RowKit

theorem evS_one {w : World} {g : Nat} {e : Ev} {T : TypeId} (h : w.heap[g]? = some (.cells e.cells.toArray T)) : EvS w w.heap.size (some ⟨g, 0, none⟩) [e] := by
  refine ⟨by simp [Ev.cells], fun _ => ⟨g, 0, rfl, (Array.getElem?_eq_some_iff.1 h).1, fun i r hi j v hj => ?_⟩⟩
  match i, hi with
  | 0, hi =>
    simp at hi
    subst hi
    rw [cell_of_row _ _ _ _ _ _ h]
    simpa using hj

set_option maxHeartbeats 4000000 in
set_option maxRecDepth 100000 in
theorem historychanged_any (s : List ActH) (hok : ActsOk s) (A : Option Addr) (c n m : Nat) (hn : n < 256) (hm : m < 256) (w : World) (h : ActS w w.heap.size A s) :
    Calls Try.prog 13 #[.slice A s.length c, .int .u8 n, .int .u8 m] w fun e w' => e = .returned (.bool true) ∧ Below w.heap.size w w' := by
  have HA := Lib.hid (hawake_any w)
  by_cases hl : 40 < s.length
  · have hl' : (40 : Int) < (s.length : Int) := by omega
    clear h hok
    go_enter Try.func13, Try.ntmps13
    go_wp2_with fail
    refine HA.out.mono ?_
    rintro r w1 ⟨rfl, hb1⟩
    go_wp2
    go_ret
    exact ⟨rfl, hb1⟩
  have hl' : ¬ (40 : Int) < (s.length : Int) := by omega
  have HREC := Lib.hid (fun W (hW : Below w.heap.size w W) => record_any s A c w.heap.size W (h.below' hW (Nat.le_refl _)) hW.size hok (by omega))
  obtain ⟨st, hst⟩ := rec_parse s s.length
  have hbd := recSt_bd s s.length
  have hop := recSt_op s s.length
  have hwf : WfOp (recSt s s.length).1 := fun e he => by
    have := hop e he
    rw [Lit.wf_int_iff, IntKind.min_i64, IntKind.max_i64]
    omega
  unfold RecordPost at HREC
  generalize (recSt s s.length).1 = L at *
  have hL : L.length ≤ 40 := by omega
  clear h hok hop hbd
  by_cases h0 : L.length = 0
  · have h0' : ((L.length : Int) == 0) = true := by simpa using h0
    have hL0 : L = [] := List.eq_nil_of_length_eq_zero h0
    subst hL0
    clear h0 h0' hst hwf hL
    go_enter Try.func13, Try.ntmps13
    go_wp2_with fail
    refine HA.out.mono ?_
    rintro r w1 ⟨rfl, hb1⟩
    have hz1 := hb1.size
    go_wp2_with fail
    refine (HREC.out _ hb1).mono ?_
    rintro r w2 ⟨v2, u2, rfl, hown2, hres2, hb2⟩
    have hb12 := hb1.trans (hb2.mono hz1)
    obtain ⟨Al, cl, rfl, hlc, hcm⟩ := hown2.form
    rw [List.length_map]
    clear hown2 hres2
    go_wp2
    go_ret
    exact ⟨rfl, hb12⟩
  have h0' : ((L.length : Int) == 0) = false := by simpa using h0
  obtain ⟨i, hi⟩ : ∃ i, i = n % L.length := ⟨_, rfl⟩
  obtain ⟨k, hk⟩ : ∃ k, k = m % (L.length + 1) := ⟨_, rfl⟩
  have hiL : i < L.length := by rw [hi]; exact Nat.mod_lt _ (by omega)
  have hkL : k ≤ L.length := by have := Nat.mod_lt m (show 0 < L.length + 1 by omega); omega
  have hr1 : Int.tmod (n : Int) (L.length : Int) = (i : Int) := by rw [Int.tmod_eq_emod_of_nonneg (by omega), hi]; simp
  have hr2 : Int.tmod (m : Int) ((L.length : Int) + 1) = (k : Int) := by rw [Int.tmod_eq_emod_of_nonneg (by omega), hk]; simp
  have hE : L[i]? = some L[i] := List.getElem?_eq_getElem hiL
  generalize L[i] = E at hE
  have hv : validL L = true := by
    have h1 := parse_eq L
    rw [parseL_eq, hst] at h1
    cases hv : validL L
    · rw [hv] at h1; cases h1
    · rfl
  -- the changed history
  obtain ⟨C, hC⟩ : ∃ C, C = L.take k ++ [E] ++ L.drop k := ⟨_, rfl⟩
  have hCl : C.length = L.length + 1 := by rw [hC]; simp; omega
  have hCwf : WfOp C := fun e he => by
    rw [hC] at he
    simp only [List.mem_append, List.mem_singleton] at he
    rcases he with (he | rfl) | he
    · exact hwf e (List.mem_of_mem_take he)
    · exact hwf _ (List.mem_of_getElem? hE)
    · exact hwf e (List.mem_of_mem_drop he)
  have hbad : E.kind ≠ 3 → validL C = false := fun h3 => by rw [hC]; exact changed_law hv hE hkL h3
  have hpc : (parseL C).isSome = validL C := by rw [parse_eq C]; cases validL C <;> rfl
  have HV := Lib.hid (fun A c W (hE : EvS W W.heap.size A C) => by have := hvalid_any C A c W.heap.size W hE (Nat.le_refl _) (by omega) hCwf; rw [hpc, hCl] at this; exact this)
  have HRV := Lib.hid (fun A c B W (hE : EvS W B A C) (hB : B ≤ W.heap.size) => by have := refvalid_any C A c B W hE hB (by omega); rw [hCl] at this; exact this)
  have HC := Lib.hid hC
  have HCL := Lib.hid hCl
  have HE := Lib.hid hE
  clear hC hE hCwf hpc hwf hst hv hi hk h0 hCl
  generalize validL C = vb at *
  have kn := fun W => conv_u8 (n : Int) (by omega) (by omega) W
  have km := fun W => conv_u8 (m : Int) (by omega) (by omega) W
  go_enter Try.func13, Try.ntmps13
  go_wp2_with fail
  refine HA.out.mono ?_
  rintro r w1 ⟨rfl, hb1⟩
  have hz1 := hb1.size
  go_wp2_with fail
  refine (HREC.out _ hb1).mono ?_
  rintro r w2 ⟨v2, u2, rfl, hown2, hres2, hb2⟩
  have hb12 := hb1.trans (hb2.mono hz1)
  have hz2 := hb12.size
  obtain ⟨g, cl, rfl, -, hgl⟩ := hown2.pos (by rw [List.length_map]; omega)
  obtain ⟨Au, cu, rfl, -, -⟩ := hres2.form
  have hlc : L.length ≤ cl := by
    obtain ⟨A', c', hv', h1, -⟩ := hown2.form
    injection hv' with h2 h3 h4
    rw [List.length_map] at h1
    omega
  rw [List.length_map] at hown2 ⊢
  have HRD := Lib.hid hown2.reads
  have hrow : (L.map Ev.cells)[i]? = some E.cells := by rw [List.getElem?_map, HE.out]; rfl
  have c0 := hown2.cell hrow (j := 0) rfl
  have c1 := hown2.cell hrow (j := 1) rfl
  have c2 := hown2.cell hrow (j := 2) rfl
  have c3 := hown2.cell hrow (j := 3) rfl
  have c4 := hown2.cell hrow (j := 4) rfl
  have c5 := hown2.cell hrow (j := 5) rfl
  rw [Nat.add_zero] at c0
  clear hown2 hres2 hb1 hb2 HREC hrow
  generalize hLL : L.length = ln at *
  have HLN := Lib.hid hLL
  clear hLL
  go_wp2
  have hs1 : IntKind.i64.wrap ((ln : Int) + 1) = (ln : Int) + 1 := IntWalk.i64_in _ (by omega)
  have hs2 : ((ln : Int) + 1 == 0) = false := by simp; omega
  have hs3 : ¬ (ln : Int) + 1 = 0 := by omega
  go_quiet (fail)
  clear hs1 hs2 hs3 hr1 hr2 kn km
  have c0' : (w2.drewN nq).cell? ⟨g, i * 6, none⟩ = some (.int .i64 E.kind) := c0
  have c1' : (w2.drewN nq).cell? ⟨g, i * 6 + 1, none⟩ = some (.int .i64 E.op) := c1
  have c2' : (w2.drewN nq).cell? ⟨g, i * 6 + 2, none⟩ = some (.bool E.write) := c2
  have c3' : (w2.drewN nq).cell? ⟨g, i * 6 + 3, none⟩ = some (.int .i64 E.reg) := c3
  have c4' : (w2.drewN nq).cell? ⟨g, i * 6 + 4, none⟩ = some (.int .i64 E.val) := c4
  have c5' : (w2.drewN nq).cell? ⟨g, i * 6 + 5, none⟩ = some (.bool E.barrier) := c5
  have hgl' : g < (w2.drewN nq).heap.size := hgl
  have hrd : RdS (w2.drewN nq) (w2.drewN nq).heap.size 6 (some ⟨g, 0, none⟩) (L.map Ev.cells) := HRD.out
  have HRDQ := Lib.hid hrd
  have hbq := below_drewN hb12 nq
  have hzq := hbq.size
  clear c0 c1 c2 c3 c4 c5 hgl hrd HRD hb12 hz2
  generalize w2.drewN nq = wq at *
  have hiI : (i : Int) < (ln : Int) := by omega
  have hkc : (k : Int) ≤ (cl : Int) := by omega
  have hkI : (k : Int) ≤ (ln : Int) := by omega
  have hk0 : (0 : Int) ≤ (k : Int) := by omega
  have hi0 : (0 : Int) ≤ (i : Int) := by omega
  obtain ⟨ek, eo, ew, er, ev, eb⟩ := E
  simp only at c0' c1' c2' c3' c4' c5' hbad
  have hLk : (L.take k).length = k := by rw [List.length_take, HLN.out]; omega
  have hLd : (L.drop k).length = ln - k := by rw [List.length_drop, HLN.out]
  have HT : Hid (∀ W, Below wq.heap.size wq W → RdS W wq.heap.size 6 (some ⟨g, 0, none⟩) ((L.take k).map Ev.cells)) := fun W hW => by
    have := (HRDQ.out.below hW).take k
    rw [← List.map_take] at this
    exact this
  have HD : Hid (∀ W, Below wq.heap.size wq W → k < cl → RdS W wq.heap.size 6 (some ⟨g, k * 6, none⟩) ((L.drop k).map Ev.cells)) := fun W hW _ => by
    refine ⟨fun r hr => by obtain ⟨e, _, rfl⟩ := List.mem_map.1 hr; rfl, fun hn => ?_⟩
    obtain ⟨b, off, hA, hbl, hc⟩ := HRDQ.out.2 (by rw [List.length_map, List.length_drop] at hn; rw [List.length_map]; omega)
    cases hA
    refine ⟨g, k * 6, rfl, hgl', fun j r hr q u hq => ?_⟩
    rw [List.getElem?_map, List.getElem?_drop] at hr
    have h1 := hc (k + j) r (by rw [List.getElem?_map]; exact hr) q u hq
    rw [show k * 6 + j * 6 + q = 0 + (k + j) * 6 + q by rw [Nat.add_mul]; omega]
    exact (hW.cell (p := ⟨g, 0 + (k + j) * 6 + q, none⟩) hgl').trans h1
  have HZ : Hid (OwS (wq.alloc (.cells #[] 39)) wq.heap.size 39 6 (.slice (some ⟨wq.heap.size, 0, none⟩) 0 0) []) := OwS.lit (rows := []) (by simp) (heap_alloc_new wq _) rfl rfl (by decide) (Nat.le_refl _)
  have HZb : Hid (OwS ((wq.alloc (.cells #[] 39)).alloc (.cells #[.int .i64 ek, .int .i64 eo, .bool ew, .int .i64 er, .int .i64 ev, .bool eb] 39)) wq.heap.size 39 6 (.slice (some ⟨wq.heap.size, 0, none⟩) 0 0) []) := HZ.out.alloc _
  have HZc : Hid (OwS ((wq.alloc (.cells #[.int .i64 ek, .int .i64 eo, .bool ew, .int .i64 er, .int .i64 ev, .bool eb] 39)).alloc (.cells #[] 39)) wq.heap.size 39 6 (.slice (some ⟨wq.heap.size + 1, 0, none⟩) 0 0) []) := OwS.lit (rows := []) (by simp) (heap_alloc2_new _ _ _) rfl rfl (by decide) (by omega)
  have HLT := Lib.hid hLk
  have HLD := Lib.hid hLd
  have hbq0 : Below wq.heap.size wq wq := Below.refl _ _
  clear hLk hLd
  have HNL : Hid (∀ W A, ¬ k < cl → RdS W wq.heap.size 6 A ((L.drop k).map Ev.cells)) := fun W A h => by
    have : L.drop k = [] := List.eq_nil_of_length_eq_zero (by rw [HLD.out]; omega)
    rw [this]
    exact RdS.nil _ _ _ _
  by_cases hck : cl = k
  · have hck' : k = cl := hck.symm
    clear hck
    subst hck'
    go_wp2_with fail
    go_cut [11] (fun s11 wx => OwS wx wq.heap.size 39 6 s11 (C.map Ev.cells) ∧ Below wq.heap.size wq wx)
    case first =>
      go_region_held3 (fun w' => w'.cell? ⟨g, i * 6, none⟩ = some (.int .i64 ek) ∧ w'.cell? ⟨g, i * 6 + 1, none⟩ = some (.int .i64 eo) ∧ w'.cell? ⟨g, i * 6 + 2, none⟩ = some (.bool ew) ∧ w'.cell? ⟨g, i * 6 + 3, none⟩ = some (.int .i64 er) ∧ w'.cell? ⟨g, i * 6 + 4, none⟩ = some (.int .i64 ev) ∧ w'.cell? ⟨g, i * 6 + 5, none⟩ = some (.bool eb)) (first | go_keep | exact hs3.out | exact hs4.out | exact hs5.out)
        (first
          | ((refine step_apS (by rfl) (.tmp 37) (.tmp 40) _ (by rfl) elemEv (by rfl) HZ.out.drew wq.heap.size _ _ _ ((L.take k).map Ev.cells) (by rfl) (HT.out _ (hbq0.alloc (Nat.le_refl _) _).drew) (by rw [List.length_map, HLT.out]) OwS.oneEv (by simp [maxLen]; omega) (by simp; omega) (by simp; try omega) ?_; intro v3 w3 hown3 hg3 hv3; have hb3 : Below wq.heap.size wq w3 := ((hbq0.alloc (Nat.le_refl _) _).drew).grown hg3 (by simp; try omega) (fun k h => by injection h with h; (try simp only at h); omega); have hz3 := hb3.size; have hs3 := Lib.hid (show _ ∧ _ ∧ _ ∧ _ ∧ _ ∧ _ from ⟨(hb3.cell (p := ⟨g, i * 6, none⟩) hgl').trans c0', (hb3.cell (p := ⟨g, i * 6 + 1, none⟩) hgl').trans c1', (hb3.cell (p := ⟨g, i * 6 + 2, none⟩) hgl').trans c2', (hb3.cell (p := ⟨g, i * 6 + 3, none⟩) hgl').trans c3', (hb3.cell (p := ⟨g, i * 6 + 4, none⟩) hgl').trans c4', (hb3.cell (p := ⟨g, i * 6 + 5, none⟩) hgl').trans c5'⟩); clear hg3))
          | ((refine step_apS (by rfl) (.tmp 37) (.tmp 40) _ (by rfl) elemEv (by rfl) HZb.out.drew wq.heap.size _ _ _ ((L.take k).map Ev.cells) (by rfl) (HT.out _ ((hbq0.alloc (Nat.le_refl _) _).alloc (by simp) _).drew) (by rw [List.length_map, HLT.out]) OwS.oneEv (by simp [maxLen]; omega) (by simp; omega) (by simp; try omega) ?_; intro v3 w3 hown3 hg3 hv3; have hb3 : Below wq.heap.size wq w3 := (((hbq0.alloc (Nat.le_refl _) _).alloc (by simp) _).drew).grown hg3 (by simp; try omega) (fun k h => by injection h with h; (try simp only at h); omega); have hz3 := hb3.size; have hs3 := Lib.hid (show _ ∧ _ ∧ _ ∧ _ ∧ _ ∧ _ from ⟨(hb3.cell (p := ⟨g, i * 6, none⟩) hgl').trans c0', (hb3.cell (p := ⟨g, i * 6 + 1, none⟩) hgl').trans c1', (hb3.cell (p := ⟨g, i * 6 + 2, none⟩) hgl').trans c2', (hb3.cell (p := ⟨g, i * 6 + 3, none⟩) hgl').trans c3', (hb3.cell (p := ⟨g, i * 6 + 4, none⟩) hgl').trans c4', (hb3.cell (p := ⟨g, i * 6 + 5, none⟩) hgl').trans c5'⟩); have hbe3 := Lib.hid (evS_one (w := w3) (g := wq.heap.size + 1) (e := ⟨ek, eo, ew, er, ev, eb⟩) (T := 39) ((hg3.block (wq.heap.size + 1) (by simp) (by simp [Value.ownBlock])).trans (heap_alloc2_new _ _ _))); clear hg3))
          | ((refine step_apS (by rfl) (.tmp 37) (.tmp 40) _ (by rfl) elemEv (by rfl) HZc.out.drew wq.heap.size _ _ _ ((L.take k).map Ev.cells) (by rfl) (HT.out _ ((hbq0.alloc (Nat.le_refl _) _).alloc (by simp) _).drew) (by rw [List.length_map, HLT.out]) OwS.oneEv (by simp [maxLen]; omega) (by simp; omega) (by simp; try omega) ?_; intro v3 w3 hown3 hg3 hv3; have hb3 : Below wq.heap.size wq w3 := (((hbq0.alloc (Nat.le_refl _) _).alloc (by simp) _).drew).grown hg3 (by simp; try omega) (fun k h => by injection h with h; (try simp only at h); omega); have hz3 := hb3.size; have hs3 := Lib.hid (show _ ∧ _ ∧ _ ∧ _ ∧ _ ∧ _ from ⟨(hb3.cell (p := ⟨g, i * 6, none⟩) hgl').trans c0', (hb3.cell (p := ⟨g, i * 6 + 1, none⟩) hgl').trans c1', (hb3.cell (p := ⟨g, i * 6 + 2, none⟩) hgl').trans c2', (hb3.cell (p := ⟨g, i * 6 + 3, none⟩) hgl').trans c3', (hb3.cell (p := ⟨g, i * 6 + 4, none⟩) hgl').trans c4', (hb3.cell (p := ⟨g, i * 6 + 5, none⟩) hgl').trans c5'⟩); have hbe3 := Lib.hid (evS_one (w := w3) (g := wq.heap.size) (e := ⟨ek, eo, ew, er, ev, eb⟩) (T := 39) ((hg3.block wq.heap.size (by simp; omega) (by simp [Value.ownBlock])).trans (heap_alloc2_old _ _ _))); clear hg3))
          | ((refine step_ap1 (by rfl) (.tmp 41) (.tmp 46) _ (by rfl) elemEv (by rfl) hown3 (Ev.cells ⟨ek, eo, ew, er, ev, eb⟩) _ (by rfl) w3.heap.size (by rfl) (by rfl) (Ev.one _) (by simp [maxLen]; omega) (by simp; omega) hz3 ?_; intro v4 w4 hown4 hg4 hv4; have hb4 : Below wq.heap.size wq w4 := (hb3.alloc hz3 _).grown hg4 (by simp; omega) (fun k h => (hown3.lt h).1); have hz4 := hb4.size; have hs4 := Lib.hid (show _ ∧ _ ∧ _ ∧ _ ∧ _ ∧ _ from ⟨(hb4.cell (p := ⟨g, i * 6, none⟩) hgl').trans c0', (hb4.cell (p := ⟨g, i * 6 + 1, none⟩) hgl').trans c1', (hb4.cell (p := ⟨g, i * 6 + 2, none⟩) hgl').trans c2', (hb4.cell (p := ⟨g, i * 6 + 3, none⟩) hgl').trans c3', (hb4.cell (p := ⟨g, i * 6 + 4, none⟩) hgl').trans c4', (hb4.cell (p := ⟨g, i * 6 + 5, none⟩) hgl').trans c5'⟩); clear hg4))
          | ((refine step_apS (by rfl) (.tmp 41) (.tmp 46) _ (by rfl) elemEv (by rfl) hown3 w3.heap.size _ _ _ ([(⟨ek, eo, ew, er, ev, eb⟩ : Ev)].map Ev.cells) (by rfl) hbe3.out (by rfl) OwS.oneEv (by simp [maxLen]; omega) (by simp; omega) hz3 ?_; intro v4 w4 hown4 hg4 hv4; have hb4 : Below wq.heap.size wq w4 := hb3.grown hg4 hz3 (fun k h => (hown3.lt h).1); have hz4 := hb4.size; have hs4 := Lib.hid (show _ ∧ _ ∧ _ ∧ _ ∧ _ ∧ _ from ⟨(hb4.cell (p := ⟨g, i * 6, none⟩) hgl').trans c0', (hb4.cell (p := ⟨g, i * 6 + 1, none⟩) hgl').trans c1', (hb4.cell (p := ⟨g, i * 6 + 2, none⟩) hgl').trans c2', (hb4.cell (p := ⟨g, i * 6 + 3, none⟩) hgl').trans c3', (hb4.cell (p := ⟨g, i * 6 + 4, none⟩) hgl').trans c4', (hb4.cell (p := ⟨g, i * 6 + 5, none⟩) hgl').trans c5'⟩); clear hg4))
          | ((refine step_apS (by rfl) (.tmp 47) (.tmp 50) _ (by rfl) elemEv (by rfl) hown4 wq.heap.size _ _ _ ((L.drop k).map Ev.cells) (by rfl) (by first | exact HD.out _ hb4 (by omega) | exact HNL.out _ _ (by omega)) (by rw [List.length_map, HLD.out]; first | done | omega) OwS.oneEv (by have := HLN.out; simp [maxLen]; omega) (by have := HLN.out; simp; omega) hz4 ?_; intro v5 w5 hown5 hg5 hv5; have hb5 : Below wq.heap.size wq w5 := hb4.grown hg5 hz4 (fun k h => (hown4.lt h).1); have hs5 := Lib.hid (show _ ∧ _ ∧ _ ∧ _ ∧ _ ∧ _ from ⟨(hb5.cell (p := ⟨g, i * 6, none⟩) hgl').trans c0', (hb5.cell (p := ⟨g, i * 6 + 1, none⟩) hgl').trans c1', (hb5.cell (p := ⟨g, i * 6 + 2, none⟩) hgl').trans c2', (hb5.cell (p := ⟨g, i * 6 + 3, none⟩) hgl').trans c3', (hb5.cell (p := ⟨g, i * 6 + 4, none⟩) hgl').trans c4', (hb5.cell (p := ⟨g, i * 6 + 5, none⟩) hgl').trans c5'⟩); clear hg5))
          | fail)
      all_goals
        go_wp2_with fail
        go_meet
        exact ⟨by rw [HC.out]; simpa using hown5, hb5⟩
    case rest =>
      obtain ⟨hown, hbx⟩ := hcut
      have hb1x := hbq.trans (hbx.mono hzq)
      have hzx := hb1x.size
      obtain ⟨A5, c5, rfl, -, -⟩ := hown.form
      rw [List.length_map, HCL.out]
      have hr5 : EvS wc wc.heap.size A5 C := hown.reads
      have H5 := Lib.hid hr5
      have hbx2 := Lib.hid hbx
      clear hown hr5 c1' c2' c3' c4' c5' hbx
      go_wp2_with fail
      refine (HV.out _ _ _ H5.out).mono ?_
      rintro q w6 ⟨rfl, hb6⟩
      have d0 : w6.cell? ⟨g, i * 6, none⟩ = some (.int .i64 ek) := (hb6.cell (p := ⟨g, i * 6, none⟩) (Nat.lt_of_lt_of_le hgl' hbx2.out.size)).trans ((hbx2.out.cell (p := ⟨g, i * 6, none⟩) hgl').trans c0')
      have hgl6 : g < w6.heap.size := Nat.lt_of_lt_of_le hgl' (Nat.le_trans hbx2.out.size hb6.size)
      have hr6 : EvS w6 w6.heap.size A5 C := (H5.out.below hb6).more hb6.size
      have H6 := Lib.hid hr6
      have hb16 := hb1x.trans (hb6.mono hzx)
      have hz6 := hb16.size
      clear hr6 hb6 c0' hb1x HV
      by_cases h3 : ek = 3
      · have h3' : (ek != 3) = false := by simp [h3]
        clear h3 hbad
        go_wp2_with fail
        refine (HRV.out _ _ _ _ H6.out (Nat.le_refl _)).mono ?_
        rintro q w7 ⟨rfl, hb7⟩
        have hb17 := hb16.trans (hb7.mono hz6)
        go_wp2
        go_ret
        exact ⟨ret_bool (by simp), hb17⟩
      · have h3' : (ek != 3) = true := by simpa using h3
        obtain rfl := hbad h3
        clear h3 hbad
        go_wp2_with fail
        refine (HRV.out _ _ _ _ H6.out (Nat.le_refl _)).mono ?_
        rintro q w7 ⟨rfl, hb7⟩
        have hb17 := hb16.trans (hb7.mono hz6)
        go_wp2
        go_ret
        exact ⟨rfl, hb17⟩
  · have hck2 : ¬ k = cl := fun h => hck h.symm
    have hcl : k < cl := by omega
    have hcI : (k : Int) < (cl : Int) := by omega
    go_wp2_with fail
    go_cut [11] (fun s11 wx => OwS wx wq.heap.size 39 6 s11 (C.map Ev.cells) ∧ Below wq.heap.size wq wx)
    case first =>
      go_region_held3 (fun w' => w'.cell? ⟨g, i * 6, none⟩ = some (.int .i64 ek) ∧ w'.cell? ⟨g, i * 6 + 1, none⟩ = some (.int .i64 eo) ∧ w'.cell? ⟨g, i * 6 + 2, none⟩ = some (.bool ew) ∧ w'.cell? ⟨g, i * 6 + 3, none⟩ = some (.int .i64 er) ∧ w'.cell? ⟨g, i * 6 + 4, none⟩ = some (.int .i64 ev) ∧ w'.cell? ⟨g, i * 6 + 5, none⟩ = some (.bool eb)) (first | go_keep | exact hs3.out | exact hs4.out | exact hs5.out)
        (first
          | ((refine step_apS (by rfl) (.tmp 37) (.tmp 40) _ (by rfl) elemEv (by rfl) HZ.out.drew wq.heap.size _ _ _ ((L.take k).map Ev.cells) (by rfl) (HT.out _ (hbq0.alloc (Nat.le_refl _) _).drew) (by rw [List.length_map, HLT.out]) OwS.oneEv (by simp [maxLen]; omega) (by simp; omega) (by simp; try omega) ?_; intro v3 w3 hown3 hg3 hv3; have hb3 : Below wq.heap.size wq w3 := ((hbq0.alloc (Nat.le_refl _) _).drew).grown hg3 (by simp; try omega) (fun k h => by injection h with h; (try simp only at h); omega); have hz3 := hb3.size; have hs3 := Lib.hid (show _ ∧ _ ∧ _ ∧ _ ∧ _ ∧ _ from ⟨(hb3.cell (p := ⟨g, i * 6, none⟩) hgl').trans c0', (hb3.cell (p := ⟨g, i * 6 + 1, none⟩) hgl').trans c1', (hb3.cell (p := ⟨g, i * 6 + 2, none⟩) hgl').trans c2', (hb3.cell (p := ⟨g, i * 6 + 3, none⟩) hgl').trans c3', (hb3.cell (p := ⟨g, i * 6 + 4, none⟩) hgl').trans c4', (hb3.cell (p := ⟨g, i * 6 + 5, none⟩) hgl').trans c5'⟩); clear hg3))
          | ((refine step_apS (by rfl) (.tmp 37) (.tmp 40) _ (by rfl) elemEv (by rfl) HZb.out.drew wq.heap.size _ _ _ ((L.take k).map Ev.cells) (by rfl) (HT.out _ ((hbq0.alloc (Nat.le_refl _) _).alloc (by simp) _).drew) (by rw [List.length_map, HLT.out]) OwS.oneEv (by simp [maxLen]; omega) (by simp; omega) (by simp; try omega) ?_; intro v3 w3 hown3 hg3 hv3; have hb3 : Below wq.heap.size wq w3 := (((hbq0.alloc (Nat.le_refl _) _).alloc (by simp) _).drew).grown hg3 (by simp; try omega) (fun k h => by injection h with h; (try simp only at h); omega); have hz3 := hb3.size; have hs3 := Lib.hid (show _ ∧ _ ∧ _ ∧ _ ∧ _ ∧ _ from ⟨(hb3.cell (p := ⟨g, i * 6, none⟩) hgl').trans c0', (hb3.cell (p := ⟨g, i * 6 + 1, none⟩) hgl').trans c1', (hb3.cell (p := ⟨g, i * 6 + 2, none⟩) hgl').trans c2', (hb3.cell (p := ⟨g, i * 6 + 3, none⟩) hgl').trans c3', (hb3.cell (p := ⟨g, i * 6 + 4, none⟩) hgl').trans c4', (hb3.cell (p := ⟨g, i * 6 + 5, none⟩) hgl').trans c5'⟩); have hbe3 := Lib.hid (evS_one (w := w3) (g := wq.heap.size + 1) (e := ⟨ek, eo, ew, er, ev, eb⟩) (T := 39) ((hg3.block (wq.heap.size + 1) (by simp) (by simp [Value.ownBlock])).trans (heap_alloc2_new _ _ _))); clear hg3))
          | ((refine step_apS (by rfl) (.tmp 37) (.tmp 40) _ (by rfl) elemEv (by rfl) HZc.out.drew wq.heap.size _ _ _ ((L.take k).map Ev.cells) (by rfl) (HT.out _ ((hbq0.alloc (Nat.le_refl _) _).alloc (by simp) _).drew) (by rw [List.length_map, HLT.out]) OwS.oneEv (by simp [maxLen]; omega) (by simp; omega) (by simp; try omega) ?_; intro v3 w3 hown3 hg3 hv3; have hb3 : Below wq.heap.size wq w3 := (((hbq0.alloc (Nat.le_refl _) _).alloc (by simp) _).drew).grown hg3 (by simp; try omega) (fun k h => by injection h with h; (try simp only at h); omega); have hz3 := hb3.size; have hs3 := Lib.hid (show _ ∧ _ ∧ _ ∧ _ ∧ _ ∧ _ from ⟨(hb3.cell (p := ⟨g, i * 6, none⟩) hgl').trans c0', (hb3.cell (p := ⟨g, i * 6 + 1, none⟩) hgl').trans c1', (hb3.cell (p := ⟨g, i * 6 + 2, none⟩) hgl').trans c2', (hb3.cell (p := ⟨g, i * 6 + 3, none⟩) hgl').trans c3', (hb3.cell (p := ⟨g, i * 6 + 4, none⟩) hgl').trans c4', (hb3.cell (p := ⟨g, i * 6 + 5, none⟩) hgl').trans c5'⟩); have hbe3 := Lib.hid (evS_one (w := w3) (g := wq.heap.size) (e := ⟨ek, eo, ew, er, ev, eb⟩) (T := 39) ((hg3.block wq.heap.size (by simp; omega) (by simp [Value.ownBlock])).trans (heap_alloc2_old _ _ _))); clear hg3))
          | ((refine step_ap1 (by rfl) (.tmp 41) (.tmp 46) _ (by rfl) elemEv (by rfl) hown3 (Ev.cells ⟨ek, eo, ew, er, ev, eb⟩) _ (by rfl) w3.heap.size (by rfl) (by rfl) (Ev.one _) (by simp [maxLen]; omega) (by simp; omega) hz3 ?_; intro v4 w4 hown4 hg4 hv4; have hb4 : Below wq.heap.size wq w4 := (hb3.alloc hz3 _).grown hg4 (by simp; omega) (fun k h => (hown3.lt h).1); have hz4 := hb4.size; have hs4 := Lib.hid (show _ ∧ _ ∧ _ ∧ _ ∧ _ ∧ _ from ⟨(hb4.cell (p := ⟨g, i * 6, none⟩) hgl').trans c0', (hb4.cell (p := ⟨g, i * 6 + 1, none⟩) hgl').trans c1', (hb4.cell (p := ⟨g, i * 6 + 2, none⟩) hgl').trans c2', (hb4.cell (p := ⟨g, i * 6 + 3, none⟩) hgl').trans c3', (hb4.cell (p := ⟨g, i * 6 + 4, none⟩) hgl').trans c4', (hb4.cell (p := ⟨g, i * 6 + 5, none⟩) hgl').trans c5'⟩); clear hg4))
          | ((refine step_apS (by rfl) (.tmp 41) (.tmp 46) _ (by rfl) elemEv (by rfl) hown3 w3.heap.size _ _ _ ([(⟨ek, eo, ew, er, ev, eb⟩ : Ev)].map Ev.cells) (by rfl) hbe3.out (by rfl) OwS.oneEv (by simp [maxLen]; omega) (by simp; omega) hz3 ?_; intro v4 w4 hown4 hg4 hv4; have hb4 : Below wq.heap.size wq w4 := hb3.grown hg4 hz3 (fun k h => (hown3.lt h).1); have hz4 := hb4.size; have hs4 := Lib.hid (show _ ∧ _ ∧ _ ∧ _ ∧ _ ∧ _ from ⟨(hb4.cell (p := ⟨g, i * 6, none⟩) hgl').trans c0', (hb4.cell (p := ⟨g, i * 6 + 1, none⟩) hgl').trans c1', (hb4.cell (p := ⟨g, i * 6 + 2, none⟩) hgl').trans c2', (hb4.cell (p := ⟨g, i * 6 + 3, none⟩) hgl').trans c3', (hb4.cell (p := ⟨g, i * 6 + 4, none⟩) hgl').trans c4', (hb4.cell (p := ⟨g, i * 6 + 5, none⟩) hgl').trans c5'⟩); clear hg4))
          | ((refine step_apS (by rfl) (.tmp 47) (.tmp 50) _ (by rfl) elemEv (by rfl) hown4 wq.heap.size _ _ _ ((L.drop k).map Ev.cells) (by rfl) (by first | exact HD.out _ hb4 (by omega) | exact HNL.out _ _ (by omega)) (by rw [List.length_map, HLD.out]; first | done | omega) OwS.oneEv (by have := HLN.out; simp [maxLen]; omega) (by have := HLN.out; simp; omega) hz4 ?_; intro v5 w5 hown5 hg5 hv5; have hb5 : Below wq.heap.size wq w5 := hb4.grown hg5 hz4 (fun k h => (hown4.lt h).1); have hs5 := Lib.hid (show _ ∧ _ ∧ _ ∧ _ ∧ _ ∧ _ from ⟨(hb5.cell (p := ⟨g, i * 6, none⟩) hgl').trans c0', (hb5.cell (p := ⟨g, i * 6 + 1, none⟩) hgl').trans c1', (hb5.cell (p := ⟨g, i * 6 + 2, none⟩) hgl').trans c2', (hb5.cell (p := ⟨g, i * 6 + 3, none⟩) hgl').trans c3', (hb5.cell (p := ⟨g, i * 6 + 4, none⟩) hgl').trans c4', (hb5.cell (p := ⟨g, i * 6 + 5, none⟩) hgl').trans c5'⟩); clear hg5))
          | fail)
      all_goals
        go_wp2_with fail
        go_meet
        exact ⟨by rw [HC.out]; simpa using hown5, hb5⟩
    case rest =>
      obtain ⟨hown, hbx⟩ := hcut
      have hb1x := hbq.trans (hbx.mono hzq)
      have hzx := hb1x.size
      obtain ⟨A5, c5, rfl, -, -⟩ := hown.form
      rw [List.length_map, HCL.out]
      have hr5 : EvS wc wc.heap.size A5 C := hown.reads
      have H5 := Lib.hid hr5
      have hbx2 := Lib.hid hbx
      clear hown hr5 c1' c2' c3' c4' c5' hbx
      go_wp2_with fail
      refine (HV.out _ _ _ H5.out).mono ?_
      rintro q w6 ⟨rfl, hb6⟩
      have d0 : w6.cell? ⟨g, i * 6, none⟩ = some (.int .i64 ek) := (hb6.cell (p := ⟨g, i * 6, none⟩) (Nat.lt_of_lt_of_le hgl' hbx2.out.size)).trans ((hbx2.out.cell (p := ⟨g, i * 6, none⟩) hgl').trans c0')
      have hgl6 : g < w6.heap.size := Nat.lt_of_lt_of_le hgl' (Nat.le_trans hbx2.out.size hb6.size)
      have hr6 : EvS w6 w6.heap.size A5 C := (H5.out.below hb6).more hb6.size
      have H6 := Lib.hid hr6
      have hb16 := hb1x.trans (hb6.mono hzx)
      have hz6 := hb16.size
      clear hr6 hb6 c0' hb1x HV
      by_cases h3 : ek = 3
      · have h3' : (ek != 3) = false := by simp [h3]
        clear h3 hbad
        go_wp2_with fail
        refine (HRV.out _ _ _ _ H6.out (Nat.le_refl _)).mono ?_
        rintro q w7 ⟨rfl, hb7⟩
        have hb17 := hb16.trans (hb7.mono hz6)
        go_wp2
        go_ret
        exact ⟨ret_bool (by simp), hb17⟩
      · have h3' : (ek != 3) = true := by simpa using h3
        obtain rfl := hbad h3
        clear h3 hbad
        go_wp2_with fail
        refine (HRV.out _ _ _ _ H6.out (Nat.le_refl _)).mono ?_
        rintro q w7 ⟨rfl, hb7⟩
        have hb17 := hb16.trans (hb7.mono hz6)
        go_wp2
        go_ret
        exact ⟨rfl, hb17⟩
end Go.Proofs.Ytldjodgpbnkleaa
