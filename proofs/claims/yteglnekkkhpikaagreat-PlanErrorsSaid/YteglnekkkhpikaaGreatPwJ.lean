/- Walk of plan.Rebuild. -/
import Derived.Test.YteglnekkkhpikaaGreatPwI
namespace Go.Proofs.YteglnekkkhpikaaGreat
open Go.RowKit

/-- plan's Rebuild -/
def planL (L : LayD) (ms : List Mv) (d : Int) (dead : List Bool) : List Tsk × Int := if (validM L ms && decide (dead.length = L.disks)) = false then ([], 1) else
  if (decide (0 ≤ d) && decide (d < (L.disks : Int))) = false then ([], 2) else if dead[d.toNat]?.getD false = false then ([], 8) else planG L dead (onL L ms d) ms []
/-- .. is the reference's -/
theorem planL_reb {L : LayD} (ok : LayOk L) {ms : List Mv} {d : Int} {dead : List Bool} (h : MvOk L ms) (hdl : dead.length = L.disks) : planL L ms d dead = rebL L ms d dead := by
  unfold planL rebL
  rw [if_neg (by rw [ok_valid h, hdl]; simp)]
  by_cases h1 : (decide (0 ≤ d) && decide (d < (L.disks : Int))) = false
  · rw [if_pos h1, if_pos h1]
  · rw [if_neg h1, if_neg h1]
    obtain ⟨e, rfl⟩ : ∃ e : Nat, d = (e : Int) := ⟨d.toNat, by simp at h1; omega⟩
    rw [plan_start ok h e]
theorem BelX.grown {X : Nat} {w w' : World} (h : BelX w.heap.size X w w') : w.grownBy w' (some X) := ⟨h.os, h.tape, h.output, h.size, fun k hk hne => h.block k hk (by rintro rfl; exact hne rfl)⟩
theorem TskO.keptX {w w' : World} {B X : Nat} {v : Value} {ts : List Tsk} {L : LayD} {A An Ad : Option Addr} {c nn cn cd : Nat} (h : TskO w B v ts) (hg : w.grownBy w' (some X)) (hX : PlnB w X L A c An nn cn Ad cd) : TskO w' B v ts := by
  obtain ⟨vs, h1, h2, h3⟩ := h
  exact ⟨vs, h1, h2.kept hg (.inr (h2.blk_ne hX (by decide))), fun i p t hp ht => (h3 i p t hp ht).kept hg (.inr ((h3 i p t hp ht).blk_ne hX (by decide)))⟩
theorem wf_mvs {L : LayD} (hx : LayX L) {ms : List Mv} (h : MvOk L ms) : ∀ m ∈ ms, PlWf m.to := fun m hm => toOk_wf hx (h.to m hm)
theorem planG_cons {L : LayD} {dead : List Bool} {g p : Nat} {r : List (Nat × Nat)} {now : List Mv} {out : List Tsk} : planG L dead ((g, p) :: r) now out = match fromL L (helpL L now g dead) g with
    | none => ([], 12)
    | some f => match chooseL L now g dead with
      | none => ([], 11)
      | some t => planG L dead r (withM now ⟨g, p, t⟩) (out ++ [⟨g, p, f, t⟩]) := rfl
theorem on_len {L : LayD} (ok : LayOk L) {ms : List Mv} (h : MvOk L ms) (d : Nat) : (onL L ms (d : Int)).length ≤ L.G := by
  have h1 : ((onL L ms (d : Int)).map Prod.fst).Nodup := by
    show List.Pairwise (· ≠ ·) _
    rw [List.pairwise_map]
    exact (onL_inc ok h d).imp fun {a b} hab => by omega
  have := sub_len (l2 := List.range L.G) h1 List.nodup_range fun x hx => by
    obtain ⟨⟨g, i⟩, h2, rfl⟩ := List.mem_map.1 hx
    exact List.mem_range.2 (onL_mem.1 h2).1
  simpa using this
/-- what the loop of Rebuild keeps -/
def PRb (L : LayD) (n0 : Nat) (dead : List Bool) (ol : List (Nat × Nat)) (res : List Tsk × Int) (B X : Nat) (A : Option Addr) (c : Nat) (Ad : Option Addr) (cd : Nat) (A11 : Option Addr) (c11 : Nat) (w0 : World) (s13 s62 : Value) (wr : World) : Prop :=
  ∃ (i : Nat) (now : List Mv) (out : List Tsk) (An : Option Addr) (cn : Nat), i ≤ ol.length ∧ s62 = .int .i64 i ∧ PlnB wr X L A c An now.length cn Ad cd ∧ OwS wr B 62 4 (.slice An now.length cn) (now.map Mv.cells) ∧ MvOk L now ∧ now.length ≤ n0 + i ∧
    TskO wr B s13 out ∧ out.length = i ∧ planG L dead (ol.drop i) now out = res ∧ OwS wr B 78 2 (.slice A11 ol.length c11) (ol.map memN) ∧ Below B w0 wr
set_option maxHeartbeats 8000000 in
set_option maxRecDepth 100000 in
theorem prebuild_any {L : LayD} {A Am Ad : Option Addr} {B c cm cd : Nat} {ms : List Mv} {dead : List Bool} (d : Int) (w : World) (hx : LayX L) (hv : GsV w B A L.gs) (hM : MvS w B Am ms) (hwf : ∀ m ∈ ms, PlWf m.to) (hD : BoolS w B Ad dead) (hB : B ≤ w.heap.size) (hlen : ms.length ≤ 1000) (hdl : dead.length ≤ 1000) :
    Calls Tryz.prog 12 #[layAgg L A c, .slice Am ms.length cm, .int .i64 d, .slice Ad dead.length cd] w fun r w' => RebP (planL L ms d dead) w.heap.size w' r ∧ Below w.heap.size w w' := by
  have HV := Lib.hid hv
  have HM := Lib.hid hM
  have HD := Lib.hid hD
  have HX := Lib.hid hx
  have HWF := Lib.hid hwf
  have hd60 := hx.ok.disks
  have hva := fun (W : World) hv hM hB => svalid_any (L := L) (A := A) (Am := Am) (B := B) (c := c) (cm := cm) (ms := ms) W hx hv hM hwf hB (by omega)
  have hod := fun (W : World) hv hM hB => sOnDisk_any (L := L) (A := A) (Am := Am) (B := B) (c := c) (cm := cm) (ms := ms) d W hx hv hM hwf hB (by omega)
  have HCL := Lib.hid (fun W hM hB => clone_mv (A := Am) (B := B) (c := cm) (ms := ms) W hM hB (by omega))
  have HPV : Hid (validM L ms = true → MvOk L ms) := fun h => valid_ok h
  unfold layAgg at *
  have HVA := Lib.hid hva
  have HOD := Lib.hid hod
  have HRB : Hid (∀ res, planL L ms d dead = res → (if (validM L ms && decide (dead.length = L.disks)) = false then ([], 1) else if (decide (0 ≤ d) && decide (d < (L.disks : Int))) = false then ([], 2) else if dead[d.toNat]?.getD false = false then ([], 8) else planG L dead (onL L ms d) ms []) = res) := fun res h => h
  obtain ⟨res, hres⟩ : ∃ res, planL L ms d dead = res := ⟨_, rfl⟩
  rw [hres]
  have hrb := HRB.out res hres
  obtain ⟨vb, hvb⟩ : ∃ vb, validM L ms = vb := ⟨_, rfl⟩
  have HVB := Lib.hid hvb
  rw [hvb] at HVA HPV hrb
  obtain ⟨nd, hnd⟩ : ∃ nd, dead.length = nd := ⟨_, rfl⟩
  have HND := Lib.hid hnd
  rw [hnd] at hrb hdl ⊢
  have HDEF : Hid (∀ w' B v, TskO w' B v res.1 → RebP res B w' (.returned (.tuple #[v, .int .i64 res.2]))) := fun w' B v h => ⟨v, rfl, h⟩
  have HDEQ : Hid (∀ (w' : World) (B : Nat) (e : Int), res = ([], e) → RebP res B w' (.returned (.tuple #[.slice none 0 0, .int .i64 e]))) := fun w' B e h => ⟨.slice none 0 0, by rw [h], by rw [h]; exact ⟨[], TskW.nil _ _⟩⟩
  generalize RebP res = RP at *
  clear hv hM hD hva hod hres HRB hvb hnd hwf
  go_enter Tryz.func12, Tryz.ntmps12
  go_upto_region 1 with (fail)
  generalize hW0 : w.alloc _ = w0
  have hl0 : LayB w0 w.heap.size L A c := by rw [← hW0]; exact LayB.made w L A c
  have hb0 : Below w.heap.size w w0 := by rw [← hW0]; exact below_laid
  have HL0 := Lib.hid hl0
  have HB0 := Lib.hid hb0
  obtain ⟨l0, l1, l2, l3⟩ := hl0.cells
  clear hW0 hl0 hb0
  go_wp2_with fail
  refine (HVA.out w0 (HV.out.below HB0.out hB) (HM.out.below' HB0.out hB) (Nat.le_trans hB HB0.out.size)).mono ?_
  rintro r w1 ⟨rfl, hb1⟩
  have HB1 := Lib.hid (HB0.out.trans (hb1.mono HB0.out.size))
  have HL1 := Lib.hid (HL0.out.below hb1 HL0.out.lt)
  clear hb1 HVA l0 l1 l2 l3 HL0 HB0
  cases vb
  case false =>
    rw [if_pos (by simp)] at hrb
    have HRR := Lib.hid (HDEQ.out w1 w.heap.size 1 hrb.symm)
    clear hrb
    go_wp2
    go_ret2
    exact ⟨HRR.out, HB1.out⟩
  case true =>
    obtain ⟨l0, l1, l2, l3⟩ := HL1.out.cells
    by_cases hnd : nd = L.disks
    case neg =>
      rw [if_pos (by simp [hnd])] at hrb
      have f1 : (nd == L.disks) = false := by rw [beq_eq_false_iff_ne]; exact hnd
      have f2 : (nd != L.disks) = true := by rw [bne, f1]; rfl
      have f3 : ((nd : Int) == (L.disks : Int)) = false := by rw [beq_eq_false_iff_ne]; omega
      have f4 : ((nd : Int) != (L.disks : Int)) = true := by rw [bne, f3]; rfl
      have f5 : ¬ (nd : Int) = (L.disks : Int) := by omega
      have HRR := Lib.hid (HDEQ.out w1 w.heap.size 1 hrb.symm)
      clear hrb
      go_wp2
      go_ret2
      exact ⟨HRR.out, HB1.out⟩
    case pos =>
      subst hnd
      rw [if_neg (by simp)] at hrb
      by_cases h1 : d < 0
      case pos =>
        have f0 : (decide (0 ≤ d) && decide (d < (L.disks : Int))) = false := by rw [Bool.and_eq_false_iff]; left; rw [decide_eq_false_iff_not]; omega
        rw [if_pos f0] at hrb
        have f1 : decide (d < 0) = true := by rw [decide_eq_true_iff]; exact h1
        have HRR := Lib.hid (HDEQ.out w1 w.heap.size 2 hrb.symm)
        clear f0 h1 hrb
        go_wp2
        go_ret2
        exact ⟨HRR.out, HB1.out⟩
      case neg =>
        have f1 : decide (d < 0) = false := by rw [decide_eq_false_iff_not]; exact h1
        by_cases h2 : d < (L.disks : Int)
        case neg =>
          have f0 : (decide (0 ≤ d) && decide (d < (L.disks : Int))) = false := by rw [Bool.and_eq_false_iff]; right; rw [decide_eq_false_iff_not]; exact h2
          rw [if_pos f0] at hrb
          have f2 : decide ((L.disks : Int) ≤ d) = true := by rw [decide_eq_true_iff]; omega
          have HRR := Lib.hid (HDEQ.out w1 w.heap.size 2 hrb.symm)
          clear f0 h1 h2 hrb
          go_wp2
          go_ret2
          exact ⟨HRR.out, HB1.out⟩
        case pos =>
          have f0 : (decide (0 ≤ d) && decide (d < (L.disks : Int))) = true := by rw [Bool.and_eq_true]; exact ⟨by rw [decide_eq_true_iff]; omega, by rw [decide_eq_true_iff]; exact h2⟩
          have HF0 := Lib.hid f0
          rw [if_neg (by rw [f0]; decide)] at hrb
          obtain ⟨e, rfl⟩ : ∃ e : Nat, d = (e : Int) := ⟨d.toNat, by omega⟩
          have hed : e < L.disks := by omega
          rw [Int.toNat_natCast] at hrb
          have f1' : decide ((e : Int) < 0) = false := by rw [decide_eq_false_iff_not]; omega
          have f2 : decide (L.disks ≤ e) = false := by rw [decide_eq_false_iff_not]; omega
          have f3 : decide ((L.disks : Int) ≤ (e : Int)) = false := by rw [decide_eq_false_iff_not]; omega
          have heI : (e : Int) < (L.disks : Int) := h2
          obtain ⟨bv, hbv⟩ := at_some (l := dead) (i := e) (by rw [HND.out]; exact hed)
          have hbg : dead[e]?.getD false = bv := by rw [hbv]; rfl
          rw [hbg] at hrb
          obtain ⟨bd, od, hAd, -, dc⟩ := BoolS.at_ (RdS.below' HD.out HB1.out hB) hbv
          subst hAd
          clear f0 h1 f1 hbv hbg
          cases bv
          case false =>
            rw [if_pos rfl] at hrb
            have HRR := Lib.hid (HDEQ.out w1 w.heap.size 8 hrb.symm)
            clear hrb
            go_wp2
            go_ret2
            exact ⟨HRR.out, HB1.out⟩
          case true =>
            rw [if_neg (by decide)] at hrb
            have HRES := Lib.hid hrb
            clear hrb
            go_upto_region 7 with (fail)
            clear l0 l1 l2 l3 f1' f2 f3 heI dc
            have HKS : Hid (∀ W, Below w1.heap.size w1 W → (W.cell? ⟨w.heap.size, 0, none⟩ = some (.int .i64 (L.disks : Int)) ∧ W.cell? ⟨w.heap.size, 1, none⟩ = some (.slice A L.n c) ∧ W.cell? ⟨w.heap.size, 2, none⟩ = some (.int .i64 (L.tiles : Int)) ∧ W.cell? ⟨w.heap.size, 3, none⟩ = some (.int .i64 (L.spare : Int)))) := fun W hW => (HL1.out.below hW HL1.out.lt).cells
            have HCW : Hid (∀ W, Below w1.heap.size w1 W → Calls Tryz.prog 31 #[.slice Am ms.length cm] W fun r w' => ∃ An cn, r = .returned (.slice An ms.length cn) ∧ OwS w' w.heap.size 62 4 (.slice An ms.length cn) (ms.map Mv.cells) ∧ Below w1.heap.size w1 w') := fun W hW =>
              (HCL.out W (HM.out.below' (HB1.out.trans (hW.mono HB1.out.size)) hB) (Nat.le_trans hB (HB1.out.trans (hW.mono HB1.out.size)).size)).mono fun r w' h => by
                obtain ⟨⟨v, hv, ho⟩, hb⟩ := h
                obtain ⟨An, cn, e, -, -⟩ := ho.form
                subst e
                rw [List.length_map] at ho hv
                exact ⟨An, cn, hv, ho.mono (HB1.out.trans (hW.mono HB1.out.size)).size, hW.trans (hb.mono hW.size)⟩
            clear HCL
            go_cut [10] (fun s10 wx => ∃ X An cn, s10 = .pointer (some ⟨X, 0, none⟩) ∧ PlnB wx X L A c An ms.length cn (some ⟨bd, od, none⟩) cd ∧ OwS wx w.heap.size 62 4 (.slice An ms.length cn) (ms.map Mv.cells) ∧ Below w1.heap.size w1 wx ∧ w1.heap.size ≤ X)
            case first =>
              go_region_held3 (fun W => W.cell? ⟨w.heap.size, 0, none⟩ = some (.int .i64 (L.disks : Int)) ∧ W.cell? ⟨w.heap.size, 1, none⟩ = some (.slice A L.n c) ∧ W.cell? ⟨w.heap.size, 2, none⟩ = some (.int .i64 (L.tiles : Int)) ∧ W.cell? ⟨w.heap.size, 3, none⟩ = some (.int .i64 (L.spare : Int)))
                (first | with_reducible exact HKS.out _ (Below.refl w1.heap.size w1) | with_reducible exact HKS.out _ (Below.refl w1.heap.size w1).drew | with_reducible exact HKS.out _ hbA | with_reducible exact HKS.out _ hbA.drew | with_reducible exact HKS.out _ (hbA.alloc hbA.size _) | (trace_state; fail))
                (first
                  | (go_at_call 31; first
                    | ((with_reducible refine (HCW.out _ (Below.refl w1.heap.size w1)).mono ?_); rintro r wA ⟨An, cn, rfl, hoA, hbA⟩)
                    | ((with_reducible refine (HCW.out _ (Below.refl w1.heap.size w1).drew).mono ?_); rintro r wA ⟨An, cn, rfl, hoA, hbA⟩)
                    | (trace_state; fail))
                  | fail)
              all_goals
                go_wp2_with fail
                go_meet
                exact ⟨_, An, cn, rfl, heap_alloc_new _ _, hoA.alloc _, hbA.alloc hbA.size _, hbA.size⟩
            obtain ⟨X, An, cn, rfl, hpx, hox, hbc, hX1⟩ := hcut
            have HB2 := Lib.hid (HB1.out.trans (hbc.mono HB1.out.size))
            have HL2 := Lib.hid (HL1.out.below hbc HL1.out.lt)
            have HP2 := Lib.hid hpx
            have HO2 := Lib.hid hox
            have hXw : w.heap.size ≤ X := Nat.le_trans HB1.out.size hX1
            clear HKS HCW hpx hox hbc hX1 HB1 HL1
            generalize wc = w2 at *
            obtain ⟨l0, l1, l2, l3⟩ := HL2.out.cells
            go_wp2_with fail
            refine (HOD.out w2 (HV.out.below HB2.out hB) (HM.out.below' HB2.out hB) (Nat.le_trans hB HB2.out.size)).mono ?_
            rintro r w3 ⟨hod, hb3⟩
            obtain ⟨v, ts, rfl, hown, hpe, hpw⟩ := hod.2.2 HVB.out HF0.out
            rw [Int.toNat_natCast] at hpe
            obtain rfl := sort_on HX.out.ok (HPV.out (by simp)) hed hpe hpw
            rw [← memN_toI] at hown
            obtain ⟨A12, c12, rfl, -, -⟩ := hown.form
            rw [List.length_map] at hown ⊢
            have HOL := Lib.hid (hown.mono HB2.out.size)
            have HB3 := Lib.hid (HB2.out.trans (hb3.mono HB2.out.size))
            have HP3 := Lib.hid (HP2.out.below hb3 HP2.out.lt)
            have HO3 := Lib.hid (HO2.out.below hb3)
            clear hown hb3 hod hpe hpw l0 l1 l2 l3 HOD HL2 HP2 HO2 HB2
            have hol2 : (onL L ms (e : Int)).length ≤ 4096 := Nat.le_trans (on_len HX.out.ok (HPV.out (by simp)) e) HX.out.ok.G
            have HIS : Hid (∀ x ∈ onL L ms (e : Int), isP L x.1 x.2 = true) := fun x hx => on_isP _ hx
            obtain ⟨ol, hoo⟩ : ∃ ol, onL L ms (e : Int) = ol := ⟨_, rfl⟩
            rw [hoo] at hol2 HIS HRES HOL ⊢
            have H0 : Hid (PRb L ms.length dead ol res w.heap.size X A c (some ⟨bd, od, none⟩) cd A12 c12 w3 (.slice none 0 0) (.int .i64 0) w3) := ⟨0, ms, [], An, cn, by omega, rfl, HP3.out, HO3.out, HPV.out (by simp), by omega, ⟨[], TskW.nil _ _⟩, rfl, HRES.out, HOL.out, Below.refl _ _⟩
            clear hoo HRES HP3 HO3 HOL
            go_wp2
            go_loopw [13, 62] (fun s13 s62 wr => PRb L ms.length dead ol res w.heap.size X A c (some ⟨bd, od, none⟩) cd A12 c12 w3 s13 s62 wr) (fun _ s62 _ => ol.length - (intOf s62).toNat)
            case atStart => exact H0.out
            case round =>
              clear H0
              obtain ⟨i, now, out, An2, cn2, hi, rfl, hpr, hor, hokn, hnl, htsk, hout, hrem, hol, hb⟩ := hrel
              obtain ⟨A10, c10, rfl⟩ := htsk.form
              have HPR := Lib.hid hpr
              have HOR := Lib.hid hor
              have HKN := Lib.hid hokn
              have HTS := Lib.hid htsk
              have HRM := Lib.hid hrem
              have HBR := Lib.hid hb
              have HOU := Lib.hid hout
              have HOL := Lib.hid hol
              have hol1 : out.length ≤ 4096 := by omega
              clear hout hpr hor hokn htsk hrem hol hb
              by_cases hil : i < ol.length
              case neg =>
                have hiI : ¬ (i : Int) < (ol.length : Int) := by omega
                have hfin : res = (out, 0) := by
                  have h := HRM.out
                  rw [List.drop_eq_nil_of_le (by omega)] at h
                  exact h.symm
                have HE := Lib.hid (HB3.out.trans HBR.out)
                have HRR : Hid (RP w.heap.size wr (.returned (.tuple #[.slice A10 out.length c10, .int .i64 0]))) := by
                  have h := HDEF.out wr w.heap.size (.slice A10 out.length c10) (by rw [hfin]; exact HTS.out)
                  rw [hfin] at h
                  exact h
                clear hfin
                go_wp2
                go_ret2
                exact ⟨HRR.out, HE.out⟩
              case pos =>
                have hiI : (i : Int) < (ol.length : Int) := by omega
                obtain ⟨⟨g, p⟩, hx⟩ := at_some hil
                have hdr : ol.drop i = (g, p) :: ol.drop (i + 1) := by
                  obtain ⟨h1, h2⟩ := List.getElem?_eq_some_iff.1 hx
                  rw [List.drop_eq_getElem_cons h1, h2]
                have HIP := Lib.hid (HIS.out (g, p) (List.mem_of_getElem? hx))
                obtain ⟨b2, o2, rfl, -, q0, q1⟩ := pair_atP HOL.out.reads hx
                simp only at q0 q1
                have HDR := Lib.hid hdr
                clear hdr hx
                go_upto_region 13 with (fail)
                generalize hwa : wr.alloc _ = w4
                have hbl : Below wr.heap.size wr w4 := by rw [← hwa]; exact below_laid
                have m0 : w4.cell? ⟨wr.heap.size, 0, none⟩ = some (.int .i64 (g : Int)) := by rw [← hwa, cell_of_row _ _ _ _ _ _ (heap_alloc_new wr _)]; rfl
                have m1 : w4.cell? ⟨wr.heap.size, 1, none⟩ = some (.int .i64 (p : Int)) := by rw [← hwa, cell_of_row _ _ _ _ _ _ (heap_alloc_new wr _)]; rfl
                have HB4 := Lib.hid (HBR.out.trans (hbl.mono (Nat.le_trans HB3.out.size HBR.out.size)))
                have HW4 := Lib.hid (HB3.out.trans HB4.out)
                have HP4 := Lib.hid (HPR.out.below hbl HPR.out.lt)
                have HO4 := Lib.hid (HOR.out.below hbl)
                have HT4 := Lib.hid (HTS.out.below hbl)
                have HOL4 := Lib.hid (HOL.out.below hbl)
                clear hwa hbl q0 q1 HBR HPR HOR HTS HOL
                have had := padd_any (L := L) (A := A) (An := An2) (Ad := some ⟨bd, od, none⟩) (X := X) (c := c) (cn := cn2) (cd := cd) (now := now) (dead := dead) g p w4 HX.out HKN.out (ok_valid HKN.out) (wf_mvs HX.out HKN.out) ((HV.out.below HW4.out hB).more (Nat.le_trans hB HW4.out.size)) (OwS.rds HO4.out).2 ((HD.out.below' HW4.out hB).more (Nat.le_trans hB HW4.out.size)) HND.out HP4.out HIP.out (by omega)
                have HAD := Lib.hid had
                clear had
                go_wp2_with fail
                refine HAD.out.mono ?_
                rintro r w5 hap
                have hr := HRM.out
                rw [HDR.out, planG_cons] at hr
                clear HAD HRM HDR m0 m1
                generalize wr.heap.size = M at *
                rcases hap with ⟨hfn, rfl, hb5⟩ | ⟨f, hfs, hcn, rfl, hb5⟩ | ⟨f, t, a, cf, An3, cn3, hfs, hct, rfl, hof, hom, hpl, hbx⟩
                · rw [hfn] at hr
                  unfold tskZ
                  have HRR := Lib.hid (fun W => HDEQ.out W w.heap.size 12 hr.symm)
                  have HE := Lib.hid (HW4.out.trans (hb5.mono HW4.out.size))
                  have HE2 : Hid (∀ o, Below w.heap.size w (w5.alloc o)) := fun o => HE.out.alloc HE.out.size o
                  clear hr hfn hb5 HE
                  go_wp2
                  go_ret2
                  exact ⟨HRR.out _, HE2.out _⟩
                · rw [hfs] at hr
                  simp only at hr
                  rw [hcn] at hr
                  simp only at hr
                  unfold tskZ
                  have HRR := Lib.hid (fun W => HDEQ.out W w.heap.size 11 hr.symm)
                  have HE := Lib.hid (HW4.out.trans (hb5.mono HW4.out.size))
                  have HE2 : Hid (∀ o, Below w.heap.size w (w5.alloc o)) := fun o => HE.out.alloc HE.out.size o
                  clear hr hfs hcn hb5 HE
                  go_wp2
                  go_ret2
                  exact ⟨HRR.out _, HE2.out _⟩
                · rw [hfs] at hr
                  simp only at hr
                  rw [hct] at hr
                  simp only at hr
                  have HRR := Lib.hid hr
                  have HPP := Lib.hid (fits_apply HX.out.ok HKN.out (i := (p : Int)) HIP.out hct).2
                  have hg5 := hbx.grown
                  have HB5 : Hid (Below w.heap.size w3 w5) := HB4.out.trans (hbx.below (B := w.heap.size) hXw HW4.out.size)
                  have HT5 := Lib.hid (HT4.out.keptX hg5 HP4.out)
                  have HOL5 := Lib.hid (HOL4.out.kept hg5 (.inr (HOL4.out.blk_ne HP4.out (by decide))))
                  have HP5 := Lib.hid hpl
                  have HO5 := Lib.hid (hom.mono HW4.out.size)
                  have HF5 := Lib.hid (hof.mono HW4.out.size)
                  clear hr hfs hct hg5 hbx hpl hom hof HB4 HP4 HO4 HT4 HOL4 HW4
                  obtain ⟨td, tb⟩ := t
                  go_upto_region 14 with (fail)
                  generalize hW6 : w5.alloc _ = w6
                  have hb6 : Below w5.heap.size w5 w6 := by rw [← hW6]; exact below_laid
                  obtain ⟨x0, x1, x2, x3, x4, f0, f1, f2, f3, f4⟩ := tsk_cells (show w6.heap[w5.heap.size]? = some (.cells #[.int .i64 (g : Int), .int .i64 (p : Int), .slice (some a) f.length cf, .int .i64 td, .int .i64 tb] 52) by rw [← hW6]; exact heap_alloc_new w5 _)
                  have hs5 : w.heap.size ≤ w5.heap.size := Nat.le_trans HB3.out.size HB5.out.size
                  have HB6 := Lib.hid (HB5.out.trans (hb6.mono hs5))
                  obtain ⟨vs, hvs⟩ := HT5.out.below hb6
                  have HT6 := Lib.hid hvs
                  have HOL6 := Lib.hid (HOL5.out.below hb6)
                  have HP6 := Lib.hid (HP5.out.below hb6 HP5.out.lt)
                  have HO6 := Lib.hid (HO5.out.below hb6)
                  have HF6 := Lib.hid (HF5.out.below hb6)
                  have hs6 : w.heap.size ≤ w6.heap.size := Nat.le_trans hs5 hb6.size
                  clear hW6 hb6 hvs HB5 HT5 HOL5 HP5 HO5 HF5 hs5 f0 f1 f2 f3 f4
                  generalize w5.heap.size = T at *
                  go_wp2_with (at_builtin; refine wpList_ap1 rfl (.tmp 75) (.tmp 77) _ rfl elemTask rfl HT6.out.2.1 (tskRow (some a, cf) ⟨g, p, f, ⟨td, tb⟩⟩) _ (by rfl) w6.heap.size (by rfl) (by rfl) (tskRow_one _ _) (by rw [tskRows_len HT6.out.1]; simp [maxLen]; omega) (by rw [tskRows_len HT6.out.1]; omega) (by omega) ?_)
                  rintro v1 w7 hown1 hg1 -
                  have hb7 : Below w.heap.size w6 w7 := ((Below.refl w.heap.size w6).alloc hs6 _).grown hg1 (by simp; omega) (fun q hq => (HT6.out.2.1.lt hq).1)
                  have HB7 := Lib.hid (HB6.out.trans hb7)
                  have HT7 : Hid (TskO w7 w.heap.size v1 (out ++ [⟨g, p, f, ⟨td, tb⟩⟩])) := ⟨_, (HT6.out.below below_laid).push (p := (some a, cf)) (t := ⟨g, p, f, ⟨td, tb⟩⟩) (HF6.out.below below_laid) hown1 hg1⟩
                  have HO7 := Lib.hid ((HO6.out.alloc _).kept hg1 (HO6.out.ne HT6.out.2.1 (by decide)))
                  have HOL7 := Lib.hid ((HOL6.out.alloc _).kept hg1 (HOL6.out.ne HT6.out.2.1 (by decide)))
                  have HP7 : Hid (PlnB w7 X L A c An3 (withM now ⟨g, p, ⟨td, tb⟩⟩).length cn3 (some ⟨bd, od, none⟩) cd) := (hg1.block X (by have := HP6.out.lt; simp; omega) (fun he => HT6.out.2.1.blk_ne HP6.out (by decide) he.symm)).trans (HP6.out.below below_laid HP6.out.lt)
                  have HLW := Lib.hid (withM_len now ⟨g, p, ⟨td, tb⟩⟩)
                  clear hown1 hg1 hb7 HB6 HT6 HO6 HOL6 HP6 HF6 x0 x1 x2 x3 x4
                  go_wp2
                  go_roundw
                  case rel => exact ⟨i + 1, _, _, An3, cn3, by omega, by go_num, HP7.out, HO7.out, HPP.out, by have := HLW.out; omega, HT7.out, by have := HOU.out; simp; omega, HRR.out, HOL7.out, HB7.out⟩
                  case measure => simp [intOf] <;> omega
end Go.Proofs.YteglnekkkhpikaaGreat
