/- Walk of tegulalaw46's LinearInvented: it answers true for every script. -/
import Derived.Test.YtcgbnlhloopnfaaDoorRunsA
import Derived.Test.YtcgbnlhloopnfaaDoorGRgL
namespace Go.Proofs.YtcgbnlhloopnfaaDoor
open Go.RowKit

theorem setV_same (op v : Int) (o : Opr) : effB (setV op v o) = effB o ∧ (setV op v o).era = o.era ∧ (setV op v o).reg = o.reg := by unfold setV; split <;> exact ⟨rfl, rfl, rfl⟩
theorem eraX_setV (os : List Opr) (op v : Int) (k : Nat) : (eraX (os.map (setV op v)) k).length = (eraX os k).length := by
  unfold eraX eraO
  rw [List.filter_map, List.filter_map, List.length_map]
  congr 2
  · funext o; simp [setV_same]
  · congr 1
    funext o; simp [setV_same]
theorem big_setV (os : List Opr) (cuts : Nat) (op v : Int) : anyBig (os.map (setV op v)) cuts = anyBig os cuts := by
  unfold anyBig
  congr 1
  funext k
  unfold bigE
  rw [eraX_setV]
theorem inv_ok (sc : List RgA) (k : Nat) (hk : k ≤ 60) {i : Nat} (h : rdAt (rgTo sc k).l i) : ∃ e, (rgTo sc k).l[i]? = some e ∧ FindOk ((rgTo sc k).l.set i (chgE e 1000)) ∧ ¬ ExpL ((rgTo sc k).l.set i (chgE e 1000)) ∧
    anyBig (rawOps ((rgTo sc k).l.set i (chgE e 1000))) (cutsL ((rgTo sc k).l.set i (chgE e 1000))) = anyBig (rawOps (rgTo sc k).l) (cutsL (rgTo sc k).l) := by
  obtain ⟨e, h1, h2, h3, h4, h5⟩ := inv_law sc k (by omega) h
  obtain ⟨-, -, hreg⟩ := rg_law sc k
  obtain ⟨⟨-, f2, f3, f4, f5⟩, -⟩ := rg_ok sc k (by omega)
  have he := List.mem_of_getElem? h1
  refine ⟨e, h1, ⟨?_, by rw [List.length_set]; exact f2, fun x hx => ?_, fun x hx => ?_, fun x hx => ?_⟩, h5, by rw [h3, h4, big_setV]⟩
  · unfold oneL
    rw [h2]
    have : opsOr ((rgTo sc k).l.set i (chgE e 1000)) = rawOps ((rgTo sc k).l.set i (chgE e 1000)) := by unfold opsOr; rw [h2]; rfl
    rw [this, h4]
    have h6 : (insAll (regsO ((rawOps (rgTo sc k).l).map (setV e.op 1000)))).length ≤ 1 := insAll_same (u := 0) fun x hx => by
      unfold regsO at hx
      obtain ⟨p, hp, rfl⟩ := List.mem_map.1 hx
      obtain ⟨q, hq, rfl⟩ := List.mem_map.1 (List.mem_filter.1 hp).1
      rw [(setV_same _ _ _).2.2]
      exact (hreg q hq).1
    simp [h6]
  · rcases List.mem_or_eq_of_mem_set hx with hx | rfl
    · exact f3 x hx
    · exact f3 e he
  · rcases List.mem_or_eq_of_mem_set hx with hx | rfl
    · exact f4 x hx
    · exact f4 e he
  · rcases List.mem_or_eq_of_mem_set hx with hx | rfl
    · exact f5 x hx
    · exact wf_small (by simp [chgE]) (by simp [chgE])
def rdE (e : Ev) : Bool := e.kind == 2 && !e.write && !e.barrier
/-- the places of the answered reads, up to j -/
def rdsTo (l : List Ev) (j : Nat) : List Int := ((List.range j).filter fun i => match l[i]? with | some e => rdE e | none => false).map fun (i : Nat) => (i : Int)
theorem rdsTo_succ {l : List Ev} {j : Nat} {e : Ev} (he : l[j]? = some e) : rdsTo l (j + 1) = rdsTo l j ++ if rdE e then [(j : Int)] else [] := by
  unfold rdsTo
  rw [List.range_succ, List.filter_append, List.map_append]
  congr 1
  rcases h : rdE e with _ | _ <;> simp [List.filter, he, h]
theorem rdsTo_len (l : List Ev) (j : Nat) : (rdsTo l j).length ≤ j := by
  unfold rdsTo
  rw [List.length_map]
  exact Nat.le_trans (List.length_filter_le _ _) (by simp)
theorem rdsTo_at {l : List Ev} {j q : Nat} {x : Int} (h : (rdsTo l j)[q]? = some x) : ∃ i : Nat, x = i ∧ i < l.length ∧ rdAt l i := by
  have hm := List.mem_of_getElem? h
  unfold rdsTo at hm
  obtain ⟨i, hi, rfl⟩ := List.mem_map.1 hm
  have h2 := (List.mem_filter.1 hi).2
  rcases he : l[i]? with _ | e
  · rw [he] at h2; cases h2
  · rw [he] at h2
    simp only [rdE, Bool.and_eq_true, beq_iff_eq, Bool.not_eq_true'] at h2
    exact ⟨i, rfl, (List.getElem?_eq_some_iff.1 he).1, e, he, h2.1.1, h2.1.2, h2.2⟩
theorem chg_cells (e : Ev) (v : Int) : e.cells.set 4 (.int .i64 v) = (chgE e v).cells := rfl
def Inv1 (w3 : World) (l : List Ev) (s6 s7 : Value) (wr : World) : Prop := ∃ j : Nat, j ≤ l.length ∧ s7 = .int .i64 j ∧ OwS wr w3.heap.size 3 1 s6 ((rdsTo l j).map icell) ∧ Below w3.heap.size w3 wr
set_option maxHeartbeats 8000000 in
set_option maxRecDepth 100000 in
theorem linearinvented_any (sc : List RgA) (which : Nat) (hw8 : which < 256) (hby : ∀ a ∈ sc, a.kind < 256 ∧ a.which < 256) (A : Option Addr) (c : Nat) (w : World) (h : RdS w w.heap.size 2 A (sc.map RgA.cells)) (hc : CutG w) :
    Calls Tryd.prog 7 #[.slice A sc.length c, .int .u8 which] w fun e w' => e = .returned (.bool true) ∧ Below w.heap.size w w' := by
  have HA := Lib.hid (awake46_any w hc)
  clear hc
  by_cases hlen : sc.length ≤ 60
  case neg =>
    have hlen' : (sc.length : Int) > 60 := by omega
    clear h hby
    generalize sc.length = sl at *
    go_enter Tryd.func7, Tryd.ntmps7
    go_wp2_with fail
    refine HA.out.mono ?_
    rintro r w1 ⟨rfl, hb1⟩
    go_wp2
    go_ret
    exact ⟨rfl, hb1⟩
  case pos =>
    have hlen' : ¬ (sc.length : Int) > 60 := by omega
    have HRG := Lib.hid (fun W (hW : Below w.heap.size w W) => register_any sc hby A c w.heap.size W (h.below hW) hW.size (by omega))
    obtain ⟨hfo, -⟩ := rg_ok sc sc.length (by omega)
    have HIV : Hid (∀ i, rdAt (rgTo sc sc.length).l i → _) := fun i hi => inv_ok sc sc.length hlen (i := i) hi
    have hll : (rgTo sc sc.length).l.length ≤ 60 := by have := (rgTo_n sc sc.length).2; omega
    generalize (rgTo sc sc.length).l = l at *
    unfold LayE at HRG
    have hv := one_valid hfo.1
    have HMO := Lib.hid (fun A2 c2 W (hE : EvS W W.heap.size A2 l) => most_any l A2 c2 W.heap.size W hE (Nat.le_refl _) (by omega) hv)
    have HBG : Hid (mostL l ≤ 12 → anyBig (rawOps l) (cutsL l) = false) := fun hm => most_big (by omega)
    clear h hby hfo hv
    generalize sc.length = sl at *
    go_enter Tryd.func7, Tryd.ntmps7
    go_wp2_with fail
    refine HA.out.mono ?_
    rintro r w1 ⟨rfl, hb1⟩
    have HB1 := Lib.hid hb1
    clear hb1
    go_wp2_with fail
    refine (HRG.out _ HB1.out).mono ?_
    rintro r w2 ⟨v2, rfl, hown2, hb2⟩
    have HB2 := Lib.hid (HB1.out.trans (hb2.mono HB1.out.size))
    obtain ⟨A2, c2, rfl, -, -⟩ := hown2.form
    rw [List.length_map] at hown2 ⊢
    have HO2 := Lib.hid hown2
    have HE2 := Lib.hid (show EvS w2 w2.heap.size A2 l from hown2.reads)
    have hz1 := HB1.out.size
    clear hown2 hb2
    have HMX := Lib.hid (HMO.out A2 c2 w2 HE2.out)
    by_cases hmo : mostL l ≤ 12
    case neg =>
      have hmo' : (mostL l : Int) > 12 := by omega
      clear hmo HMO HBG
      generalize mostL l = mo at *
      go_wp2_with fail
      refine HMX.out.mono ?_
      rintro r w3 ⟨rfl, hb3⟩
      go_wp2
      go_ret
      exact ⟨rfl, HB2.out.trans (hb3.mono HB2.out.size)⟩
    case pos =>
      have hmo' : ¬ (mostL l : Int) > 12 := by omega
      have HBX := Lib.hid (HBG.out hmo)
      clear hmo HMO HBG
      generalize mostL l = mo at *
      go_wp2_with fail
      refine HMX.out.mono ?_
      rintro r w3 ⟨rfl, hb3⟩
      have HB3 := Lib.hid (HB2.out.trans (hb3.mono HB2.out.size))
      have HO3 := Lib.hid (HO2.out.below hb3)
      clear hb3 HMX HO2 HE2
      go_wp2
      go_loopw [6, 7] (fun s6 s7 wr => Inv1 w3 l s6 s7 wr) (fun _ s7 _ => l.length - (intOf s7).toNat)
      case atStart => exact ⟨0, by omega, rfl, OwS.nil _ _ _ _, Below.refl _ _⟩
      case round =>
        obtain ⟨j, hj, rfl, hown, hb⟩ := hrel
        have HOW := Lib.hid hown
        have HB := Lib.hid hb
        have hz := hb.size
        have hrl := rdsTo_len l j
        have ho3 := HO3.out.below hb
        by_cases hlt : j < l.length
        · have hjl : (j : Int) < (l.length : Int) := by omega
          obtain ⟨e, he⟩ : ∃ e, l[j]? = some e := ⟨l[j], List.getElem?_eq_getElem hlt⟩
          obtain ⟨g2, c2', hv2, -, hg2⟩ := ho3.pos (by rw [List.length_map]; omega)
          injection hv2 with hq1 hq2 hq3
          subst hq1
          have hrow : (l.map Ev.cells)[j]? = some e.cells := by rw [List.getElem?_map, he]; rfl
          have d0 := ho3.cell hrow (j := 0) rfl
          have d2 := ho3.cell hrow (j := 2) rfl
          have d5 := ho3.cell hrow (j := 5) rfl
          rw [Nat.add_zero] at d0
          have HRT := Lib.hid (rdsTo_succ he)
          have HRD : Hid (rdE e = (e.kind == 2 && !e.write && !e.barrier)) := rfl
          obtain ⟨kd, op, wrt, reg, val, bar⟩ := e
          simp only at d0 d2 d5 HRD
          clear he hrow hq2 hq3 hb ho3
          by_cases hk2 : kd = 2
          · subst hk2
            cases wrt
            · cases bar
              · have HF : Hid (rdsTo l (j + 1) = rdsTo l j ++ [(j : Int)]) := by unfold Hid; rw [HRT.out, HRD.out]; rfl
                go_wp2_with (at_builtin; refine wpList_ap1 rfl (.tmp 49) (.tmp 51) _ rfl elemInt rfl hown (icell (j : Int)) _ (by rfl) wr.heap.size (by rfl) (by rfl) (icellOne _) (by simp [maxLen]; omega) (by simp; omega) hz ?_)
                intro v4 w4 hown4 hg4 _
                have HB4 : Hid (Below w3.heap.size w3 w4) := (HB.out.alloc hz _).grown hg4 (by simp; omega) (fun g hg => (hown.lt hg).1)
                have HO4 := Lib.hid hown4
                clear hg4 hown4 hown d0 d2 d5
                go_wp2
                go_roundw
                case rel => exact ⟨j + 1, by omega, by go_num, by rw [HF.out, List.map_append]; exact HO4.out, HB4.out⟩
                case measure => simp [intOf]; omega
              · have HF : Hid (rdsTo l (j + 1) = rdsTo l j) := by unfold Hid; rw [HRT.out, HRD.out]; simp
                clear hown
                go_wp2
                go_roundw
                case rel => exact ⟨j + 1, by omega, by go_num, by rw [HF.out]; exact HOW.out, HB.out⟩
                case measure => simp [intOf]; omega
            · have HF : Hid (rdsTo l (j + 1) = rdsTo l j) := by unfold Hid; rw [HRT.out, HRD.out]; simp
              clear hown
              go_wp2
              go_roundw
              case rel => exact ⟨j + 1, by omega, by go_num, by rw [HF.out]; exact HOW.out, HB.out⟩
              case measure => simp [intOf]; omega
          · have hk2' : (kd == 2) = false := by simpa using hk2
            have HF : Hid (rdsTo l (j + 1) = rdsTo l j) := by unfold Hid; rw [HRT.out, HRD.out, hk2']; simp
            clear hk2 hown
            go_wp2
            go_roundw
            case rel => exact ⟨j + 1, by omega, by go_num, by rw [HF.out]; exact HOW.out, HB.out⟩
            case measure => simp [intOf]; omega
        · obtain rfl : j = l.length := by omega
          obtain ⟨rs, hrs⟩ : ∃ rs, rdsTo l l.length = rs := ⟨_, rfl⟩
          have HRA : Hid (∀ (q : Nat) (x : Int), rs[q]? = some x → ∃ i : Nat, x = i ∧ i < l.length ∧ rdAt l i) := fun q x hx => rdsTo_at (by rw [hrs]; exact hx)
          rw [hrs] at HOW hown hrl
          clear hrs
          obtain ⟨Ar, cr, rfl, -, -⟩ := hown.form
          rw [List.length_map] at hown HOW ⊢
          by_cases hr0 : rs.length = 0
          · have hr0' : ((rs.length : Int) == 0) = true := by simp [hr0]
            clear ho3 hown hb hr0
            generalize rs.length = rl at *
            go_wp2
            go_ret
            exact ⟨rfl, HB3.out.trans (HB.out.mono HB3.out.size)⟩
          · have hr0' : ((rs.length : Int) == 0) = false := by rw [beq_eq_false_iff_ne]; omega
            have hrp : 0 < rs.length := Nat.pos_of_ne_zero hr0
            obtain ⟨q, hq⟩ : ∃ q, q = which % rs.length := ⟨_, rfl⟩
            have hql : q < rs.length := by rw [hq]; exact Nat.mod_lt _ hrp
            obtain ⟨x, hx⟩ : ∃ x, rs[q]? = some x := ⟨rs[q], List.getElem?_eq_getElem hql⟩
            obtain ⟨i, rfl, hil, hrd⟩ := HRA.out q x hx
            obtain ⟨e, he, hfo, hnx, hbg⟩ := HIV.out i hrd
            obtain ⟨br, or, x', hAr, hbr, hx', e0⟩ := IntS.at_ (hown.reads) hql
            subst hAr
            rw [hx] at hx'
            cases hx'
            obtain ⟨g2, c2', hv2, -, hg2⟩ := ho3.pos (by rw [List.length_map]; omega)
            injection hv2 with hq1 hq2 hq3
            subst hq1
            have hrow : (l.map Ev.cells)[i]? = some e.cells := by rw [List.getElem?_map, he]; rfl
            have d4 := ho3.cell hrow (j := 4) rfl
            have f4 := ho3.frozen (i * 6 + 4)
            have HST := Lib.hid (ho3.set hrow (j := 4) (by omega) (.int .i64 1000)).1
            have HFN : Hid (∀ A3 c3 W, EvS W W.heap.size A3 (l.set i (chgE e 1000)) → Calls Tryd.prog 15 #[.slice A3 l.length c3] W fun r w' => r = .returned (.tuple #[.slice none 0 0, .bool false, .int .i64 0]) ∧ Below W.heap.size W w') := fun A3 c3 W hE => by
              have := find_no hfo (hbg.trans HBX.out) hnx A3 c3 W.heap.size W hE (Nat.le_refl _)
              rwa [List.length_set] at this
            have kw := fun W => conv_u8 (which : Int) (by omega) (by omega) W
            have hqe : ((which : Int) % (rs.length : Int)) = (q : Int) := by rw [hq]; simp
            have ht1 : Int.tmod (which : Int) (rs.length : Int) = (q : Int) := by rw [Int.tmod_eq_emod_of_nonneg (by omega), hqe]
            have hqi : (q : Int) < (rs.length : Int) := by omega
            have hii : (i : Int) < (l.length : Int) := by omega
            have HROW : Hid ((l.map Ev.cells).set i (e.cells.set 4 (.int .i64 1000)) = (l.set i (chgE e 1000)).map Ev.cells) := by
              unfold Hid
              rw [chg_cells, List.map_set]
            have HEV : Hid (EvS (wr.setCell ⟨g2, i * 6 + 4, none⟩ (.int .i64 1000)) (wr.setCell ⟨g2, i * 6 + 4, none⟩ (.int .i64 1000)).heap.size (some ⟨g2, 0, none⟩) (l.set i (chgE e 1000))) := by
              have := HST.out.reads
              rwa [HROW.out] at this
            have hgb : w1.heap.size ≤ g2 := (HO3.out.lt rfl).1
            have HB5 : Hid (Below w.heap.size w (wr.setCell ⟨g2, i * 6 + 4, none⟩ (.int .i64 1000))) := (HB3.out.trans (HB.out.mono HB3.out.size)).setCell (Nat.le_trans hz1 hgb) _
            have HFX := Lib.hid (HFN.out _ c2 _ HEV.out)
            clear ho3 hown hb hrow he hx hq hql hrd hfo hnx hbg hq2 hq3 HFN HEV HST HROW
            go_wp2_with fail
            refine HFX.out.mono ?_
            rintro r w5 ⟨rfl, hb5⟩
            go_wp2
            go_ret
            exact ⟨rfl, HB5.out.trans (hb5.mono HB5.out.size)⟩
end Go.Proofs.YtcgbnlhloopnfaaDoor
