/- Walk of tegularef22.Choose. -/
import Derived.Test.YteglnekkkhpikaaGreatGTab
namespace Go.Proofs.YteglnekkkhpikaaGreat
open Go.RowKit

section
variable {L : LayD} {ms : List Mv} {g : Int} {dead : List Bool} {k : Nat}
theorem best_keep (h : dead[k]?.getD false = true ∨ holdsL L ms g k = true ∨ L.spare ≤ (usedL L ms k).length ∨ ∃ x c, bestTo L ms g dead k = some (x, c) ∧ c ≤ (usedL L ms k).length) : bestTo L ms g dead (k + 1) = bestTo L ms g dead k := by
  have hok : (dead[k]?.getD false = true ∨ holdsL L ms g k = true ∨ L.spare ≤ (usedL L ms k).length) → okDisk L ms g dead k = false := by
    intro h
    unfold okDisk
    rcases h with h | h | h
    · simp [h]
    · simp [h]
    · rw [Bool.and_eq_false_iff]; right; rw [decide_eq_false_iff_not]; omega
  rw [bestTo]
  rcases hb : bestTo L ms g dead k with _ | ⟨x, c⟩
  · simp only
    rw [if_neg]
    rw [hok]
    · simp
    · rcases h with h | h | h | ⟨x, c, h, -⟩
      · exact .inl h
      · exact .inr (.inl h)
      · exact .inr (.inr h)
      · rw [hb] at h; cases h
  · simp only
    rw [if_neg]
    intro hc
    rw [Bool.and_eq_true, decide_eq_true_eq] at hc
    rcases h with h | h | h | ⟨x', c', h, h2⟩
    · rw [hok (.inl h)] at hc; cases hc.1
    · rw [hok (.inr (.inl h))] at hc; cases hc.1
    · rw [hok (.inr (.inr h))] at hc; cases hc.1
    · rw [hb] at h; cases h; omega
theorem best_take (h1 : dead[k]?.getD false = false) (h2 : holdsL L ms g k = false) (h3 : (usedL L ms k).length < L.spare) (h4 : ∀ x c, bestTo L ms g dead k = some (x, c) → (usedL L ms k).length < c) : bestTo L ms g dead (k + 1) = some (k, (usedL L ms k).length) := by
  have hok : okDisk L ms g dead k = true := by
    unfold okDisk
    simp [h1, h2, h3]
  rw [bestTo]
  rcases hb : bestTo L ms g dead k with _ | ⟨x, c⟩
  · simp [hok]
  · simp [hok, h4 x c hb]
theorem free_run : ∀ {us : List Int} {b : Int} {i : Nat}, (∀ j : Nat, j < i → us[j]? = some (b + (j : Int))) → us[i]? ≠ some (b + (i : Int)) → firstFree b us = b + (i : Int) := by
  intro us
  induction us with
  | nil =>
    intro b i h1 h2
    cases i with
    | zero => simp [firstFree]
    | succ i => have := h1 0 (by omega); simp at this
  | cons x xs ih =>
    intro b i h1 h2
    cases i with
    | zero =>
      simp only [firstFree]
      rw [if_neg (fun e => h2 (by simp [e]))]
      simp
    | succ i =>
      have h0 := h1 0 (by omega)
      simp at h0
      simp only [firstFree]
      rw [if_pos h0, ih (b := b + 1) (i := i)]
      · omega
      · intro j hj
        have := h1 (j + 1) (by omega)
        simp only [List.getElem?_cons_succ] at this
        rw [this]
        congr 1
        omega
      · intro he
        apply h2
        simp only [List.getElem?_cons_succ]
        rw [he]
        congr 1
        omega
def holdP (L : LayD) (ms : List Mv) (g d : Int) (i : Nat) : Bool := (List.range i).any fun i => (whereL L ms g i).disk == d
theorem holdP_succ (d : Int) (i : Nat) : holdP L ms g d (i + 1) = (holdP L ms g d i || (whereL L ms g i).disk == d) := by
  unfold holdP
  rw [List.range_succ, List.any_append]
  simp
end
def ChoP (o : Option Plc) (r : Ending) : Prop := (∀ t, o = some t → r = .returned (.tuple #[t.agg, .bool true])) ∧ (o = none → ∃ t : Plc, r = .returned (.tuple #[t.agg, .bool false]))
def BestS (L : LayD) (ms : List Mv) (g : Int) (dead : List Bool) (k : Nat) (s11 : Value) (t : Plc) : Prop :=
  (bestTo L ms g dead k = none ∧ s11 = .int .i64 (-1)) ∨ ∃ x c : Nat, bestTo L ms g dead k = some (x, c) ∧ s11 = .int .i64 (c : Int) ∧ t = ⟨x, firstFree L.homes (usedL L ms x)⟩
/-- a place in a box -/
def PlB (w : World) (X : Nat) (t : Plc) : Prop := w.heap[X]? = some (.cells #[.int .i64 t.disk, .int .i64 t.block] 50)
section
variable {w w' : World} {X : Nat} {t : Plc}
theorem PlB.cells (h : PlB w X t) : w.cell? ⟨X, 0, none⟩ = some (.int .i64 t.disk) ∧ w.cell? ⟨X, 1, none⟩ = some (.int .i64 t.block) ∧ w.frozen? ⟨X, 0, none⟩ = false ∧ w.frozen? ⟨X, 1, none⟩ = false :=
  ⟨by rw [cell_of_row _ _ _ _ _ _ h]; rfl, by rw [cell_of_row _ _ _ _ _ _ h]; rfl, frozen_of_row _ _ _ _ _ h, frozen_of_row _ _ _ _ _ h⟩
theorem PlB.lt (h : PlB w X t) : X < w.heap.size := (Array.getElem?_eq_some_iff.1 h).1
theorem PlB.below {C : Nat} (h : PlB w X t) (hb : Below C w w') (hC : X < C) : PlB w' X t := (hb.block _ hC).trans h
theorem PlB.set (h : PlB w X t) (u : Plc) : PlB ((w.setCell ⟨X, 0, none⟩ (.int .i64 u.disk)).setCell ⟨X, 1, none⟩ (.int .i64 u.block)) X u := by
  have hb2 := heap_setCell_same w X 0 _ _ (.int .i64 u.disk) h
  unfold PlB
  rw [heap_setCell_same _ X 1 _ _ _ hb2]
  rfl
theorem PlB.far (h : PlB w X t) {p : Addr} (hp : X ≠ p.block) (u : Value) : PlB (w.setCell p u) X t := (heap_setCell_other w _ _ _ hp).trans h
theorem LayB.far {L : LayD} {A : Option Addr} {c : Nat} (h : LayB w X L A c) {p : Addr} (hp : X ≠ p.block) (u : Value) : LayB (w.setCell p u) X L A c := (heap_setCell_other w _ _ _ hp).trans h
end
structure ChoS (w : World) (L : LayD) (A : Option Addr) (c : Nat) (t : Plc) (wr : World) : Prop where
  bel : Below w.heap.size w wr
  lay : LayB wr w.heap.size L A c
  res : PlB wr (w.heap.size + 1) ⟨0, 0⟩
  best : PlB wr (w.heap.size + 2) t
theorem ChoS.below {w wr w' : World} {L : LayD} {A : Option Addr} {c : Nat} {t : Plc} (h : ChoS w L A c t wr) (hb : Below wr.heap.size wr w') : ChoS w L A c t w' :=
  ⟨h.bel.trans (hb.mono h.bel.size), h.lay.below hb h.lay.lt, h.res.below hb h.res.lt, h.best.below hb h.best.lt⟩
def Cho1 (w : World) (L : LayD) (ms : List Mv) (g : Int) (dead : List Bool) (A : Option Addr) (c : Nat) (s11 s12 : Value) (wr : World) : Prop :=
  ∃ (k : Nat) (t : Plc), k ≤ L.disks ∧ s12 = .int .i64 k ∧ BestS L ms g dead k s11 t ∧ ChoS w L A c t wr
set_option maxHeartbeats 8000000 in
set_option maxRecDepth 100000 in
theorem r22choose {L : LayD} {A Am Ad : Option Addr} {B c cm cd : Nat} {ms : List Mv} {dead : List Bool} (g : Nat) (w : World) (hx : LayX L) (hok : MvOk L ms) (hv : GsV w B A L.gs) (hM : MvS w B Am ms) (hD : BoolS w B Ad dead) (hdl : dead.length = L.disks) (hB : B ≤ w.heap.size) (hg : g < L.G) (hlen : ms.length ≤ 1000000) :
    Calls Tryz.prog 28 #[layAgg L A c, .slice Am ms.length cm, .int .i64 (g : Int), .slice Ad dead.length cd] w fun r w' => ChoP (chooseL L ms g dead) r ∧ Below w.heap.size w w' := by
  have HV := Lib.hid hv
  have HM := Lib.hid hM
  have HD := Lib.hid hD
  have HCH := Lib.hid (fun W hv hB => r21homes (L := L) (A := A) (B := B) (c := c) W hx hv hB)
  have HCW := Lib.hid (fun W hv hB => r21width (L := L) (A := A) (B := B) (c := c) W hx hv hB)
  have HCU := Lib.hid (fun (d : Int) W hv hM hB => r22used (L := L) (A := A) (Am := Am) (B := B) (c := c) (cm := cm) (ms := ms) d W hx hv hM hB hlen hok.sep)
  have HCP := Lib.hid (fun p W hv hM hB hp => r22where (L := L) (A := A) (Am := Am) (B := B) (c := c) (cm := cm) (ms := ms) g p W hx hv hM hB hg hp hlen)
  have HCL : Hid (chooseL L ms g dead = (bestTo L ms g dead L.disks).map fun x => ⟨x.1, firstFree L.homes (usedL L ms x.1)⟩) := rfl
  have hd60 := hx.ok.disks
  have hsp : L.homes + L.spare ≤ 65536 := hx.ok.blocks
  have hw16 := hx.ok.w
  unfold layAgg at *
  unfold Plc.agg at HCP
  rw [hdl]
  clear hv hM hD hg
  generalize chooseL L ms g dead = res at *
  go_enter Tryz.func28, Tryz.ntmps28
  go_wp2
  generalize hW0 : w.alloc _ = w0
  have hl0 : LayB w0 w.heap.size L A c := by rw [← hW0]; exact LayB.made w L A c
  have hb0 : Below w.heap.size w w0 := by rw [← hW0]; exact below_laid
  have hz0 : w0.heap.size = w.heap.size + 1 := by rw [← hW0]; simp
  generalize hW1 : w0.alloc _ = w1
  have hp1 : PlB w1 w0.heap.size ⟨0, 0⟩ := by rw [← hW1]; exact heap_alloc_new w0 _
  have hb1 : Below w0.heap.size w0 w1 := by rw [← hW1]; exact below_laid
  have hz1 : w1.heap.size = w0.heap.size + 1 := by rw [← hW1]; simp
  generalize hW2 : w1.alloc _ = w2
  have hp2 : PlB w2 w1.heap.size ⟨0, 0⟩ := by rw [← hW2]; exact heap_alloc_new w1 _
  have hb2 : Below w1.heap.size w1 w2 := by rw [← hW2]; exact below_laid
  rw [hz0] at hp1 hz1
  rw [hz1] at hp2
  have H0 : Hid (Cho1 w L ms g dead A c (.int .i64 (-1)) (.int .i64 0) w2) := by
    refine ⟨0, ⟨0, 0⟩, by omega, rfl, .inl ⟨rfl, rfl⟩, (hb0.trans (hb1.mono (by omega))).trans (hb2.mono (by omega)), (hl0.below hb1 hl0.lt).below hb2 (by omega), hp1.below hb2 (by omega), hp2⟩
  clear hW0 hW1 hW2 hl0 hb0 hz0 hp1 hb1 hz1 hp2 hb2
  go_loopw [11, 12, 13, 14, 15, 16, 17] (fun s11 s12 _ _ _ _ _ wr => Cho1 w L ms g dead A c s11 s12 wr) (fun _ s12 _ _ _ _ _ _ => L.disks - (intOf s12).toNat)
  case atStart => exact H0.out
  case round =>
    clear H0
    obtain ⟨k, t, hk, rfl, hbs, hcs⟩ := hrel
    have HBS := Lib.hid hbs
    have HCS := Lib.hid hcs
    obtain ⟨l0, l1, l2, l3⟩ := hcs.lay.cells
    clear hbs hcs
    by_cases hkd : k < L.disks
    · have hkI : (k : Int) < (L.disks : Int) := by omega
      obtain ⟨wo, hwo⟩ : ∃ wo, wo = wr := ⟨_, rfl⟩
      have HWR : Hid (Below wo.heap.size wo wr) := by rw [hwo]; exact Below.refl _ _
      rw [← hwo] at HCS
      have hvo := HV.out.below HCS.out.bel hB
      have hmo := HM.out.below' HCS.out.bel hB
      have hBo : B ≤ wo.heap.size := Nat.le_trans hB HCS.out.bel.size
      have HVO := Lib.hid hvo
      have HMO := Lib.hid hmo
      clear hwo hvo hmo
      go_wp2
      clear l0 l1 l2 l3
      go_loopw [13, 14] (fun s13 s14 wr => ∃ i : Nat, i ≤ L.w ∧ s14 = .int .i64 i ∧ s13 = .bool (holdP L ms g k i) ∧ Below wo.heap.size wo wr) (fun _ s14 _ => L.w - (intOf s14).toNat)
      case atStart => exact ⟨0, by omega, rfl, rfl, HWR.out⟩
      case round =>
        clear HWR
        obtain ⟨i, hi, rfl, rfl, hb⟩ := hrel
        have HB := Lib.hid hb
        obtain ⟨l0, l1, l2, l3⟩ := (HCS.out.below hb).lay.cells
        have hsz := hb.size
        clear hb
        go_wp2_with fail
        refine (HCW.out wr (HVO.out.below HB.out hBo) (Nat.le_trans hBo hsz)).mono ?_
        rintro r w3 ⟨rfl, hb3⟩
        have HB3 := Lib.hid (HB.out.trans (hb3.mono hsz))
        clear hb3 l0 l1 l2 l3 HB hsz
        obtain ⟨l0, l1, l2, l3⟩ := (HCS.out.below HB3.out).lay.cells
        by_cases hiw : i < L.w
        · have hiI : (i : Int) < (L.w : Int) := by omega
          have HST := Lib.hid (holdP_succ (L := L) (ms := ms) (g := g) (k : Int) i)
          obtain ⟨hp, hhp⟩ : ∃ hp, holdP L ms g k i = hp := ⟨_, rfl⟩
          rw [hhp] at HST ⊢
          clear hhp
          cases hp
          · have hB3 : B ≤ w3.heap.size := Nat.le_trans hBo HB3.out.size
            have hcp := HCP.out i w3 (HVO.out.below HB3.out hBo) (HMO.out.below' HB3.out hBo) hB3 hiw
            obtain ⟨dw, hdw⟩ : ∃ dw, (whereL L ms g i).disk = dw := ⟨_, rfl⟩
            rw [hdw] at hcp HST
            have HCP2 := Lib.hid hcp
            clear hcp hdw
            by_cases e1 : dw = (k : Int)
            · have f1 : (dw == (k : Int)) = true := by simpa using e1
              have HR : Hid (holdP L ms g k (i + 1) = true) := by rw [Hid, HST.out, f1]; rfl
              clear e1
              go_wp2_with fail
              refine HCP2.out.mono ?_
              rintro r w4 ⟨rfl, hb4⟩
              have HB4 := Lib.hid (HB3.out.trans (hb4.mono HB3.out.size))
              clear hb4 l0 l1 l2 l3
              have hfd := fun k x b W => field38 k x b W
              go_wp2
              go_roundw
              case rel => exact ⟨i + 1, by omega, by go_num, by rw [HR.out], HB4.out⟩
              case measure => simp [intOf] <;> omega
            · have f1 : (dw == (k : Int)) = false := by simpa using e1
              have HR : Hid (holdP L ms g k (i + 1) = false) := by rw [Hid, HST.out, f1]; rfl
              clear e1
              go_wp2_with fail
              refine HCP2.out.mono ?_
              rintro r w4 ⟨rfl, hb4⟩
              have HB4 := Lib.hid (HB3.out.trans (hb4.mono HB3.out.size))
              clear hb4 l0 l1 l2 l3
              have hfd := fun k x b W => field38 k x b W
              go_wp2
              go_roundw
              case rel => exact ⟨i + 1, by omega, by go_num, by rw [HR.out], HB4.out⟩
              case measure => simp [intOf] <;> omega
          · have HR : Hid (holdP L ms g k (i + 1) = true) := by rw [Hid, HST.out]; rfl
            go_wp2
            go_roundw
            case rel => exact ⟨i + 1, by omega, by go_num, by rw [HR.out], HB3.out⟩
            case measure => simp [intOf] <;> omega
        · have hiI : ¬ (i : Int) < (L.w : Int) := by omega
          have HHO : Hid (holdP L ms g k i = holdsL L ms g k) := by rw [Hid, show i = L.w by omega]; rfl
          rw [HHO.out]
          go_wp2_with fail
          refine (HCU.out k w3 (HVO.out.below HB3.out hBo) (HMO.out.below' HB3.out hBo) (Nat.le_trans hBo HB3.out.size)).mono ?_
          rintro r w4 ⟨⟨v, rfl, hown⟩, hb4⟩
          obtain ⟨Au, cu, rfl, -, -⟩ := hown.form
          rw [List.length_map] at hown ⊢
          have HO := Lib.hid hown
          have HB4 := Lib.hid (HB3.out.trans (hb4.mono HB3.out.size))
          have hcs4 := HCS.out.below HB4.out
          have HC4 := Lib.hid hcs4
          clear hown hb4 l0 l1 l2 l3 hiI
          obtain ⟨l0, l1, l2, l3⟩ := hcs4.lay.cells
          obtain ⟨dk, hdk⟩ := at_some (l := dead) (i := k) (by omega)
          obtain ⟨bd, od, rfl, -, q0⟩ := (BoolS.at_ (HD.out.below' hcs4.bel hB) hdk)
          have hdk2 : dead[k]?.getD false = dk := by rw [hdk]; rfl
          have HKEEP : Hid ((dk = true ∨ holdsL L ms g k = true ∨ L.spare ≤ (usedL L ms k).length ∨ ∃ x c, bestTo L ms g dead k = some (x, c) ∧ c ≤ (usedL L ms k).length) → bestTo L ms g dead (k + 1) = bestTo L ms g dead k) := fun h => best_keep (by rw [hdk2]; exact h)
          have HTAKE : Hid (dk = false → holdsL L ms g k = false → (usedL L ms k).length < L.spare → (∀ x c, bestTo L ms g dead k = some (x, c) → (usedL L ms k).length < c) → bestTo L ms g dead (k + 1) = some (k, (usedL L ms k).length)) := fun h1 h2 h3 h4 => best_take (by rw [hdk2]; exact h1) h2 h3 h4
          obtain ⟨ho, hho⟩ : ∃ ho, holdsL L ms g k = ho := ⟨_, rfl⟩
          rw [hho] at HKEEP HTAKE ⊢
          generalize hul : usedL L ms k = us at *
          have HUL := Lib.hid hul
          obtain ⟨nu, hnu⟩ : ∃ nu, us.length = nu := ⟨_, rfl⟩
          rw [hnu] at HKEEP HTAKE HO ⊢
          have HNU := Lib.hid hnu
          clear hcs4 hdk hdk2 hho hul hnu HHO
          have HBK : Hid (bestTo L ms g dead (k + 1) = bestTo L ms g dead k → ∀ s, BestS L ms g dead k s t → BestS L ms g dead (k + 1) s t) := fun h s hs => by
            unfold BestS at *
            rw [h]
            exact hs
          cases dk
          case true =>
            have HR := Lib.hid (HBK.out (HKEEP.out (.inl rfl)) _ HBS.out)
            go_wp2
            go_roundw
            case rel => exact ⟨k + 1, t, by omega, by go_num, HR.out, HC4.out⟩
            case measure => simp [intOf] <;> omega
          case false =>
            cases ho
            case true =>
              have HR := Lib.hid (HBK.out (HKEEP.out (.inr (.inl rfl))) _ HBS.out)
              go_wp2
              go_roundw
              case rel => exact ⟨k + 1, t, by omega, by go_num, HR.out, HC4.out⟩
              case measure => simp [intOf] <;> omega
            case false =>
              by_cases hns : L.spare ≤ nu
              · have HR := Lib.hid (HBK.out (HKEEP.out (.inr (.inr (.inl hns)))) _ HBS.out)
                have f1 : decide (L.spare ≤ nu) = true := by rw [decide_eq_true_iff]; exact hns
                clear hns
                go_wp2
                go_roundw
                case rel => exact ⟨k + 1, t, by omega, by go_num, HR.out, HC4.out⟩
                case measure => simp [intOf] <;> omega
              · have f1 : decide (L.spare ≤ nu) = false := by rw [decide_eq_false_iff_not]; exact hns
                have hnsl : nu < L.spare := by omega
                clear hns
                by_cases hcc : ∃ x c, bestTo L ms g dead k = some (x, c) ∧ c ≤ nu
                · have HR := Lib.hid (HBK.out (HKEEP.out (.inr (.inr (.inr hcc)))) _ HBS.out)
                  obtain ⟨x, cc, hb1, hb2⟩ := hcc
                  rcases HBS.out with ⟨h, -⟩ | ⟨x', c', h', rfl, -⟩
                  · rw [h] at hb1; cases hb1
                  · rw [h'] at hb1
                    cases hb1
                    have f2 : decide (cc ≤ nu) = true := by rw [decide_eq_true_iff]; exact hb2
                    clear hb2 h'
                    go_wp2
                    go_roundw
                    case rel => exact ⟨k + 1, t, by omega, by go_num, HR.out, HC4.out⟩
                    case measure => simp [intOf] <;> omega
                · have HT : Hid (bestTo L ms g dead (k + 1) = some (k, nu)) := HTAKE.out rfl rfl hnsl fun x c h => by
                    by_cases h2 : nu < c
                    · exact h2
                    · exact absurd ⟨x, c, h, by omega⟩ hcc
                  go_upto_region 11 with (fail)
                  go_cut [70] (fun s70 wx => s70 = .bool false ∧ wx = w4)
                  case first =>
                    rcases HBS.out with ⟨h, rfl⟩ | ⟨x', c', h', rfl, -⟩
                    · clear hcc
                      go_wp2_with fail
                      go_meet
                      exact ⟨rfl, rfl⟩
                    · have f2 : decide (c' ≤ nu) = false := by rw [decide_eq_false_iff_not]; exact fun h => hcc ⟨x', c', h', h⟩
                      clear hcc h'
                      go_wp2_with fail
                      go_meet
                      exact ⟨rfl, rfl⟩
                  obtain ⟨rfl, rfl⟩ := hcut
                  clear hcc
                  go_wp2_with fail
                  refine (HCH.out wc (HVO.out.below HB4.out hBo) (Nat.le_trans hBo HB4.out.size)).mono ?_
                  rintro r w5 ⟨rfl, hb5⟩
                  have HC5 := Lib.hid (HC4.out.below hb5)
                  have HO5 := Lib.hid (HO.out.below hb5)
                  clear hb5 l0 l1 l2 l3 q0
                  go_wp2
                  go_loopw [16, 17] (fun s16 s17 wr => ∃ i : Nat, i ≤ nu ∧ s17 = .int .i64 i ∧ s16 = .int .i64 ((L.homes : Int) + (i : Int)) ∧ (∀ j : Nat, j < i → us[j]? = some ((L.homes : Int) + (j : Int))) ∧ wr = w5) (fun _ s17 _ => nu - (intOf s17).toNat)
                  case atStart => exact ⟨0, by omega, rfl, by simp, fun j hj => absurd hj (by omega), rfl⟩
                  case round =>
                    obtain ⟨i, hi, rfl, rfl, hrun, rfl⟩ := hrel
                    have HRUN := Lib.hid hrun
                    clear hrun
                    obtain ⟨c0, c1, f0, f1'⟩ := HC5.out.best.cells
                    by_cases hin : i < nu
                    · have hiI : (i : Int) < (nu : Int) := by omega
                      obtain ⟨y, hy⟩ := at_some (l := us) (i := i) (by rw [HNU.out]; exact hin)
                      obtain ⟨gu, ou, e, -⟩ := HO5.out.pos (by rw [List.length_map, HNU.out]; omega)
                      rw [List.length_map, HNU.out] at e
                      injection e with e1 e2 e3
                      subst e1
                      have hr : (us.map icell)[i]? = some (icell y) := by rw [List.getElem?_map, hy]; rfl
                      have y0 : wr.cell? ⟨gu, i, none⟩ = some (.int .i64 y) := by simpa using HO5.out.cell hr (j := 0) rfl
                      have HYY := Lib.hid hy
                      clear hr hy e2 e3
                      by_cases e1 : y = (L.homes : Int) + (i : Int)
                      · have f3 : (y == (L.homes : Int) + (i : Int)) = true := by simpa using e1
                        have HRN : Hid (∀ j : Nat, j < i + 1 → us[j]? = some ((L.homes : Int) + (j : Int))) := fun j hj => by
                          rcases Nat.lt_or_eq_of_le (Nat.le_of_lt_succ hj) with hj | rfl
                          · exact HRUN.out j hj
                          · rw [HYY.out, e1]
                        clear e1
                        go_wp2
                        go_roundw
                        case rel => exact ⟨i + 1, by omega, by go_num, by go_num, HRN.out, trivial⟩
                        case measure => simp [intOf] <;> omega
                      · have f3 : (y == (L.homes : Int) + (i : Int)) = false := by simpa using e1
                        have HBN : Hid (BestS L ms g dead (k + 1) (.int .i64 (nu : Int)) ⟨k, (L.homes : Int) + (i : Int)⟩) := .inr ⟨k, nu, HT.out, rfl, by
                          rw [HUL.out, free_run HRUN.out (by rw [HYY.out]; intro h; cases h; exact e1 rfl)]⟩
                        clear e1
                        have HNW : Hid (ChoS w L A c ⟨k, (L.homes : Int) + (i : Int)⟩ ((wr.setCell ⟨w.heap.size + 2, 0, none⟩ (.int .i64 (k : Int))).setCell ⟨w.heap.size + 2, 1, none⟩ (.int .i64 ((L.homes : Int) + (i : Int))))) :=
                          ⟨(HC5.out.bel.setCell (by simp) _).setCell (by simp) _, (HC5.out.lay.far (by simp) _).far (by simp) _, (HC5.out.res.far (by simp) _).far (by simp) _, HC5.out.best.set ⟨k, (L.homes : Int) + (i : Int)⟩⟩
                        clear c0 c1 f0 f1'
                        obtain ⟨b0, b1, f0, f1'⟩ := HC5.out.best.cells
                        go_wp2
                        go_roundw
                        case rel => exact ⟨k + 1, ⟨k, (L.homes : Int) + (i : Int)⟩, by omega, by go_num, HBN.out, HNW.out⟩
                        case measure => simp [intOf] <;> omega
                    · have hiI : ¬ (i : Int) < (nu : Int) := by omega
                      have HBN : Hid (BestS L ms g dead (k + 1) (.int .i64 (nu : Int)) ⟨k, (L.homes : Int) + (i : Int)⟩) := .inr ⟨k, nu, HT.out, rfl, by
                        rw [HUL.out, free_run HRUN.out (by rw [List.getElem?_eq_none (by rw [HNU.out]; omega)]; simp)]⟩
                      have HNW : Hid (ChoS w L A c ⟨k, (L.homes : Int) + (i : Int)⟩ ((wr.setCell ⟨w.heap.size + 2, 0, none⟩ (.int .i64 (k : Int))).setCell ⟨w.heap.size + 2, 1, none⟩ (.int .i64 ((L.homes : Int) + (i : Int))))) :=
                        ⟨(HC5.out.bel.setCell (by simp) _).setCell (by simp) _, (HC5.out.lay.far (by simp) _).far (by simp) _, (HC5.out.res.far (by simp) _).far (by simp) _, HC5.out.best.set ⟨k, (L.homes : Int) + (i : Int)⟩⟩
                      clear c0 c1 f0 f1'
                      obtain ⟨b0, b1, f0, f1'⟩ := HC5.out.best.cells
                      go_wp2
                      go_roundw
                      case rel => exact ⟨k + 1, ⟨k, (L.homes : Int) + (i : Int)⟩, by omega, by go_num, HBN.out, HNW.out⟩
                      case measure => simp [intOf] <;> omega
    · have hkI : ¬ (k : Int) < (L.disks : Int) := by omega
      have HKD : Hid (k = L.disks) := by unfold Hid; omega
      obtain ⟨b0, b1, -, -⟩ := HCS.out.best.cells
      obtain ⟨r0, r1, f0, f1⟩ := HCS.out.res.cells
      have HRES : Hid (((wr.setCell ⟨w.heap.size + 1, 0, none⟩ (.int .i64 t.disk)).setCell ⟨w.heap.size + 1, 1, none⟩ (.int .i64 t.block)).heap[w.heap.size + 1]? = some (.cells #[.int .i64 t.disk, .int .i64 t.block] 50)) := HCS.out.res.set t
      have HBE : Hid (Below w.heap.size w ((wr.setCell ⟨w.heap.size + 1, 0, none⟩ (.int .i64 t.disk)).setCell ⟨w.heap.size + 1, 1, none⟩ (.int .i64 t.block))) := (HCS.out.bel.setCell (by simp) _).setCell (by simp) _
      rcases HBS.out with ⟨h, rfl⟩ | ⟨x', c', h', rfl, ht⟩
      · have HR : Hid (ChoP res (.returned (.tuple #[t.agg, .bool false]))) := by
          rw [HKD.out] at h
          refine ⟨fun u hu => ?_, fun _ => ⟨t, rfl⟩⟩
          rw [HCL.out, h] at hu
          cases hu
        clear h
        go_wp2
        (try simp only [Exit.inBlock, Exit.then])
        refine bodyPost_ret (v := .tuple #[.agg #[.int .i64 t.disk, .int .i64 t.block], .bool false]) ?_ rfl ⟨HR.out, HBE.out⟩
        rw [results_cell_tmp rfl]
        go_simp
      · have HR : Hid (ChoP res (.returned (.tuple #[t.agg, .bool true]))) := by
          rw [HKD.out] at h'
          refine ⟨fun u hu => ?_, fun hn => ?_⟩
          · rw [HCL.out, h'] at hu
            cases hu
            rw [ht]
          · rw [HCL.out, h'] at hn
            cases hn
        clear h' ht
        go_wp2
        (try simp only [Exit.inBlock, Exit.then])
        refine bodyPost_ret (v := .tuple #[.agg #[.int .i64 t.disk, .int .i64 t.block], .bool true]) ?_ rfl ⟨HR.out, HBE.out⟩
        rw [results_cell_tmp rfl]
        go_simp
end Go.Proofs.YteglnekkkhpikaaGreat
