/- Walk of spare.OnDisk. -/
import Derived.Test.YtkjjojmidhjjdaaGreatOdB
namespace Go.Proofs.YtkjjojmidhjjdaaGreat
open Go.RowKit

def toI (x : Nat × Nat) : Int × Int := ((x.1 : Int), (x.2 : Int))
theorem memN_toI (l : List (Nat × Nat)) : l.map memN = (l.map toI).map memC := by
  rw [List.map_map]
  rfl
theorem hasM_any {ms : List Mv} (h : ms.Pairwise ltM) (g p : Int) : hasM ms g p = ms.any (atM g p) := by
  rw [Bool.eq_iff_iff, hasM_iff h, List.any_eq_true]
  constructor
  · rintro ⟨x, h1, h2, h3⟩
    exact ⟨x, h1, by simp [atM, h2, h3]⟩
  · rintro ⟨x, h1, h2⟩
    simp [atM] at h2
    exact ⟨x, h1, h2.1, h2.2⟩
def filH (ms : List Mv) (l : List (Nat × Nat)) : List (Nat × Nat) := l.filter fun x => !(ms.any (atM x.1 x.2))
def filM (d : Nat) (l : List Mv) : List (Nat × Nat) := (l.filter fun m => m.to.disk == (d : Int)).map fun m => (m.g.toNat, m.p.toNat)
theorem rawOn_eq (L : LayD) (ms : List Mv) (d : Nat) : rawOn L ms d = filH ms (homeOn L d) ++ filM d ms := rfl
theorem filH_in {ms : List Mv} {l : List (Nat × Nat)} {k : Nat} {x : Nat × Nat} (hx : l[k]? = some x) (h : ms.any (atM x.1 x.2) = false) : filH ms (l.take (k + 1)) = filH ms (l.take k) ++ [x] := by
  unfold filH
  rw [List.take_add_one, hx]
  simp [List.filter_append, List.filter, h]
theorem filH_out {ms : List Mv} {l : List (Nat × Nat)} {k : Nat} {x : Nat × Nat} (hx : l[k]? = some x) (h : ms.any (atM x.1 x.2) = true) : filH ms (l.take (k + 1)) = filH ms (l.take k) := by
  unfold filH
  rw [List.take_add_one, hx]
  simp [List.filter_append, List.filter, h]
theorem filM_in {d : Nat} {l : List Mv} {k : Nat} {x : Mv} (hx : l[k]? = some x) (h : (x.to.disk == (d : Int)) = true) : filM d (l.take (k + 1)) = filM d (l.take k) ++ [(x.g.toNat, x.p.toNat)] := by
  unfold filM
  rw [List.take_add_one, hx]
  simp [List.filter_append, List.filter, h]
theorem filM_out {d : Nat} {l : List Mv} {k : Nat} {x : Mv} (hx : l[k]? = some x) (h : (x.to.disk == (d : Int)) = false) : filM d (l.take (k + 1)) = filM d (l.take k) := by
  unfold filM
  rw [List.take_add_one, hx]
  simp [List.filter_append, List.filter, h]
theorem filH_le (ms : List Mv) (l : List (Nat × Nat)) : (filH ms l).length ≤ l.length := List.length_filter_le _ _
theorem filM_le (d : Nat) (l : List Mv) : (filM d l).length ≤ l.length := by unfold filM; rw [List.length_map]; exact List.length_filter_le _ _
def OdH (ms : List Mv) (hl : List (Nat × Nat)) (w5 : World) (s12 s46 : Value) (wr : World) : Prop := ∃ k : Nat, k ≤ hl.length ∧ s46 = .int .i64 k ∧ OwS wr w5.heap.size 45 2 s12 ((filH ms (hl.take k)).map memN) ∧ Below w5.heap.size w5 wr
def OdM (d : Nat) (ms : List Mv) (fh : List (Nat × Nat)) (w5 : World) (s12 s66 : Value) (wr : World) : Prop := ∃ k : Nat, k ≤ ms.length ∧ s66 = .int .i64 k ∧ OwS wr w5.heap.size 45 2 s12 ((fh ++ filM d (ms.take k)).map memN) ∧ Below w5.heap.size w5 wr
/-- what spare.OnDisk answers -/
def OdkP (L : LayD) (ms : List Mv) (d : Int) (B : Nat) (w' : World) (r : Ending) : Prop :=
  (validM L ms = false → r = .returned (.tuple #[.slice none 0 0, .int .i64 1])) ∧ (validM L ms = true → (decide (0 ≤ d) && decide (d < (L.disks : Int))) = false → r = .returned (.tuple #[.slice none 0 0, .int .i64 2])) ∧
    (validM L ms = true → (decide (0 ≤ d) && decide (d < (L.disks : Int))) = true → ∃ v, ∃ ts : List (Int × Int), r = .returned (.tuple #[v, .int .i64 0]) ∧ OwS w' B 45 2 v (ts.map memC) ∧ ts.Perm ((rawOn L ms d.toNat).map toI) ∧ ts.Pairwise fun a b => a.1 ≤ b.1)
set_option maxHeartbeats 8000000 in
set_option maxRecDepth 100000 in
theorem sOnDisk_any {L : LayD} {A Am : Option Addr} {B c cm : Nat} {ms : List Mv} (d : Int) (w : World) (hx : LayX L) (hv : GsV w B A L.gs) (hM : MvS w B Am ms) (hwf : ∀ m ∈ ms, PlWf m.to) (hB : B ≤ w.heap.size) (hlen : ms.length ≤ 10000) :
    Calls Tryz.prog 8 #[layAgg L A c, .slice Am ms.length cm, .int .i64 d] w fun r w' => OdkP L ms d w.heap.size w' r ∧ Below w.heap.size w w' := by
  have HV := Lib.hid hv
  have HM := Lib.hid hM
  have HX := Lib.hid hx
  have HC := Lib.hid (fun W hv hM hB => scheck_any (L := L) (A := A) (Am := Am) (B := B) (c := c) (cm := cm) (ms := ms) W hx hv hM hwf hB (by omega))
  have HPV : Hid (validM L ms = true → MvOk L ms) := fun h => valid_ok h
  have HDEF : Hid (∀ w' r, OdkP L ms d w.heap.size w' r ↔ (validM L ms = false → r = .returned (.tuple #[.slice none 0 0, .int .i64 1])) ∧ (validM L ms = true → (decide (0 ≤ d) && decide (d < (L.disks : Int))) = false → r = .returned (.tuple #[.slice none 0 0, .int .i64 2])) ∧
    (validM L ms = true → (decide (0 ≤ d) && decide (d < (L.disks : Int))) = true → ∃ v, ∃ ts : List (Int × Int), r = .returned (.tuple #[v, .int .i64 0]) ∧ OwS w' w.heap.size 45 2 v (ts.map memC) ∧ ts.Perm ((rawOn L ms d.toNat).map toI) ∧ ts.Pairwise fun a b => a.1 ≤ b.1)) := fun w' r => Iff.rfl
  unfold layAgg at *
  clear hv hM hwf
  obtain ⟨res, hres⟩ : ∃ res, validM L ms = res := ⟨_, rfl⟩
  rw [hres] at HC HPV
  simp only [hres] at HDEF
  generalize OdkP L ms d = OP at *
  clear hres
  go_enter Tryz.func8, Tryz.ntmps8
  go_wp2_with fail
  generalize hW0 : w.alloc _ = w0
  have hl0 : LayB w0 w.heap.size L A c := by rw [← hW0]; exact LayB.made w L _ c
  have hb0 : Below w.heap.size w w0 := by rw [← hW0]; exact below_laid
  clear hW0
  refine (HC.out w0 (HV.out.below hb0 hB) (HM.out.below' hb0 hB) (Nat.le_trans hB hb0.size)).mono ?_
  rintro r w2 ⟨hr, hb2⟩
  have HL2 := Lib.hid (hl0.below hb2 hl0.lt)
  have HB2 := Lib.hid (hb0.trans (hb2.mono hb0.size))
  clear hl0 hb0 hb2 HC
  cases res
  · obtain rfl := hr
    unfold staZ
    have HB3 := Lib.hid (HB2.out.trans ((below_laid (w := w2) (o := .cells #[.int .i64 0, .slice none 0 0, .int .i64 0, .int .i64 0, .slice none 0 0, .int .i64 0, .int .i64 0] 65)).mono HB2.out.size))
    go_wp2
    go_ret2
    exact ⟨(HDEF.out _ _).2 ⟨fun _ => rfl, fun h => (by cases h), fun h => (by cases h)⟩, HB3.out⟩
  · obtain rfl := hr
    unfold staC
    have hs3 := StaB.made w2 L A c Am ms.length cm
    have hl3 := HL2.out.below (below_laid (o := .cells #[.int .i64 L.disks, .slice A L.n c, .int .i64 L.tiles, .int .i64 L.spare, .slice Am ms.length cm, .int .i64 L.homes, .int .i64 L.blocks] 65)) HL2.out.lt
    have hb3 := HB2.out.trans ((below_laid (w := w2) (o := .cells #[.int .i64 L.disks, .slice A L.n c, .int .i64 L.tiles, .int .i64 L.spare, .slice Am ms.length cm, .int .i64 L.homes, .int .i64 L.blocks] 65)).mono HB2.out.size)
    go_upto_region 4 with (fail)
    generalize w2.heap.size = S at *
    generalize w2.alloc _ = w3 at *
    obtain ⟨l0, l1, l2, l3⟩ := hl3.cells
    have HS3 := Lib.hid hs3
    have HB3 := Lib.hid hb3
    clear hl3 hs3 HL2 HB2
    by_cases h1 : d < 0
    · have f0 : (decide (0 ≤ d) && decide (d < (L.disks : Int))) = false := by rw [Bool.and_eq_false_iff]; left; rw [decide_eq_false_iff_not]; omega
      have f1 : decide (d < 0) = true := by simpa using h1
      have HRR : Hid (OP w.heap.size w3 (.returned (.tuple #[.slice none 0 0, .int .i64 2]))) := (HDEF.out _ _).2 ⟨fun h => (by cases h), fun _ _ => rfl, fun _ h => by rw [f0] at h; cases h⟩
      clear f0 h1
      go_wp2
      go_ret2
      exact ⟨HRR.out, HB3.out⟩
    · have f1 : decide (d < 0) = false := by simpa using h1
      by_cases h2 : d < (L.disks : Int)
      case neg =>
        have f0 : (decide (0 ≤ d) && decide (d < (L.disks : Int))) = false := by rw [Bool.and_eq_false_iff]; right; rw [decide_eq_false_iff_not]; exact h2
        have f2 : decide (d ≥ (L.disks : Int)) = true := by rw [decide_eq_true_iff]; omega
        have HRR : Hid (OP w.heap.size w3 (.returned (.tuple #[.slice none 0 0, .int .i64 2]))) := (HDEF.out _ _).2 ⟨fun h => (by cases h), fun _ _ => rfl, fun _ h => by rw [f0] at h; cases h⟩
        clear f0 h1 h2 hb3
        go_wp2
        go_ret2
        exact ⟨HRR.out, HB3.out⟩
      case pos =>
        have f0 : (decide (0 ≤ d) && decide (d < (L.disks : Int))) = true := by rw [Bool.and_eq_true]; exact ⟨by rw [decide_eq_true_iff]; omega, by rw [decide_eq_true_iff]; exact h2⟩
        have HF0 := Lib.hid f0
        obtain ⟨e, rfl⟩ : ∃ e : Nat, d = (e : Int) := ⟨d.toNat, by omega⟩
        have f1' : decide ((e : Int) < 0) = false := by rw [decide_eq_false_iff_not]; omega
        have f2 : decide (L.disks ≤ e) = false := by rw [decide_eq_false_iff_not]; omega
        have f3 : decide ((L.disks : Int) ≤ (e : Int)) = false := by rw [decide_eq_false_iff_not]; omega
        have hed : e < L.disks := by omega
        rw [Int.toNat_natCast] at HDEF
        have HOK : Hid (MvOk L ms) := HPV.out (by simp)
        have HLD := Lib.hid (lOnDisk_any (L := L) (A := A) (B := B) (c := c) e w3 HX.out (HV.out.below hb3 hB) (Nat.le_trans hB hb3.size) hed)
        unfold layAgg at HLD
        have HRO := Lib.hid (rawOn_eq L ms e)
        have hhl : (homeOn L e).length ≤ 65536 := by
          have := HX.out.ok.blocks
          unfold LayD.blocks at this
          have h : (homeOn L e).length = L.homes := by simp [homeOn]
          omega
        obtain ⟨hl, hhh⟩ : ∃ hl, homeOn L e = hl := ⟨_, rfl⟩
        rw [hhh] at HLD HRO hhl
        clear f0 h1 h2 hb3 hhh HPV f1
        go_wp2_with fail
        refine HLD.out.mono ?_
        rintro r w5 ⟨⟨v, rfl, hown⟩, hb5⟩
        obtain ⟨A10, c10, rfl, -, -⟩ := hown.form
        rw [List.length_map] at hown ⊢
        have hrd := hown.reads
        have HHL : Hid (RdS w5 w5.heap.size 2 A10 (hl.map memN)) := hrd
        have HB5 := Lib.hid (HB3.out.trans (hb5.mono HB3.out.size))
        have HS5 := Lib.hid (HS3.out.below hb5 HS3.out.lt)
        clear hown hb5 hrd l0 l1 l2 l3 HLD HB3 HS3
        go_wp2
        go_loopw [12, 14, 15, 16, 46] (fun s12 _ _ _ s46 wr => OdH ms hl w5 s12 s46 wr) (fun _ _ _ _ s46 _ => hl.length - (intOf s46).toNat)
        case atStart => exact ⟨0, by omega, rfl, OwS.nil _ _ _ _, Below.refl _ _⟩
        case round =>
          obtain ⟨k, hk, rfl, hown, hb⟩ := hrel
          obtain ⟨A12, c12, rfl, -, -⟩ := hown.form
          rw [List.length_map] at hown ⊢
          have hbw := HB5.out.trans (hb.mono HB5.out.size)
          have HSR := Lib.hid (HS5.out.below hb HS5.out.lt)
          have HBW := Lib.hid hbw
          by_cases hkn : k < hl.length
          · have hkI : (k : Int) < (hl.length : Int) := by omega
            obtain ⟨x, hx⟩ := at_some hkn
            have HI1 : Hid (ms.any (atM x.1 x.2) = false → filH ms (hl.take (k + 1)) = filH ms (hl.take k) ++ [x]) := fun h => filH_in hx h
            have HI2 : Hid (ms.any (atM x.1 x.2) = true → filH ms (hl.take (k + 1)) = filH ms (hl.take k)) := fun h => filH_out hx h
            have hfl : (filH ms (hl.take k)).length ≤ 65536 := by have := filH_le ms (hl.take k); rw [List.length_take] at this; omega
            have hrx := HHL.out.2 (by rw [List.length_map]; omega)
            obtain ⟨bx, ox, rfl, hbx, hcx⟩ := hrx
            have hrr : (hl.map memN)[k]? = some (memN x) := by rw [List.getElem?_map, hx]; rfl
            have q0 : wr.cell? ⟨bx, ox + k * 2, none⟩ = some (.int .i64 (x.1 : Int)) := (hb.cell (p := ⟨bx, ox + k * 2, none⟩) hbx).trans (by have := hcx k _ hrr 0 _ rfl; simpa using this)
            have q1 : wr.cell? ⟨bx, ox + k * 2 + 1, none⟩ = some (.int .i64 (x.2 : Int)) := (hb.cell (p := ⟨bx, ox + k * 2 + 1, none⟩) hbx).trans (by have := hcx k _ hrr 1 _ rfl; simpa using this)
            generalize filH ms (hl.take k) = fk at *
            have HO := Lib.hid hown
            have HB := Lib.hid hb
            have HAN : Hid (hasM ms (x.1 : Int) (x.2 : Int) = ms.any (atM x.1 x.2)) := hasM_any HOK.out.ord _ _
            obtain ⟨xg, xp⟩ := x
            simp only at q0 q1
            clear hx hown hb hcx hrr hbw
            go_upto_region 11 with (fail)
            generalize hW1 : wr.alloc _ = w1
            have hm1 : MbB w1 wr.heap.size (xg : Int) (xp : Int) := by rw [← hW1]; exact heap_alloc_new wr _
            have hb1 : Below wr.heap.size wr w1 := by rw [← hW1]; exact below_laid
            have HB1 := Lib.hid (HB.out.trans (hb1.mono HB.out.size))
            have HO1 := Lib.hid (HO.out.below hb1)
            have HS1 := Lib.hid (HSR.out.below hb1 HSR.out.lt)
            have HW1 := Lib.hid (HBW.out.trans (hb1.mono HBW.out.size))
            have HM1 := Lib.hid hm1
            generalize wr.heap.size = Y at *
            clear hW1 hm1 hb1 q0 q1 HB HO HSR HBW
            have hbs := bsearch_any (Am := Am) (B := B) (cm := cm) (ms := ms) (xg : Int) (xp : Int) w1 (HM.out.below' HW1.out hB) (Nat.le_trans hB HW1.out.size) (by omega) HOK.out.ord
            unfold memAgg at hbs
            rw [HAN.out] at hbs
            have HBS := Lib.hid hbs
            clear hbs
            obtain ⟨y0, y1, -, -⟩ := HM1.out.cells
            obtain ⟨s0, s1, s2, s3, s4, s5, s6⟩ := HS1.out.cells
            obtain ⟨an, han⟩ : ∃ an, ms.any (atM (xg : Int) (xp : Int)) = an := ⟨_, rfl⟩
            simp only [han] at HI1 HI2 HBS
            clear han HAN
            go_wp2_with fail
            refine HBS.out.mono ?_
            rintro r w6 ⟨rfl, hb6⟩
            have HB6 := Lib.hid (HB1.out.trans (hb6.mono HB1.out.size))
            have HO6 := Lib.hid (HO1.out.below hb6)
            have HM6 := Lib.hid (HM1.out.below hb6 HM1.out.lt)
            clear hb6 y0 y1 s0 s1 s2 s3 s4 s5 s6 HBS HB1 HO1 HM1 HS1 HW1
            cases an
            · have HR := Lib.hid (HI1.out (by simp))
              obtain ⟨y0, y1, -, -⟩ := HM6.out.cells
              have hs6 := HB6.out.size
              go_wp2_with (at_builtin; refine wpList_ap1 rfl (.tmp 59) (.tmp 61) _ rfl elemMem rfl HO6.out (memN (xg, xp)) _ (by rfl) w6.heap.size (by rfl) (by rfl) (memN_one (xg, xp)) (by rw [List.length_map]; simp [maxLen]; omega) (by rw [List.length_map]; omega) (by omega) ?_)
              rintro v1 w7 hown1 hg1 -
              have HO7 : Hid (OwS w7 w5.heap.size 45 2 v1 ((fk ++ [(xg, xp)]).map memN)) := by
                rw [Hid, List.map_append]
                exact hown1
              have HB7 : Hid (Below w5.heap.size w5 w7) := (HB6.out.alloc HB6.out.size _).grown hg1 (by simp; omega) (fun q hq => (HO6.out.lt hq).1)
              clear hown1 hg1 y0 y1
              go_wp2
              go_roundw
              case rel => exact ⟨k + 1, by omega, by go_num, by rw [HR.out]; exact HO7.out, HB7.out⟩
              case measure => simp [intOf] <;> omega
            · have HR := Lib.hid (HI2.out (by simp))
              go_wp2
              go_roundw
              case rel => exact ⟨k + 1, by omega, by go_num, by rw [HR.out]; exact HO6.out, HB6.out⟩
              case measure => simp [intOf] <;> omega
          · have hkI : ¬ (k : Int) < (hl.length : Int) := by omega
            obtain rfl : k = hl.length := by omega
            rw [List.take_length] at hown ⊢
            have hfl := filH_le ms hl
            have HO := Lib.hid hown
            have HB := Lib.hid hb
            generalize filH ms hl = fh at *
            clear hown hb hbw HSR HBW
            generalize wr = wo at *
            go_wp2
            go_loopw [12, 18, 66] (fun s12 _ s66 wr => OdM e ms fh w5 s12 s66 wr) (fun _ _ s66 _ => ms.length - (intOf s66).toNat)
            case atStart => exact ⟨0, by omega, rfl, by simpa [filM] using HO.out, HB.out⟩
            case round =>
              obtain ⟨j, hj, rfl, hown, hb⟩ := hrel
              obtain ⟨A13, c13, rfl, -, -⟩ := hown.form
              rw [List.length_map] at hown ⊢
              have HBR := Lib.hid (HB5.out.trans (hb.mono HB5.out.size))
              by_cases hjn : j < ms.length
              · have hjI : (j : Int) < (ms.length : Int) := by omega
                obtain ⟨x, hx⟩ := at_some hjn
                have HI1 : Hid ((x.to.disk == (e : Int)) = true → filM e (ms.take (j + 1)) = filM e (ms.take j) ++ [(x.g.toNat, x.p.toNat)]) := fun h => filM_in hx h
                have HI2 : Hid ((x.to.disk == (e : Int)) = false → filM e (ms.take (j + 1)) = filM e (ms.take j)) := fun h => filM_out hx h
                have hfm : (filM e (ms.take j)).length ≤ 10000 := by have := filM_le e (ms.take j); rw [List.length_take] at this; omega
                obtain ⟨xg, xp, hxg, hxp, -, -⟩ := isP_nat (HOK.out.is x (List.mem_of_getElem? hx))
                obtain ⟨bx, ox, rfl, -, q0, q1, q2, q3⟩ := MvS.at_ (HM.out.below' HBR.out hB) hx
                generalize filM e (ms.take j) = fk at *
                have HO2 := Lib.hid hown
                have HB2' := Lib.hid hb
                obtain ⟨mg, mp, md, mb⟩ := x
                simp only at hxg hxp q0 q1 q2 q3 HI1 HI2
                subst hxg hxp
                simp only [Int.toNat_natCast] at HI1 HI2
                have hap : ((fh ++ fk).map memN).length = (fh ++ fk).length := List.length_map _
                have hal : (fh ++ fk).length ≤ 80000 := by rw [List.length_append]; omega
                clear hx hown hb
                go_upto_region 18 with (fail)
                generalize hW1 : wr.alloc _ = w1
                have hm1 : MvB w1 wr.heap.size ⟨(xg : Int), (xp : Int), ⟨md, mb⟩⟩ := by rw [← hW1]; exact MvB.made wr ⟨(xg : Int), (xp : Int), ⟨md, mb⟩⟩
                have hb1 : Below wr.heap.size wr w1 := by rw [← hW1]; exact below_laid
                have HB1 := Lib.hid (HB2'.out.trans (hb1.mono HB2'.out.size))
                have HO1 := Lib.hid (HO2.out.below hb1)
                have m1 := hm1.cells
                simp only at m1
                generalize wr.heap.size = Y at *
                clear hW1 hm1 hb1 q0 q1 q2 q3 HB2' HO2 HBR
                obtain ⟨m10, m11, m12, m13⟩ := m1
                have hs1 := HB1.out.size
                by_cases hde : md = (e : Int)
                · have f5 : (md == (e : Int)) = true := by simpa using hde
                  have HR := Lib.hid (HI1.out f5)
                  clear HI1 HI2 hde
                  go_wp2_with (at_builtin; refine wpList_ap1 rfl (.tmp 75) (.tmp 81) _ rfl elemMem rfl HO1.out (memN (xg, xp)) _ (by rfl) w1.heap.size (by rfl) (by rfl) (memN_one (xg, xp)) (by rw [hap]; simp [maxLen]; omega) (by rw [hap]; omega) (by omega) ?_)
                  rintro v1 w7 hown1 hg1 -
                  have HO7 : Hid (OwS w7 w5.heap.size 45 2 v1 ((fh ++ (fk ++ [(xg, xp)])).map memN)) := by
                    rw [Hid, List.map_append, List.map_append]
                    exact hown1
                  have HB7 : Hid (Below w5.heap.size w5 w7) := (HB1.out.alloc HB1.out.size _).grown hg1 (by simp; omega) (fun q hq => (HO1.out.lt (k := q) (by rw [List.length_append]; exact hq)).1)
                  clear hown1 hg1 m10 m11 m12 m13
                  go_wp2
                  go_roundw
                  case rel => exact ⟨j + 1, by omega, by go_num, by rw [HR.out]; exact HO7.out, HB7.out⟩
                  case measure => simp [intOf] <;> omega
                · have f5 : (md == (e : Int)) = false := by simpa using hde
                  have HR := Lib.hid (HI2.out f5)
                  clear HI1 HI2 hde
                  go_wp2
                  go_roundw
                  case rel => exact ⟨j + 1, by omega, by go_num, by rw [HR.out]; exact HO1.out, HB1.out⟩
                  case measure => simp [intOf] <;> omega
              · have hjI : ¬ (j : Int) < (ms.length : Int) := by omega
                obtain rfl : j = ms.length := by omega
                rw [List.take_length] at hown ⊢
                have hfm := filM_le e ms
                have hal : (fh ++ filM e ms).length ≤ 80000 := by rw [List.length_append]; omega
                rw [← HRO.out] at hown hal ⊢
                rw [memN_toI] at hown
                have hso := sortM ((rawOn L ms e).map toI) (.slice A13 (rawOn L ms e).length c13) w5.heap.size wr hown (by rw [List.length_map]; omega)
                have HSO := Lib.hid hso
                have HOW := Lib.hid hown
                have HBE := Lib.hid hb
                clear hown hb hso
                go_wp2_with fail
                refine HSO.out.mono ?_
                rintro r w8 ⟨rfl, ts, hp, hpw, hown8, hg8⟩
                have HB8 : Hid (Below w.heap.size w w8) := (HB5.out.trans (HBE.out.mono HB5.out.size)).grown hg8 (HB5.out.trans (HBE.out.mono HB5.out.size)).size (fun q hq => Nat.le_trans HB5.out.size (HOW.out.lt hq).1)
                have HRR : Hid (OP w.heap.size w8 (.returned (.tuple #[.slice A13 (rawOn L ms e).length c13, .int .i64 0]))) :=
                  (HDEF.out _ _).2 ⟨fun h => (by cases h), fun _ h => (by rw [HF0.out] at h; cases h), fun _ _ => ⟨_, ts, rfl, hown8.mono HB5.out.size, hp, hpw.imp fun h => by omega⟩⟩
                clear hp hpw hown8 hg8 HSO
                go_wp2
                go_ret2
                exact ⟨HRR.out, HB8.out⟩
end Go.Proofs.YtkjjojmidhjjdaaGreat
