/- Walk of tegularef23.Rebuild. -/
import Derived.Test.YteglnekkkhpikaaGreatGPab
import Derived.Test.YteglnekkkhpikaaGreatOdN
import Derived.Deep.RegionHeld3
namespace Go.Proofs.YteglnekkkhpikaaGreat
open Go.RowKit

theorem elemTask : Elem Tryz.prog 38 52 5 56 := Elem.mk (z := .agg #[.int .i64 0, .int .i64 0, .slice none 0 0, .int .i64 0, .int .i64 0]) Tryz.underlying38 (by kernel_rfl) (by decide) rfl
theorem tskRow_one (p : Option Addr × Nat) (t : Tsk) : ∀ u ∈ tskRow p t, u.oneCell' = true := by
  intro u hu
  simp [tskRow] at hu
  rcases hu with rfl | rfl | rfl | rfl | rfl <;> rfl
/-- a pair read from a list -/
theorem pair_atP {w : World} {B : Nat} {A : Option Addr} {l : List (Nat × Nat)} (h : RdS w B 2 A (l.map memN)) {k : Nat} {x : Nat × Nat} (hx : l[k]? = some x) : ∃ b off, A = some ⟨b, off, none⟩ ∧ b < B ∧ w.cell? ⟨b, off + k * 2, none⟩ = some (.int .i64 (x.1 : Int)) ∧ w.cell? ⟨b, off + k * 2 + 1, none⟩ = some (.int .i64 (x.2 : Int)) := by
  have hk := (List.getElem?_eq_some_iff.1 hx).1
  obtain ⟨b, off, rfl, hb, hc⟩ := h.2 (by simp; omega)
  have hr : (l.map memN)[k]? = some (memN x) := by rw [List.getElem?_map, hx]; rfl
  exact ⟨b, off, rfl, hb, by simpa using hc k _ hr 0 _ rfl, by simpa using hc k _ hr 1 _ rfl⟩
/-- what from answers, as a value -/
def FrQ (L : LayD) (hs : List Nat) (g B : Nat) (w' : World) (v : Value) : Prop := (fromL L hs g = none ∧ v = .slice none 0 0) ∨ ∃ a c', fromL L hs g = some (fromV L hs g) ∧ v = .slice (some a) (fromV L hs g).length c' ∧ OwS w' B 3 1 v ((fromV L hs g).map natC)
theorem FromP.q {L : LayD} {hs : List Nat} {g B C : Nat} {w' : World} {r : Ending} (ok : LayOk L) (hn : hs.Nodup) (hl : ∀ x ∈ hs, x < L.w) (hC : C ≤ B) (h : FromP L hs g B w' r) : ∃ v, r = .returned v ∧ FrQ L hs g C w' v := by
  have hw := ok.w
  by_cases hlt : hs.length < L.w - 3
  · exact ⟨_, h.1 hlt, .inl ⟨from_none hlt, rfl⟩⟩
  · obtain ⟨v, rfl, ho⟩ := h.2 hlt
    have hlen := fromV_len (g := g) hn hl (by omega) hlt
    have ho' := ho.mono hC
    refine ⟨v, rfl, .inr ?_⟩
    rcases ho'.2.2 with ⟨-, h0⟩ | ⟨b, cap, cur, rfl, -⟩
    · simp at h0
      rw [h0] at hlen
      simp at hlen
      omega
    · exact ⟨⟨b, 0, none⟩, cap, from_some hlt, by rw [List.length_map], ho'⟩
theorem FrQ.below {L : LayD} {hs : List Nat} {g B : Nat} {w w' : World} {v : Value} (h : FrQ L hs g B w v) (hb : Below w.heap.size w w') : FrQ L hs g B w' v := by
  rcases h with h | ⟨a, c, h1, h2, h3⟩
  · exact .inl h
  · exact .inr ⟨a, c, h1, h2, h3.below hb⟩
theorem helpL_len {L : LayD} {ms : List Mv} {g : Nat} {dead : List Bool} (ok : LayOk L) (h : MvOk L ms) : (helpL L ms g dead).length ≤ L.w := by
  have := sub_len (l2 := List.range L.w) (helpL_nodup ok h (g := g) (dead := dead)) List.nodup_range fun x hx => List.mem_range.2 (helpL_lt x hx)
  simpa using this
theorem refG_cons {L : LayD} {ms : List Mv} {dead : List Bool} {g p : Nat} {r : List (Nat × Nat)} {now : List Mv} {out : List Tsk} : refG L ms dead ((g, p) :: r) now out = match fromL L (helpL L ms g dead) g with
    | none => ([], 12)
    | some f => match chooseL L now g dead with
      | none => ([], 11)
      | some t => refG L ms dead r (withM now ⟨g, p, t⟩) (out ++ [⟨g, p, f, t⟩]) := rfl
/-- what a rebuild answers -/
def RebP (res : List Tsk × Int) (B : Nat) (w' : World) (r : Ending) : Prop := ∃ v, r = .returned (.tuple #[v, .int .i64 res.2]) ∧ TskO w' B v res.1
/-- the moves so far: those that came in, or a list of the call's own -/
def NwS (w : World) (B : Nat) (A : Option Addr) (c : Nat) (now : List Mv) : Prop := MvS w B A now ∨ OwS w B 62 4 (.slice A now.length c) (now.map Mv.cells)
theorem NwS.below {w w' : World} {B c : Nat} {A : Option Addr} {now : List Mv} (h : NwS w B A c now) (hb : Below w.heap.size w w') (hB : B ≤ w.heap.size) : NwS w' B A c now := by
  rcases h with h | h
  · exact .inl (RdS.below' h hb hB)
  · exact .inr (h.below hb)
theorem NwS.reads {w : World} {B c : Nat} {A : Option Addr} {now : List Mv} (h : NwS w B A c now) (hB : B ≤ w.heap.size) : MvS w w.heap.size A now := by
  rcases h with h | h
  · exact RdS.more h hB
  · exact (OwS.rds h).2
theorem NwS.grown {w w' : World} {B c : Nat} {A : Option Addr} {now : List Mv} {v : Value} {vs : List (Option Addr × Nat)} {ts : List Tsk} {o : Obj} (h : NwS w B A c now) (hT : TskW w B v vs ts) (hB : B ≤ w.heap.size) (hg : (w.alloc o).grownBy w' v.ownBlock) : NwS w' B A c now := by
  rcases h with h | h
  · exact .inl (RdS.below' h (((Below.refl B w).alloc hB o).grown hg (by simp; omega) (fun q hq => (hT.2.1.lt hq).1)) (Nat.le_refl _))
  · exact .inr ((h.alloc o).kept hg ((h.alloc o).ne (hT.2.1.alloc o) (by decide)))
theorem PlB.task {w w' : World} {X B : Nat} {t : Plc} {v : Value} {rows : List (List Value)} {o : Obj} (h : PlB w X t) (hT : OwS w B 52 5 v rows) (hg : (w.alloc o).grownBy w' v.ownBlock) : PlB w' X t := by
  have hlt := h.lt
  have hX : some X ≠ v.ownBlock := by
    rcases hT.2.2 with ⟨rfl, -⟩ | ⟨b, cap, cur, rfl, -, hh, -⟩
    · simp [Value.ownBlock]
    · intro e
      simp only [Value.ownBlock, Option.some.injEq] at e
      subst e
      unfold PlB at h
      rw [h] at hh
      injection hh with hh
      injection hh with _ h2
      exact absurd h2 (by decide)
  exact (hg.block X (by simp; omega) hX).trans (((below_laid (w := w) (o := o)).block X hlt).trans h)
def RbR (L : LayD) (ms : List Mv) (dead : List Bool) (ol : List (Nat × Nat)) (res : List Tsk × Int) (w0 : World) (s10 s11 s13 : Value) (wr : World) : Prop :=
  ∃ (i : Nat) (now : List Mv) (out : List Tsk) (A11 : Option Addr) (c11 : Nat), i ≤ ol.length ∧ s13 = .int .i64 i ∧ s11 = .slice A11 now.length c11 ∧ NwS wr w0.heap.size A11 c11 now ∧ MvOk L now ∧ now.length ≤ ms.length + i ∧
    TskO wr w0.heap.size s10 out ∧ out.length = i ∧ refG L ms dead (ol.drop i) now out = res ∧ Below w0.heap.size w0 wr
set_option maxHeartbeats 8000000 in
set_option maxRecDepth 100000 in
theorem r23rebuild {L : LayD} {A Am Ad : Option Addr} {B c cm cd : Nat} {ms : List Mv} {dead : List Bool} (d : Int) (w : World) (hx : LayX L) (hok : MvOk L ms) (hv : GsV w B A L.gs) (hM : MvS w B Am ms) (hD : BoolS w B Ad dead) (hdl : dead.length = L.disks) (hB : B ≤ w.heap.size) (hlen : ms.length ≤ 1000) :
    Calls Tryz.prog 13 #[layAgg L A c, .slice Am ms.length cm, .int .i64 d, .slice Ad L.disks cd] w fun r w' => RebP (rebL L ms d dead) w.heap.size w' r ∧ Below w.heap.size w w' := by
  have HV := Lib.hid hv
  have HM := Lib.hid hM
  have HD := Lib.hid hD
  have HX := Lib.hid hx
  have HDL := Lib.hid hdl
  have HOK := Lib.hid hok
  have hw16 := hx.ok.w
  have hd60 := hx.ok.disks
  have hro := fun (W : World) hv hM hB => r22on (L := L) (A := A) (Am := Am) (B := B) (c := c) (cm := cm) (ms := ms) d W hx hv hM hB (by omega)
  have hhp := fun (g : Nat) (hg : g < L.G) (W : World) hv hM hD hB => r23helpers (L := L) (A := A) (Am := Am) (Ad := Ad) (B := B) (c := c) (cm := cm) (cd := cd) (ms := ms) (dead := dead) g W hx hv hM hD hdl hB hg (by omega)
  unfold layAgg at *
  have HRO := Lib.hid hro
  have HHP := Lib.hid hhp
  have HRB : Hid (∀ res, rebL L ms d dead = res → (if (decide (0 ≤ d) && decide (d < (L.disks : Int))) = false then ([], 2) else if dead[d.toNat]?.getD false = false then ([], 8) else refG L ms dead (onL L ms d) ms []) = res) := fun res h => h
  obtain ⟨res, hres⟩ : ∃ res, rebL L ms d dead = res := ⟨_, rfl⟩
  rw [hres]
  have hrb := HRB.out res hres
  have HDEF : Hid (∀ w' B v, TskO w' B v res.1 → RebP res B w' (.returned (.tuple #[v, .int .i64 res.2]))) := fun w' B v h => ⟨v, rfl, h⟩
  have HDEQ : Hid (∀ (w' : World) (B : Nat) (e : Int), res = ([], e) → RebP res B w' (.returned (.tuple #[.slice none 0 0, .int .i64 e]))) := fun w' B e h => ⟨.slice none 0 0, by rw [h], by rw [h]; exact ⟨[], TskW.nil _ _⟩⟩
  generalize RebP res = RP at *
  clear hv hM hD hro hhp hres HRB
  go_enter Tryz.func13, Tryz.ntmps13
  go_upto_region 1 with (fail)
  generalize hW0 : w.alloc _ = w0
  have hl0 : LayB w0 w.heap.size L A c := by rw [← hW0]; exact LayB.made w L A c
  have hb0 : Below w.heap.size w w0 := by rw [← hW0]; exact below_laid
  have HL0 := Lib.hid hl0
  have HB0 := Lib.hid hb0
  obtain ⟨l0, l1, l2, l3⟩ := hl0.cells
  clear hW0 hl0 hb0
  by_cases h1 : d < 0
  case pos =>
    have f0 : (decide (0 ≤ d) && decide (d < (L.disks : Int))) = false := by rw [Bool.and_eq_false_iff]; left; rw [decide_eq_false_iff_not]; omega
    rw [if_pos f0] at hrb
    have f1 : decide (d < 0) = true := by rw [decide_eq_true_iff]; exact h1
    have HRR := Lib.hid (HDEQ.out w0 w.heap.size 2 hrb.symm)
    clear f0 h1 hrb
    go_wp2
    go_ret2
    exact ⟨HRR.out, HB0.out⟩
  case neg =>
    have f1 : decide (d < 0) = false := by rw [decide_eq_false_iff_not]; exact h1
    by_cases h2 : d < (L.disks : Int)
    case neg =>
      have f0 : (decide (0 ≤ d) && decide (d < (L.disks : Int))) = false := by rw [Bool.and_eq_false_iff]; right; rw [decide_eq_false_iff_not]; exact h2
      rw [if_pos f0] at hrb
      have f2 : decide ((L.disks : Int) ≤ d) = true := by rw [decide_eq_true_iff]; omega
      have HRR := Lib.hid (HDEQ.out w0 w.heap.size 2 hrb.symm)
      clear f0 h1 h2 hrb
      go_wp2
      go_ret2
      exact ⟨HRR.out, HB0.out⟩
    case pos =>
      have f0 : (decide (0 ≤ d) && decide (d < (L.disks : Int))) = true := by rw [Bool.and_eq_true]; exact ⟨by rw [decide_eq_true_iff]; omega, by rw [decide_eq_true_iff]; exact h2⟩
      rw [if_neg (by rw [f0]; decide)] at hrb
      obtain ⟨e, rfl⟩ : ∃ e : Nat, d = (e : Int) := ⟨d.toNat, by omega⟩
      have hed : e < L.disks := by omega
      rw [Int.toNat_natCast] at hrb
      have f1' : decide ((e : Int) < 0) = false := by rw [decide_eq_false_iff_not]; omega
      have f2 : decide (L.disks ≤ e) = false := by rw [decide_eq_false_iff_not]; omega
      have f3 : decide ((L.disks : Int) ≤ (e : Int)) = false := by rw [decide_eq_false_iff_not]; omega
      have heI : (e : Int) < (L.disks : Int) := h2
      obtain ⟨bv, hbv⟩ := at_some (l := dead) (i := e) (by rw [HDL.out]; exact hed)
      have hbg : dead[e]?.getD false = bv := by rw [hbv]; rfl
      rw [hbg] at hrb
      obtain ⟨bd, od, hAd, -, dc⟩ := BoolS.at_ (RdS.below' HD.out HB0.out hB) hbv
      subst hAd
      clear f0 h1 f1 hbv hbg
      cases bv
      case false =>
        rw [if_pos rfl] at hrb
        have HRR := Lib.hid (HDEQ.out w0 w.heap.size 8 hrb.symm)
        clear hrb
        go_wp2
        go_ret2
        exact ⟨HRR.out, HB0.out⟩
      case true =>
        rw [if_neg (by decide)] at hrb
        have HRES := Lib.hid hrb
        clear hrb
        go_wp2_with fail
        refine (HRO.out w0 (HV.out.below HB0.out hB) (HM.out.below' HB0.out hB) (Nat.le_trans hB HB0.out.size)).mono ?_
        rintro r w2 ⟨⟨v, rfl, hown⟩, hb2⟩
        obtain ⟨A12, c12, rfl, -, -⟩ := hown.form
        rw [List.length_map] at hown ⊢
        have HOL := Lib.hid hown
        have HB2 := Lib.hid (HB0.out.trans (hb2.mono HB0.out.size))
        have HL2 := Lib.hid (HL0.out.below hb2 HL0.out.lt)
        clear hown hb2 l0 l1 l2 l3 f1' f2 f3 heI dc HRO HL0
        have hol2 : (onL L ms (e : Int)).length ≤ 65536 := by
          rw [onL_to]
          exact Nat.le_trans (onTo_len L ms (e : Int) L.G) (Nat.le_trans (Nat.mul_le_mul HX.out.ok.G HX.out.ok.w.2) (by decide))
        have HIS : Hid (∀ x ∈ onL L ms (e : Int), isP L x.1 x.2 = true ∧ x.1 < L.G) := fun x hx => by
          obtain ⟨g, i⟩ := x
          exact ⟨on_isP _ hx, (onL_mem.1 hx).1⟩
        have hrd := HOL.out.reads
        obtain ⟨ol, hoo⟩ : ∃ ol, onL L ms (e : Int) = ol := ⟨_, rfl⟩
        rw [hoo] at hol2 HIS hrd HRES
        have HQ2 : Hid (RdS w2 w2.heap.size 2 A12 (ol.map memN)) := hrd
        have H0 : Hid (RbR L ms dead ol res w2 (.slice none 0 0) (.slice Am ms.length cm) (.int .i64 0) w2) := ⟨0, ms, [], Am, cm, by omega, rfl, rfl, Or.inl ((HM.out.below' HB2.out hB).more (Nat.le_trans hB HB2.out.size)), HOK.out, by omega, ⟨[], TskW.nil _ _⟩, rfl, HRES.out, Below.refl _ _⟩
        rw [hoo]
        clear hoo hrd HRES HOL
        go_wp2
        go_loopw [10, 11, 13, 14, 15, 16, 17, 18] (fun s10 s11 s13 _ _ _ _ _ wr => RbR L ms dead ol res w2 s10 s11 s13 wr) (fun _ _ s13 _ _ _ _ _ _ => ol.length - (intOf s13).toNat)
        case atStart => exact H0.out
        case round =>
          clear H0
          obtain ⟨i, now, out, A11, c11, hi, rfl, rfl, hnow, hokn, hnl, htsk, hout, hrem, hb⟩ := hrel
          obtain ⟨A10, c10, rfl⟩ := htsk.form
          have HNW := Lib.hid hnow
          have HKN := Lib.hid hokn
          have HTS := Lib.hid htsk
          have HRM := Lib.hid hrem
          have HB := Lib.hid hb
          have HOU := Lib.hid hout
          have hol1 : out.length ≤ 65536 := by omega
          clear hout
          by_cases hil : i < ol.length
          case neg =>
            have hiI : ¬ (i : Int) < (ol.length : Int) := by omega
            have hfin : res = (out, 0) := by
              have h := HRM.out
              rw [List.drop_eq_nil_of_le (by omega)] at h
              exact h.symm
            have HE := Lib.hid (HB2.out.trans (hb.mono HB2.out.size))
            have HRR : Hid (RP w.heap.size wr (.returned (.tuple #[.slice A10 out.length c10, .int .i64 0]))) := by
              have h := HDEF.out wr w.heap.size (.slice A10 out.length c10) (by rw [hfin]; exact HTS.out.mono HB2.out.size)
              rw [hfin] at h
              exact h
            clear hnow hokn htsk hrem hb hfin
            go_wp2
            go_ret2
            exact ⟨HRR.out, HE.out⟩
          case pos =>
            have hiI : (i : Int) < (ol.length : Int) := by omega
            obtain ⟨⟨g, p⟩, hx⟩ := at_some hil
            have hdr : ol.drop i = (g, p) :: ol.drop (i + 1) := by
              obtain ⟨h1, h2⟩ := List.getElem?_eq_some_iff.1 hx
              rw [List.drop_eq_getElem_cons h1, h2]
            obtain ⟨hip, hgG⟩ := HIS.out (g, p) (List.mem_of_getElem? hx)
            simp only at hip hgG
            obtain ⟨b2, o2, rfl, -, q0, q1⟩ := pair_atP (RdS.below' HQ2.out hb (Nat.le_refl _)) hx
            simp only at q0 q1
            have HDR := Lib.hid hdr
            have HIP := Lib.hid hip
            have HLR := Lib.hid (HL2.out.below hb HL2.out.lt)
            have HWR := Lib.hid (HB2.out.trans (hb.mono HB2.out.size))
            clear hnow hokn htsk hrem hb hdr hx hip
            go_wp2_with fail
            go_quiet (fail)
            generalize hdr : wr.drewN _ = w3
            have hbx : Below wr.heap.size wr w3 := by rw [← hdr]; exact below_drewN (Below.refl _ _) _
            have HB3 := Lib.hid (HB.out.trans (hbx.mono HB.out.size))
            have HT3 := Lib.hid (HTS.out.below hbx)
            have HN3 := Lib.hid (HNW.out.below hbx HB.out.size)
            have HL3 := Lib.hid (HLR.out.below hbx HLR.out.lt)
            have HW3 := Lib.hid (HWR.out.trans (hbx.mono HWR.out.size))
            clear hdr hbx q0 q1 HB HTS HNW HLR HWR
            obtain ⟨hs, hhs⟩ : ∃ hs, helpL L ms g dead = hs := ⟨_, rfl⟩
            have hsn : hs.Nodup := by rw [← hhs]; exact helpL_nodup HX.out.ok HOK.out
            have hsl : ∀ x ∈ hs, x < L.w := by rw [← hhs]; exact helpL_lt
            have hs16 : hs.length ≤ 16 := by rw [← hhs]; exact Nat.le_trans (helpL_len HX.out.ok HOK.out) hw16.2
            have HKS : Hid (∀ W, Below w3.heap.size w3 W → (W.cell? ⟨w.heap.size, 0, none⟩ = some (.int .i64 (L.disks : Int)) ∧ W.cell? ⟨w.heap.size, 1, none⟩ = some (.slice A L.n c) ∧ W.cell? ⟨w.heap.size, 2, none⟩ = some (.int .i64 (L.tiles : Int)) ∧ W.cell? ⟨w.heap.size, 3, none⟩ = some (.int .i64 (L.spare : Int)))) := fun W hW => (HL3.out.below hW HL3.out.lt).cells
            have HCA : Hid (∀ W, Below w3.heap.size w3 W → Calls Tryz.prog 35 #[.agg #[.int .i64 (L.disks : Int), .slice A L.n c, .int .i64 (L.tiles : Int), .int .i64 (L.spare : Int)], .slice Am ms.length cm, .int .i64 (g : Int), .slice (some ⟨bd, od, none⟩) L.disks cd] W fun r w' => ∃ Ah ch, r = .returned (.slice Ah hs.length ch) ∧ IntS w' w'.heap.size Ah (nInts hs) ∧ Below w3.heap.size w3 w') := fun W hW =>
              (HHP.out g hgG W (HV.out.below (HW3.out.trans (hW.mono HW3.out.size)) hB) (HM.out.below' (HW3.out.trans (hW.mono HW3.out.size)) hB) (HD.out.below' (HW3.out.trans (hW.mono HW3.out.size)) hB) (Nat.le_trans hB (HW3.out.trans (hW.mono HW3.out.size)).size)).mono fun r w' h => by
                obtain ⟨⟨v, hv, ho⟩, hb⟩ := h
                rw [hhs] at ho
                obtain ⟨Ah, ch, e1, -, -⟩ := ho.form
                subst e1
                refine ⟨Ah, ch, by rw [hv]; simp [nInts], ho.reads, hW.trans (hb.mono hW.size)⟩
            have HCB : Hid (∀ W Ah ch, Below w3.heap.size w3 W → IntS W W.heap.size Ah (nInts hs) → Calls Tryz.prog 34 #[.agg #[.int .i64 (L.disks : Int), .slice A L.n c, .int .i64 (L.tiles : Int), .int .i64 (L.spare : Int)], .slice Ah hs.length ch, .int .i64 (g : Int)] W fun r w' => (∃ v, r = .returned v ∧ FrQ L hs g w3.heap.size w' v) ∧ Below w3.heap.size w3 w') := fun W Ah ch hW hH => by
              have hvW := (HV.out.below (HW3.out.trans (hW.mono HW3.out.size)) hB).more (Nat.le_trans hB (HW3.out.trans (hW.mono HW3.out.size)).size)
              have h := r23from (L := L) (A := A) (Ah := Ah) (B := W.heap.size) (c := c) (ch := ch) (hs := hs) g W HX.out hvW hH hs16 (Nat.le_refl _) hgG
              unfold layAgg at h
              exact h.mono fun r w' h => ⟨h.1.q HX.out.ok hsn hsl hW.size, hW.trans (h.2.mono hW.size)⟩
            clear HHP hs16
            go_upto_region 12 with (fail)
            go_cut [16] (fun s16 wx => FrQ L hs g w3.heap.size wx s16 ∧ Below w3.heap.size w3 wx)
            case first =>
              go_region_held3 (fun W => W.cell? ⟨w.heap.size, 0, none⟩ = some (.int .i64 (L.disks : Int)) ∧ W.cell? ⟨w.heap.size, 1, none⟩ = some (.slice A L.n c) ∧ W.cell? ⟨w.heap.size, 2, none⟩ = some (.int .i64 (L.tiles : Int)) ∧ W.cell? ⟨w.heap.size, 3, none⟩ = some (.int .i64 (L.spare : Int)))
                (first | with_reducible exact HKS.out _ (Below.refl w3.heap.size w3) | with_reducible exact HKS.out _ (Below.refl w3.heap.size w3).drew | with_reducible exact HKS.out _ hbA | with_reducible exact HKS.out _ hbA.drew | with_reducible exact HKS.out _ hbB | (trace_state; fail))
                (first
                  | (go_at_call 35; first
                    | ((with_reducible refine (HCA.out _ (Below.refl w3.heap.size w3)).mono ?_); rintro r wA ⟨Ah, ch, rfl, hHA, hbA⟩)
                    | ((with_reducible refine (HCA.out _ (Below.refl w3.heap.size w3).drew).mono ?_); rintro r wA ⟨Ah, ch, rfl, hHA, hbA⟩)
                    | (trace_state; fail))
                  | (go_at_call 34; first
                    | ((with_reducible refine (HCB.out _ _ _ hbA hHA).mono ?_); rintro r wB ⟨⟨v16, rfl, hq16⟩, hbB⟩)
                    | (trace_state; fail))
                  | fail)
              all_goals
                go_wp2_with fail
                go_meet
                exact ⟨hq16, hbB⟩
            have he : ∀ (W : World) (a : Option Addr) (n c : Nat), (Go.binOp .eql 48 (.slice a n c) (.slice none 0 0)).run Tryz.prog W = .ok (.bool a.isNone) W := fun W a n c => Lib.run_eql_slice_nil W _ _ a n c 0 0 Tryz.underlying48
            obtain ⟨hq16, hbc⟩ := hcut
            have HB5 := Lib.hid (HB3.out.trans (hbc.mono HB3.out.size))
            have HT5 := Lib.hid (HT3.out.below hbc)
            have HN5 := Lib.hid (HN3.out.below hbc HB3.out.size)
            have HL5 := Lib.hid (HL3.out.below hbc HL3.out.lt)
            have HW5 := Lib.hid (HW3.out.trans (hbc.mono HW3.out.size))
            have HS3 := Lib.hid HB3.out.size
            clear hbc HKS HCA HCB HB3 HT3 HN3 HL3 HW3
            generalize wc = w5 at *
            have hr := HRM.out
            rw [HDR.out, refG_cons, hhs] at hr
            clear HRM HDR hhs
            rcases hq16 with ⟨hfn, rfl⟩ | ⟨a16, c16, hfs, rfl, ho16⟩
            · rw [hfn] at hr
              have HRR := Lib.hid (HDEQ.out w5 w.heap.size 12 hr.symm)
              clear hr hfn
              go_wp2
              go_ret2
              exact ⟨HRR.out, HW5.out⟩
            rw [hfs] at hr
            simp only at hr
            obtain ⟨fr, hfr⟩ : ∃ fr, fromV L hs g = fr := ⟨_, rfl⟩
            rw [hfr] at hr ho16 ⊢
            have HO5 := Lib.hid ho16
            clear hfr hfs ho16
            have HCC : Hid (Calls Tryz.prog 28 #[.agg #[.int .i64 (L.disks : Int), .slice A L.n c, .int .i64 (L.tiles : Int), .int .i64 (L.spare : Int)], .slice A11 now.length c11, .int .i64 (g : Int), .slice (some ⟨bd, od, none⟩) L.disks cd] w5 fun r w' => ChoP (chooseL L now g dead) r ∧ Below w5.heap.size w5 w') := by
              have h := r22choose (L := L) (A := A) (Am := A11) (Ad := some ⟨bd, od, none⟩) (B := w5.heap.size) (c := c) (cm := c11) (cd := cd) (ms := now) (dead := dead) g w5 HX.out HKN.out ((HV.out.below HW5.out hB).more (Nat.le_trans hB HW5.out.size)) (HN5.out.reads HB5.out.size) ((HD.out.below' HW5.out hB).more (Nat.le_trans hB HW5.out.size)) HDL.out (Nat.le_refl _) hgG (by omega)
              unfold layAgg at h
              rw [HDL.out] at h
              exact h
            obtain ⟨l0, l1, l2, l3⟩ := HL5.out.cells
            go_wp2_with fail
            refine HCC.out.mono ?_
            rintro r w6 ⟨hcp, hb6⟩
            have HB6 := Lib.hid (HB5.out.trans (hb6.mono HB5.out.size))
            have HT6 := Lib.hid (HT5.out.below hb6)
            have HN6 := Lib.hid (HN5.out.below hb6 HB5.out.size)
            have HL6 := Lib.hid (HL5.out.below hb6 HL5.out.lt)
            have HW6 := Lib.hid (HW5.out.trans (hb6.mono HW5.out.size))
            have HO6 := Lib.hid (HO5.out.below hb6)
            clear hb6 HCC HB5 HT5 HN5 HL5 HW5 HO5 l0 l1 l2 l3
            rcases hch : chooseL L now (g : Int) dead with _ | t
            · obtain ⟨t, rfl⟩ := hcp.2 hch
              rw [hch] at hr
              simp only at hr
              have HRR := Lib.hid fun (W : World) => HDEQ.out W w.heap.size 11 hr.symm
              clear hr hch hcp
              unfold Plc.agg
              go_upto_region 16 with (fail)
              generalize hW7 : w6.alloc _ = w7
              have HW7 : Hid (Below w.heap.size w w7) := by rw [← hW7]; exact HW6.out.trans (below_laid.mono HW6.out.size)
              clear hW7
              go_wp2
              go_ret2
              exact ⟨HRR.out w7, HW7.out⟩
            · obtain rfl := hcp.1 t hch
              rw [hch] at hr
              simp only at hr
              have HRR := Lib.hid hr
              have HPP := Lib.hid (fits_apply HX.out.ok HKN.out (i := (p : Int)) HIP.out hch).2
              clear hr hch hcp
              unfold Plc.agg
              go_upto_region 16 with (fail)
              generalize hW7 : w6.alloc _ = w7
              have hpl : PlB w7 w6.heap.size t := by rw [← hW7]; exact heap_alloc_new w6 _
              have hb7 : Below w6.heap.size w6 w7 := by rw [← hW7]; exact below_laid
              have HP7 := Lib.hid hpl
              have HB7 := Lib.hid (HB6.out.trans (hb7.mono HB6.out.size))
              have HN7 := Lib.hid (HN6.out.below hb7 HB6.out.size)
              have HL7 := Lib.hid (HL6.out.below hb7 HL6.out.lt)
              have HW7 := Lib.hid (HW6.out.trans (hb7.mono HW6.out.size))
              have HO7 := Lib.hid ((HO6.out.below hb7).mono HS3.out)
              have HXB : Hid (w2.heap.size ≤ w6.heap.size) := HB6.out.size
              obtain ⟨vs, hvs⟩ := HT6.out.below hb7
              have HT7 := Lib.hid hvs
              obtain ⟨p0, p1, -, -⟩ := hpl.cells
              have hs7 := HB7.out.size
              clear hpl hb7 hvs HB6 HT6 HN6 HL6 HW6 HO6 hW7
              generalize w6.heap.size = X at *
              go_wp2_with (at_builtin; refine wpList_ap1 rfl (.tmp 74) (.tmp 80) _ rfl elemTask rfl HT7.out.2.1 (tskRow (some a16, c16) ⟨g, p, fr, t⟩) _ (by rfl) w7.heap.size (by rfl) (by rfl) (tskRow_one _ _) (by rw [tskRows_len HT7.out.1]; simp [maxLen]; omega) (by rw [tskRows_len HT7.out.1]; omega) (by omega) ?_)
              rintro v1 w8 hown1 hg1 -
              have HB8 := Lib.hid ((HB7.out.alloc HB7.out.size _).grown hg1 (by simp; omega) (fun q hq => (HT7.out.2.1.lt hq).1))
              have HN8 := Lib.hid (HN7.out.grown HT7.out HB7.out.size hg1)
              have HT8 : Hid (TskO w8 w2.heap.size v1 (out ++ [⟨g, p, fr, t⟩])) := ⟨_, (HT7.out.below below_laid).push (p := (some a16, c16)) (t := ⟨g, p, fr, t⟩) (HO7.out.below below_laid) hown1 hg1⟩
              have hb8 : Below w2.heap.size w7 w8 := ((Below.refl w2.heap.size w7).alloc HB7.out.size _).grown hg1 (by simp; omega) (fun q hq => (HT7.out.2.1.lt hq).1)
              have HP8 := Lib.hid (HP7.out.task HT7.out.2.1 hg1)
              have HW8 : Hid (Below w.heap.size w w8) := HW7.out.trans (hb8.mono (Nat.le_trans HB2.out.size (Nat.le_refl _)))
              obtain ⟨r0, r1, -, -⟩ := HP8.out.cells
              have hwi := r22with (Am := A11) (B := w8.heap.size) (cm := c11) (ms := now) ⟨g, p, t⟩ w8 (HN8.out.reads HB8.out.size) (Nat.le_refl _) (by omega)
              unfold Mv.agg at hwi
              simp only at hwi
              have HWI := Lib.hid hwi
              have HS8 := Lib.hid HB8.out.size
              clear hown1 hg1 hb8 hwi p0 p1 HP7 HB7 HN7 HL7 HO7 HT7
              go_wp2_with fail
              refine HWI.out.mono ?_
              rintro r w9 ⟨⟨v9, rfl, hown9⟩, hb9⟩
              obtain ⟨A9, c9, rfl, -, -⟩ := hown9.form
              rw [List.length_map] at hown9 ⊢
              have HO9 := Lib.hid (hown9.mono HS8.out)
              have HB9 := Lib.hid (HB8.out.trans (hb9.mono HB8.out.size))
              have HT9 := Lib.hid (HT8.out.below hb9)
              have HLW := Lib.hid (withM_len now ⟨g, p, t⟩)
              clear hown9 hb9 HWI
              go_wp2
              go_roundw
              case rel => exact ⟨i + 1, _, _, A9, c9, by omega, by go_num, rfl, .inr HO9.out, HPP.out, by have := HLW.out; omega, HT9.out, by have := HOU.out; simp; omega, HRR.out, HB9.out⟩
              case measure => simp [intOf] <;> omega
end Go.Proofs.YteglnekkkhpikaaGreat
