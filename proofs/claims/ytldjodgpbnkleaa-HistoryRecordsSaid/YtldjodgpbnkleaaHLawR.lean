/- Walks of tegularef45's Same and tegulalaw45's HistoryRecords: it answers true, whatever the script. -/
import Derived.Test.YtldjodgpbnkleaaHAwake
import Derived.Test.YtldjodgpbnkleaaHRecord
import Derived.Test.YtldjodgpbnkleaaHPlain
namespace Go.Proofs.Ytldjodgpbnkleaa
open Go.RowKit

set_option maxHeartbeats 2000000 in
set_option maxRecDepth 100000 in
theorem same_any (l : List Ev) (A A' : Option Addr) (c c' B : Nat) (w : World) (h : EvS w B A l) (h' : EvS w B A' l) (hB : B ≤ w.heap.size) (hlen : l.length ≤ 1000000) :
    Calls Try.prog 34 #[.slice A l.length c, .slice A' l.length c'] w fun e w' => e = .returned (.bool true) ∧ Below w.heap.size w w' := by
  go_enter Try.func34, Try.ntmps34
  go_wp2
  go_loopw [5] (fun i wr => ∃ k : Nat, k ≤ l.length ∧ i = .int .i64 k ∧ Below w.heap.size w wr) (fun i _ => l.length - (intOf i).toNat)
  case atStart => exact ⟨0, by omega, rfl, Below.refl _ _⟩
  case round =>
    obtain ⟨k, hk, rfl, hb⟩ := hrel
    have hz := hb.size
    by_cases hlt : k < l.length
    · obtain ⟨b, off, e, rfl, hbB, he, c0, c1, c2, c3, c4, c5⟩ := EvS.at_ (h.below' hb hB) (k := k) hlt
      obtain ⟨b', off', e', rfl, hbB', he', d0, d1, d2, d3, d4, d5⟩ := EvS.at_ (h'.below' hb hB) (k := k) hlt
      rw [he] at he'
      obtain rfl := Option.some.inj he'
      have hbl : b < wr.heap.size := by omega
      have hbl' : b' < wr.heap.size := by omega
      have hkl : (k : Int) < (l.length : Int) := by omega
      obtain ⟨ek, eo, ew, er, ev, eb⟩ := e
      simp only at c0 c1 c2 c3 c4 c5 d0 d1 d2 d3 d4 d5
      clear he he'
      go_wp2
      go_quiet (fail)
      go_wp2
      go_roundw
      case rel => exact ⟨k + 1, by omega, by go_num, below_drewN hb _⟩
      case measure => simp [intOf]; omega
    · obtain rfl : k = l.length := by omega
      go_wp2
      go_ret
      exact ⟨rfl, hb⟩

theorem ActsOk.at_ {s : List ActH} (h : ActsOk s) {k : Nat} {a : ActH} (ha : s[k]? = some a) : ActOk a := h a (List.mem_of_getElem? ha)

theorem BelR.below' {base rb B : Nat} {w w' : World} (h : BelR base rb w w') (hB : B ≤ base) (hr : B ≤ rb) : Below B w w' := ⟨h.os, h.tape, h.output, h.size, fun k hk => h.block k (by omega) (by omega)⟩
def RecsRel (s : List ActH) (base rb : Nat) (W : World) (nv iv : Value) (wr : World) : Prop :=
  ∃ (k : Nat) (r : Rcd) (os : List Opr) (era : Int), k ≤ s.length ∧ iv = .int .i64 k ∧ nv = .int .i64 ((recSt s k).2 : Nat) ∧ RecOk wr base rb r ∧ RInv r (recSt s k).1 (recSt s k).2 os era ∧ BelR base rb W wr

set_option maxHeartbeats 4000000 in
set_option maxRecDepth 100000 in
theorem historyrecords_any (s : List ActH) (hok : ActsOk s) (A : Option Addr) (c : Nat) (w : World) (h : ActS w w.heap.size A s) :
    Calls Try.prog 11 #[.slice A s.length c] w fun e w' => e = .returned (.bool true) ∧ Below w.heap.size w w' := by
  have HA := Lib.hid (hawake_any w)
  by_cases hl : 40 < s.length
  · have hl' : (40 : Int) < (s.length : Int) := by omega
    clear h hok
    go_enter Try.func11, Try.ntmps11
    go_wp2_with fail
    refine HA.out.mono ?_
    rintro r w1 ⟨rfl, hb1⟩
    go_wp2
    go_ret
    exact ⟨rfl, hb1⟩
  have hl' : ¬ (40 : Int) < (s.length : Int) := by omega
  have HN := Lib.hid (fun W => hnew_any W)
  have HREC := Lib.hid (fun W (hW : Below w.heap.size w W) => record_any s A c w.heap.size W (h.below' hW (Nat.le_refl _)) hW.size hok (by omega))
  have HH := Lib.hid h
  have HOK := Lib.hid hok
  clear h hok
  go_enter Try.func11, Try.ntmps11
  go_wp2_with fail
  refine HA.out.mono ?_
  rintro r w1 ⟨rfl, hb1⟩
  have hz1 := hb1.size
  go_wp2_with fail
  refine (HN.out _).mono ?_
  rintro r w2 ⟨rfl, hr2, hb2⟩
  have hs2 := (hr2 0).lt
  have hb12 := hb1.trans (hb2.mono hz1)
  have hz2 := hb12.size
  have HR2 := Lib.hid hr2
  clear hr2
  go_wp2_with fail
  refine (HREC.out _ hb12).mono ?_
  rintro r w3 ⟨vw, vr, rfl, hownw, hownr, hb3⟩
  have hb13 := hb12.trans (hb3.mono hz2)
  have hz3 := hb13.size
  have hz23 := hb3.size
  have hr3 := (HR2.out w3.heap.size).below hb3
  obtain ⟨Aw, cw, rfl, -, -⟩ := hownw.form
  obtain ⟨Ar, cr, rfl, -, -⟩ := hownr.form
  have hrl := recRes_len (s := s) (k := s.length) (Nat.le_refl _)
  rw [List.length_map, List.length_map, hrl]
  rw [List.length_map] at hownw
  rw [List.length_map, hrl] at hownr
  have HOR := Lib.hid hownr
  have HOW := Lib.hid hownw
  clear hrl hownr hownw hb2 hb3 HREC
  go_wp2
  go_loopw [6, 7] (fun nv iv wr => RecsRel s w3.heap.size w1.heap.size w3 nv iv wr) (fun _ iv _ => s.length - (intOf iv).toNat)
  case atStart => exact ⟨0, _, _, _, by omega, rfl, rfl, hr3, rinv_zero, BelR.refl _ _ _⟩
  case round =>
    obtain ⟨k, r, os, era, hk, rfl, rfl, hrec, hinv, hbr⟩ := hrel
    have hzr := hbr.size
    have hbd := recSt_bd s k
    by_cases hlt : k < s.length
    · -- the act
      have hown : ∀ W, BelR w3.heap.size w1.heap.size w3 W → ∀ b, b < w.heap.size → ∀ o, W.cell? ⟨b, o, none⟩ = w.cell? ⟨b, o, none⟩ := fun W hW b hb o =>
        (World.cell?_of_block (hW.block b (by omega) (by omega))).trans (hb13.cell (p := ⟨b, o, none⟩) hb)
      obtain ⟨b, off, a, rfl, hbB, ha, c0, c1, c2⟩ := ActS.at_ HH.out (k := k) hlt
      have c0' := (hown wr hbr b hbB (off + k * 3)).trans c0
      have c1' := (hown wr hbr b hbB (off + k * 3 + 1)).trans c1
      have c2' := (hown wr hbr b hbB (off + k * 3 + 2)).trans c2
      have HO := Lib.hid hown
      have hbl : b < wr.heap.size := by omega
      have hst := recSt_succ ha
      have hget := recRes_get ha hlt (Nat.le_refl _)
      have hrn := ref_n (recSt s k) a
      have HAO := Lib.hid (HOK.out.at_ ha)
      -- the result's cell
      obtain ⟨gr, cr', hv, hgr, hgrl⟩ := HOR.out.pos (by rw [List.length_map, recRes_len (Nat.le_refl _)]; omega)
      injection hv with hA1 hA2 hA3
      subst hA1
      clear hA2 hA3
      have hcell := HOR.out.cell (k := k) (j := 0) (r := icell (refAct (recSt s k) a).2) (u := .int .i64 (refAct (recSt s k) a).2) (by rw [List.getElem?_map, hget]; rfl) rfl
      rw [Nat.mul_one, Nat.add_zero] at hcell
      have hcellW : ∀ W, BelR w3.heap.size w1.heap.size w3 W → W.cell? ⟨gr, k, none⟩ = some (.int .i64 (refAct (recSt s k) a).2) := fun W hW => (World.cell?_of_block (hW.block gr hgrl (by omega))).trans hcell
      have HCW := Lib.hid hcellW
      obtain ⟨hx, os', era', hinv'⟩ := rec_law hinv a
      rw [show ((recSt s k).1, (recSt s k).2) = recSt s k from rfl] at hx hinv'
      have HACT := Lib.hid (fun (W : World) (hW : RecOk W w3.heap.size w1.heap.size r) (hB : w3.heap.size ≤ W.heap.size) => hact_any a HAO.out (recSt s k).2 w3.heap.size w1.heap.size (by omega) r W hW hB ⟨by rw [hinv.evs]; omega, by rw [hinv.calls]; omega, by rw [hinv.opn, hinv.calls]⟩)
      rw [← hst] at hinv' hrn
      generalize hp : actN r a (recSt s k).2 = p at hx hinv' HACT
      obtain ⟨px, pr⟩ := p
      simp only at hx hinv'
      rw [← hx] at hrn HCW
      have HI := Lib.hid hinv'
      have HRN := Lib.hid hrn
      have HHR := Lib.hid hrec
      have HBR := Lib.hid hbr
      clear hinv' hrn hx hp hst hinv hcell hget hcellW HOR hown c1 c2 hrec hbr
      generalize (recSt s k).2 = n at *
      obtain ⟨kk, op, val⟩ := a
      unfold ActH.agg at HACT
      simp only at HACT c0' c1' c2' HRN c0
      have hkk : kk < 256 := HAO.out.1
      have hki : (k : Int) < (s.length : Int) := by omega
      clear ha HAO
      go_wp2_with fail
      refine (HACT.out _ HHR.out hzr).mono ?_
      rintro q w4 ⟨rfl, hrec4, hbr4'⟩
      have hbr4 := HBR.out.trans hbr4'
      have d0 := (HO.out w4 hbr4 b hbB (off + k * 3)).trans c0
      have dx := HCW.out w4 hbr4
      have hz4 := hbr4.size
      have hbl4 : b < w4.heap.size := by omega
      have hgl4 : gr < w4.heap.size := by omega
      have HR4 := Lib.hid hrec4
      have HB4 := Lib.hid hbr4
      have hkk0 : (0 : Int) ≤ (kk : Int) := by omega
      clear hrec4 hbr4 hbr4' c0 c0' c1' c2' HACT
      by_cases hq1 : kk % 8 < 4
      · have hq1' : (kk : Int) % 8 < 4 := by omega
        by_cases hq2 : 0 ≤ px
        · have hq2' : decide (px ≥ 0) = true := by simpa using hq2
          have HN2 : Hid ((recSt s (k + 1)).2 = n + 1) := by unfold Hid; rw [HRN.out, if_pos ⟨hq1, hq2⟩]
          clear hq1
          go_wp2
          go_roundw
          case rel => exact ⟨k + 1, pr, os', era', by omega, by go_num, by rw [HN2.out]; go_num, HR4.out, HI.out, HB4.out⟩
          case measure => simp [intOf]; omega
        · have hq2' : decide (px ≥ 0) = false := by simpa using hq2
          have HN2 : Hid ((recSt s (k + 1)).2 = n) := by unfold Hid; rw [HRN.out, if_neg (fun h => hq2 h.2)]
          clear hq1
          go_wp2
          go_roundw
          case rel => exact ⟨k + 1, pr, os', era', by omega, by go_num, by rw [HN2.out], HR4.out, HI.out, HB4.out⟩
          case measure => simp [intOf]; omega
      · have hq1' : ¬ (kk : Int) % 8 < 4 := by omega
        have HN2 : Hid ((recSt s (k + 1)).2 = n) := by unfold Hid; rw [HRN.out, if_neg (fun h => hq1 h.1)]
        clear hq1
        go_wp2
        go_roundw
        case rel => exact ⟨k + 1, pr, os', era', by omega, by go_num, by rw [HN2.out], HR4.out, HI.out, HB4.out⟩
        case measure => simp [intOf]; omega
    · obtain rfl : k = s.length := by omega
      have hev := hinv.evs
      have hpar := hinv.parse
      have hop := recSt_op s s.length
      have hwf : WfOp (recSt s s.length).1 := fun e he => by
        have := hop e he
        rw [Lit.wf_int_iff, IntKind.min_i64, IntKind.max_i64]
        omega
      have hpl : (parseL (recSt s s.length).1).isSome = true := by rw [parseL_eq, hpar]; rfl
      have HE := Lib.hid (hevents_any w3.heap.size w1.heap.size r wr hrec (by rw [hev]; omega))
      rw [hev] at HE
      have hbf := hb13.trans ((hbr.trans (BelR.refl _ _ _)).below' (show w.heap.size ≤ w3.heap.size from hz3) (show w.heap.size ≤ w1.heap.size from hz1))
      have hw := HOW.out.kept (row := some w1.heap.size) ⟨hbr.os, hbr.tape, hbr.output, hbr.size, fun k hk hne => hbr.block k hk (fun e => hne (by rw [e]))⟩ (.inr fun e => by have := (HOW.out.lt e).1; omega)
      generalize (recSt s s.length).1 = L at *
      have hLl : L.length ≤ 1000000 := by omega
      have HS := Lib.hid (fun A c A' c' W (h1 : EvS W W.heap.size A L) (h2 : EvS W W.heap.size A' L) => same_any L A A' c c' W.heap.size W h1 h2 (Nat.le_refl _) hLl)
      have HV := Lib.hid (fun A c W (h1 : EvS W W.heap.size A L) => hvalid_any L A c W.heap.size W h1 (Nat.le_refl _) hLl hwf)
      rw [hpl] at HV
      clear hinv hev hpar hop hwf hpl hrec hbr HOW
      go_wp2_with fail
      refine HE.out.mono ?_
      rintro q w4 ⟨v4, rfl, hl4, hb4⟩
      have hw4 := (hw.below hb4).reads
      have hb14 := hbf.trans (hb4.mono hbf.size)
      have hz4 := hb14.size
      obtain ⟨A4, c4, rfl, -, -⟩ := hl4.form
      have hr4 := hl4.reads
      rw [List.length_map]
      have H4 := Lib.hid hr4
      clear hl4 hb4 hw HE
      generalize hLL : L.length = ln at *
      clear hLL
      go_wp2_with fail
      refine (HS.out _ _ _ _ _ H4.out hw4).mono ?_
      rintro q w5 ⟨rfl, hb5⟩
      have hr5 : EvS w5 w5.heap.size A4 L := (H4.out.below hb5).more hb5.size
      have hb15 := hb14.trans (hb5.mono hz4)
      have hz5 := hb15.size
      clear hw4 hb5
      go_wp2_with fail
      refine (HV.out _ _ _ hr5).mono ?_
      rintro q w6 ⟨rfl, hb6⟩
      go_wp2
      go_ret
      exact ⟨rfl, hb15.trans (hb6.mono hz5)⟩
end Go.Proofs.Ytldjodgpbnkleaa
