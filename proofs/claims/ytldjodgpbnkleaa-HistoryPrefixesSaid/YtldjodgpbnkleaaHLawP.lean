/- Walk of tegulalaw45's HistoryPrefixes: it answers true, whatever the script and the number. -/
import Derived.Test.YtldjodgpbnkleaaHAwake
import Derived.Test.YtldjodgpbnkleaaHRecord
import Derived.Test.YtldjodgpbnkleaaHPlain
import Derived.Test.YtldjodgpbnkleaaByte
import Derived.IntWalk
namespace Go.Proofs.Ytldjodgpbnkleaa
open Go.RowKit

theorem near_cases {b a : Opr} (h : Near b a) : (b.done < 0 ∧ a.id = b.id ∧ a.call = b.call ∧ a.era = b.era) ∨ (0 ≤ b.done ∧ a = b) := by
  obtain ⟨h1, h2, h3, h4⟩ := h
  rcases Int.lt_or_le b.done 0 with hd | hd
  · exact .inl ⟨hd, h1, h2, h3⟩
  · exact .inr ⟨hd, h4 hd⟩

set_option maxHeartbeats 4000000 in
set_option maxRecDepth 100000 in
theorem historyprefixes_any (s : List ActH) (hok : ActsOk s) (A : Option Addr) (c n : Nat) (hn : n < 256) (w : World) (h : ActS w w.heap.size A s) :
    Calls Try.prog 12 #[.slice A s.length c, .int .u8 n] w fun e w' => e = .returned (.bool true) ∧ Below w.heap.size w w' := by
  have HA := Lib.hid (hawake_any w)
  by_cases hl : 40 < s.length
  · have hl' : (40 : Int) < (s.length : Int) := by omega
    clear h hok
    go_enter Try.func12, Try.ntmps12
    go_wp2_with fail
    refine HA.out.mono ?_
    rintro r w1 ⟨rfl, hb1⟩
    go_wp2
    go_ret
    exact ⟨rfl, hb1⟩
  have hl' : ¬ (40 : Int) < (s.length : Int) := by omega
  have HREC := Lib.hid (fun W (hW : Below w.heap.size w W) => record_any s A c w.heap.size W (h.below' hW (Nat.le_refl _)) hW.size hok (by omega))
  obtain ⟨st, hst⟩ := rec_parse s s.length
  have hbd := recSt_bd s s.length
  have hop := recSt_op s s.length
  have hwf : WfOp (recSt s s.length).1 := fun e he => by
    have := hop e he
    rw [Lit.wf_int_iff, IntKind.min_i64, IntKind.max_i64]
    omega
  unfold RecordPost at HREC
  generalize (recSt s s.length).1 = L at *
  have hL : L.length ≤ 40 := by omega
  obtain ⟨q, hq⟩ : ∃ q, q = n % (L.length + 1) := ⟨_, rfl⟩
  have hqL : q ≤ L.length := by have := Nat.mod_lt n (show 0 < L.length + 1 by omega); omega
  have hrem : ((n : Int) % ((L.length : Int) + 1)) = (q : Int) := by rw [hq]; simp
  obtain ⟨st0, hst0, hnear⟩ := prefix_law hst hqL
  have hwf0 : WfOp (L.take q) := fun e he => hwf e (List.mem_of_mem_take he)
  have hql : (L.take q).length = q := by rw [List.length_take]; omega
  have h1 : parseL L = some st.1 := by rw [parseL_eq, hst]; rfl
  have h0 : parseL (L.take q) = some st0.1 := by rw [parseL_eq, hst0]; rfl
  have hol := (parseL_ids h1).2
  have hol0 := (parseL_ids h0).2
  rw [hql] at hol0
  have HO1 := Lib.hid (fun A c W (hE : EvS W W.heap.size A L) => ops_some L A c W.heap.size W hE (Nat.le_refl _) (by omega) hwf st.1 h1)
  have HO0 := Lib.hid (fun A c W (hE : EvS W W.heap.size A (L.take q)) => by have := ops_some (L.take q) A c W.heap.size W hE (Nat.le_refl _) (by omega) hwf0 st0.1 h0; rw [hql] at this; exact this)
  have HV0 := Lib.hid (fun A c W (hE : EvS W W.heap.size A (L.take q)) => by have := hvalid_any (L.take q) A c W.heap.size W hE (Nat.le_refl _) (by omega) hwf0; rw [hql, h0] at this; exact this)
  have HNR := Lib.hid hnear.2
  have hle := hnear.1
  have kw := fun W => conv_u8 (n : Int) (by omega) (by omega) W
  clear h hok hst hop hwf hst0 hwf0 hql h1 h0 hnear hbd hq
  generalize st.1 = oa at *
  generalize st0.1 = ob at *
  go_enter Try.func12, Try.ntmps12
  go_wp2_with fail
  refine HA.out.mono ?_
  rintro r w1 ⟨rfl, hb1⟩
  have hz1 := hb1.size
  go_wp2_with fail
  refine (HREC.out _ hb1).mono ?_
  rintro r w2 ⟨v2, u2, rfl, hown2, hres2, hb2⟩
  have hb12 := hb1.trans (hb2.mono hz1)
  have hz2 := hb12.size
  obtain ⟨Al, cl, rfl, hlc, hcm⟩ := hown2.form
  obtain ⟨Au, cu, rfl, -, -⟩ := hres2.form
  rw [List.length_map] at hown2 hlc ⊢
  have hrd := hown2.reads
  have hrq : EvS w2 w2.heap.size Al (L.take q) := by
    have := hrd.take q
    rw [← List.map_take] at this
    exact this
  have HRD := Lib.hid hrd
  have HRQ := Lib.hid hrq
  clear hrd hrq hres2 hown2 hb1 hb2 HREC
  generalize L.length = ln at *
  have hqc : (q : Int) ≤ (cl : Int) := by omega
  have hq0 : (0 : Int) ≤ (q : Int) := by omega
  go_wp2_with fail
  refine (HO1.out _ _ _ HRD.out).mono ?_
  rintro r w3 ⟨va, rfl, howna, hb3⟩
  have hb13 := hb12.trans (hb3.mono hz2)
  have hz3 := hb13.size
  have hz23 := hb3.size
  have hrq3 : EvS w3 w3.heap.size Al (L.take q) := (HRQ.out.below hb3).more hz23
  have H3 := Lib.hid hrq3
  clear hrq3 hb3 HRD
  go_wp2_with fail
  refine (HO0.out _ _ _ H3.out).mono ?_
  rintro r w4 ⟨vb, rfl, hownb, hb4⟩
  have hb14 := hb13.trans (hb4.mono hz3)
  have hz4 := hb14.size
  have howna := howna.below hb4
  have hrq4 : EvS w4 w4.heap.size Al (L.take q) := (H3.out.below hb4).more hb4.size
  have H4 := Lib.hid hrq4
  clear hrq4 hb4 H3 HRQ
  go_wp2_with fail
  refine (HV0.out _ _ _ H4.out).mono ?_
  rintro r w5 ⟨rfl, hb5⟩
  have hb15 := hb14.trans (hb5.mono hz4)
  have hz5 := hb15.size
  have howna := howna.below hb5
  have hownb := hownb.below hb5
  obtain ⟨Aa, ca, rfl, -, -⟩ := howna.form
  obtain ⟨Ab, cb, rfl, -, -⟩ := hownb.form
  rw [List.length_map, List.length_map]
  rw [List.length_map] at howna hownb
  have hgt : ¬ (oa.length : Int) < (ob.length : Int) := by omega
  clear hb5 H4 HV0 HO0 HO1
  go_wp2
  go_loopw [12] (fun i wr => ∃ k : Nat, k ≤ ob.length ∧ i = .int .i64 k ∧ Below w5.heap.size w5 wr) (fun i _ => ob.length - (intOf i).toNat)
  case atStart => exact ⟨0, by omega, rfl, Below.refl _ _⟩
  case round =>
    obtain ⟨k, hk, rfl, hb⟩ := hrel
    by_cases hlt : k < ob.length
    · have xa := howna.below hb
      have xb := hownb.below hb
      obtain ⟨ga, ca', hva, -, hga⟩ := xa.pos (by rw [List.length_map]; omega)
      obtain ⟨gb, cb', hvb, -, hgb⟩ := xb.pos (by rw [List.length_map]; omega)
      injection hva with hA1 hA2 hA3
      injection hvb with hB1 hB2 hB3
      subst hA1 hB1
      clear hA2 hA3 hB2 hB3
      obtain ⟨b, hbk⟩ : ∃ b, ob[k]? = some b := ⟨ob[k], List.getElem?_eq_getElem hlt⟩
      obtain ⟨a, hak⟩ : ∃ a, oa[k]? = some a := ⟨oa[k]'(by omega), List.getElem?_eq_getElem _⟩
      have hnr := near_cases (HNR.out k b a hbk hak)
      have hrowa : (oa.map Opr.cells)[k]? = some a.cells := by rw [List.getElem?_map, hak]; rfl
      have hrowb : (ob.map Opr.cells)[k]? = some b.cells := by rw [List.getElem?_map, hbk]; rfl
      have a0 := xa.cell hrowa (j := 0) rfl
      have a1 := xa.cell hrowa (j := 1) rfl
      have a2 := xa.cell hrowa (j := 2) rfl
      have a3 := xa.cell hrowa (j := 3) rfl
      have a4 := xa.cell hrowa (j := 4) rfl
      have a5 := xa.cell hrowa (j := 5) rfl
      have a6 := xa.cell hrowa (j := 6) rfl
      have a7 := xa.cell hrowa (j := 7) rfl
      have b0 := xb.cell hrowb (j := 0) rfl
      have b1 := xb.cell hrowb (j := 1) rfl
      have b2 := xb.cell hrowb (j := 2) rfl
      have b3 := xb.cell hrowb (j := 3) rfl
      have b4 := xb.cell hrowb (j := 4) rfl
      have b5 := xb.cell hrowb (j := 5) rfl
      have b6 := xb.cell hrowb (j := 6) rfl
      have b7 := xb.cell hrowb (j := 7) rfl
      simp only [Nat.add_zero] at a0 b0
      have hkb : (k : Int) < (ob.length : Int) := by omega
      have hka : (k : Int) < (oa.length : Int) := by omega
      clear xa xb hrowa hrowb hak hbk
      obtain ⟨p0, p1, p2, p3, p4, p5, p6, p7⟩ := a
      obtain ⟨q0, q1, q2, q3, q4, q5, q6, q7⟩ := b
      simp only at a0 a1 a2 a3 a4 a5 a6 a7 b0 b1 b2 b3 b4 b5 b6 b7 hnr
      rcases hnr with ⟨hd, rfl, rfl, rfl⟩ | ⟨hd, he⟩
      · have hd' : decide (q7 ≥ 0) = false := by simpa using hd
        go_wp2_with fail
        go_quiet (fail)
        go_wp2
        go_roundw
        case rel => exact ⟨k + 1, by omega, by go_num, below_drewN hb _⟩
        case measure => simp [intOf]; omega
      · injection he with e0 e1 e2 e3 e4 e5 e6 e7
        subst e0 e1 e2 e3 e4 e5 e6 e7
        have hd' : decide (p7 ≥ 0) = true := by simpa using hd
        go_wp2_with fail
        go_quiet (fail)
        go_wp2
        go_roundw
        case rel => exact ⟨k + 1, by omega, by go_num, below_drewN hb _⟩
        case measure => simp [intOf]; omega
    · obtain rfl : k = ob.length := by omega
      go_wp2
      go_ret
      exact ⟨rfl, hb15.trans (hb.mono hz5)⟩
end Go.Proofs.Ytldjodgpbnkleaa
