/- Walk of tegulalaw45's HistoryNil: it answers true, whatever the script. -/
import Derived.Test.YtldjodgpbnkleaaHAwake
import Derived.Test.YtldjodgpbnkleaaHRecord
namespace Go.Proofs.Ytldjodgpbnkleaa
open Go.RowKit

def nilR : Rcd := ⟨[⟨1, 0, false, 1, 0, false⟩], [⟨1, 0, false, 1, 0, false⟩], [true]⟩
theorem nil_set : ((nilR.evs.map Ev.cells).set 0 ((Ev.cells ⟨1, 0, false, 1, 0, false⟩).set 1 (.int .i64 9))) = [(⟨1, 9, false, 1, 0, false⟩ : Ev)].map Ev.cells := rfl
set_option maxHeartbeats 4000000 in
set_option maxRecDepth 100000 in
theorem historynil_any (s : List ActH) (hok : ActsOk s) (A : Option Addr) (c : Nat) (w : World) (h : ActS w w.heap.size A s) :
    Calls Try.prog 14 #[.slice A s.length c] w fun e w' => e = .returned (.bool true) ∧ Below w.heap.size w w' := by
  have HA := Lib.hid (hawake_any w)
  by_cases hl : 40 < s.length
  · have hl' : (40 : Int) < (s.length : Int) := by omega
    clear h hok
    go_enter Try.func14, Try.ntmps14
    go_wp2_with fail
    refine HA.out.mono ?_
    rintro r w1 ⟨rfl, hb1⟩
    go_wp2
    go_ret
    exact ⟨rfl, hb1⟩
  have hl' : ¬ (40 : Int) < (s.length : Int) := by omega
  have HN := Lib.hid (fun W => hnew_any W)
  have HE0 := Lib.hid (fun W => hevents_nil W)
  have HRD : Hid (∀ base rb W, RecOk W base rb ⟨[], [], []⟩ → base ≤ W.heap.size → Calls Try.prog 37 #[.pointer (some ⟨rb, 0, none⟩), .int .i64 1] W (RecPost base rb W (0, nilR))) :=
    fun base rb W h hB => hread_any 1 base rb ⟨[], [], []⟩ W h hB ⟨by decide, by decide, rfl⟩
  have HEV : Hid (∀ base rb W, RecOk W base rb nilR → Calls Try.prog 33 #[.pointer (some ⟨rb, 0, none⟩)] W (LayE W nilR.evs)) :=
    fun base rb W h => hevents_any base rb nilR W h (by decide)
  have HAC := Lib.hid (fun (a : ActH) (ha : ActOk a) W => hact_nil a ha W)
  have HH := Lib.hid h
  have HOK := Lib.hid hok
  clear h hok
  go_enter Try.func14, Try.ntmps14
  go_wp2_with fail
  refine HA.out.mono ?_
  rintro r w1 ⟨rfl, hb1⟩
  have hz1 := hb1.size
  go_wp2
  go_loopw [4] (fun iv wr => ∃ k : Nat, k ≤ s.length ∧ iv = .int .i64 k ∧ Below w.heap.size w wr) (fun iv _ => s.length - (intOf iv).toNat)
  case atStart => exact ⟨0, by omega, rfl, hb1⟩
  case round =>
    obtain ⟨k, hk, rfl, hb⟩ := hrel
    have hz := hb.size
    by_cases hlt : k < s.length
    · obtain ⟨b, off, a, rfl, hbB, ha, c0, c1, c2⟩ := ActS.at_ (HH.out.below' hb (Nat.le_refl _)) (k := k) hlt
      have hao := HOK.out a (List.mem_of_getElem? ha)
      have hbl : b < wr.heap.size := by omega
      have HX : Hid (nilN a = if a.kind % 8 = 7 then 0 else if a.kind % 8 < 4 then -1 else 8) := rfl
      have HC := Lib.hid (HAC.out a hao)
      obtain ⟨k1, -, -, -, -⟩ := hao
      obtain ⟨kk, op, val⟩ := a
      unfold ActH.agg at HC
      simp only at HC HX c0 c1 c2 k1
      have hki : (k : Int) < (s.length : Int) := by omega
      have hkk0 : (0 : Int) ≤ (kk : Int) := by omega
      clear ha
      rcases m8 kk with hm | hm | hm | hm | hm | hm | hm | hm
      all_goals
        have hkm : ((kk : Int) % 8) = ((kk % 8 : Nat) : Int) := by omega
        rw [hm] at hkm HX
        clear hm
        generalize nilN ⟨kk, op, val⟩ = x at *
        go_wp2_with fail
        refine (HC.out _).mono ?_
        rintro q w4 ⟨rfl, hb4⟩
        have hb14 := hb.trans (hb4.mono hz)
        have d0 : w4.cell? ⟨b, off + k * 3, none⟩ = some (.int .u8 kk) := (hb4.cell (p := ⟨b, off + k * 3, none⟩) hbl).trans c0
        have hbl4 : b < w4.heap.size := Nat.lt_of_lt_of_le hbl hb4.size
        have hx := HX.out
        simp at hx
        subst hx
        clear hb4 c0 c1 c2
        go_wp2
        go_roundw
        case rel => exact ⟨k + 1, by omega, by go_num, hb14⟩
        case measure => simp [intOf]; omega
    · obtain rfl : k = s.length := by omega
      clear hlt hk HOK HAC HH
      go_wp2_with fail
      refine (HN.out _).mono ?_
      rintro r w2 ⟨rfl, hr2, hb2⟩
      have hr2 := hr2 wr.heap.size
      have hb12 := hb.trans (hb2.mono hz)
      have hz2 := hb2.size
      clear hb2
      go_wp2_with fail
      refine (HE0.out _).mono ?_
      rintro r w3 ⟨rfl, hb3⟩
      have hr3 := hr2.below hb3
      have hz3 : wr.heap.size ≤ w3.heap.size := Nat.le_trans hz2 hb3.size
      have hb13 := hb12.trans (hb3.mono (Nat.le_trans hz hz2))
      clear hr2 hb3 hb12
      go_wp2_with fail
      refine (HRD.out _ _ _ hr3 hz3).mono ?_
      rintro r w4 ⟨rfl, hr4, hb4⟩
      have hb4 := hb4.below (Nat.le_refl _)
      have hz4 : wr.heap.size ≤ w4.heap.size := Nat.le_trans hz3 hb4.size
      have hb14 := hb13.trans (hb4.mono hz)
      clear hr3 hb4 hb13
      go_wp2_with fail
      refine (HEV.out _ _ _ hr4).mono ?_
      rintro r w5 ⟨v5, rfl, hl5, hb5⟩
      obtain ⟨g5, c5, rfl, hg5, hgl5⟩ := hl5.pos (by decide)
      have hr5 := hr4.below (hb5.setCell (p := ⟨g5, 1, none⟩) hg5 (.int .i64 9))
      have hb15 := hb14.trans ((hb5.setCell (p := ⟨g5, 1, none⟩) hg5 (.int .i64 9)).mono (Nat.le_trans hz hz4))
      have hz5 : wr.heap.size ≤ w5.heap.size := Nat.le_trans hz4 hb5.size
      have e1 := hl5.cell (k := 0) (j := 1) rfl rfl
      have f1 := hl5.frozen 1
      simp only [Nat.zero_mul, Nat.zero_add] at e1
      have hln : ((nilR.evs.map Ev.cells).length : Int) = 1 := rfl
      have hln' : (nilR.evs.map Ev.cells).length = 1 := rfl
      have HR5 := Lib.hid hr5
      have HB5 := Lib.hid hb15
      clear hl5 hb5 hr4 hb14 hr5 hb15
      go_wp2_with fail
      refine (HEV.out _ _ _ HR5.out).mono ?_
      rintro r w6 ⟨v6, rfl, hl6, hb6⟩
      obtain ⟨g6, c6, rfl, -, hgl6⟩ := hl6.pos (by decide)
      have hr6 := HR5.out.below hb6
      have hb16 := HB5.out.trans (hb6.mono HB5.out.size)
      clear hl6 hb6 e1 f1
      go_wp2_with fail
      refine (HEV.out _ _ _ hr6).mono ?_
      rintro r w7 ⟨v7, rfl, hl7, hb7⟩
      obtain ⟨g7, c7, rfl, -, hgl7⟩ := hl7.pos (by decide)
      have hb17 := hb16.trans (hb7.mono hb16.size)
      have d0 := hl7.cell (k := 0) (j := 0) rfl rfl
      have d1 := hl7.cell (k := 0) (j := 1) rfl rfl
      have d2 := hl7.cell (k := 0) (j := 2) rfl rfl
      have d3 := hl7.cell (k := 0) (j := 3) rfl rfl
      have d4 := hl7.cell (k := 0) (j := 4) rfl rfl
      have d5 := hl7.cell (k := 0) (j := 5) rfl rfl
      simp only [Nat.zero_mul, Nat.zero_add] at d0 d1 d2 d3 d4 d5
      clear hl7 hb7
      go_wp2
      go_ret
      exact ⟨rfl, hb17⟩
end Go.Proofs.Ytldjodgpbnkleaa
