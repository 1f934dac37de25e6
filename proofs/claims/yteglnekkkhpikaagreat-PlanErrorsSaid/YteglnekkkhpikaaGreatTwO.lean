/- Walk of the method disks of spare's state. -/
import Derived.Test.YteglnekkkhpikaaGreatTwN
import Derived.Deep.RegionHeld3
namespace Go.Proofs.YteglnekkkhpikaaGreat
open Go.RowKit

def homD (L : LayD) (g i : Nat) : List Int := (List.range i).map fun (j : Nat) => (homeL L g j).disk
theorem homD_succ (L : LayD) (g i : Nat) : homD L g (i + 1) = homD L g i ++ [(hdisk L g i : Int)] := by
  unfold homD
  rw [List.range_succ, List.map_append]
  rfl
theorem disks_len (L : LayD) (ms : List Mv) (g : Int) : (disksL L ms g).length = L.w := by simp [disksL]
set_option maxHeartbeats 8000000 in
set_option maxRecDepth 100000 in
theorem sdisks_any {L : LayD} {A Am : Option Addr} {B c cm : Nat} {ms : List Mv} (g : Nat) (w : World) (hx : LayX L) (hv : GsV w B A L.gs) (hM : MvS w B Am ms) (hB : B ≤ w.heap.size) (hlen : ms.length ≤ 100000) (hs : ms.Pairwise ltM) (his : ∀ m ∈ ms, isP L m.g m.p = true) (hg : g < L.G) :
    Calls Tryz.prog 75 #[.agg (staC L A c Am ms.length cm), .int .i64 (g : Int)] w fun r w' => (∃ v, r = .returned v ∧ OwS w' w.heap.size 3 1 v ((disksL L ms g).map icell)) ∧ Below w.heap.size w w' := by
  have HV := Lib.hid hv
  have HM := Lib.hid hM
  have HIS := Lib.hid his
  have HCW := Lib.hid (fun W hv hB => swidth_any (L := L) (A := A) (Am := Am) (B := B) (c := c) (nm := ms.length) (cm := cm) W hx hv hB)
  have HBS := Lib.hid (fun W hM hB => bsearch_any (Am := Am) (B := B) (cm := cm) (ms := ms) (g : Int) 0 W hM hB hlen hs)
  have HD0 := Lib.hid (disks_start (L := L) (ms := ms) (g := (g : Int)) hs (fun m hm => by obtain ⟨a, b, -, h2, -⟩ := isP_nat (his m hm); omega))
  have HDS := Lib.hid (fun k m p hm hg hp => disks_step (L := L) (ms := ms) (g := (g : Int)) (k := k) (m := m) hs hm hg (p := p) hp)
  have HDE := Lib.hid (fun k hk hm => disks_end (L := L) (ms := ms) (g := (g : Int)) (k := k) hs (fun m hm => by obtain ⟨a, b, -, h2, -⟩ := isP_nat (his m hm); omega) hk hm)
  have HPB := Lib.hid (pos_le ms (g : Int) 0)
  unfold memAgg at HBS
  unfold staC at *
  obtain ⟨row, hrow, hlw, -, hlt⟩ := row_of hx.ok g
  have HHD := Lib.hid (fun p => hdisk_at (p := p) hrow hlw (by have := hx.ok.w.1; omega))
  have hw16 := hx.ok.w
  have hn1 := hx.ok.n
  have hn0 : ¬ L.n = 0 := by omega
  have hn0' : ¬ (L.n : Int) = 0 := by omega
  have hw0 : ¬ L.w = 0 := by omega
  have hw0' : ¬ (L.w : Int) = 0 := by omega
  have hgn : g % L.n < L.n := Nat.mod_lt _ (by omega)
  have hq1 := tdiv_nat g L.n
  have hq2 := tmod_nat g L.n
  have hgI : (g : Int) ≤ 5000 := by have := hx.ok.G; omega
  have htb : g / L.n ≤ 5000 := Nat.le_trans (Nat.div_le_self _ _) (by omega)
  generalize ht : g / L.n = t at *
  generalize hgg : g % L.n = gg at *
  have HRW := Lib.hid hrow
  have HLW := Lib.hid hlw
  have HLT := Lib.hid hlt
  have hw2 : IntKind.i64.wrap (t : Int) = (t : Int) := IntWalk.i64_in _ (by omega)
  have hw3 : IntKind.i64.wrap (gg : Int) = (gg : Int) := IntWalk.i64_in _ (by omega)
  obtain ⟨b, off, Al, cl, rfl, -, hat⟩ := hv.at_ hrow
  obtain ⟨x0, hx0⟩ := at_some (l := row) (i := 0) (by omega)
  obtain ⟨bl, ol, rfl, -, -⟩ := nints_at (hat w w.heap.size (Below.refl _ _) hB).2 hx0
  have HC : Hid (∀ W, Below w.heap.size w W → W.cell? ⟨b, off + gg, none⟩ = some (.slice (some ⟨bl, ol, none⟩) L.w cl) ∧ ∀ k x : Nat, row[k]? = some x → W.cell? ⟨bl, ol + k, none⟩ = some (.int .i64 (x : Int))) := fun W hW => by
    have r1 := hat W w.heap.size hW hB
    refine ⟨by rw [r1.1, hlw], fun k x hk => ?_⟩
    obtain ⟨_, _, e1, -, s1⟩ := nints_at r1.2 hk
    cases e1
    exact s1
  clear hv hM hs his hrow hlw hlt hat hx0 hx hg ht hgg
  go_enter Tryz.func75, Tryz.ntmps75
  go_wp2_with fail
  have hst := StaB.made w L (some ⟨b, off, none⟩) c Am ms.length cm
  have hb0 : Below w.heap.size w (w.alloc (.cells #[.int .i64 L.disks, .slice (some ⟨b, off, none⟩) L.n c, .int .i64 L.tiles, .int .i64 L.spare, .slice Am ms.length cm, .int .i64 L.homes, .int .i64 L.blocks] 98)) := below_laid
  generalize w.alloc _ = w0 at *
  have s0 := hst.cells
  have r0 := (HC.out w0 hb0).1
  go_quiet (fail)
  generalize hdr : w0.drewN _ = w1
  have HS1 : Hid (StaB w1 w.heap.size L (some ⟨b, off, none⟩) c Am ms.length cm) := by rw [← hdr]; exact hst
  have HB1 : Hid (Below w.heap.size w w1) := by rw [← hdr]; exact below_drewN hb0 _
  clear hdr hst hb0 s0 r0
  have s1 := HS1.out.cells
  go_wp2_with fail
  refine (HCW.out w1 (HV.out.below HB1.out hB) (Nat.le_trans hB HB1.out.size)).mono ?_
  rintro r w2 ⟨rfl, hb2⟩
  have HS2 := Lib.hid (HS1.out.below hb2 HS1.out.lt)
  have HB2 := Lib.hid (HB1.out.trans (hb2.mono HB1.out.size))
  clear hb2 s1 HS1 HB1
  go_wp2
  go_loopw [27, 7, 8] (fun s27 s7 _ wr => ∃ i : Nat, i ≤ L.w ∧ s27 = .int .i64 i ∧ OwS wr (w.heap.size + 1) 3 1 s7 ((homD L g i).map icell) ∧ Below w.heap.size w wr ∧ StaB wr w.heap.size L (some ⟨b, off, none⟩) c Am ms.length cm) (fun s27 _ _ _ => L.w - (intOf s27).toNat)
  case atStart => exact ⟨0, by omega, rfl, OwS.nil _ _ _ _, HB2.out, HS2.out⟩
  case round =>
    clear HB2 HS2
    obtain ⟨i, hi, rfl, hown, hb, hst⟩ := hrel
    obtain ⟨A7, c7, rfl, -, -⟩ := hown.form
    have hhl : (homD L g i).length = i := by simp [homD]
    rw [List.length_map, hhl] at hown ⊢
    have HO := Lib.hid hown
    have HB := Lib.hid hb
    have HS := Lib.hid hst
    have HHL := Lib.hid hhl
    clear hown hhl
    by_cases hiw : i < L.w
    · have hiI : (i : Int) < (L.w : Int) := by omega
      have hd := HHD.out i
      obtain ⟨a, ha⟩ : ∃ a, (i + t) % L.w = a := ⟨_, rfl⟩
      rw [ha] at hd
      have w1 : IntKind.i64.wrap ((i : Int) + (t : Int)) = (i : Int) + (t : Int) := IntWalk.i64_in _ (by omega)
      have w2 : Int.tmod ((i : Int) + (t : Int)) (L.w : Int) = (a : Int) := by rw [← ha]; exact tmod_nat (i + t) L.w
      have hal : a < L.w := by rw [← ha]; exact Nat.mod_lt _ (by omega)
      have HSC := Lib.hid (homD_succ L g i)
      obtain ⟨hdk, hhdk⟩ : ∃ hdk, hdisk L g i = hdk := ⟨_, rfl⟩
      rw [hhdk] at hd HSC
      have HHK := Lib.hid hd
      have HKS : Hid (∀ W, Below wr.heap.size wr W → (W.cell? ⟨w.heap.size, 0, none⟩ = some (.int .i64 (L.disks : Int)) ∧ W.cell? ⟨w.heap.size, 1, none⟩ = some (.slice (some ⟨b, off, none⟩) L.n c) ∧ W.cell? ⟨w.heap.size, 2, none⟩ = some (.int .i64 (L.tiles : Int)) ∧ W.cell? ⟨w.heap.size, 3, none⟩ = some (.int .i64 (L.spare : Int)) ∧ W.cell? ⟨w.heap.size, 4, none⟩ = some (.slice Am ms.length cm) ∧ W.cell? ⟨w.heap.size, 5, none⟩ = some (.int .i64 (L.homes : Int)) ∧ W.cell? ⟨w.heap.size, 6, none⟩ = some (.int .i64 (L.blocks : Int)) ∧ W.cell? ⟨bl, ol + a, none⟩ = some (.int .i64 (hdk : Int)))) := fun W hW => by
        obtain ⟨a0, a1, a2, a3, a4, a5, a6⟩ := (HS.out.below hW HS.out.lt).cells
        exact ⟨a0, a1, a2, a3, a4, a5, a6, (HC.out W (HB.out.trans (hW.mono HB.out.size))).2 a _ hd⟩
      have HKW : Hid (∀ W, Below wr.heap.size wr W → Calls Tryz.prog 78 #[.agg #[.int .i64 (L.disks : Int), .slice (some ⟨b, off, none⟩) L.n c, .int .i64 (L.tiles : Int), .int .i64 (L.spare : Int), .slice Am ms.length cm, .int .i64 (L.homes : Int), .int .i64 (L.blocks : Int)]] W fun r w' => r = .returned (.int .i64 (L.w : Int)) ∧ Below wr.heap.size wr w') := fun W hW =>
        (HCW.out W ((HV.out.below HB.out hB).below hW (Nat.le_trans hB HB.out.size)) (Nat.le_trans hB (Nat.le_trans HB.out.size hW.size))).mono fun r w' h => ⟨h.1, hW.trans (h.2.mono hW.size)⟩
      have hzr : w.heap.size + 1 ≤ wr.heap.size := hst.lt
      clear hb hst ha hd hhdk
      go_upto_region 7 with (fail)
      go_region_held3 (fun W => W.cell? ⟨w.heap.size, 0, none⟩ = some (.int .i64 (L.disks : Int)) ∧ W.cell? ⟨w.heap.size, 1, none⟩ = some (.slice (some ⟨b, off, none⟩) L.n c) ∧ W.cell? ⟨w.heap.size, 2, none⟩ = some (.int .i64 (L.tiles : Int)) ∧ W.cell? ⟨w.heap.size, 3, none⟩ = some (.int .i64 (L.spare : Int)) ∧ W.cell? ⟨w.heap.size, 4, none⟩ = some (.slice Am ms.length cm) ∧ W.cell? ⟨w.heap.size, 5, none⟩ = some (.int .i64 (L.homes : Int)) ∧ W.cell? ⟨w.heap.size, 6, none⟩ = some (.int .i64 (L.blocks : Int)) ∧ W.cell? ⟨bl, ol + a, none⟩ = some (.int .i64 (hdk : Int)))
          (first | exact HKS.out _ hb4 | exact HKS.out _ (Below.refl _ _).drew | exact HKS.out _ (Below.refl _ _) | exact HKS.out _ (hb4.alloc hb4.size _) | exact hs5.out)
          (first
            | (go_at_call 78; ((with_reducible refine (HKW.out _ (by first | exact (Below.refl _ _).drew | exact Below.refl _ _)).mono ?_); rintro r w4 ⟨rfl, hb4⟩))
            | ((refine step_ap1 (by rfl) (.tmp 30) (.tmp 42) _ (by rfl) elemIntS (by rfl) (HO.out.below hb4) (icell (hdk : Int)) _ (by rfl) w4.heap.size (by rfl) (by rfl) (icellOneS _) (by rw [List.length_map, HHL.out]; simp [maxLen]; omega) (by rw [List.length_map, HHL.out]; omega) (Nat.le_trans hzr hb4.size) ?_; intro v5 w5 hown5 hg5 _; have HO3 : Hid (OwS w5 (w.heap.size + 1) 3 1 v5 ((homD L g (i + 1)).map icell)) := (by rw [Hid, HSC.out, List.map_append]; exact hown5); have HBA := ((HB.out.trans (hb4.mono HB.out.size)).alloc (Nat.le_trans HB.out.size hb4.size) (.cells #[.int .i64 (hdk : Int)] 3)); have HB3 : Hid (Below w.heap.size w w5) := HBA.grown hg5 HBA.size (fun q hq => by have := (HO.out.lt hq).1; omega); have HS3 : Hid (StaB w5 w.heap.size L (some ⟨b, off, none⟩) c Am ms.length cm) := ((HS.out.below hb4 HS.out.lt).below below_laid (Nat.lt_of_lt_of_le HS.out.lt hb4.size)).grown ((HO.out.below hb4).alloc _) (by decide) hg5; have hs5 := Lib.hid (show _ ∧ _ ∧ _ ∧ _ ∧ _ ∧ _ ∧ _ ∧ _ from ⟨HS3.out.cells.1, HS3.out.cells.2.1, HS3.out.cells.2.2.1, HS3.out.cells.2.2.2.1, HS3.out.cells.2.2.2.2.1, HS3.out.cells.2.2.2.2.2.1, HS3.out.cells.2.2.2.2.2.2, (HC.out w5 HB3.out).2 a _ HHK.out⟩); clear hg5 hown5 HBA))
            | fail)
      clear HKS HKW HO HB HS
      go_wp2
      go_roundw
      case rel => exact ⟨i + 1, by omega, by go_num, HO3.out, HB3.out, HS3.out⟩
      case measure => simp [intOf] <;> omega
    · have hiI : ¬ (i : Int) < (L.w : Int) := by omega
      have hiw2 : i = L.w := by omega
      have s1 := hst.cells
      have HOW : Hid (OwS wr (w.heap.size + 1) 3 1 (.slice A7 i c7) ((disksL L (ms.take (posM ms (g : Int) 0)) (g : Int)).map icell)) := by
        rw [Hid, HD0.out]
        have := HO.out
        rw [hiw2] at this ⊢
        unfold homD at this
        simpa using this
      have HIW := Lib.hid hiw2
      clear hiw2
      have hsr := HBS.out wr (HM.out.below' hb hB) (Nat.le_trans hB hb.size)
      obtain ⟨pos, hpos⟩ : ∃ pos, posM ms (g : Int) 0 = pos := ⟨_, rfl⟩
      rw [hpos] at hsr HOW HDE HPB
      have HSR := Lib.hid hsr
      clear hsr hpos HO hb hst
      go_wp2_with fail
      refine HSR.out.mono ?_
      rintro r w4 ⟨rfl, hb4⟩
      have HO4 := Lib.hid (HOW.out.below hb4)
      have HB4 := Lib.hid (HB.out.trans (hb4.mono HB.out.size))
      have HS4 := Lib.hid (HS.out.below hb4 HS.out.lt)
      clear hb4 s1 HOW HB HS
      go_wp2
      go_loopw [9] (fun s9 wr => ∃ k : Nat, pos ≤ k ∧ k ≤ ms.length ∧ s9 = .int .i64 k ∧ OwS wr (w.heap.size + 1) 3 1 (.slice A7 i c7) ((disksL L (ms.take k) (g : Int)).map icell) ∧ Below w.heap.size w wr ∧ StaB wr w.heap.size L (some ⟨b, off, none⟩) c Am ms.length cm) (fun s9 _ => ms.length - (intOf s9).toNat)
      case atStart => exact ⟨pos, by omega, HPB.out, rfl, HO4.out, HB4.out, HS4.out⟩
      case round =>
        clear HO4 HB4 HS4
        obtain ⟨k, hk1, hk2, rfl, hown, hb, hst⟩ := hrel
        have HO := Lib.hid hown
        have HB := Lib.hid hb
        have HS := Lib.hid hst
        have s1 := hst.cells
        clear hown hst
        by_cases hkn : k < ms.length
        · have hkI : (k : Int) < (ms.length : Int) := by omega
          have hkD : decide (k < ms.length) = true := by rw [decide_eq_true_iff]; exact hkn
          obtain ⟨m, hm⟩ := at_some hkn
          obtain ⟨b2, off2, rfl, -, q0, q1, q2, q3⟩ := MvS.at_ (HM.out.below' hb hB) hm
          by_cases e1 : m.g = (g : Int)
          · have f1 : (m.g == (g : Int)) = true := by simpa using e1
            obtain ⟨ga, p, -, hp, -, hpl⟩ := isP_nat (HIS.out m (List.mem_of_getElem? hm))
            have HST := Lib.hid (HDS.out k m p hm e1 hp)
            rw [hp] at q1
            have hpw : (p : Int) < (i : Int) := by have := HIW.out; omega
            have hdl := disks_len L (ms.take k) (g : Int)
            obtain ⟨y, hy⟩ := at_some (l := disksL L (ms.take k) (g : Int)) (i := p) (by omega)
            have hr : ((disksL L (ms.take k) (g : Int)).map icell)[p]? = some (icell y) := by rw [List.getElem?_map, hy]; rfl
            obtain ⟨g7, c7', e7, -⟩ := HO.out.pos (by rw [List.length_map, hdl]; omega)
            injection e7 with e7 e8 e9
            subst e7
            have y0 : wr.drew.cell? ⟨g7, p, none⟩ = some (.int .i64 y) := by simpa using HO.out.cell hr (j := 0) rfl
            have y1 : wr.drew.frozen? ⟨g7, p, none⟩ = false := HO.out.frozen p
            have hset := (HO.out.drew.set hr (j := 0) (by omega) (.int .i64 m.to.disk)).1
            simp only [Nat.mul_one, Nat.add_zero] at hset
            have HO2 : Hid (OwS (wr.drew.setCell ⟨g7, p, none⟩ (.int .i64 m.to.disk)) (w.heap.size + 1) 3 1 (.slice (some ⟨g7, 0, none⟩) i c7) ((disksL L (ms.take (k + 1)) (g : Int)).map icell)) := by
              rw [Hid, HST.out, List.map_set]
              exact hset
            have hg7 : w.heap.size + 1 ≤ g7 := (HO.out.lt rfl).1
            have HB2 : Hid (Below w.heap.size w (wr.drew.setCell ⟨g7, p, none⟩ (.int .i64 m.to.disk))) := HB.out.drew.setCell (by show _ ≤ g7; omega) _
            have HS2 : Hid (StaB (wr.drew.setCell ⟨g7, p, none⟩ (.int .i64 m.to.disk)) w.heap.size L (some ⟨b, off, none⟩) c (some ⟨b2, off2, none⟩) ms.length cm) := (heap_setCell_other _ _ _ _ (by show _ ≠ g7; omega)).trans HS.out
            obtain ⟨t0, t1, t2, t3, t4, t5, t6⟩ := s1
            clear hset hr hy HO HB HS hm e8 e9 hdl e1 hp
            go_wp2_with fail
            refine still_tail_drew 15 (by kernel_rfl) (by decide +kernel) ?_
            simp only [List.take_succ_cons, List.take_zero, List.drop_succ_cons, List.drop_zero]
            repeat still_step
            refine wpStill_nil ?_
            go_wp2
            go_roundw
            case rel =>
              first
                | exact ⟨k + 1, by omega, by omega, by go_num, HO2.out, HB2.out, HS2.out⟩
                | (repeat apply Exists.intro
                   apply And.intro
                   case right => (repeat' apply And.intro) <;> rfl
                   case left => exact ⟨k + 1, by omega, by omega, by go_num, HO2.out, HB2.out, HS2.out⟩)
            case measure => simp [intOf] <;> omega
          · have f1 : (m.g == (g : Int)) = false := by simpa using e1
            have HE := Lib.hid (HDE.out k hk1 (fun m' hm' => by rw [hm] at hm'; cases hm'; exact e1))
            clear e1 hm hb
            go_wp2
            go_ret
            exact ⟨⟨_, rfl, by rw [← HE.out]; exact HO.out.mono (Nat.le_succ _)⟩, HB.out⟩
        · have hkI : ¬ (k : Int) < (ms.length : Int) := by omega
          have hkD : decide (k < ms.length) = false := by rw [decide_eq_false_iff_not]; exact hkn
          have HE := Lib.hid (HDE.out k hk1 (fun m' hm' => by rw [List.getElem?_eq_none (by omega)] at hm'; cases hm'))
          clear hb
          go_wp2
          go_ret
          exact ⟨⟨_, rfl, by rw [← HE.out]; exact HO.out.mono (Nat.le_succ _)⟩, HB.out⟩
end Go.Proofs.YteglnekkkhpikaaGreat
