/- Walk of tegularef22.Moves. -/
import Derived.Test.YteglnekkkhpikaaGreatTwD
import Derived.Deep.RegionHeld3
namespace Go.Proofs.YteglnekkkhpikaaGreat
open Go.RowKit

def bytC (x : Nat) : List Value := [.int .u8 x]
abbrev BytR (w : World) (B : Nat) (A : Option Addr) (l : List Nat) : Prop := RdS w B 1 A (l.map bytC)
theorem BytR.at_ {w : World} {B : Nat} {A : Option Addr} {l : List Nat} (h : BytR w B A l) {k x : Nat} (hx : l[k]? = some x) : ∃ b off, A = some ⟨b, off, none⟩ ∧ b < B ∧ w.cell? ⟨b, off + k, none⟩ = some (.int .u8 (x : Int)) := by
  have hk := (List.getElem?_eq_some_iff.1 hx).1
  obtain ⟨b, off, rfl, hb, hc⟩ := h.2 (by simp; omega)
  have hr : (l.map bytC)[k]? = some (bytC x) := by rw [List.getElem?_map, hx]; rfl
  exact ⟨b, off, rfl, hb, by simpa using hc k _ hr 0 _ rfl⟩
theorem make_boolsS (w : World) (n : Nat) (h : n ≤ 1000000) : (Instr.makeSlice 35 (.int .i64 (n : Int)) (.int .i64 (n : Int))).run Tryz.prog w = .ok (.slice (some ⟨w.heap.size, 0, none⟩) n n) (w.alloc (.cells (madeCells #[.bool false] n) 4)) := by
  obtain ⟨i, hi, h1, h2, h3⟩ := info_parts (P := Tryz.prog) (e := 4) (z := .bool false) (size := 1) (bytes := 1) (by kernel_rfl)
  have hr := run_make (P := Tryz.prog) w 35 4 i _ Tryz.underlying35 hi h1 .i64 .i64 n n (by omega) (Int.le_refl _) (by rw [h3]; omega) (by omega)
  simp only [Int.toNat_natCast, h2, Nat.mul_one] at hr
  exact hr
def rowsB (l : List Bool) : List (List Value) := l.map fun b => [.bool b]
theorem made_falses (w1 : World) (k : Nat) (hk : k ≤ 1000) : OwS (w1.alloc (.cells (madeCells #[.bool false] k) 4)) w1.heap.size 4 1 (.slice (some ⟨w1.heap.size, 0, none⟩) k k) (rowsB (List.replicate k false)) := by
  have e : rowsB (List.replicate k false) = List.replicate k [.bool false] := by simp [rowsB]
  refine OwS.lit ?_ (heap_alloc_new w1 _) ?_ (by rw [e]; simp) (by simp [maxLen]; omega) (Nat.le_refl _)
  · rw [e]
    intro r hr
    rw [(List.mem_replicate.1 hr).2]
    rfl
  · rw [e, flat_rep, made_list]
theorem alloc_set (w : World) (cs : Array Value) (t : TypeId) (j : Nat) (v : Value) : (w.alloc (.cells cs t)).setCell ⟨w.heap.size, j, none⟩ v = w.alloc (.cells (cs.setIfInBounds j v) t) := by
  simp [go_sem]
theorem deadAt_len (D d : Nat) : (deadAt D d).length = D := by simp [deadAt]
theorem MvB.set2 {w : World} {X : Nat} {m : Mv} (h : MvB w X m) (t : Plc) : MvB ((w.setCell ⟨X, 2, none⟩ (.int .i64 t.disk)).setCell ⟨X, 3, none⟩ (.int .i64 t.block)) X ⟨m.g, m.p, t⟩ := by
  have hb2 := heap_setCell_same w X 2 _ _ (.int .i64 t.disk) h
  unfold MvB
  rw [heap_setCell_same _ X 3 _ _ _ hb2]
  rfl
theorem MvB.froz {w : World} {X : Nat} {m : Mv} (h : MvB w X m) (j : Nat) : w.frozen? ⟨X, j, none⟩ = false := frozen_of_row _ _ _ _ _ h
theorem MvB.set4 {w : World} {X : Nat} {m : Mv} (h : MvB w X m) (u : Mv) : MvB ((((w.setCell ⟨X, 0, none⟩ (.int .i64 u.g)).setCell ⟨X, 1, none⟩ (.int .i64 u.p)).setCell ⟨X, 2, none⟩ (.int .i64 u.to.disk)).setCell ⟨X, 3, none⟩ (.int .i64 u.to.block)) X u := by
  have h1 := heap_setCell_same w X 0 _ _ (.int .i64 u.g) h
  have h2 := heap_setCell_same _ X 1 _ _ (.int .i64 u.p) h1
  have h3 := heap_setCell_same _ X 2 _ _ (.int .i64 u.to.disk) h2
  unfold MvB
  rw [heap_setCell_same _ X 3 _ _ _ h3]
  rfl
def MovM (wa : World) (m : Mv) (s8 : Value) (wx : World) : Prop := ∃ M, s8 = .pointer (some ⟨M, 0, none⟩) ∧ wa.heap.size ≤ M ∧ MvB wx M m ∧ Below wa.heap.size wa wx
def Mov1 (w : World) (L : LayD) (raw : List Nat) (A : Option Addr) (c : Nat) (s5 s6 : Value) (wr : World) : Prop :=
  ∃ k : Nat, k ≤ raw.length ∧ s6 = .int .i64 k ∧ OwS wr w.heap.size 62 4 s5 ((movesL L (raw.take k)).map Mv.cells) ∧ Below w.heap.size w wr ∧ LayB wr w.heap.size L A c
set_option maxHeartbeats 8000000 in
set_option maxRecDepth 100000 in
theorem r22moves {L : LayD} {A Ar : Option Addr} {B c cr : Nat} {raw : List Nat} (w : World) (hx : LayX L) (hv : GsV w B A L.gs) (hR : BytR w B Ar raw) (hb256 : ∀ x ∈ raw, x < 256) (hB : B ≤ w.heap.size) (hlen : raw.length ≤ 10000) :
    Calls Tryz.prog 10 #[layAgg L A c, .slice Ar raw.length cr] w fun r w' => (∃ v, r = .returned v ∧ OwS w' w.heap.size 62 4 v ((movesL L raw).map Mv.cells)) ∧ Below w.heap.size w w' := by
  have hmk : ∀ W : World, (Instr.makeSlice 35 (.int .i64 (L.disks : Int)) (.int .i64 (L.disks : Int))).run Tryz.prog W = .ok (.slice (some ⟨W.heap.size, 0, none⟩) L.disks L.disks) (W.alloc (.cells (madeCells #[.bool false] L.disks) 4)) := fun W => make_boolsS W L.disks (by have := hx.ok.disks.2; omega)
  have HV := Lib.hid hv
  have HR := Lib.hid hR
  have H256 := Lib.hid hb256
  have HCW := Lib.hid (fun W hv hB => r21width (L := L) (A := A) (B := B) (c := c) W hx hv hB)
  have HCG := Lib.hid (fun W => r21groups (L := L) (A := A) (c := c) W hx)
  have hd60 := hx.ok.disks
  have hw16 := hx.ok.w
  have hG := hx.ok.G
  have hG1 : 1 ≤ L.G := by unfold LayD.G; exact Nat.mul_pos hx.ok.tiles.1 hx.ok.n.1
  unfold layAgg at *
  clear hv hR hb256
  go_enter Tryz.func10, Tryz.ntmps10
  go_wp2
  have hl0 := LayB.made w L A c
  have hb0 : Below w.heap.size w (w.alloc (.cells #[.int .i64 L.disks, .slice A L.n c, .int .i64 L.tiles, .int .i64 L.spare] 31)) := below_laid
  generalize w.alloc _ = w0 at *
  have H0 : Hid (Mov1 w L raw A c (.slice none 0 0) (.int .i64 0) w0) := ⟨0, by omega, rfl, OwS.nil _ _ _ _, hb0, hl0⟩
  clear hb0 hl0
  go_loopw [5, 6, 7, 8, 9, 10, 11, 12, 13] (fun s5 s6 _ _ _ _ _ _ _ wr => Mov1 w L raw A c s5 s6 wr) (fun _ s6 _ _ _ _ _ _ _ _ => raw.length - (intOf s6).toNat)
  case atStart => exact H0.out
  case round =>
    clear H0
    obtain ⟨k, hk, rfl, hown, hb, hl⟩ := hrel
    obtain ⟨A5, c5, rfl, -, -⟩ := hown.form
    rw [List.length_map] at hown ⊢
    have HOK := Lib.hid (moves_ok L (raw.take k))
    have hml : (movesL L (raw.take k)).length ≤ 10000 := by have := moves_len L (raw.take k); rw [List.length_take] at this; omega
    by_cases hkn : k < raw.length
    · have hkI : (k : Int) < (raw.length : Int) := by omega
      obtain ⟨x, hxk⟩ := at_some hkn
      have HST := Lib.hid (moves_take (L := L) hxk)
      have hx256 : x < 256 := H256.out x (List.mem_of_getElem? hxk)
      generalize hmsd : movesL L (raw.take k) = ms at *
      clear hmsd
      have HO := Lib.hid hown
      have HB := Lib.hid hb
      have HL := Lib.hid hl
      have hsz := hb.size
      obtain ⟨br, or', rfl, -, -⟩ := BytR.at_ (HR.out.below' hb hB) hxk
      have HXR : Hid (∀ W, Below w.heap.size w W → W.cell? ⟨br, or' + k, none⟩ = some (.int .u8 (x : Int))) := fun W hW => by
        obtain ⟨b2, o2, e, -, h⟩ := BytR.at_ (HR.out.below' hW hB) hxk
        cases e
        exact h
      obtain ⟨gw, hgw⟩ : ∃ gw, L.G * L.w = gw := ⟨_, rfl⟩
      have hgw1 : 1 ≤ gw := by rw [← hgw]; exact Nat.mul_pos hG1 (by omega)
      have hgw2 : gw ≤ 4096 * 16 := by rw [← hgw]; exact Nat.mul_le_mul hG hw16.2
      obtain ⟨x7, hx7⟩ : ∃ x7, x * 7 = x7 := ⟨_, rfl⟩
      obtain ⟨kk, hkk⟩ : ∃ kk, x7 % gw = kk := ⟨_, rfl⟩
      have hkkl : kk < gw := by rw [← hkk]; exact Nat.mod_lt _ (by omega)
      obtain ⟨gg, hgg⟩ : ∃ gg, kk / L.w = gg := ⟨_, rfl⟩
      obtain ⟨pp, hpp⟩ : ∃ pp, kk % L.w = pp := ⟨_, rfl⟩
      obtain ⟨hh, hhh⟩ : ∃ hh, x / 2 = hh := ⟨_, rfl⟩
      obtain ⟨dd, hdd⟩ : ∃ dd, hh % L.disks = dd := ⟨_, rfl⟩
      have HHH := Lib.hid hhh
      have HDD := Lib.hid hdd
      have HU8 : Hid (IntKind.u8.wrap (hh : Int) = (hh : Int)) := IntWalk.u8_in _ (by omega)
      have hggl : gg < L.G := by rw [← hgg]; exact Nat.div_lt_of_lt_mul (by rw [Nat.mul_comm]; omega)
      have hppl : pp < L.w := by rw [← hpp]; exact Nat.mod_lt _ (by omega)
      have hddl : dd < L.disks := by rw [← hdd]; exact Nat.mod_lt _ (by omega)
      have HBM : Hid (byteMv L ms x = ⟨gg, pp, (chooseL L ms gg (deadAt L.disks dd)).getD ⟨-1, 0⟩⟩) := by
        unfold byteMv
        rw [hgw, hx7, hkk, hgg, hpp, hhh, hdd]
        rfl
      have w1 : IntKind.i64.wrap ((x : Int) * 7) = (x7 : Int) := by rw [IntWalk.i64_in _ (by omega), ← hx7]; simp
      have w2 : IntKind.i64.wrap ((L.G : Int) * (L.w : Int)) = (gw : Int) := by
        have : (L.G : Int) * (L.w : Int) = (gw : Int) := by rw [← hgw]; simp
        rw [this, IntWalk.i64_in _ (by omega)]
      have w3 : Int.tmod (x7 : Int) (gw : Int) = (kk : Int) := by rw [← hkk]; exact tmod_nat _ _
      have w4 : ¬ (gw : Int) = 0 := by omega
      have w5 : Int.tdiv (kk : Int) (L.w : Int) = (gg : Int) := by rw [← hgg]; exact tdiv_nat _ _
      have w6 : Int.tmod (kk : Int) (L.w : Int) = (pp : Int) := by rw [← hpp]; exact tmod_nat _ _
      have w7 : ¬ (L.w : Int) = 0 := by omega
      have w9 : ¬ L.w = 0 := by omega
      have w10 : ¬ gw = 0 := by omega
      have w8 : IntKind.i64.wrap (gg : Int) = (gg : Int) := IntWalk.i64_in _ (by omega)
      have hcv : ∀ W : World, (convert 5 3 (.int .u8 (x : Int))).run Tryz.prog W = .ok (.int .i64 (x : Int)) W := fun W => conv_u8 _ (by omega) (by omega) W
      have X := fun d xs => (hl.below (below_regrown wr d xs) hl.lt).cells
      have Y := fun d xs => HXR.out (Sort.grow (redrawn wr d) xs) (hb.trans ((below_regrown wr d xs).mono hsz))
      have KW := Lib.hid (fun d xs => HCW.out (Sort.grow (redrawn wr d) xs) ((HV.out.below hb hB).below (below_regrown wr d xs) (Nat.le_trans hB hsz)) (Nat.le_trans hB (Nat.le_trans hsz (below_regrown wr d xs).size)))
      have KG := Lib.hid (fun d xs => HCG.out (Sort.grow (redrawn wr d) xs))
      clear hown hb hl hxk hgw hx7 hkk hgg hpp hhh hdd hG hG1
      go_upto_region 5 with (fail)
      refine quiet_below (by kernel_rfl) (by kernel_rfl) ?_
      repeat (go_big_quiet_step (first | (go_at_call 18; exact Calls.regrown_of (KG.out _ _)) | (go_at_call 17; exact Calls.regrown_of (KW.out _ _))))
      refine wpQuiet_nil ?_
      intro wa hba
      have HBA := Lib.hid (HB.out.trans (hba.mono hsz))
      have HLA := Lib.hid (HL.out.below hba HL.out.lt)
      have HOA := Lib.hid (HO.out.below hba)
      clear X Y KW KG hba hcv HB HL HO hsz
      have hla := HLA.out
      have hsa := HBA.out.size
      clear hla
      have HSC : Hid (∀ W, Below wa.heap.size wa W → (W.cell? ⟨w.heap.size, 0, none⟩ = some (.int .i64 (L.disks : Int)) ∧ W.cell? ⟨w.heap.size, 1, none⟩ = some (.slice A L.n c) ∧ W.cell? ⟨w.heap.size, 2, none⟩ = some (.int .i64 (L.tiles : Int)) ∧ W.cell? ⟨w.heap.size, 3, none⟩ = some (.int .i64 (L.spare : Int)))) := fun W hW => (HLA.out.below hW HLA.out.lt).cells
      have HKW : Hid (∀ W, Below wa.heap.size wa W → Calls Tryz.prog 17 #[.agg #[.int .i64 (L.disks : Int), .slice A L.n c, .int .i64 (L.tiles : Int), .int .i64 (L.spare : Int)]] W fun r w' => r = .returned (.int .i64 (L.w : Int)) ∧ Below wa.heap.size wa w' ∧ Below W.heap.size W w') := fun W hW =>
        (HCW.out W ((HV.out.below HBA.out hB).below hW (Nat.le_trans hB hsa)) (Nat.le_trans hB (Nat.le_trans hsa hW.size))).mono fun r w' h => ⟨h.1, hW.trans (h.2.mono hW.size), h.2⟩
      have sA := HSC.out wa (Below.refl _ _)
      have sB := HSC.out (wa.drew.alloc (.cells #[.int .i64 0, .int .i64 0, .int .i64 0, .int .i64 0] 62)) ((Below.refl _ _).drew.alloc (Nat.le_refl _) _)
      have sE := HSC.out (wa.alloc (.cells #[.int .i64 0, .int .i64 0, .int .i64 0, .int .i64 0] 62)).drew ((Below.refl _ _).alloc (Nat.le_refl _) _).drew
      have hMd : MvB (wa.alloc (.cells #[.int .i64 0, .int .i64 0, .int .i64 0, .int .i64 0] 62)).drew wa.heap.size ⟨0, 0, ⟨0, 0⟩⟩ := MvB.made wa ⟨0, 0, ⟨0, 0⟩⟩
      have HMD := Lib.hid hMd
      clear hMd
      go_upto_region 6 with (fail)
      go_cut [8] (fun s8 wx => MovM wa ⟨gg, pp, ⟨0, 0⟩⟩ s8 wx)
      case first =>
        go_region_law (first
            | ((first | (have hbo := hb4.size) | (have hbo := Nat.le_refl wa.heap.size)); go_simp; go_wp2_with (go_at_call 17; ((with_reducible refine (HKW.out _ (by first | exact hb4 | exact hb4.alloc hb4.size _ | exact (Below.refl _ _).drew | exact (Below.refl _ _).drew.alloc (Nat.le_refl _) _ | exact ((Below.refl _ _).alloc (Nat.le_refl _) _).drew)).mono ?_); rintro r w4 ⟨rfl, hb4, hb4'⟩)); have sC := HSC.out w4 hb4; have sD := HSC.out (w4.alloc (.cells #[.int .i64 0, .int .i64 0, .int .i64 0, .int .i64 0] 62)) (hb4.alloc hb4.size _); (first | (have hm4 := (MvB.made _ ⟨0, 0, ⟨0, 0⟩⟩).below hb4' (by simp); have z4 := hm4.cells; have z5 := fun j => hm4.froz j; have hge4 := hbo) | (have hm4 := HMD.out.below hb4' (by show wa.heap.size < (wa.alloc _).heap.size; simp); have z4 := hm4.cells; have z5 := fun j => hm4.froz j; have hge4 := hbo) | (have hm4 := hm4.below hb4' hm4.lt; have z4 := hm4.cells; have z5 := fun j => hm4.froz j) | skip))
            | fail)
        all_goals
          go_wp2_with fail
          go_meet
          first
            | exact ⟨_, rfl, hb4.size, heap_alloc_new w4 _, hb4.alloc hb4.size _⟩
            | exact ⟨_, rfl, hge4, hm4.set4 ⟨gg, pp, ⟨0, 0⟩⟩, (((hb4.setCell hge4 _).setCell hge4 _).setCell hge4 _).setCell hge4 _⟩
      obtain ⟨M, rfl, hMa, hmb, hbb⟩ := hcut
      have hbc : Below w.heap.size w wc := HBA.out.trans (hbb.mono hsa)
      have hlc := HLA.out.below hbb HLA.out.lt
      have hoc := HOA.out.below hbb
      have HWM : Hid (w.heap.size < M) := Nat.lt_of_lt_of_le HLA.out.lt hMa
      have HOM : Hid ((Value.slice A5 ms.length c5).ownBlock ≠ some M) := fun he => by
        have := (HOA.out.lt he).2
        omega
      clear sA sB sE HMD HSC HKW HBA HLA HOA hsa hbb hMa
      have hmd := made_falses wc L.disks (by omega)
      have hbd : Below w.heap.size w (wc.alloc (.cells (madeCells #[.bool false] L.disks) 4)) := hbc.trans (below_laid.mono hbc.size)
      have hDr : (rowsB (List.replicate L.disks false))[dd]? = some [.bool false] := by simp [rowsB, hddl]
      have d0 : (wc.alloc (.cells (madeCells #[.bool false] L.disks) 4)).cell? ⟨wc.heap.size, dd, none⟩ = some (.bool false) := by simpa using hmd.cell hDr (j := 0) rfl
      have d1 : (wc.alloc (.cells (madeCells #[.bool false] L.disks) 4)).frozen? ⟨wc.heap.size, dd, none⟩ = false := hmd.frozen dd
      have y0 : (wc.alloc (.cells (madeCells #[.bool false] L.disks) 4)).cell? ⟨br, or' + k, none⟩ = some (.int .u8 (x : Int)) := HXR.out _ hbd
      obtain ⟨l0, l1, l2, l3⟩ := hlc.cells
      have HDS : Hid (OwS ((wc.alloc (.cells (madeCells #[.bool false] L.disks) 4)).setCell ⟨wc.heap.size, dd, none⟩ (.bool true)) wc.heap.size 4 1 (.slice (some ⟨wc.heap.size, 0, none⟩) L.disks L.disks) (rowsB (deadAt L.disks dd))) := by
        have h := (hmd.set hDr (j := 0) (by omega) (.bool true)).1
        simp only [Nat.mul_one, Nat.add_zero] at h
        have e : rowsB (deadAt L.disks dd) = (rowsB (List.replicate L.disks false)).set dd [.bool true] := by unfold rowsB deadAt; rw [List.map_set]
        rw [Hid, e]
        exact h
      have hMc : M < wc.heap.size := hmb.lt
      have hwc : w.heap.size < wc.heap.size := hlc.lt
      have HBE : Hid (Below w.heap.size w ((wc.alloc (.cells (madeCells #[.bool false] L.disks) 4)).setCell ⟨wc.heap.size, dd, none⟩ (.bool true))) := hbd.setCell (by show _ ≤ wc.heap.size; omega) _
      have HLE : Hid (LayB ((wc.alloc (.cells (madeCells #[.bool false] L.disks) 4)).setCell ⟨wc.heap.size, dd, none⟩ (.bool true)) w.heap.size L A c) := (hlc.below below_laid hlc.lt).far (by show _ ≠ wc.heap.size; omega) _
      have HME : Hid (MvB ((wc.alloc (.cells (madeCells #[.bool false] L.disks) 4)).setCell ⟨wc.heap.size, dd, none⟩ (.bool true)) M ⟨gg, pp, ⟨0, 0⟩⟩) := (heap_setCell_other _ _ _ _ (by show _ ≠ wc.heap.size; omega)).trans (hmb.below below_laid hmb.lt)
      have HOE : Hid (OwS ((wc.alloc (.cells (madeCells #[.bool false] L.disks) 4)).setCell ⟨wc.heap.size, dd, none⟩ (.bool true)) w.heap.size 62 4 (.slice A5 ms.length c5) (ms.map Mv.cells)) := (hoc.alloc _).far (fun he => by have := (hoc.lt he).2; simp at this) _
      have e1 : Int.tdiv (x : Int) 2 = (hh : Int) := by rw [← HHH.out]; exact tdiv_nat x 2
      have e2 : (x : Int) / 2 = (hh : Int) := by rw [← HHH.out]; rfl
      have e3 : IntKind.u8.wrap (hh : Int) = (hh : Int) := HU8.out
      have e4 : Int.tmod (hh : Int) (L.disks : Int) = (dd : Int) := by rw [← HDD.out]; exact tmod_nat _ _
      have e5 : ¬ (L.disks : Int) = 0 := by omega
      have e6 : ∀ W : World, (convert 5 3 (.int .u8 (hh : Int))).run Tryz.prog W = .ok (.int .i64 (hh : Int)) W := fun W => conv_u8 _ (by omega) (by have := HHH.out; omega) W
      clear hmd hbd hDr hlc hmb hbc hoc
      go_upto_region 9 with (fail)
      have hset := alloc_set wc (madeCells #[.bool false] L.disks) 4 dd (.bool true)
      rw [hset] at HBE HLE HME HOE HDS
      have hce := HBE.out
      have hme := HME.out
      clear hset d0 d1 y0
      generalize wc.alloc _ = we at *
      obtain ⟨n0, n1, n2, n3⟩ := hme.cells
      obtain ⟨l0, l1, l2, l3⟩ := HLE.out.cells
      have hvs : B ≤ we.heap.size := Nat.le_trans hB hce.size
      have hcc := r22choose (L := L) (A := A) (Am := A5) (Ad := some ⟨wc.heap.size, 0, none⟩) (B := we.heap.size) (c := c) (cm := c5) (cd := L.disks) (ms := ms) (dead := deadAt L.disks dd) gg we hx HOK.out ((HV.out.below hce hB).more hvs) HOE.out.reads HDS.out.reads (deadAt_len _ _) (Nat.le_refl _) hggl (by omega)
      rw [deadAt_len] at hcc
      obtain ⟨ch, hch⟩ : ∃ ch, chooseL L ms gg (deadAt L.disks dd) = ch := ⟨_, rfl⟩
      rw [hch] at hcc HBM
      have HCC := Lib.hid hcc
      clear hce hme hcc hch hvs
      go_wp2_with fail
      refine HCC.out.mono ?_
      rintro r wf ⟨hcp, hbf⟩
      have HMF := Lib.hid (HME.out.below hbf HME.out.lt)
      have HLF := Lib.hid (HLE.out.below hbf HLE.out.lt)
      have HOF := Lib.hid (HOE.out.below hbf)
      have HBF := Lib.hid (HBE.out.trans (hbf.mono HBE.out.size))
      clear hbf n0 n1 n2 n3 l0 l1 l2 l3 HCC
      rcases ch with _ | t
      · obtain ⟨t, rfl⟩ := hcp.2 rfl
        unfold Plc.agg
        have HTO : Hid (byteMv L ms x = ⟨gg, pp, ⟨-1, 0⟩⟩) := HBM.out
        have hm1 : MvB (wf.alloc (.cells #[.int .i64 (-1), .int .i64 0] 50)) M ⟨gg, pp, ⟨0, 0⟩⟩ := HMF.out.below below_laid HMF.out.lt
        obtain ⟨n0, n1, n2, n3⟩ := hm1.cells
        have f2 := hm1.froz 2
        have f3 := hm1.froz 3
        have hmg : MvB (((wf.alloc (.cells #[.int .i64 (-1), .int .i64 0] 50)).setCell ⟨M, 2, none⟩ (.int .i64 (-1))).setCell ⟨M, 3, none⟩ (.int .i64 0)) M ⟨gg, pp, ⟨-1, 0⟩⟩ := hm1.set2 ⟨-1, 0⟩
        have hbg : Below w.heap.size w (((wf.alloc (.cells #[.int .i64 (-1), .int .i64 0] 50)).setCell ⟨M, 2, none⟩ (.int .i64 (-1))).setCell ⟨M, 3, none⟩ (.int .i64 0)) := ((HBF.out.alloc HBF.out.size _).setCell (Nat.le_of_lt HWM.out) _).setCell (Nat.le_of_lt HWM.out) _
        have hlg : LayB (((wf.alloc (.cells #[.int .i64 (-1), .int .i64 0] 50)).setCell ⟨M, 2, none⟩ (.int .i64 (-1))).setCell ⟨M, 3, none⟩ (.int .i64 0)) w.heap.size L A c := ((HLF.out.below below_laid HLF.out.lt).far (Nat.ne_of_lt HWM.out) _).far (Nat.ne_of_lt HWM.out) _
        have hog : OwS (((wf.alloc (.cells #[.int .i64 (-1), .int .i64 0] 50)).setCell ⟨M, 2, none⟩ (.int .i64 (-1))).setCell ⟨M, 3, none⟩ (.int .i64 0)) w.heap.size 62 4 (.slice A5 ms.length c5) (ms.map Mv.cells) := ((HOF.out.alloc _).far HOM.out _).far HOM.out _
        have HMG := Lib.hid hmg
        have HBG := Lib.hid hbg
        have HLG := Lib.hid hlg
        have HOG := Lib.hid hog
        clear hmg hbg hlg hog hm1 HMF HLF HOF HBF
        go_upto_region 13 with (fail)
        clear n0 n1 n2 n3 f2 f3
        generalize World.setCell _ _ _ = wg at *
        obtain ⟨n0, n1, n2, n3⟩ := HMG.out.cells
        obtain ⟨l0, l1, l2, l3⟩ := HLG.out.cells
        have hap := r22apply (L := L) (A := A) (Am := A5) (B := wg.heap.size) (c := c) (cm := c5) (ms := ms) ⟨gg, pp, ⟨-1, 0⟩⟩ wg hx ((HV.out.below HBG.out hB).more (Nat.le_trans hB HBG.out.size)) HOG.out.reads (Nat.le_refl _) (by omega)
        have HST2 : Hid (movesL L (raw.take (k + 1)) = if (applyL L ms ⟨gg, pp, ⟨-1, 0⟩⟩).2 = 0 then (applyL L ms ⟨gg, pp, ⟨-1, 0⟩⟩).1 else ms) := by rw [Hid, HST.out]; unfold movesStep; rw [HTO.out]
        obtain ⟨res, hres⟩ : ∃ o, applyL L ms ⟨gg, pp, ⟨-1, 0⟩⟩ = o := ⟨_, rfl⟩
        rw [hres] at hap HST2
        have HAP := Lib.hid hap
        clear hap hres
        obtain ⟨out, en⟩ := res
        simp only at HST2 HAP
        go_wp2_with fail
        refine HAP.out.mono ?_
        rintro r wh ⟨⟨v, rfl, hov⟩, hbh⟩
        have HBH := Lib.hid (HBG.out.trans (hbh.mono HBG.out.size))
        have HLH := Lib.hid (HLG.out.below hbh HLG.out.lt)
        have HOH := Lib.hid (HOG.out.below hbh)
        have HOV := Lib.hid (hov.mono HBG.out.size)
        clear hov hbh HAP HBG HLG HOG HMG n0 n1 n2 n3 l0 l1 l2 l3
        by_cases he : en = 0
        · subst he
          have HR : Hid (movesL L (raw.take (k + 1)) = out) := by rw [Hid, HST2.out, if_pos rfl]
          go_wp2
          go_roundw
          case rel => exact ⟨k + 1, by omega, by go_num, by rw [HR.out]; exact HOV.out, HBH.out, HLH.out⟩
          case measure => simp [intOf] <;> omega
        · have HR : Hid (movesL L (raw.take (k + 1)) = ms) := by rw [Hid, HST2.out, if_neg he]
          have f1 : (en == 0) = false := by simpa using he
          clear he
          go_wp2
          go_roundw
          case rel => exact ⟨k + 1, by omega, by go_num, by rw [HR.out]; exact HOH.out, HBH.out, HLH.out⟩
          case measure => simp [intOf] <;> omega
      · obtain rfl := hcp.1 t rfl
        obtain ⟨td, tb⟩ := t
        unfold Plc.agg
        simp only
        have HTO : Hid (byteMv L ms x = ⟨gg, pp, ⟨td, tb⟩⟩) := HBM.out
        have hm1 : MvB (wf.alloc (.cells #[.int .i64 td, .int .i64 tb] 50)) M ⟨gg, pp, ⟨0, 0⟩⟩ := HMF.out.below below_laid HMF.out.lt
        obtain ⟨n0, n1, n2, n3⟩ := hm1.cells
        have f2 := hm1.froz 2
        have f3 := hm1.froz 3
        have hmg : MvB (((wf.alloc (.cells #[.int .i64 td, .int .i64 tb] 50)).setCell ⟨M, 2, none⟩ (.int .i64 td)).setCell ⟨M, 3, none⟩ (.int .i64 tb)) M ⟨gg, pp, ⟨td, tb⟩⟩ := hm1.set2 ⟨td, tb⟩
        have hbg : Below w.heap.size w (((wf.alloc (.cells #[.int .i64 td, .int .i64 tb] 50)).setCell ⟨M, 2, none⟩ (.int .i64 td)).setCell ⟨M, 3, none⟩ (.int .i64 tb)) := ((HBF.out.alloc HBF.out.size _).setCell (Nat.le_of_lt HWM.out) _).setCell (Nat.le_of_lt HWM.out) _
        have hlg : LayB (((wf.alloc (.cells #[.int .i64 td, .int .i64 tb] 50)).setCell ⟨M, 2, none⟩ (.int .i64 td)).setCell ⟨M, 3, none⟩ (.int .i64 tb)) w.heap.size L A c := ((HLF.out.below below_laid HLF.out.lt).far (Nat.ne_of_lt HWM.out) _).far (Nat.ne_of_lt HWM.out) _
        have hog : OwS (((wf.alloc (.cells #[.int .i64 td, .int .i64 tb] 50)).setCell ⟨M, 2, none⟩ (.int .i64 td)).setCell ⟨M, 3, none⟩ (.int .i64 tb)) w.heap.size 62 4 (.slice A5 ms.length c5) (ms.map Mv.cells) := ((HOF.out.alloc _).far HOM.out _).far HOM.out _
        have HMG := Lib.hid hmg
        have HBG := Lib.hid hbg
        have HLG := Lib.hid hlg
        have HOG := Lib.hid hog
        clear hmg hbg hlg hog hm1 HMF HLF HOF HBF
        go_upto_region 13 with (fail)
        clear n0 n1 n2 n3 f2 f3
        generalize World.setCell _ _ _ = wg at *
        obtain ⟨n0, n1, n2, n3⟩ := HMG.out.cells
        obtain ⟨l0, l1, l2, l3⟩ := HLG.out.cells
        have hap := r22apply (L := L) (A := A) (Am := A5) (B := wg.heap.size) (c := c) (cm := c5) (ms := ms) ⟨gg, pp, ⟨td, tb⟩⟩ wg hx ((HV.out.below HBG.out hB).more (Nat.le_trans hB HBG.out.size)) HOG.out.reads (Nat.le_refl _) (by omega)
        have HST2 : Hid (movesL L (raw.take (k + 1)) = if (applyL L ms ⟨gg, pp, ⟨td, tb⟩⟩).2 = 0 then (applyL L ms ⟨gg, pp, ⟨td, tb⟩⟩).1 else ms) := by rw [Hid, HST.out]; unfold movesStep; rw [HTO.out]
        obtain ⟨res, hres⟩ : ∃ o, applyL L ms ⟨gg, pp, ⟨td, tb⟩⟩ = o := ⟨_, rfl⟩
        rw [hres] at hap HST2
        have HAP := Lib.hid hap
        clear hap hres
        obtain ⟨out, en⟩ := res
        simp only at HST2 HAP
        go_wp2_with fail
        refine HAP.out.mono ?_
        rintro r wh ⟨⟨v, rfl, hov⟩, hbh⟩
        have HBH := Lib.hid (HBG.out.trans (hbh.mono HBG.out.size))
        have HLH := Lib.hid (HLG.out.below hbh HLG.out.lt)
        have HOH := Lib.hid (HOG.out.below hbh)
        have HOV := Lib.hid (hov.mono HBG.out.size)
        clear hov hbh HAP HBG HLG HOG HMG n0 n1 n2 n3 l0 l1 l2 l3
        by_cases he : en = 0
        · subst he
          have HR : Hid (movesL L (raw.take (k + 1)) = out) := by rw [Hid, HST2.out, if_pos rfl]
          go_wp2
          go_roundw
          case rel => exact ⟨k + 1, by omega, by go_num, by rw [HR.out]; exact HOV.out, HBH.out, HLH.out⟩
          case measure => simp [intOf] <;> omega
        · have HR : Hid (movesL L (raw.take (k + 1)) = ms) := by rw [Hid, HST2.out, if_neg he]
          have f1 : (en == 0) = false := by simpa using he
          clear he
          go_wp2
          go_roundw
          case rel => exact ⟨k + 1, by omega, by go_num, by rw [HR.out]; exact HOH.out, HBH.out, HLH.out⟩
          case measure => simp [intOf] <;> omega
    · have hkI : ¬ (k : Int) < (raw.length : Int) := by omega
      have HRW : Hid (movesL L (raw.take k) = movesL L raw) := by rw [Hid, List.take_of_length_le (by omega)]
      have HO := Lib.hid hown
      have HB := Lib.hid hb
      clear hown hb hl
      go_wp2
      go_ret
      exact ⟨⟨_, rfl, by rw [← HRW.out]; exact HO.out⟩, HB.out⟩
end Go.Proofs.YteglnekkkhpikaaGreat
