/- Walk of tegulalaw46's LinearLimit: it answers true, whatever the numbers. -/
import Derived.Test.YtcgbnlhloopnfaaDoorGLim
import Derived.Test.YtcgbnlhloopnfaaDoorGMst
namespace Go.Proofs.YtcgbnlhloopnfaaDoor
open Go.RowKit

theorem find_big {l : List Ev} (ho : FindOk l) (hb : anyBig (rawOps l) (cutsL l) = true) (A : Option Addr) (c B : Nat) (w : World) (h : EvS w B A l) (hB : B ≤ w.heap.size) :
    Calls Tryd.prog 15 #[.slice A l.length c] w fun r w' => r = .returned (.tuple #[.slice none 0 0, .bool false, .int .i64 7]) ∧ Below w.heap.size w w' := by
  obtain ⟨h1, h2, h3, h4, h5⟩ := ho
  refine (lfind_any l A c B w h hB h2 h3 h4 h5).mono ?_
  intro r w' ⟨hbl, hr⟩
  rw [h1, hb] at hr
  simp only [if_true] at hr
  exact ⟨hr, hbl⟩
/-- the reference accepts an explanation that linear accepts -/
theorem racc_yes {l : List Ev} {wl : List (List Int × Int)} (ho : oneL l = true) (ha : AccL l wl) (A Aw : Option Addr) (c cw B : Nat) (w : World) (h : EvS w B A l) (hW : WinS w B Aw wl) (hB : B ≤ w.heap.size) (hlen : l.length ≤ 100000) (hlx : ∀ x ∈ wl, x.1.length ≤ 100000) (hxl : wl.length ≤ 100000) :
    Calls Tryd.prog 17 #[.slice A l.length c, .slice Aw wl.length cw] w fun r w' => r = .returned (.tuple #[.bool true, .int .i64 0]) ∧ Below w.heap.size w w' := by
  refine (raccepts_any l wl A Aw c cw B w h hW hB hlen hlx hxl).mono ?_
  intro r w' ⟨hb, hr⟩
  rw [ho] at hr
  simp only [if_true] at hr
  rw [ha.2, show decide (wl.length = cutsL l + 1) = true by simpa using ha.1] at hr
  exact ⟨hr, hb⟩
/-- an order that is taken is no longer than its era -/
theorem acc_small {l : List Ev} (hv : validL l = true) : ∀ (wl : List (List Int × Int)) (k : Nat) (v : Int), accI (rawOps l) (cutsL l) k v wl = true → ∀ x ∈ wl, x.1.length ≤ l.length := by
  intro wl
  induction wl with
  | nil => intro k v _ x hx; cases hx
  | cons w r ih =>
    intro k v ha x hx
    rw [accI] at ha
    split at ha
    · rename_i hok
      rcases hf : followI ((eraO (rawOps l) k).filter effB) (durI (rawOps l)) w.2 v w.1 with _ | v'
      · rw [hf] at ha; cases ha
      · rw [hf] at ha
        rcases List.mem_cons.1 hx with rfl | hx
        · obtain ⟨p, m, q, u, h1, h2, h3, h4, h5, rfl, -⟩ := (era_path (eraX_ids (nd_ids hv) k) (fun o h => durI_done h) (last := k == cutsL l)).1 ⟨hok, hf⟩
          have hp := (h1.app h3).miss
          have hm := miss_le (eraX (rawOps l) k) 0
          have he : (eraX (rawOps l) k).length ≤ l.length := Nat.le_trans (Nat.le_trans (List.length_filter_le _ _) (List.length_filter_le _ _)) (rawTo_bd l l.length).1
          show (idsOf (eraX (rawOps l) k) (p ++ q)).length ≤ l.length
          unfold idsOf
          rw [List.length_map]
          change missS _ _ + (p ++ q).length ≤ missS _ 0 at hp
          omega
        · exact ih _ _ ha x hx
    · cases ha
set_option maxHeartbeats 8000000 in
set_option maxRecDepth 100000 in
theorem linearlimit_any (n got : Nat) (cuts : Bool) (hn : n < 256) (hg : got < 256) (w : World) (hc : CutG w) :
    Calls Tryd.prog 10 #[.int .u8 n, .int .u8 got, .bool cuts] w fun e w' => e = .returned (.bool true) ∧ Below w.heap.size w w' := by
  have hgp := hc.pos
  have HA := Lib.hid (awake46_any w hc)
  have HG : Hid (∀ W, Below w.heap.size w W → CutG W) := fun W hW => hc.below hW hgp
  clear hc
  obtain ⟨k, hk⟩ : ∃ k, k = 1 + n % 20 := ⟨_, rfl⟩
  have hk20 : k ≤ 20 := by omega
  have hk1 : 1 ≤ k := by omega
  obtain ⟨v, hv⟩ : ∃ v, v = got % (k + 1) := ⟨_, rfl⟩
  have hvk : v ≤ k := by have := Nat.mod_lt got (show 0 < k + 1 by omega); omega
  have hrv : ((got : Int) % ((k : Int) + 1)) = (v : Int) := by rw [hv]; simp
  have hrk : 1 + ((n : Int) % 20) = (k : Int) := by omega
  obtain ⟨hfo, hab, hex⟩ := lim_ok (cuts := cuts) hk20 hvk
  have hvl := one_valid hfo.1
  have hll := limL_len k v cuts
  have HR := Lib.hid (fun W => read46_any (k : Int) (v : Int) W)
  have HFB : Hid (limB k cuts = true → ∀ A c W, EvS W W.heap.size A (limL k cuts v) → Calls Tryd.prog 15 #[.slice A (limL k cuts v).length c] W fun r w' => r = .returned (.tuple #[.slice none 0 0, .bool false, .int .i64 7]) ∧ Below W.heap.size W w') := fun hb A c W h => find_big hfo (by rw [hab, hb]) A c W.heap.size W h (Nat.le_refl _)
  have HFY : Hid (limB k cuts = false → ∀ A c W, EvS W W.heap.size A (limL k cuts v) → Calls Tryd.prog 15 #[.slice A (limL k cuts v).length c] W fun r w' => (∃ ov wl, r = .returned (.tuple #[ov, .bool true, .int .i64 0]) ∧ AccL (limL k cuts v) wl ∧ @OutS ⟨W.heap.size⟩ w' ov wl) ∧ Below W.heap.size W w') := fun hb A c W h => find_yes hfo (by rw [hab, hb]) (hex hb) A c W.heap.size W h (Nat.le_refl _)
  have HSAM := Lib.hid (fun (wl : List (List Int × Int)) A c b W (h : @OutS ⟨b⟩ W (.slice A wl.length c) wl) (hl : wl.length ≤ 100000) => sameW_any wl A c b W h hl)
  have HRAC := Lib.hid (fun (wl : List (List Int × Int)) (ha : AccL (limL k cuts v) wl) A Aw c cw B W (h : EvS W B A (limL k cuts v)) (hW : WinS W B Aw wl) (hB : B ≤ W.heap.size) => racc_yes hfo.1 ha A Aw c cw B W h hW hB (by omega) (fun x hx => by have := acc_small hvl wl 0 0 ha.2 x hx; omega) (by have := ha.1; have h2 : cutsL (limL k cuts v) ≤ (limL k cuts v).length := List.countP_le_length; omega))
  have HCB : Hid (cutsL (limL k cuts v) ≤ 23) := Nat.le_trans List.countP_le_length (by omega)
  have HLB : Hid (limB k cuts = decide (16 < if cuts then k else k + 1)) := rfl
  have HRV := Lib.hid hrv
  have kc1 : ∀ W, (convert 5 3 (.int .u8 ((n : Int) % 20))).run Tryd.prog W = .ok (.int .i64 ((n : Int) % 20)) W := fun W => conv_u8 ((n : Int) % 20) (by omega) (by omega) W
  have hs0 : IntKind.i64.wrap (1 + (n : Int) % 20) = (k : Int) := by rw [hrk]; exact IntWalk.i64_in _ (by omega)
  clear hfo hab hex hvl hv hrv hll hk
  go_enter Tryd.func10, Tryd.ntmps10
  go_wp2_with fail
  refine HA.out.mono ?_
  rintro r w1 ⟨rfl, hb1⟩
  have HB1 := Lib.hid hb1
  have hz1 := hb1.size
  clear hb1
  go_wp2
  clear hs0 kc1 hrk
  go_loopw [8, 9] (fun s i wr => ∃ j : Nat, j ≤ k ∧ i = .int .i64 j ∧ OwS wr w1.heap.size 45 6 s ((limC j).map Ev.cells) ∧ Below w1.heap.size w1 wr) (fun _ i _ => k - (intOf i).toNat)
  case atStart => exact ⟨0, by omega, rfl, OwS.nil _ _ _ _, Below.refl _ _⟩
  case round =>
    obtain ⟨j, hj, rfl, hown, hb⟩ := hrel
    have hz := hb.size
    have hcl := limC_len j
    by_cases hlt : j < k
    · have hjk : (j : Int) < (k : Int) := by omega
      have hw8 : IntKind.i64.wrap ((j : Int) + 1) = (j : Int) + 1 := IntWalk.i64_in _ (by omega)
      go_wp2_with (at_builtin; refine wpList_ap1 rfl (.tmp 26) (.tmp 31) _ rfl elemEv rfl hown (Ev.cells ⟨1, (j : Int), true, 0, (j : Int) + 1, false⟩) _ (by rfl) wr.heap.size (by rfl) (by rfl) (Ev.one _) (by simp [maxLen]; omega) (by simp; omega) hz ?_)
      intro v3 w3 hown3 hg3 _
      have hb3 : Below w1.heap.size w1 w3 := (hb.alloc hz _).grown hg3 (by simp; omega) (fun g hg => (hown.lt hg).1)
      clear hg3
      go_wp2
      go_roundw
      case rel => exact ⟨j + 1, by omega, by go_num, by rw [limC_succ]; simpa using hown3, hb3⟩
      case measure => simp [intOf]; omega
    · obtain rfl : j = k := by omega
      cases cuts
      case false =>
        have HOW2 := Lib.hid hown
        rw [show (limC j).map Ev.cells = (limK j false).map Ev.cells by unfold limK; simp] at HOW2
        have HBB := Lib.hid hb
        have hzb := hz
        clear hown hb hcl
        have kc := fun W => conv_u8 (got : Int) (by omega) (by omega) W
        have hs1 : IntKind.i64.wrap ((j : Int) + 1) = (j : Int) + 1 := IntWalk.i64_in _ (by omega)
        have hs2 : ((j : Int) + 1 == 0) = false := by simp; omega
        have ht1 : Int.tmod (got : Int) ((j : Int) + 1) = (v : Int) := by rw [Int.tmod_eq_emod_of_nonneg (by omega), HRV.out]
        go_wp2_with fail
        refine (HR.out _).mono ?_
        rintro r w3 ⟨v3, rfl, hown3, hb3⟩
        have hown2 := HOW2.out.below hb3
        have hb13 := HBB.out.trans (hb3.mono hzb)
        have hz3 := hb13.size
        obtain ⟨A3, k3, rfl, -, -⟩ := hown3.form
        have hr3 := hown3.reads
        clear hown3 hb3 kc hs1 hs2 ht1
        have hkl : (limK j false).length ≤ 22 := by unfold limK; rw [List.length_append, limC_len]; simp; omega
        go_wp2_with (at_builtin; refine wpList_apS rfl (.tmp 38) (.tmp 45) _ rfl elemEv rfl hown2 w3.heap.size A3 _ k3 ((r46 (j : Int) (v : Int)).map Ev.cells) rfl hr3 rfl OwS.oneEv (by simp [r46, maxLen]; omega) (by simp [r46]; omega) hz3 ?_)
        intro v4 w4 hown4 hg4 _
        have hb4 : Below w1.heap.size w1 w4 := hb13.grown hg4 hz3 (fun g hg => (hown2.lt hg).1)
        have hz4 := hb4.size
        have hown4 : OwS w4 w1.heap.size 45 6 v4 ((limL j false v).map Ev.cells) := by
          unfold limL
          rw [List.map_append]
          exact hown4
        have HB4 := Lib.hid hb4
        clear hg4 hown2 hr3 hb13 hb4 hkl
        obtain ⟨A4, k4, rfl, -, -⟩ := hown4.form
        rw [List.length_map]
        have hr4 : EvS w4 w4.heap.size A4 (limL j false v) := hown4.reads
        have HR4 := Lib.hid hr4
        clear hown4 hr4
        by_cases hbig : j + 1 ≤ 16
        case neg =>
          have hbt : limB j false = true := by rw [HLB.out]; simp; omega
          have HFF := Lib.hid (HFB.out hbt A4 k4 w4 HR4.out)
          have hgd : (j : Int) + 1 > 16 := by omega
          clear hbig hbt
          generalize (limL j false v).length = ln at *
          go_wp2_with fail
          refine HFF.out.mono ?_
          rintro r w5 ⟨rfl, hb5⟩
          go_wp2
          go_ret
          exact ⟨rfl, HB1.out.trans ((HB4.out.trans (hb5.mono hz4)).mono hz1)⟩
        case pos =>
          have hbt : limB j false = false := by rw [HLB.out]; simp; omega
          have HFF := Lib.hid (HFY.out hbt A4 k4 w4 HR4.out)
          have hgd : ¬ (j : Int) + 1 > 16 := by omega
          have hgd2 : ¬ (j : Int) > 16 := by omega
          clear hbig hbt
          obtain ⟨L, hL⟩ : ∃ L, limL j false v = L := ⟨_, rfl⟩
          rw [hL] at HFF HR4 HRAC HCB
          rw [hL]
          clear hL HFB HFY
          generalize hln : L.length = ln at *
          clear hln
          go_wp2_with fail
          refine HFF.out.mono ?_
          rintro r w5 ⟨⟨ov, wl, rfl, hac, hou⟩, hb5⟩
          obtain ⟨A5, c5, rfl⟩ := hou.isSlice
          have HAC := Lib.hid hac
          have HOU := Lib.hid hou
          have HB5 := Lib.hid (HB4.out.trans (hb5.mono hz4))
          have HE5 := Lib.hid (show EvS w5 w4.heap.size A4 L from HR4.out.below' hb5 (Nat.le_refl _))
          have hz45 := hb5.size
          have hwl : wl.length ≤ 100000 := by have := hac.1; have := HCB.out; omega
          have HSA := Lib.hid (HSAM.out wl A5 c5 w4.heap.size w5 HOU.out hwl)
          have HRX := Lib.hid (fun A' c' W (hE : EvS W W.heap.size A4 L) (hW : WinS W W.heap.size A' wl) => HRAC.out wl HAC.out A4 A' k4 c' W.heap.size W hE hW (Nat.le_refl _))
          clear hac hou hb5 hwl HRAC HSAM
          generalize wl.length = wn at *
          go_wp2_with fail
          refine HSA.out.mono ?_
          rintro r w6 ⟨⟨A6, c6, rfl, hw6⟩, hb6⟩
          have HB6 := Lib.hid (HB5.out.trans (hb6.mono HB5.out.size))
          have HE6 := Lib.hid (show EvS w6 w6.heap.size A4 L from (HE5.out.below' hb6 hz45).more (Nat.le_trans hz45 hb6.size))
          have HRY := Lib.hid (HRX.out A6 c6 w6 HE6.out hw6)
          clear hw6 hb6
          go_wp2_with fail
          refine HRY.out.mono ?_
          rintro r w7 ⟨rfl, hb7⟩
          go_wp2
          go_ret
          exact ⟨rfl, HB1.out.trans ((HB6.out.trans (hb7.mono HB6.out.size)).mono hz1)⟩
      case true =>
        obtain ⟨c0, c1, c2, c3, c4, c5⟩ := HG.out wr (HB1.out.trans (hb.mono hz1))
        go_upto_region 10 with (fail)
        go_wp2_with (at_builtin; refine wpList_ap1 rfl (.tmp 34) (.tmp 36) _ rfl elemEv rfl hown Ev.cut.cells _ (by rfl) wr.heap.size (by rfl) (by rfl) (Ev.one _) (by simp [maxLen]; omega) (by simp; omega) hz ?_)
        intro v2 w2 hown2 hg2 _
        have hb2 : Below w1.heap.size w1 w2 := (hb.alloc hz _).grown hg2 (by simp; omega) (fun g hg => (hown.lt hg).1)
        have HOW2 : Hid (OwS w2 w1.heap.size 45 6 v2 ((limK j true).map Ev.cells)) := by unfold Hid limK; simpa using hown2
        have HBB := Lib.hid hb2
        have hzb := hb2.size
        clear hg2 hown c0 c1 c2 c3 c4 c5 hown2 hb2 hb hcl
        have kc := fun W => conv_u8 (got : Int) (by omega) (by omega) W
        have hs1 : IntKind.i64.wrap ((j : Int) + 1) = (j : Int) + 1 := IntWalk.i64_in _ (by omega)
        have hs2 : ((j : Int) + 1 == 0) = false := by simp; omega
        have ht1 : Int.tmod (got : Int) ((j : Int) + 1) = (v : Int) := by rw [Int.tmod_eq_emod_of_nonneg (by omega), HRV.out]
        go_wp2_with fail
        refine (HR.out _).mono ?_
        rintro r w3 ⟨v3, rfl, hown3, hb3⟩
        have hown2 := HOW2.out.below hb3
        have hb13 := HBB.out.trans (hb3.mono hzb)
        have hz3 := hb13.size
        obtain ⟨A3, k3, rfl, -, -⟩ := hown3.form
        have hr3 := hown3.reads
        clear hown3 hb3 kc hs1 hs2 ht1
        have hkl : (limK j true).length ≤ 22 := by unfold limK; rw [List.length_append, limC_len]; simp; omega
        go_wp2_with (at_builtin; refine wpList_apS rfl (.tmp 38) (.tmp 45) _ rfl elemEv rfl hown2 w3.heap.size A3 _ k3 ((r46 (j : Int) (v : Int)).map Ev.cells) rfl hr3 rfl OwS.oneEv (by simp [r46, maxLen]; omega) (by simp [r46]; omega) hz3 ?_)
        intro v4 w4 hown4 hg4 _
        have hb4 : Below w1.heap.size w1 w4 := hb13.grown hg4 hz3 (fun g hg => (hown2.lt hg).1)
        have hz4 := hb4.size
        have hown4 : OwS w4 w1.heap.size 45 6 v4 ((limL j true v).map Ev.cells) := by
          unfold limL
          rw [List.map_append]
          exact hown4
        have HB4 := Lib.hid hb4
        clear hg4 hown2 hr3 hb13 hb4 hkl
        obtain ⟨A4, k4, rfl, -, -⟩ := hown4.form
        rw [List.length_map]
        have hr4 : EvS w4 w4.heap.size A4 (limL j true v) := hown4.reads
        have HR4 := Lib.hid hr4
        clear hown4 hr4
        by_cases hbig : j ≤ 16
        case neg =>
          have hbt : limB j true = true := by rw [HLB.out]; simp; omega
          have HFF := Lib.hid (HFB.out hbt A4 k4 w4 HR4.out)
          have hgd : (j : Int) > 16 := by omega
          clear hbig hbt
          generalize (limL j true v).length = ln at *
          go_wp2_with fail
          refine HFF.out.mono ?_
          rintro r w5 ⟨rfl, hb5⟩
          go_wp2
          go_ret
          exact ⟨rfl, HB1.out.trans ((HB4.out.trans (hb5.mono hz4)).mono hz1)⟩
        case pos =>
          have hbt : limB j true = false := by rw [HLB.out]; simp; omega
          have HFF := Lib.hid (HFY.out hbt A4 k4 w4 HR4.out)
          have hgd : ¬ (j : Int) > 16 := by omega
          clear hbig hbt
          obtain ⟨L, hL⟩ : ∃ L, limL j true v = L := ⟨_, rfl⟩
          rw [hL] at HFF HR4 HRAC HCB
          rw [hL]
          clear hL HFB HFY
          generalize hln : L.length = ln at *
          clear hln
          go_wp2_with fail
          refine HFF.out.mono ?_
          rintro r w5 ⟨⟨ov, wl, rfl, hac, hou⟩, hb5⟩
          obtain ⟨A5, c5, rfl⟩ := hou.isSlice
          have HAC := Lib.hid hac
          have HOU := Lib.hid hou
          have HB5 := Lib.hid (HB4.out.trans (hb5.mono hz4))
          have HE5 := Lib.hid (show EvS w5 w4.heap.size A4 L from HR4.out.below' hb5 (Nat.le_refl _))
          have hz45 := hb5.size
          have hwl : wl.length ≤ 100000 := by have := hac.1; have := HCB.out; omega
          have HSA := Lib.hid (HSAM.out wl A5 c5 w4.heap.size w5 HOU.out hwl)
          have HRX := Lib.hid (fun A' c' W (hE : EvS W W.heap.size A4 L) (hW : WinS W W.heap.size A' wl) => HRAC.out wl HAC.out A4 A' k4 c' W.heap.size W hE hW (Nat.le_refl _))
          clear hac hou hb5 hwl HRAC HSAM
          generalize wl.length = wn at *
          go_wp2_with fail
          refine HSA.out.mono ?_
          rintro r w6 ⟨⟨A6, c6, rfl, hw6⟩, hb6⟩
          have HB6 := Lib.hid (HB5.out.trans (hb6.mono HB5.out.size))
          have HE6 := Lib.hid (show EvS w6 w6.heap.size A4 L from (HE5.out.below' hb6 hz45).more (Nat.le_trans hz45 hb6.size))
          have HRY := Lib.hid (HRX.out A6 c6 w6 HE6.out hw6)
          clear hw6 hb6
          go_wp2_with fail
          refine HRY.out.mono ?_
          rintro r w7 ⟨rfl, hb7⟩
          go_wp2
          go_ret
          exact ⟨rfl, HB1.out.trans ((HB6.out.trans (hb7.mono HB6.out.size)).mono hz1)⟩
end Go.Proofs.YtcgbnlhloopnfaaDoor
