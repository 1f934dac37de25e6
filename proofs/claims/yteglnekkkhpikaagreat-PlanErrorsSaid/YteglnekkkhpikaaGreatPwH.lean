/- Walk of planner.helpers. -/
import Derived.Test.YteglnekkkhpikaaGreatGPsl
import Derived.Deep.RegionHeld3
namespace Go.Proofs.YteglnekkkhpikaaGreat
open Go.RowKit

theorem elemHlp : Elem Tryz.prog 139 141 2 16 := Elem.mk (z := .agg #[.int .i64 0, .int .i64 0]) Tryz.underlying139 (by kernel_rfl) (by decide) rfl
/-- what helpers answers -/
def HlpQ (L : LayD) (now : List Mv) (dead : List Bool) (g B : Nat) (w' : World) (r : Ending) : Prop :=
  (fromL L (helpL L now g dead) g = none ∧ r = .returned (.tuple #[.slice none 0 0, .int .i64 12])) ∨ ∃ a c', fromL L (helpL L now g dead) g = some (fromV L (helpL L now g dead) g) ∧ r = .returned (.tuple #[.slice (some a) (fromV L (helpL L now g dead) g).length c', .int .i64 0]) ∧ OwS w' B 3 1 (.slice (some a) (fromV L (helpL L now g dead) g).length c') ((fromV L (helpL L now g dead) g).map natC)
def MkR (L : LayD) (g n m : Nat) (w5 : World) (s80 s13 : Value) (wr : World) : Prop := ∃ j : Nat, j ≤ m ∧ s80 = .int .i64 j ∧ s13 = .int .u64 (maskL L g n j : Nat) ∧ Below w5.heap.size w5 wr
def TkR (L : LayD) (hs : List Nat) (g : Nat) (w6 : World) (s15 s95 : Value) (wr : World) : Prop := ∃ k : Nat, k ≤ hs.length ∧ s95 = .int .i64 k ∧ OwS wr w6.heap.size 3 1 s15 ((takeH L hs g k).map natC) ∧ Below w6.heap.size w6 wr
theorem takeH_succ (L : LayD) (hs : List Nat) (g k : Nat) : takeH L hs g (k + 1) = takeH L hs g k ++ if outF L g hs.length k = false then [hs[k]?.getD 0] else [] := by
  unfold takeH
  rw [List.range_succ, List.filter_append, List.map_append]
  congr 1
  simp only [List.filter_cons, List.filter_nil]
  cases outF L g hs.length k <;> rfl
theorem takeH_len (L : LayD) (hs : List Nat) (g k : Nat) : (takeH L hs g k).length ≤ k := by
  unfold takeH
  rw [List.length_map]
  exact Nat.le_trans (List.length_filter_le _ _) (by simp)
def HlR (L : LayD) (now : List Mv) (g : Nat) (dead : List Bool) (w0 : World) (s7 s24 : Value) (wr : World) : Prop := ∃ i : Nat, i ≤ L.w ∧ s24 = .int .i64 i ∧ OwS wr w0.heap.size 141 2 s7 ((rawTo L now g dead i).map memN) ∧ Below w0.heap.size w0 wr
set_option maxHeartbeats 8000000 in
set_option maxRecDepth 100000 in
theorem phelp_any {L : LayD} {A An Ad : Option Addr} {B X c cn cd : Nat} {now : List Mv} {dead : List Bool} (g : Nat) (w : World) (hx : LayX L) (hok : MvOk L now) (hval : validM L now = true) (hwf : ∀ m ∈ now, PlWf m.to) (hv : GsV w B A L.gs) (hM : MvS w B An now) (hD : BoolS w B Ad dead) (hdl : dead.length = L.disks) (hP : PlnB w X L A c An now.length cn Ad cd) (hB : B ≤ w.heap.size) (hg : g < L.G) (hlen : now.length ≤ 100000) :
    Calls Tryz.prog 63 #[.pointer (some ⟨X, 0, none⟩), .int .i64 (g : Int)] w fun r w' => HlpQ L now dead g w.heap.size w' r ∧ Below w.heap.size w w' := by
  have HV := Lib.hid hv
  have HM := Lib.hid hM
  have HD := Lib.hid hD
  have HP := Lib.hid hP
  have HX := Lib.hid hx
  have HOK := Lib.hid hok
  have HDL := Lib.hid hdl
  have hd60 := hx.ok.disks
  have hw16 := hx.ok.w
  have hG := hx.ok.G
  have hn0 := hx.ok.n
  have HWW := Lib.hid (fun W hv hB => lwidth_any (L := L) (A := A) (B := B) (c := c) W hx hv hB)
  have HDA := Lib.hid (fun W hv hB => ldata2_any (L := L) (A := A) (B := B) (c := c) W hx hv hB)
  have HWE := Lib.hid (fun (p : Nat) (hp : p < L.w) W hv hM hB => (sWhere_any (L := L) (A := A) (Am := An) (B := B) (c := c) (cm := cn) (ms := now) (g : Int) (p : Int) W hx hv hM hwf hB hlen).mono fun r w' h => (⟨h.1.2.2 hval (by unfold isP; simp only [Bool.and_eq_true, decide_eq_true_eq]; omega), h.2⟩ : r = .returned (.tuple #[(whereL L now (g : Int) (p : Int)).agg, .int .i64 0]) ∧ Below W.heap.size W w'))
  have HDEF : Hid (∀ w' r, HlpQ L now dead g w.heap.size w' r ↔ (fromL L (helpL L now g dead) g = none ∧ r = .returned (.tuple #[.slice none 0 0, .int .i64 12])) ∨ ∃ a c', fromL L (helpL L now g dead) g = some (fromV L (helpL L now g dead) g) ∧ r = .returned (.tuple #[.slice (some a) (fromV L (helpL L now g dead) g).length c', .int .i64 0]) ∧ OwS w' w.heap.size 3 1 (.slice (some a) (fromV L (helpL L now g dead) g).length c') ((fromV L (helpL L now g dead) g).map natC)) := fun _ _ => Iff.rfl
  generalize HlpQ L now dead g = HQ at *
  unfold layAgg Plc.agg at *
  clear hv hM hD
  go_enter Tryz.func63, Tryz.ntmps63
  obtain ⟨l0, l1, l2, l3, l4, l5⟩ := HP.out.cells
  go_wp2_with fail
  refine (HWW.out w HV.out hB).mono ?_
  rintro r w0 ⟨rfl, hb0⟩
  have HB0 := Lib.hid hb0
  clear hb0 l0 l1 l2 l3 l4 l5
  go_wp2
  go_loopw [7, 8, 9, 10, 24] (fun s7 _ _ _ s24 wr => HlR L now g dead w0 s7 s24 wr) (fun _ _ _ _ s24 _ => L.w - (intOf s24).toNat)
  case atStart => exact ⟨0, by omega, rfl, OwS.nil _ _ _ _, Below.refl _ _⟩
  case round =>
    obtain ⟨i, hi, rfl, hown, hb⟩ := hrel
    obtain ⟨A7, c7, rfl, -, -⟩ := hown.form
    rw [List.length_map] at hown ⊢
    have HO := Lib.hid hown
    have HB := Lib.hid hb
    have HPR := Lib.hid (HP.out.below (HB0.out.trans (hb.mono HB0.out.size)) HP.out.lt)
    have HWR := Lib.hid (HB0.out.trans (hb.mono HB0.out.size))
    clear hown hb
    by_cases hiw : i < L.w
    case pos =>
      have hiI : (i : Int) < (L.w : Int) := by omega
      have HST := Lib.hid (rawTo_succ L now g dead i)
      have htl : (rawTo L now g dead i).length ≤ 1000 := Nat.le_trans (rawTo_len L now g dead i) (by omega)
      obtain ⟨tl, htle⟩ : ∃ tl, rawTo L now g dead i = tl := ⟨_, rfl⟩
      rw [htle] at HO HST htl ⊢
      obtain ⟨⟨td, tb⟩, ht⟩ : ∃ t, whereL L now g i = t := ⟨_, rfl⟩
      have htd := where_ok HX.out.ok HOK.out (g : Int) (i : Int)
      rw [ht] at HST htd
      simp only at HST htd
      obtain ⟨dn, rfl⟩ : ∃ dn : Nat, td = (dn : Int) := ⟨td.toNat, by omega⟩
      have hdn : dn < L.disks := by omega
      rw [Int.toNat_natCast] at HST
      obtain ⟨bv, hbv⟩ := at_some (l := dead) (i := dn) (by rw [HDL.out]; exact hdn)
      have hbg : dead[dn]?.getD false = bv := by rw [hbv]; rfl
      rw [hbg] at HST
      have HDC : Hid (∃ bd od, Ad = some ⟨bd, od, none⟩ ∧ ∀ W, Below w.heap.size w W → W.cell? ⟨bd, od + dn, none⟩ = some (.bool bv)) := by
        obtain ⟨bd, od, e, -, -⟩ := BoolS.at_ HD.out hbv
        refine ⟨bd, od, e, fun W hW => ?_⟩
        obtain ⟨b', o', e', -, h⟩ := BoolS.at_ (RdS.below' HD.out hW hB) hbv
        rw [e] at e'
        cases e'
        exact h
      have hdI : (dn : Int) < (L.disks : Int) := by omega
      have HKS : Hid (∀ W, Below wr.heap.size wr W → (W.cell? ⟨X, 0, none⟩ = some (.int .i64 (L.disks : Int)) ∧ W.cell? ⟨X, 1, none⟩ = some (.slice A L.n c) ∧ W.cell? ⟨X, 2, none⟩ = some (.int .i64 (L.tiles : Int)) ∧ W.cell? ⟨X, 3, none⟩ = some (.int .i64 (L.spare : Int)) ∧ W.cell? ⟨X, 4, none⟩ = some (.slice An now.length cn) ∧ W.cell? ⟨X, 5, none⟩ = some (.slice Ad L.disks cd))) := fun W hW => (HPR.out.below hW HPR.out.lt).cells
      have HCW : Hid (∀ W, Below wr.heap.size wr W → Calls Tryz.prog 38 #[.agg #[.int .i64 (L.disks : Int), .slice A L.n c, .int .i64 (L.tiles : Int), .int .i64 (L.spare : Int)], .slice An now.length cn, .int .i64 (g : Int), .int .i64 (i : Int)] W fun r w' => r = .returned (.tuple #[.agg #[.int .i64 (dn : Int), .int .i64 tb], .int .i64 0]) ∧ Below W.heap.size W w' ∧ Below wr.heap.size wr w') := fun W hW => by
        have h := HWE.out i hiw W (HV.out.below (HWR.out.trans (hW.mono HWR.out.size)) hB) (HM.out.below' (HWR.out.trans (hW.mono HWR.out.size)) hB) (Nat.le_trans hB (HWR.out.trans (hW.mono HWR.out.size)).size)
        rw [ht] at h
        exact h.mono fun r w' h => ⟨h.1, h.2, hW.trans (h.2.mono hW.size)⟩
      clear ht hbv hbg htd
      go_upto_region 6 with (fail)
      go_cut [9, 10] (fun s9 _ wx => ∃ S, s9 = .pointer (some ⟨S, 0, none⟩) ∧ PlB wx S ⟨dn, tb⟩ ∧ Below wr.heap.size wr wx)
      case first =>
        go_region_held3 (fun W => W.cell? ⟨X, 0, none⟩ = some (.int .i64 (L.disks : Int)) ∧ W.cell? ⟨X, 1, none⟩ = some (.slice A L.n c) ∧ W.cell? ⟨X, 2, none⟩ = some (.int .i64 (L.tiles : Int)) ∧ W.cell? ⟨X, 3, none⟩ = some (.int .i64 (L.spare : Int)) ∧ W.cell? ⟨X, 4, none⟩ = some (.slice An now.length cn) ∧ W.cell? ⟨X, 5, none⟩ = some (.slice Ad L.disks cd))
          (first | with_reducible exact HKS.out _ (Below.refl wr.heap.size wr) | with_reducible exact HKS.out _ (Below.refl wr.heap.size wr).drew | with_reducible exact HKS.out _ ((Below.refl wr.heap.size wr).alloc (Nat.le_refl _) _) | with_reducible exact HKS.out _ ((Below.refl wr.heap.size wr).alloc (Nat.le_refl _) _).drew | with_reducible exact HKS.out _ ((Below.refl wr.heap.size wr).drew.alloc (Nat.le_refl _) _) | with_reducible exact HKS.out _ hbB | with_reducible exact HKS.out _ hbB.drew | with_reducible exact HKS.out _ (hbB.alloc hbB.size _) | with_reducible exact HKS.out _ ((hbB.setCell (Nat.le_refl _) _).setCell (Nat.le_refl _) _) | (trace_state; fail))
          (first
            | (go_at_call 38; first
              | ((with_reducible refine (HCW.out _ (Below.refl wr.heap.size wr)).mono ?_); rintro r wB ⟨rfl, hbQ, hbB⟩)
              | ((with_reducible refine (HCW.out _ (Below.refl wr.heap.size wr).drew).mono ?_); rintro r wB ⟨rfl, hbQ, hbB⟩)
              | ((with_reducible refine (HCW.out _ ((Below.refl wr.heap.size wr).alloc (Nat.le_refl _) _)).mono ?_); rintro r wB ⟨rfl, hbQ, hbB⟩; have hz : PlB wB wr.heap.size ⟨0, 0⟩ := (hbQ.block _ (by simp)).trans (heap_alloc_new wr _); obtain ⟨y0, y1, g0, g1⟩ := hz.cells)
              | ((with_reducible refine (HCW.out _ ((Below.refl wr.heap.size wr).alloc (Nat.le_refl _) _).drew).mono ?_); rintro r wB ⟨rfl, hbQ, hbB⟩; have hz : PlB wB wr.heap.size ⟨0, 0⟩ := (hbQ.block _ (by simp)).trans (heap_alloc_new wr _); obtain ⟨y0, y1, g0, g1⟩ := hz.cells)
              | ((with_reducible refine (HCW.out _ ((Below.refl wr.heap.size wr).drew.alloc (Nat.le_refl _) _)).mono ?_); rintro r wB ⟨rfl, hbQ, hbB⟩; have hz : PlB wB wr.heap.size ⟨0, 0⟩ := (hbQ.block _ (by simp)).trans (heap_alloc_new wr.drew _); obtain ⟨y0, y1, g0, g1⟩ := hz.cells)
              | (trace_state; fail))
            | fail)
        all_goals
          go_wp2_with fail
          go_meet
          refine ⟨_, rfl, ?_, ?_⟩
          · first
              | exact hz.set ⟨dn, tb⟩
              | exact heap_alloc_new wB _
          · first
              | with_reducible exact hbB.alloc hbB.size _
              | with_reducible exact (hbB.setCell (Nat.le_refl _) _).setCell (Nat.le_refl _) _
      obtain ⟨S, rfl, hpl, hbc⟩ := hcut
      have HB2 := Lib.hid (HB.out.trans (hbc.mono HB.out.size))
      have HO2 := Lib.hid (HO.out.below hbc)
      have HP2 := Lib.hid (HPR.out.below hbc HPR.out.lt)
      have HW2 := Lib.hid (HWR.out.trans (hbc.mono HWR.out.size))
      have HPL := Lib.hid hpl
      clear hpl hbc HKS HCW HB HO HPR HWR
      generalize wc = w2 at *
      obtain ⟨bd, od, hAd, hdc⟩ := HDC.out
      have HDC2 := Lib.hid hdc
      have dc := hdc w2 HW2.out
      subst hAd
      obtain ⟨l0, l1, l2, l3, l4, l5⟩ := HP2.out.cells
      obtain ⟨p0, p1, -, -⟩ := HPL.out.cells
      clear HDC hdc
      go_wp2_with fail
      go_quiet (fail)
      generalize hdr : w2.drewN _ = w3
      have hbx : Below w2.heap.size w2 w3 := by rw [← hdr]; exact below_drewN (Below.refl _ _) _
      have HB3 := Lib.hid (HB2.out.trans (hbx.mono HB2.out.size))
      have HO3 := Lib.hid (HO2.out.below hbx)
      have HP3 := Lib.hid (HPL.out.below hbx HPL.out.lt)
      have hs3 := HB3.out.size
      clear hdr hbx dc p0 p1 l0 l1 l2 l3 l4 l5 HB2 HO2 HP2 HW2 HPL
      cases bv
      case true =>
        have hR := HST.out
        simp only [Bool.true_eq_false, if_false, List.append_nil] at hR
        have HR := Lib.hid hR
        clear HST hR
        go_wp2
        go_roundw
        case rel => exact ⟨i + 1, by omega, by go_num, by rw [HR.out]; exact HO3.out, HB3.out⟩
        case measure => simp [intOf] <;> omega
      case false =>
        have hR := HST.out
        simp only [if_true] at hR
        have HR := Lib.hid hR
        clear HST hR
        obtain ⟨p0, p1, -, -⟩ := HP3.out.cells
        go_wp2_with (at_builtin; refine wpList_ap1 rfl (.tmp 50) (.tmp 55) _ rfl elemHlp rfl HO3.out (memN (dn, i)) _ (by rfl) w3.heap.size (by rfl) (by rfl) (memN_one _) (by rw [List.length_map]; simp [maxLen]; omega) (by rw [List.length_map]; omega) (by omega) ?_)
        rintro v1 w4 hown1 hg1 -
        have HO4 : Hid (OwS w4 w0.heap.size 141 2 v1 ((tl ++ [(dn, i)]).map memN)) := by
          rw [Hid, List.map_append]
          exact hown1
        have HB4 := Lib.hid ((HB3.out.alloc HB3.out.size _).grown hg1 (by simp; omega) (fun q hq => (HO3.out.lt hq).1))
        clear hown1 hg1 p0 p1
        go_wp2
        go_roundw
        case rel => exact ⟨i + 1, by omega, by go_num, by rw [HR.out]; exact HO4.out, HB4.out⟩
        case measure => simp [intOf] <;> omega
    case neg =>
      have hiI : ¬ (i : Int) < (L.w : Int) := by omega
      obtain rfl : i = L.w := by omega
      rw [rawTo_all] at HO ⊢
      have hnl := rawH_len HX.out.ok HOK.out g dead
      have hnw : (helpL L now g dead).length ≤ L.w := helpL_len HX.out.ok HOK.out
      have HSN : Hid ((helpL L now g dead).Nodup) := helpL_nodup HX.out.ok HOK.out
      have HSL : Hid (∀ x ∈ helpL L now g dead, x < L.w) := helpL_lt
      have HPM : Hid ((helpP L now g dead).map Prod.snd = helpL L now g dead) := rfl
      have h64 : ∀ x ∈ rawH L now g dead, x.1 < 64 := fun x hx => by
        obtain ⟨d, i⟩ := x
        have := (helpP_mem.1 ((rawH_mem HX.out.ok HOK.out _).1 hx)).1
        simp only
        omega
      have hraw := HO.out
      rw [← memN_toF h64] at hraw
      have HSO := Lib.hid (fun (W : World) h => sortH ((rawH L now g dead).map toF) (.slice A7 (rawH L now g dead).length c7) w0.heap.size W h (by rw [List.length_map]; omega))
      have HSP : Hid (∀ ts : List (Fin 64 × Nat), ts.Perm ((rawH L now g dead).map toF) → (ts.Pairwise fun a b => ¬ b.1.val < a.1.val) → ts.map hlpC = (helpP L now g dead).map memN) := fun ts h1 h2 => sorted_help HX.out.ok HOK.out hd60.2 h1 h2
      have HRW := Lib.hid hraw
      obtain ⟨hs, hhs⟩ : ∃ hs, helpL L now g dead = hs := ⟨_, rfl⟩
      rw [hhs] at HDEF hnl hnw HSN HSL HPM
      rw [hnl] at HSO HRW ⊢
      obtain ⟨n, hnn⟩ : ∃ n, hs.length = n := ⟨_, rfl⟩
      rw [hnn] at HSO HRW hnw ⊢
      obtain ⟨nd, hnd⟩ : ∃ nd, L.w - 3 = nd := ⟨_, rfl⟩
      rw [hnd] at HDA
      have hnd1 : 1 ≤ nd ∧ nd ≤ 13 := by omega
      have k0 : IntKind.i64.wrap ((n : Int) - (nd : Int)) = (n : Int) - (nd : Int) := IntWalk.i64_in _ (by omega)
      clear hhs hraw h64 HO hnl
      obtain ⟨l0, l1, l2, l3, l4, l5⟩ := HPR.out.cells
      go_wp2_with fail
      refine (HDA.out wr (HV.out.below HWR.out hB) (Nat.le_trans hB HWR.out.size)).mono ?_
      rintro r w4 ⟨rfl, hb4⟩
      have HB4 := Lib.hid (HB.out.trans (hb4.mono HB.out.size))
      have HW4 := Lib.hid (HWR.out.trans (hb4.mono HWR.out.size))
      have HR4 := Lib.hid (HRW.out.below hb4)
      clear hb4 l0 l1 l2 l3 l4 l5 HB HWR HRW HPR
      by_cases hlt : n < nd
      case pos =>
        have f1 : decide ((n : Int) - (nd : Int) < 0) = true := by rw [decide_eq_true_iff]; omega
        have f2 : (n : Int) - (nd : Int) < 0 := by omega
        have HRR := Lib.hid (fun (W : World) => (HDEF.out W (.returned (.tuple #[.slice none 0 0, .int .i64 12]))).2 (.inl ⟨from_none (by omega), rfl⟩))
        clear hlt
        go_wp2
        go_ret2
        exact ⟨HRR.out _, HW4.out⟩
      case neg =>
        obtain ⟨m, hm⟩ : ∃ m, n - nd = m := ⟨_, rfl⟩
        have hmI : (n : Int) - (nd : Int) = (m : Int) := by omega
        have k1 : IntKind.i64.wrap ((n : Int) - (nd : Int)) = (m : Int) := by rw [k0]; exact hmI
        clear k0
        have f1 : ¬ (m : Int) < 0 := by omega
        have f2 : decide ((m : Int) < 0) = false := by rw [decide_eq_false_iff_not]; omega
        have hso := HSO.out w4 HR4.out
        have HSO2 := Lib.hid hso
        have hnge : nd ≤ n := by omega
        clear hso HSO hmI hlt
        go_wp2_with fail
        refine HSO2.out.mono ?_
        rintro r w5 ⟨rfl, ts, hpe, hpw, hown5, hg5⟩
        rw [HSP.out ts hpe hpw] at hown5
        have HO5 := Lib.hid hown5
        have hb5 : Below w0.heap.size w4 w5 := (Below.refl w0.heap.size w4).grown hg5 HB4.out.size (fun q hq => (HR4.out.lt hq).1)
        have HB5 := Lib.hid (HB4.out.trans hb5)
        have HW5 := Lib.hid (HW4.out.trans (hb5.mono HB0.out.size))
        have hp5 := HP.out.below HW5.out HP.out.lt
        obtain ⟨l0, l1, l2, l3, l4, l5⟩ := hp5.cells
        clear hpe hpw hown5 hg5 hb5 HSO2 HSP HR4 HB4 HW4 hp5
        obtain ⟨t, ht⟩ : ∃ t, g / L.n = t := ⟨_, rfl⟩
        have htb : t ≤ 4096 := by rw [← ht]; exact Nat.le_trans (Nat.div_le_self _ _) (by omega)
        have k3 : Int.tdiv (g : Int) (L.n : Int) = (t : Int) := by rw [← ht]; exact tdiv_nat _ _
        have k4 : ¬ (L.n : Int) = 0 := by omega
        have k5 : ¬ L.n = 0 := by omega
        have k6 : IntKind.i64.wrap (t : Int) = (t : Int) := IntWalk.i64_in _ (by omega)
        go_wp2
        clear l0 l1 l2 l3 l4 l5
        go_loopw [13, 14, 80] (fun s13 _ s80 wr => MkR L g n m w5 s80 s13 wr) (fun _ _ s80 _ => m - (intOf s80).toNat)
        case atStart => exact ⟨0, by omega, rfl, rfl, Below.refl _ _⟩
        case round =>
          obtain ⟨j, hj, rfl, rfl, hb⟩ := hrel
          have HB6 := Lib.hid hb
          clear hb
          by_cases hjm : j < m
          case pos =>
            have hn1 : 0 < n := by omega
            have hjI : (j : Int) < (m : Int) := by omega
            have hkk : (t + j) % n < n := Nat.mod_lt _ hn1
            have q1 : IntKind.i64.wrap ((t : Int) + (j : Int)) = ((t + j : Nat) : Int) := by rw [IntWalk.i64_in _ (by omega)]; omega
            have q2 : Int.tmod ((t + j : Nat) : Int) (n : Int) = (((t + j) % n : Nat) : Int) := tmod_nat _ _
            have k7 : ¬ (n : Int) = 0 := by omega
            have k8 : ¬ n = 0 := by omega
            have HMS : Hid (maskL L g n (j + 1) = maskL L g n j ||| 2 ^ ((t + j) % n)) := by rw [← ht]; exact rfl
            have hml : maskL L g n j < 2 ^ 64 := Nat.lt_of_lt_of_le (mask_lt L hn1 j) (Nat.pow_le_pow_right (by decide) (by omega))
            generalize maskL L g n j = mk at *
            generalize (t + j) % n = kk at *
            generalize t + j = tj at *
            have q3 : IntKind.i64.wrap (kk : Int) = (kk : Int) := IntWalk.i64_in _ (by omega)
            have s1 := u64_pow (k := kk) (by omega)
            have hpl : 2 ^ kk < 2 ^ 64 := Nat.pow_lt_pow_right (by decide) (by omega)
            generalize hpk : 2 ^ kk = pk at s1 hpl HMS
            have s2 := bits_or_u64_nat mk pk hml hpl
            clear hml hpl hpk
            go_wp2
            go_roundw
            case rel => exact ⟨j + 1, by omega, by go_num, by rw [HMS.out], HB6.out⟩
            case measure => simp [intOf] <;> omega
          case neg =>
            have hjI : ¬ (j : Int) < (m : Int) := by omega
            obtain rfl : j = m := by omega
            have HMB : Hid (∀ k, (maskL L g n j).testBit k = outF L g n k) := fun k => by
              have h := mask_out L g n k
              rw [hnd, hm] at h
              exact h
            have HML : Hid (n = 0 ∨ maskL L g n j < 2 ^ 64) := by
              rcases Nat.eq_zero_or_pos n with h | h
              · exact .inl h
              · exact .inr (Nat.lt_of_lt_of_le (mask_lt L h j) (Nat.pow_le_pow_right (by decide) (by omega)))
            generalize maskL L g n j = mk at *
            have HO6 := Lib.hid ((HO5.out.below HB6.out).mono (Nat.le_refl _))
            have HB7 := Lib.hid (HB5.out.trans (HB6.out.mono HB5.out.size))
            have HW6 := Lib.hid (HW5.out.trans (HB6.out.mono HW5.out.size))
            clear HB6 HO5 HB5 HW5
            generalize wr = w6 at *
            clear k1 k3 k4 k5 k6 ht htb
            have hhl : (helpP L now g dead).length = n := by rw [← hnn, ← HPM.out, List.length_map]
            go_wp2
            go_loopw [15, 16, 17, 95] (fun s15 _ _ s95 wr => TkR L hs g w6 s15 s95 wr) (fun _ _ _ s95 _ => n - (intOf s95).toNat)
            case atStart => exact ⟨0, by omega, rfl, OwS.nil _ _ _ _, Below.refl _ _⟩
            case round =>
              obtain ⟨k, hk, rfl, hown, hb⟩ := hrel
              obtain ⟨A8, c8, rfl, -, -⟩ := hown.form
              rw [List.length_map] at hown ⊢
              have HOT := Lib.hid hown
              have HBT := Lib.hid hb
              have htl := takeH_len L hs g k
              rw [hnn] at hk
              clear hown hb
              by_cases hkn : k < n
              case pos =>
                have hkI : (k : Int) < (n : Int) := by omega
                have HST := Lib.hid (takeH_succ L hs g k)
                rw [hnn] at HST
                obtain ⟨tl, htle⟩ : ∃ tl, takeH L hs g k = tl := ⟨_, rfl⟩
                rw [htle] at HOT HST htl ⊢
                obtain ⟨⟨hd, hi⟩, hx⟩ := at_some (l := helpP L now g dead) (i := k) (by rw [hhl]; exact hkn)
                have hxh : hs[k]? = some hi := by rw [← HPM.out, List.getElem?_map, hx]; rfl
                rw [hxh] at HST
                simp only [Option.getD_some] at HST
                obtain ⟨b7, o7, e7, -, x0, x1⟩ := pair_atP (RdS.below' HO6.out.reads HBT.out (Nat.le_refl _)) hx
                subst e7
                simp only at x0 x1
                have hmk : mk < 2 ^ 64 := HML.out.resolve_left (by omega)
                obtain ⟨ov, hov⟩ : ∃ ov, outF L g n k = ov := ⟨_, rfl⟩
                rw [hov] at HST
                have hbit := HMB.out k
                rw [hov] at hbit
                have hba : (mk >>> k) &&& 1 = if ov then 1 else 0 := by rw [bit_and, hbit]
                have hsl : mk >>> k < 2 ^ 64 := Nat.lt_of_le_of_lt (Nat.shiftRight_le _ _) hmk
                have r1 := nat_shr mk k
                have r2 := bits_and_u64_nat (mk >>> k) 1 hsl (by decide)
                rw [hba] at r2
                generalize mk >>> k = sh at r1 r2
                clear hx hxh htle hov hbit hba hsl hmk
                have r0 : bits .and .u64 (sh : Int) 1 = if ov then 1 else 0 := by
                  have h : bits .and .u64 (sh : Int) 1 = ((if ov then 1 else 0 : Nat) : Int) := r2
                  rw [h]
                  cases ov <;> rfl
                clear r2
                go_upto_region 25 with (fail)
                generalize hwa : wr.alloc _ = w7
                have hbl : Below wr.heap.size wr w7 := by rw [← hwa]; exact below_laid
                have hc0 : w7.cell? ⟨wr.heap.size, 0, none⟩ = some (.int .i64 (hd : Int)) := by rw [← hwa, cell_of_row _ _ _ _ _ _ (heap_alloc_new wr _)]; rfl
                have hc1 : w7.cell? ⟨wr.heap.size, 1, none⟩ = some (.int .i64 (hi : Int)) := by rw [← hwa, cell_of_row _ _ _ _ _ _ (heap_alloc_new wr _)]; rfl
                have HB8 := Lib.hid (HBT.out.trans (hbl.mono HBT.out.size))
                have HO8 := Lib.hid (HOT.out.below hbl)
                have hs8 := HB8.out.size
                clear hwa hbl HBT HOT x0 x1
                generalize wr.heap.size = S at *
                cases ov
                · have hR := HST.out
                  simp only [if_true] at hR
                  have HR := Lib.hid hR
                  simp only [Bool.false_eq_true, if_false] at r0
                  clear HST hR
                  go_wp2_with (at_builtin; refine wpList_ap1 rfl (.tmp 105) (.tmp 108) _ rfl elemIntS rfl HO8.out (natC hi) _ (by rfl) w7.heap.size (by rfl) (by rfl) (icellOneS _) (by rw [List.length_map]; simp [maxLen]; omega) (by rw [List.length_map]; omega) (by omega) ?_)
                  rintro v1 w9 hown1 hg1 -
                  have HO9 : Hid (OwS w9 w6.heap.size 3 1 v1 ((tl ++ [hi]).map natC)) := by
                    rw [Hid, List.map_append]
                    exact hown1
                  have HB9 : Hid (Below w6.heap.size w6 w9) := (HB8.out.alloc HB8.out.size _).grown hg1 (by simp; omega) (fun q hq => (HO8.out.lt hq).1)
                  clear hown1 hg1
                  go_wp2
                  go_roundw
                  case rel => exact ⟨k + 1, by omega, by go_num, by rw [HR.out]; exact HO9.out, HB9.out⟩
                  case measure => simp [intOf] <;> omega
                · have hR := HST.out
                  simp only [Bool.true_eq_false, if_false, List.append_nil] at hR
                  have HR := Lib.hid hR
                  simp only [if_true] at r0
                  clear HST hR
                  go_wp2
                  go_roundw
                  case rel => exact ⟨k + 1, by omega, by go_num, by rw [HR.out]; exact HO8.out, HB8.out⟩
                  case measure => simp [intOf] <;> omega
              case neg =>
                have hkI : ¬ (k : Int) < (n : Int) := by omega
                obtain rfl : k = n := by omega
                have hlen2 : (takeH L hs g k).length ≤ 16 := by omega
                have hso := HOT.out
                rw [natC_icell] at hso
                have hsc := sortS (nInts (takeH L hs g k)) (.slice A8 (takeH L hs g k).length c8) w6.heap.size wr hso (by unfold nInts; rw [List.length_map]; omega)
                have HSC := Lib.hid hsc
                have HSF : Hid (∀ ts : List Int, ts.Perm (nInts (takeH L hs g k)) → ts.Pairwise (· ≤ ·) → ts.map icell = (fromV L hs g).map natC) := fun ts h1 h2 => by
                  rw [natC_icell, sort_from HSN.out HSL.out (by rw [hnn]; exact h1) h2]
                  rfl
                clear hso hsc
                go_wp2_with fail
                refine HSC.out.mono ?_
                rintro r w7 ⟨rfl, ts, hpe, hpw, hown7, hg7⟩
                rw [HSF.out ts hpe hpw] at hown7
                have HO9 := Lib.hid (hown7.mono (show w.heap.size ≤ w6.heap.size from HW6.out.size))
                have HE : Hid (Below w.heap.size w w7) := HW6.out.trans ((HBT.out.grown hg7 HBT.out.size (fun q hq => (HOT.out.lt hq).1)).mono HW6.out.size)
                clear hpe hpw hown7 hg7 HSC HSF HOT HBT
                have hlt2 : ¬ hs.length < L.w - 3 := by omega
                have hfl := fromV_len (g := g) HSN.out HSL.out (by omega) hlt2
                have HRR : Hid (HQ w.heap.size w7 (.returned (.tuple #[.slice A8 (takeH L hs g k).length c8, .int .i64 0]))) := by
                  refine (HDEF.out _ _).2 (.inr ?_)
                  have ho := HO9.out
                  rcases ho.2.2 with ⟨-, h0⟩ | ⟨b, cap, cur, e, -⟩
                  · rw [List.length_map] at h0
                    omega
                  · injection e with e1 e2 e3
                    rw [List.length_map] at e2
                    subst e1
                    rw [e2] at ho ⊢
                    exact ⟨_, _, from_some hlt2, rfl, ho⟩
                clear hlt2 hfl HO9
                go_wp2
                go_ret2
                exact ⟨HRR.out, HE.out⟩
end Go.Proofs.YteglnekkkhpikaaGreat
