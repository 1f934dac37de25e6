/- Walk of replay.copied. -/
import Derived.Test.YtopoefcklipaeaaGreatDoorGRm
import Derived.Test.YtopoefcklipaeaaGreatDoorTwX
namespace Go.Proofs.YtopoefcklipaeaaGreatDoor
open Go.RowKit
structure StFew (S : St) : Prop where
 nl : S.ls.length ≤ 100000
 nm : S.ms.length ≤ 10000
 nn : S.nt.length ≤ 100000
 lv : ∀ x ∈ S.ls, x.vs.length ≤ 100000 ∧ x.ss.length ≤ 100000
 nt : ∀ n ∈ S.nt, n.length ≤ 100000
set_option maxHeartbeats 4000000 in
set_option maxRecDepth 100000 in
theorem rcopied {B : Nat} {v : Value} {S : St} (E : Nat → Prop) (w : World) (h : StV w B v S) (hB : B ≤ w.heap.size) (hfew : StFew S) (hE : ∀ k, E k → k < w.heap.size) :
  Calls Tryz.prog 31 #[v] w fun r w' => (∃ lv mv nv, r = .returned (.agg #[lv, mv, nv]) ∧ StW w' E lv mv nv S ∧ ∀ k, FsB lv nv k → w.heap.size ≤ k) ∧ Below w.heap.size w w' := by
 obtain ⟨A1, c1, A2, c2, A3, c3, rfl, h1, h2, h3⟩ := h
 obtain ⟨ls, ms, nt⟩ := S
 obtain ⟨n1, n2, n3, n4, n5⟩ := hfew
 simp only at h1 h2 h3 n1 n2 n3 n4 n5 ⊢
 have HCM : Hid (∀ W, Below w.heap.size w W → Calls Tryz.prog 76 #[.slice A2 ms.length c2] W fun r w' => (∃ v, r = .returned v ∧ OwS w' W.heap.size 196 4 v (ms.map Mv.cells)) ∧ Below W.heap.size W w') := fun W hW => clone_mv W (h2.below' hW hB) (Nat.le_trans hB hW.size) (by omega)
 have HLS := Lib.hid h1
 have HNS := Lib.hid h3
 have HN4 := Lib.hid n4
 have HN5 := Lib.hid n5
 have HE := Lib.hid hE
 obtain ⟨E1, hE1⟩ : ∃ E1 : Nat → Prop, (fun k => k = w.heap.size + 1 ∨ E k) = E1 := ⟨_, rfl⟩
 have HER : Hid (E1 (w.heap.size + 1)) := by rw [← hE1]; exact .inl rfl
 have HE1 : Hid (∀ k, E1 k → k < w.heap.size + 2) := fun k hk => by
  rw [← hE1] at hk
  rcases hk with hk | hk
  ·omega
  ·have := hE k hk; omega
 have HE2 : Hid (∀ k, E k → E1 k) := fun k hk => by rw [← hE1]; exact .inr hk
 clear h1 h2 h3 n4 n5 hE hE1
 go_enter Tryz.func31, Tryz.ntmps31
 go_upto_region 1 with (fail)
 obtain ⟨w1, hw1', ha, hc, hb, hz⟩ := two_laid w (.cells #[.slice A1 ls.length c1, .slice A2 ms.length c2, .slice A3 nt.length c3] 34) (.cells #[.slice none 0 0, .slice none 0 0, .slice none 0 0] 34)
 rw [hw1']
 have HA := Lib.hid ha
 have HC := Lib.hid hc
 have HB := Lib.hid hb
 have s1 : w1.cell? ⟨w.heap.size, 1, none⟩ = some (.slice A2 ms.length c2) := by rw [cell_of_row _ _ _ _ _ _ ha]; rfl
 clear ha hc hb hw1'
 go_wp2_with fail
 refine (HCM.out w1 HB.out).mono ?_
 rintro r w2 ⟨⟨mv, rfl, hom⟩, hb2⟩
 obtain ⟨Am, nm, cm, rfl⟩ := hom.sl
 go_upto_region 2 with (fail)
 have hz2 : w.heap.size + 2 ≤ w2.heap.size := Nat.le_trans (Nat.le_of_eq hz.symm) hb2.size
 have hst : StB (w2.alloc (.cells #[.slice none 0 0, .slice Am nm cm, .slice none 0 0] 34)) w2.heap.size E1 34 (.slice none 0 0) (.slice Am nm cm) (.slice none 0 0) ⟨[], ms, []⟩ := by
  refine ⟨heap_alloc_new w2 _, LvW.nil _ _, ?_, NtW.nil _ _, by decide, by decide⟩
  have hm : MvW E1 w2 (.slice Am nm cm) ms := MvW.made hom (fun k hk => by have := HE1.out k hk; omega)
  refine hm.to (.of below_laid) fun i hi hF => ?_
  rcases hF with e | e | e | e
  ·omega
  ·exact e
  ·cases e
  ·cases e
 have hb3 : Below w2.heap.size w2 (w2.alloc (.cells #[.slice none 0 0, .slice Am nm cm, .slice none 0 0] 34)) := below_laid
 have hX : ∃ X, w2.heap.size = X := ⟨_, rfl⟩
 obtain ⟨X, hX⟩ := hX
 have HA3 := Lib.hid ((hb3.block _ (by omega)).trans ((hb2.block _ (by omega)).trans HA.out))
 have HC3 := Lib.hid ((hb3.block _ (by omega)).trans ((hb2.block _ (by omega)).trans HC.out))
 have HB3 := Lib.hid (HB.out.trans ((hb2.mono HB.out.size).trans (hb3.mono (by omega))))
 generalize w2.alloc _ = w3 at *
 rw [hX] at hst hz2 ⊢
 have HST := Lib.hid hst
 have l0 : w3.cell? ⟨w.heap.size, 0, none⟩ = some (.slice A1 ls.length c1) := by rw [cell_of_row _ _ _ _ _ _ HA3.out]; rfl
 have hX3 := hst.lt
 clear hst hb3 hb2 hom s1 HA HC HB hz hX
 go_wp2
 go_loopw [5, 15] (fun s5 s15 wr => ∃ k : Nat, k ≤ ls.length ∧ s15 = .int .i64 k ∧ (∃ lv, StB wr X E1 34 lv (.slice Am nm cm) (.slice none 0 0) ⟨ls.take k, ms, []⟩ ∧ ∀ k, FsB lv (.slice none 0 0) k → X < k) ∧ Below X w3 wr) (fun _ s15 _ => ls.length - (intOf s15).toNat)
 case atStart => exact ⟨0, by omega, rfl, ⟨_, HST.out, fun k hk => by rcases hk with e | e <;> cases e⟩, Below.refl _ _⟩
 case round =>
  obtain ⟨k, hk, rfl, ⟨lv, hst, hlo⟩, hbw⟩ := hrel
  have HBW := Lib.hid hbw
  have hzw := hbw.size
  clear HST l0
  by_cases hkn : k < ls.length
  case neg =>
   have hkI : ¬ (k : Int) < (ls.length : Int) := by omega
   obtain rfl : k = ls.length := by omega
   rw [List.take_of_length_le (Nat.le_refl _)] at hst
   have HST := Lib.hid hst
   have HLO := Lib.hid hlo
   have l2 : wr.cell? ⟨w.heap.size, 2, none⟩ = some (.slice A3 nt.length c3) := by rw [cell_of_row _ _ _ _ _ _ ((HBW.out.block _ (by omega)).trans HA3.out)]; rfl
   obtain ⟨Al, nl, cl, rfl⟩ : ∃ A n c, lv = .slice A n c := by
    obtain ⟨A', c', e, -⟩ := hst.ls.form
    exact ⟨_, _, _, e⟩
   clear hkn hst hlo hbw
   go_wp2
   generalize wr = wo at *
   go_loopw [7, 35] (fun s7 s35 wr => ∃ k : Nat, k ≤ nt.length ∧ s35 = .int .i64 k ∧ (∃ nv, StB wr X E1 34 (.slice Al nl cl) (.slice Am nm cm) nv ⟨ls, ms, nt.take k⟩ ∧ ∀ k, FsB (.slice Al nl cl) nv k → X < k) ∧ Below X w3 wr) (fun _ s35 _ => nt.length - (intOf s35).toNat)
   case atStart => exact ⟨0, by omega, rfl, ⟨_, HST.out, HLO.out⟩, HBW.out⟩
   case round =>
    obtain ⟨k, hk, rfl, ⟨nv, hst, hlo⟩, hbw⟩ := hrel
    have HBW2 := Lib.hid hbw
    have hzw2 := hbw.size
    clear l2 HST HLO
    by_cases hkn : k < nt.length
    case neg =>
     have hkI : ¬ (k : Int) < (nt.length : Int) := by omega
     obtain rfl : k = nt.length := by omega
     rw [List.take_of_length_le (Nat.le_refl _)] at hst
     obtain ⟨An, nn, cn, rfl⟩ : ∃ A n c, nv = .slice A n c := by
      obtain ⟨A', c', e, -⟩ := hst.nt.form
      exact ⟨_, _, _, e⟩
     obtain ⟨s0, s1, s2, -⟩ := hst.cells
     have hr := (HBW2.out.block _ (by omega)).trans HC3.out
     have r0 : wr.cell? ⟨w.heap.size + 1, 0, none⟩ = some (.slice none 0 0) := by rw [cell_of_row _ _ _ _ _ _ hr]; rfl
     have r1 : wr.cell? ⟨w.heap.size + 1, 1, none⟩ = some (.slice none 0 0) := by rw [cell_of_row _ _ _ _ _ _ hr]; rfl
     have r2 : wr.cell? ⟨w.heap.size + 1, 2, none⟩ = some (.slice none 0 0) := by rw [cell_of_row _ _ _ _ _ _ hr]; rfl
     have f0 := frozen_blk hr 0
     have f1 := frozen_blk hr 1
     have f2 := frozen_blk hr 2
     have hnF : ¬ FsB (.slice Al nl cl) (.slice An nn cn) (w.heap.size + 1) := fun e => by have := hlo _ e; omega
     have HSF := Lib.hid ((((hst.setR HER.out (by omega) hnF 0 (.slice Al nl cl)).setR HER.out (by omega) hnF 1 (.slice Am nm cm)).setR HER.out (by omega) hnF 2 (.slice An nn cn)).val HE2.out)
     have HBF : Hid (Below w.heap.size w (((wr.setCell ⟨w.heap.size + 1, 0, none⟩ (.slice Al nl cl)).setCell ⟨w.heap.size + 1, 1, none⟩ (.slice Am nm cm)).setCell ⟨w.heap.size + 1, 2, none⟩ (.slice An nn cn))) := (((HB3.out.trans (HBW2.out.mono (by omega))).setCell (by simp) _).setCell (by simp) _).setCell (by simp) _
     have HLF : Hid (∀ k, FsB (.slice Al nl cl) (.slice An nn cn) k → w.heap.size ≤ k) := fun k hk => by have := hlo k hk; omega
     have hr1 := heap_setCell_same wr (w.heap.size + 1) 0 _ _ (.slice Al nl cl) hr
     have hr2 := heap_setCell_same _ (w.heap.size + 1) 1 _ _ (.slice Am nm cm) hr1
     have HRX := Lib.hid (heap_setCell_same _ (w.heap.size + 1) 2 _ _ (.slice An nn cn) hr2)
     clear hkn hst hlo hbw hr hr1 hr2
     go_wp2
     (try simp only [Exit.inBlock, Exit.then])
     refine bodyPost_ret (v := .agg #[.slice Al nl cl, .slice Am nm cm, .slice An nn cn]) ?_ rfl (by first | exact ⟨⟨_, _, _, rfl, HSF.out, HLF.out⟩, HBF.out⟩ | fail)
     exact results_cell_row rfl _ _ (w.heap.size + 1) 34 #[.slice Al nl cl, .slice Am nm cm, .slice An nn cn] (0, 0) _ rfl (by simpa using HRX.out) Tryz.underlying34 rfl (by kernel_rfl)
    case pos =>
     have hkI : (k : Int) < (nt.length : Int) := by omega
     have hk0 : ¬ (k : Int) < 0 := by omega
     obtain ⟨n, hnk⟩ : ∃ n, nt[k]? = some n := ⟨_, List.getElem?_eq_getElem hkn⟩
     obtain ⟨b, off, Ax, cx, rfl, hbB, q0, -⟩ := ((HNS.out.below HB3.out hB).below HBW2.out (by omega)).at_ hnk
     have HBX := Lib.hid (HB3.out.trans (HBW2.out.mono (by omega)))
     have HCL : Hid (∀ W, Below wr.heap.size wr W → Calls Tryz.prog 75 #[.slice Ax n.length cx] W fun r w' => (∃ v, r = .returned v ∧ OwS w' W.heap.size 5 1 v (n.map u8C)) ∧ Below W.heap.size W w') := fun W hW => by
      obtain ⟨b', off', Ax', cx', e, -, e2, e3⟩ := ((HNS.out.below HB3.out hB).below HBW2.out (by omega)).at_ hnk
      cases e
      rw [q0] at e2
      cases e2
      exact clone_byte W (RdS.below' e3 hW (Nat.le_trans hB HBX.out.size)) (Nat.le_trans (Nat.le_trans hB HBX.out.size) hW.size) (by have := HN5.out n (List.mem_of_getElem? hnk); omega)
     obtain ⟨An, nn, cn, rfl⟩ : ∃ A n c, nv = .slice A n c := by
      obtain ⟨A', c', e, -⟩ := hst.nt.form
      exact ⟨_, _, _, e⟩
     have HTK : Hid (nt.take (k + 1) = nt.take k ++ [n]) := by rw [Hid, List.take_add_one, hnk]; rfl
     obtain ⟨vs, hvn, how, -, hvl⟩ := hst.nt
     have hvk : vs.length = k := by rw [hvn]; simp; omega
     have H5 := Lib.hid hst
     have HLO := Lib.hid hlo
     have HVN := Lib.hid hvn
     have HOW := Lib.hid how
     have HVL := Lib.hid hvl
     have HVK := Lib.hid hvk
     have s2 : wr.cell? ⟨X, 2, none⟩ = some (.slice An nn cn) := hst.cells.2.2.1
     have hXw := hst.lt
     have HNN := Lib.hid hnk
     clear hst hlo hbw hvn how hvl hnk hvk
     go_upto_region 10 with (fail)
     go_region_law (first
      | (refine step_ap1 (by rfl) (.tmp 40) (.tmp 43) _ (by rfl) elemNt (by rfl) (HOW.out.below HBY.out) [.slice Ay n.length cy] _ (by rfl) y.heap.size (by rfl) (by rfl) (by intro u hu; rw [List.mem_singleton] at hu; subst hu; rfl) (by have := HVK.out; simp [maxLen]; omega) (by have := HVK.out; simp; omega) (Nat.zero_le _) ?_; intro v7 w7 hown7 hg7 hv7; obtain ⟨A7, n7, c7, rfl⟩ := hown7.sl; obtain ⟨hd7, hx7⟩ := cn_done H5.out HVN.out HOW.out HVL.out (fun k hk => by have := HE1.out k hk; omega) HLO.out HBY.out HOY.out hg7 hown7 hv7; have x7 : w7.cell? ⟨X, 2, none⟩ = some (.slice An nn cn) := (by rw [cell_of_row _ _ _ _ _ _ hx7]; rfl); have z7 := frozen_blk hx7 2; have HD7 := Lib.hid hd7)
      | (go_simp; go_wp2_with (first
        | (go_at_call 75; (with_reducible refine (HCL.out _ (Below.refl _ _).drew).mono ?_); rintro r y ⟨⟨vy, rfl, hoy⟩, hby⟩; have HBY := Lib.hid ((Below.refl wr.heap.size wr).drew.trans hby); obtain ⟨Ay, cy, rfl, -⟩ := hoy.form; rw [List.length_map] at hoy; simp only [List.length_map]; have HOY : Hid (OwS y wr.heap.size 5 1 (.slice Ay n.length cy) (n.map u8C)) := hoy; have d2 := (H5.out.call HBY.out).cells.2.2.1; have e2 : ∀ o, (y.alloc o).cell? ⟨X, 2, none⟩ = some (.slice An nn cn) := (fun o => ((H5.out.call HBY.out).call below_laid).cells.2.2.1))
        | fail))
      | fail)
     all_goals
      obtain ⟨h71, h72, h73⟩ := HD7.out
      have HE : Hid (StB (w7.setCell ⟨X, 2, none⟩ (.slice A7 n7 c7)) X E1 34 (.slice Al nl cl) (.slice Am nm cm) (.slice A7 n7 c7) ⟨ls, ms, nt.take (k + 1)⟩) := Lib.hid (by rw [HTK.out]; exact h71)
      have HBE := Lib.hid (HBW2.out.trans h72)
      have HLE := Lib.hid h73
      clear h71 h72 h73 HD7 hown7 hg7 hv7 hx7 d2 e2 x7 z7
      go_wp2
      go_roundw
      case rel => exact ⟨k + 1, by omega, by go_num, ⟨_, HE.out, HLE.out⟩, HBE.out⟩
      case measure => simp [intOf] <;> omega
  case pos =>
   have hkI : (k : Int) < (ls.length : Int) := by omega
   have hk0 : ¬ (k : Int) < 0 := by omega
   obtain ⟨x, hxk⟩ : ∃ x, ls[k]? = some x := ⟨_, List.getElem?_eq_getElem hkn⟩
   have HBX := Lib.hid (HB3.out.trans (HBW.out.mono (by omega)))
   obtain ⟨b, off, Av, cv, As, cs, rfl, hbB, q0, q1, hu1, hu2, -, -⟩ := (HLS.out.below HBX.out hB).row hxk
   have hx4 := HN4.out x (List.mem_of_getElem? hxk)
   have hBW : B ≤ wr.heap.size := Nat.le_trans hB HBX.out.size
   have HCA0 : Hid (∀ W, Below wr.heap.size wr W → Calls Tryz.prog 77 #[.slice Av x.vs.length cv] W fun r w' => (∃ v, r = .returned v ∧ OwS w' W.heap.size 38 1 v (x.vs.map u64C)) ∧ Below W.heap.size W w') := fun W hW => clone_u64 W (RdS.below' hu1 hW hBW) (Nat.le_trans hBW hW.size) (by omega)
   have HCB0 : Hid (∀ W, Below wr.heap.size wr W → Calls Tryz.prog 77 #[.slice As x.ss.length cs] W fun r w' => (∃ v, r = .returned v ∧ OwS w' W.heap.size 38 1 v (x.ss.map u64C)) ∧ Below W.heap.size W w') := fun W hW => clone_u64 W (RdS.below' hu2 hW hBW) (Nat.le_trans hBW hW.size) (by omega)
   have HTK : Hid (ls.take (k + 1) = ls.take k ++ [x]) := by rw [Hid, List.take_add_one, hxk]; rfl
   obtain ⟨Al, nl, cl, rfl⟩ : ∃ A n c, lv = .slice A n c := by
    obtain ⟨A', c', e, -⟩ := hst.ls.form
    exact ⟨_, _, _, e⟩
   have HSTW := Lib.hid hst
   have HLO := Lib.hid hlo
   clear hxk hu1 hu2 hx4 hst hlo hbw
   go_upto_region 5 with (fail)
   have hn5 : (wr.alloc (.cells #[.slice Av x.vs.length cv, .slice As x.ss.length cs] 58)).heap[wr.heap.size]? = some (.cells #[.slice Av x.vs.length cv, .slice As x.ss.length cs] 58 (0, 0)) := heap_alloc_new wr _
   have hb5 : Below wr.heap.size wr (wr.alloc (.cells #[.slice Av x.vs.length cv, .slice As x.ss.length cs] 58)) := below_laid
   have hz5 : wr.heap.size < (wr.alloc (.cells #[.slice Av x.vs.length cv, .slice As x.ss.length cs] 58)).heap.size := by simp
   generalize wr.alloc _ = w5 at *
   have hst := HSTW.out.call hb5
   have hX5 := hst.lt
   have HB5 := Lib.hid (HBW.out.trans (hb5.mono (Nat.le_of_lt HSTW.out.lt)))
   have HN := Lib.hid hn5
   have HCA : Hid (∀ W, Below w5.heap.size w5 W → Calls Tryz.prog 77 #[.slice Av x.vs.length cv] W fun r w' => (∃ v, r = .returned v ∧ OwS w' W.heap.size 38 1 v (x.vs.map u64C)) ∧ Below W.heap.size W w') := fun W hW => HCA0.out W (bel_trans hb5 hW)
   have HCB : Hid (∀ W, Below w5.heap.size w5 W → Calls Tryz.prog 77 #[.slice As x.ss.length cs] W fun r w' => (∃ v, r = .returned v ∧ OwS w' W.heap.size 38 1 v (x.ss.map u64C)) ∧ Below W.heap.size W w') := fun W hW => HCB0.out W (bel_trans hb5 hW)
   have q50 : w5.cell? ⟨wr.heap.size, 0, none⟩ = some (.slice Av x.vs.length cv) := by rw [cell_of_row _ _ _ _ _ _ hn5]; rfl
   have q51 : w5.cell? ⟨wr.heap.size, 1, none⟩ = some (.slice As x.ss.length cs) := by rw [cell_of_row _ _ _ _ _ _ hn5]; rfl
   have d5 := hst.cells.1
   obtain ⟨rows, hrn, how, -, hrl⟩ := hst.ls
   have hvk : rows.length = k := by rw [hrn]; simp; omega
   have H5 := Lib.hid hst
   have HRN := Lib.hid hrn
   have HOW := Lib.hid how
   have HRL := Lib.hid hrl
   have HVK := Lib.hid hvk
   have hcp0 := Cp.start w5 (x.vs.map u64C) (x.ss.map u64C)
   clear hn5 hb5 hst hrn how hrl hvk HSTW HCA0 HCB0 q0 q1
   go_region_law (first
    | (refine step_ap1 (by rfl) (.tmp 20) (.tmp 28) _ (by rfl) elemLeaf (by rfl) (HOW.out.below hcpA.bel) [.slice PA nA cA, .slice PB nB cB] _ (by rfl) yA.heap.size (by rfl) (by rfl) (by intro u hu; simp only [List.mem_cons, List.not_mem_nil, or_false] at hu; rcases hu with rfl | rfl <;> rfl) (by have := HVK.out; simp [maxLen]; omega) (by have := HVK.out; simp; omega) (Nat.zero_le _) ?_; intro v7 w7 hown7 hg7 hv7; obtain ⟨A7, n7, c7, rfl⟩ := hown7.sl; obtain ⟨hd7, hx7⟩ := cp_done H5.out HRN.out HOW.out HRL.out (fun k hk => by have := HE1.out k hk; omega) HLO.out hcpA hg7 hown7 hv7; have x7 : w7.cell? ⟨X, 0, none⟩ = some (.slice Al nl cl) := (by rw [cell_of_row _ _ _ _ _ _ hx7]; rfl); have z7 := frozen_blk hx7 0; have HD7 := Lib.hid hd7; clear hd7 hx7 hown7 hg7 hv7)
    | (refine step_ap1 (by rfl) (.tmp 20) (.tmp 28) _ (by rfl) elemLeaf (by rfl) (HOW.out.below hcpB.bel) [.slice PA nA cA, .slice PB nB cB] _ (by rfl) yB.heap.size (by rfl) (by rfl) (by intro u hu; simp only [List.mem_cons, List.not_mem_nil, or_false] at hu; rcases hu with rfl | rfl <;> rfl) (by have := HVK.out; simp [maxLen]; omega) (by have := HVK.out; simp; omega) (Nat.zero_le _) ?_; intro v7 w7 hown7 hg7 hv7; obtain ⟨A7, n7, c7, rfl⟩ := hown7.sl; obtain ⟨hd7, hx7⟩ := cp_done H5.out HRN.out HOW.out HRL.out (fun k hk => by have := HE1.out k hk; omega) HLO.out hcpB hg7 hown7 hv7; have x7 : w7.cell? ⟨X, 0, none⟩ = some (.slice Al nl cl) := (by rw [cell_of_row _ _ _ _ _ _ hx7]; rfl); have z7 := frozen_blk hx7 0; have HD7 := Lib.hid hd7; clear hd7 hx7 hown7 hg7 hv7)
    | (go_simp; go_wp2_with (first
      | (go_at_call 77; (with_reducible refine (HCA.out _ (by (repeat' (first | assumption | (with_reducible refine Below.drew ?_) | (with_reducible refine bel_alloc ?_ _) | (with_reducible refine Below.setCell ?_ ?_ _) | (with_reducible exact Below.refl _ _) | (with_reducible exact Nat.le_refl _) | omega | (dsimp only; omega) | (simp; omega))))).mono ?_); rintro r yA ⟨⟨vA, rfl, hoA⟩, hbA⟩; have hcpA := Cp.mkA (by assumption) hbA hoA; have hbelA : Below w5.heap.size w5 yA := hcpA.bel; obtain ⟨PA, nA, cA, rfl⟩ := hoA.sl; clear hoA hbA; have dA := (H5.out.call hbelA).cells.1; have eA : ∀ o, (yA.alloc o).cell? ⟨X, 0, none⟩ = some (.slice Al nl cl) := (fun o => ((H5.out.call hbelA).call below_laid).cells.1); have qA0 : yA.cell? ⟨wr.heap.size, 0, none⟩ = some (.slice Av x.vs.length cv) := (by rw [cell_of_row _ _ _ _ _ _ ((hbelA.block _ hz5).trans HN.out)]; rfl); have qA1 : yA.cell? ⟨wr.heap.size, 1, none⟩ = some (.slice As x.ss.length cs) := (by rw [cell_of_row _ _ _ _ _ _ ((hbelA.block _ hz5).trans HN.out)]; rfl))
      | (go_at_call 77; (with_reducible refine (HCB.out _ (by (repeat' (first | assumption | (with_reducible refine Below.drew ?_) | (with_reducible refine bel_alloc ?_ _) | (with_reducible refine Below.setCell ?_ ?_ _) | (with_reducible exact Below.refl _ _) | (with_reducible exact Nat.le_refl _) | omega | (dsimp only; omega) | (simp; omega))))).mono ?_); rintro r yB ⟨⟨vB, rfl, hoB⟩, hbB⟩; have hcpB := Cp.mkB (by assumption) hbB hoB; have hbelB : Below w5.heap.size w5 yB := hcpB.bel; obtain ⟨PB, nB, cB, rfl⟩ := hoB.sl; clear hoB hbB; have dB := (H5.out.call hbelB).cells.1; have eB : ∀ o, (yB.alloc o).cell? ⟨X, 0, none⟩ = some (.slice Al nl cl) := (fun o => ((H5.out.call hbelB).call below_laid).cells.1); have qB0 : yB.cell? ⟨wr.heap.size, 0, none⟩ = some (.slice Av x.vs.length cv) := (by rw [cell_of_row _ _ _ _ _ _ ((hbelB.block _ hz5).trans HN.out)]; rfl); have qB1 : yB.cell? ⟨wr.heap.size, 1, none⟩ = some (.slice As x.ss.length cs) := (by rw [cell_of_row _ _ _ _ _ _ ((hbelB.block _ hz5).trans HN.out)]; rfl))
      | fail))
    | fail)
   all_goals
    obtain ⟨h71, h72, h73⟩ := HD7.out
    have HE : Hid (StB (w7.setCell ⟨X, 0, none⟩ (.slice A7 n7 c7)) X E1 34 (.slice A7 n7 c7) (.slice Am nm cm) (.slice none 0 0) ⟨ls.take (k + 1), ms, []⟩) := Lib.hid (by rw [HTK.out]; exact h71)
    have HBE := Lib.hid (HB5.out.trans h72)
    have HLE := Lib.hid h73
    clear h71 h72 h73 HD7 x7 z7 hcpA hcpB hbelA hbelB dA dB eA eB qA0 qA1 qB0 qB1 hcp0
    go_wp2
    go_roundw
    case rel => exact ⟨k + 1, by omega, by go_num, ⟨_, HE.out, HLE.out⟩, HBE.out⟩
    case measure => simp [intOf] <;> omega
end Go.Proofs.YtopoefcklipaeaaGreatDoor
