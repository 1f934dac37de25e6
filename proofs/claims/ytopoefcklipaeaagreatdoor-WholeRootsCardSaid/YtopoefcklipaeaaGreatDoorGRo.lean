/- Walk of replay.Apply.
Bytes that stay; a slice's rest; a conversion. No program is walked here.
Helpers for the walk of tegularef50.Apply (no program is walked here). -/
import Derived.Test.YtopoefcklipaeaaGreatDoorRpX
import Derived.Test.YtopoefcklipaeaaGreatDoorGRm
import Derived.Test.YtopoefcklipaeaaGreatDoorGRj
import Derived.Test.YtopoefcklipaeaaGreatDoorGRd
import Derived.Test.YtopoefcklipaeaaGreatDoorGWp
import Derived.Test.YtopoefcklipaeaaGreatDoorGRn
namespace Go.Proofs.YtopoefcklipaeaaGreatDoor
open Go.RowKit
theorem applyS_zero {L : LayD} {S : St} {r : Rcd} (h : (applyS L S r).2 ≠ 0) : (applyS L S r).1 = St.zero := by
 unfold applyS at h ⊢
 split
 ·rename_i h1
  rw [if_pos h1] at h
  rcases hw : wsF S.ls r.ws with _ | l
  ·rfl
  ·rw [hw] at h
   simp only at h ⊢
   by_cases h0 : (msF L S.ms r.ms).2 = 0
   ·rw [if_pos h0] at h
    exact absurd rfl h
   ·rw [if_neg h0]
 ·rfl
theorem StV.form {w : World} {B : Nat} {v : Value} {S : St} (h : StV w B v S) : ∃ A1 c1 A2 c2 A3 c3, v = .agg #[.slice A1 S.ls.length c1, .slice A2 S.ms.length c2, .slice A3 S.nt.length c3] ∧ StV w B (.agg #[.slice A1 S.ls.length c1, .slice A2 S.ms.length c2, .slice A3 S.nt.length c3]) S := by
 have h0 := h
 obtain ⟨A, c, A', c', A'', c'', rfl, h1⟩ := h
 exact ⟨A, c, A', c', A'', c'', rfl, h0⟩
theorem AplP.val {E : Nat → Prop} {L : LayD} {S : St} {r : Rcd} {w w' : World} {lv nv : Value} {e : Ending} (h : AplP E L S r w lv nv w' e) (hE : ∀ k, E k → k < w.heap.size ∧ ¬ FsB lv nv k) : ∃ v, e = .returned (.tuple #[v, .int .i64 (applyS L S r).2]) ∧ Stb E w' fun V => StV V V.heap.size v (applyS L S r).1 := by
 by_cases h0 : (applyS L S r).2 = 0
 ·obtain ⟨mv', nv', rfl, h1, h2⟩ := h.2 h0
  refine ⟨_, by rw [h0], fun V hV => ?_⟩
  refine (h1.turn (hV.mono fun i _ e => .inl e) fun k hk => hV.block k (FsB.lt h1.1 h1.2.2 hk) fun e => ?_).reads
  have he := hE k e
  rcases hk with hk | hk
  ·exact he.2 (.inl hk)
  ·rcases h2 with h2 | ⟨j, h2, hj⟩
   ·exact he.2 (.inr (h2 ▸ hk))
   ·rw [h2] at hk
    injection hk with hk
    omega
 ·exact ⟨_, h.1 h0, fun V _ => by rw [applyS_zero h0]; exact StV.zero _ _⟩
theorem agr_three {E : Nat → Prop} {w : World} {R : Nat} (h : E R) (a b c : Value) : Agr E w (((w.setCell ⟨R, 0, none⟩ a).setCell ⟨R, 1, none⟩ b).setCell ⟨R, 2, none⟩ c) :=
 (((Agr.refl E w).set (p := ⟨R, 0, none⟩) (.inl h) a).set (p := ⟨R, 1, none⟩) (.inl h) b).set (p := ⟨R, 2, none⟩) (.inl h) c
theorem stOk_few {L : LayD} {S : St} (h : stOk L S = true) (hw : L.w ≤ 16) (n1 : S.ls.length ≤ 100000) (n2 : S.ms.length ≤ 10000) (n3 : S.nt.length ≤ 100000) : StFew S := by
 have hl := stOk_ls h
 have hn := stOk_nt h
 refine ⟨n1, n2, n3, fun x hx => ?_, fun n hx => ?_⟩
 ·have := hl.2 x hx
  omega
 ·have := hn n hx
  unfold noteOk at this
  simp only [Bool.and_eq_true, decide_eq_true_eq] at this
  omega
set_option maxHeartbeats 4000000 in
set_option maxRecDepth 100000 in
theorem rApply {L : LayD} {A : Option Addr} {B c : Nat} {rv v : Value} {S : St} {r : Rcd} (w : World) (hx : LayX L) (hv : GsV w B A L.gs) (h : StV w B v S) (hr : RcdV w B rv r) (hB : B ≤ w.heap.size) (hwf : ∀ m ∈ S.ms, PlWf m.to) (hro : RcdOk r)
  (n1 : S.ls.length ≤ 100000) (n2 : S.ms.length ≤ 9000) (n3 : S.nt.length ≤ 100000) :
  Calls Tryz.prog 7 #[layAgg L A c, v, rv] w fun e w' => (∃ v', e = .returned (.tuple #[v', .int .i64 (applyR L S r).2]) ∧ StE (fun k => k < w.heap.size) w' v' (applyR L S r).1) ∧ Below w.heap.size w w' := by
 have hG := hx.ok.G
 have hw16 := hx.ok.w.2
 obtain ⟨A1, c1, A2, c2, A3, c3, rfl, h0⟩ := h.form
 have hr0 := hr
 obtain ⟨Aw, cw, Am, cm, An, cn, rfl, -⟩ := hr0
 have HVA : Hid (∀ W, Below w.heap.size w W → Calls Tryz.prog 29 #[.agg #[.int .i64 L.disks, .slice A L.n c, .int .i64 L.tiles, .int .i64 L.spare], .agg #[.slice A1 S.ls.length c1, .slice A2 S.ms.length c2, .slice A3 S.nt.length c3]] W fun e w' => e = .returned (.bool (stOk L S)) ∧ Below W.heap.size W w') := fun W hW => rvalidS W hx (hv.below hW hB) (h0.below hW hB) hwf (Nat.le_trans hB hW.size) n1 (by omega) (by omega)
 have HCPX : Hid (stOk L S = true → ∀ W, Below w.heap.size w W → w.heap.size + 4 ≤ W.heap.size → Calls Tryz.prog 31 #[.agg #[.slice A1 S.ls.length c1, .slice A2 S.ms.length c2, .slice A3 S.nt.length c3]] W fun e w' => (∃ lv mv nv, e = .returned (.agg #[lv, mv, nv]) ∧ StW w' (fun k => k ≤ w.heap.size + 1 + 1 + 1) lv mv nv S ∧ ∀ k, FsB lv nv k → W.heap.size ≤ k) ∧ Below W.heap.size W w') := fun hok W hW hsz => rcopied _ W (h0.below hW hB) (Nat.le_trans hB hW.size) (stOk_few hok hw16 n1 (by omega) n3) (fun k hk => by omega)
 have HAPY : Hid (stOk L S = true → ∀ (W W1 : World) (lv mv nv : Value), Below w.heap.size w W → w.heap.size + 4 ≤ W.heap.size → Below W.heap.size W W1 → StW W1 (fun k => k ≤ w.heap.size + 1 + 1 + 1) lv mv nv S → (∀ k, FsB lv nv k → W.heap.size ≤ k) → Calls Tryz.prog 30 #[.agg #[.int .i64 L.disks, .slice A L.n c, .int .i64 L.tiles, .int .i64 L.spare], .agg #[lv, mv, nv], .agg #[.int .u64 r.gen, .int .u64 r.seq, .slice Aw r.ws.length cw, .slice Am r.ms.length cm, .slice An r.nt.length cn]] W1 fun e w' => Below W.heap.size W w' ∧ ∃ v', e = .returned (.tuple #[v', .int .i64 (applyS L S r).2]) ∧ Stb (fun k => k ≤ w.heap.size + 1 + 1 + 1) w' fun V => StV V V.heap.size v' (applyS L S r).1) := fun hok W W1 lv mv nv hW hsz hW1 hst hlo => by
  have hb1 : Below w.heap.size w W1 := hW.trans (hW1.mono hW.size)
  have hF : ∀ k, k < W1.heap.size → FsB lv nv k → w.heap.size ≤ k := fun k _ hk => Nat.le_trans hW.size (hlo k hk)
  have hgs : Stb (FsB lv nv) W1 fun W => GsV W W.heap.size A L.gs := stb_in hb1.size hF fun V hV => (hv.below (hb1.trans hV) hB).more (Nat.le_trans (Nat.le_trans hB hb1.size) hV.size)
  have hrs : Stb (FsB lv nv) W1 fun W => RcdV W W.heap.size (.agg #[.int .u64 r.gen, .int .u64 r.seq, .slice Aw r.ws.length cw, .slice Am r.ms.length cm, .slice An r.nt.length cn]) r := stb_in hb1.size hF fun V hV => (hr.below (hb1.trans hV) hB).more (Nat.le_trans (Nat.le_trans hB hb1.size) hV.size)
  refine (rapply _ W1 hx hgs hrs hst (fun k hk => by have := hW1.size; omega) hok hro (by omega) hw16 n2 (by omega)).mono fun e w' hh => ⟨?_, hh.2.val fun k hk => ⟨by have := hW1.size; omega, fun hf => by have := hlo k hf; omega⟩⟩
  exact hW1.trans (hh.1.below (fun k _ hk => hlo k hk) hW1.size)
 have HAR : Hid (applyR L S r = if stOk L S = true then applyS L S r else (St.zero, 1)) := rfl
 generalize stOk L S = ok at *
 generalize applyR L S r = rr at *
 unfold layAgg
 clear hx hv h h0 hr hwf hro hG hw16
 go_enter Tryz.func7, Tryz.ntmps7
 go_upto_region 1 with (fail)
 obtain ⟨w1, hw1', ha, hb, hc, hd, hbl, hz⟩ := four_laid w (.cells #[.int .i64 L.disks, .slice A L.n c, .int .i64 L.tiles, .int .i64 L.spare] 28) (.cells #[.slice A1 S.ls.length c1, .slice A2 S.ms.length c2, .slice A3 S.nt.length c3] 34) (.cells #[.int .u64 r.gen, .int .u64 r.seq, .slice Aw r.ws.length cw, .slice Am r.ms.length cm, .slice An r.nt.length cn] 42) (.cells #[.slice none 0 0, .slice none 0 0, .slice none 0 0] 34)
 rw [hw1']
 have HA := Lib.hid ha
 have HS := Lib.hid hb
 have HC := Lib.hid hc
 have HR := Lib.hid hd
 have HB := Lib.hid hbl
 have hz1 : w.heap.size + 4 ≤ w1.heap.size := Nat.le_of_eq hz.symm
 obtain ⟨l0, l1, l2, l3⟩ := LayB.cells (L := L) ha
 have s0 : w1.cell? ⟨w.heap.size + 1, 0, none⟩ = some (.slice A1 S.ls.length c1) := by rw [cell_of_row _ _ _ _ _ _ hb]; rfl
 have s1 : w1.cell? ⟨w.heap.size + 1, 1, none⟩ = some (.slice A2 S.ms.length c2) := by rw [cell_of_row _ _ _ _ _ _ hb]; rfl
 have s2 : w1.cell? ⟨w.heap.size + 1, 2, none⟩ = some (.slice A3 S.nt.length c3) := by rw [cell_of_row _ _ _ _ _ _ hb]; rfl
 clear ha hb hc hd hbl hz hw1'
 go_wp2_with fail
 refine (HVA.out w1 HB.out).mono ?_
 rintro e w2 ⟨rfl, hb2⟩
 have HA2 := Lib.hid ((hb2.block _ (by omega)).trans HA.out)
 have HS2 := Lib.hid ((hb2.block _ (by omega)).trans HS.out)
 have HC2 := Lib.hid ((hb2.block _ (by omega)).trans HC.out)
 have HR2 := Lib.hid ((hb2.block _ (by omega)).trans HR.out)
 have HB2 := Lib.hid (HB.out.trans (hb2.mono HB.out.size))
 have hz2 : w.heap.size + 4 ≤ w2.heap.size := Nat.le_trans hz1 hb2.size
 clear hb2 HA HS HC HR HB hz1 l0 l1 l2 l3 s0 s1 s2
 cases ok with
 | false =>
  have HRF : Hid (rr = (St.zero, 1)) := by rw [Hid, HAR.out]; rfl
  obtain ⟨z0, z1, z2⟩ := zero3 HR2.out
  have f0 := frozen_blk HR2.out 0
  have f1 := frozen_blk HR2.out 1
  have f2 := frozen_blk HR2.out 2
  have HBF : Hid (Below w.heap.size w (((w2.setCell ⟨w.heap.size + 1 + 1 + 1, 0, none⟩ (.slice none 0 0)).setCell ⟨w.heap.size + 1 + 1 + 1, 1, none⟩ (.slice none 0 0)).setCell ⟨w.heap.size + 1 + 1 + 1, 2, none⟩ (.slice none 0 0))) := ((HB2.out.setCell (by simp; omega) _).setCell (by simp; omega) _).setCell (by simp; omega) _
  have HZ : Hid (∀ V : World, StE (fun k => k < w.heap.size) V (.agg #[.slice none 0 0, .slice none 0 0, .slice none 0 0]) St.zero) := fun V => StE.zero _ V
  go_wp2
  (try simp only [Exit.inBlock, Exit.then])
  refine bodyPost_ret (v := .tuple #[.agg #[.slice none 0 0, .slice none 0 0, .slice none 0 0], .int .i64 1]) ?_ rfl ⟨⟨_, by rw [HRF.out], by rw [HRF.out]; exact HZ.out _⟩, HBF.out⟩
  rw [results_cell_tmp rfl]
  go_simp
 | true =>
  have HRT : Hid (rr = applyS L S r) := by rw [Hid, HAR.out]; rfl
  have HCP : Hid (Calls Tryz.prog 31 #[.agg #[.slice A1 S.ls.length c1, .slice A2 S.ms.length c2, .slice A3 S.nt.length c3]] w2.drew fun e w' => (∃ lv mv nv, e = .returned (.agg #[lv, mv, nv]) ∧ StW w' (fun k => k ≤ w.heap.size + 1 + 1 + 1) lv mv nv S ∧ ∀ k, FsB lv nv k → w2.heap.size ≤ k) ∧ Below w2.heap.size w2.drew w') := HCPX.out (by simp) w2.drew HB2.out.drew hz2
  have HAPX : Hid (∀ (W1 : World) (lv mv nv : Value), Below w2.heap.size w2 W1 → StW W1 (fun k => k ≤ w.heap.size + 1 + 1 + 1) lv mv nv S → (∀ k, FsB lv nv k → w2.heap.size ≤ k) → Calls Tryz.prog 30 #[.agg #[.int .i64 L.disks, .slice A L.n c, .int .i64 L.tiles, .int .i64 L.spare], .agg #[lv, mv, nv], .agg #[.int .u64 r.gen, .int .u64 r.seq, .slice Aw r.ws.length cw, .slice Am r.ms.length cm, .slice An r.nt.length cn]] W1 fun e w' => Below w2.heap.size w2 w' ∧ ∃ v', e = .returned (.tuple #[v', .int .i64 (applyS L S r).2]) ∧ Stb (fun k => k ≤ w.heap.size + 1 + 1 + 1) w' fun V => StV V V.heap.size v' (applyS L S r).1) := fun W1 lv mv nv h1 h2 h3 => HAPY.out (by simp) w2 W1 lv mv nv HB2.out hz2 h1 h2 h3
  have HSX : Hid (∀ W, Below w2.heap.size w2 W → (W.cell? ⟨w.heap.size, 0, none⟩ = some (.int .i64 L.disks) ∧ W.cell? ⟨w.heap.size, 1, none⟩ = some (.slice A L.n c) ∧ W.cell? ⟨w.heap.size, 2, none⟩ = some (.int .i64 L.tiles) ∧ W.cell? ⟨w.heap.size, 3, none⟩ = some (.int .i64 L.spare) ∧ W.cell? ⟨w.heap.size + 1, 0, none⟩ = some (.slice A1 S.ls.length c1) ∧ W.cell? ⟨w.heap.size + 1, 1, none⟩ = some (.slice A2 S.ms.length c2) ∧ W.cell? ⟨w.heap.size + 1, 2, none⟩ = some (.slice A3 S.nt.length c3) ∧ W.cell? ⟨w.heap.size + 1 + 1, 0, none⟩ = some (.int .u64 r.gen) ∧ W.cell? ⟨w.heap.size + 1 + 1, 1, none⟩ = some (.int .u64 r.seq) ∧ W.cell? ⟨w.heap.size + 1 + 1, 2, none⟩ = some (.slice Aw r.ws.length cw) ∧ W.cell? ⟨w.heap.size + 1 + 1, 3, none⟩ = some (.slice Am r.ms.length cm) ∧ W.cell? ⟨w.heap.size + 1 + 1, 4, none⟩ = some (.slice An r.nt.length cn))) := fun W hW => by
   have hA := (hW.block _ (by omega)).trans HA2.out
   have hS := (hW.block _ (by omega)).trans HS2.out
   have hC := (hW.block _ (by omega)).trans HC2.out
   exact ⟨by rw [cell_of_row _ _ _ _ _ _ hA]; rfl, by rw [cell_of_row _ _ _ _ _ _ hA]; rfl, by rw [cell_of_row _ _ _ _ _ _ hA]; rfl, by rw [cell_of_row _ _ _ _ _ _ hA]; rfl, by rw [cell_of_row _ _ _ _ _ _ hS]; rfl, by rw [cell_of_row _ _ _ _ _ _ hS]; rfl, by rw [cell_of_row _ _ _ _ _ _ hS]; rfl, by rw [cell_of_row _ _ _ _ _ _ hC]; rfl, by rw [cell_of_row _ _ _ _ _ _ hC]; rfl, by rw [cell_of_row _ _ _ _ _ _ hC]; rfl, by rw [cell_of_row _ _ _ _ _ _ hC]; rfl, by rw [cell_of_row _ _ _ _ _ _ hC]; rfl⟩
  have hS0 := HSX.out w2.drew (Below.refl _ _).drew
  rw [← HRT.out] at HAPX
  obtain ⟨S', er⟩ := rr
  simp only at HAPX
  clear HCPX HAPY HAR HRT HVA
  go_wp2_with fail
  refine wp_regionT (T := 7) (S := fun W : World => W.cell? ⟨w.heap.size, 0, none⟩ = some (.int .i64 L.disks) ∧ W.cell? ⟨w.heap.size, 1, none⟩ = some (.slice A L.n c) ∧ W.cell? ⟨w.heap.size, 2, none⟩ = some (.int .i64 L.tiles) ∧ W.cell? ⟨w.heap.size, 3, none⟩ = some (.int .i64 L.spare) ∧ W.cell? ⟨w.heap.size + 1, 0, none⟩ = some (.slice A1 S.ls.length c1) ∧ W.cell? ⟨w.heap.size + 1, 1, none⟩ = some (.slice A2 S.ms.length c2) ∧ W.cell? ⟨w.heap.size + 1, 2, none⟩ = some (.slice A3 S.nt.length c3) ∧ W.cell? ⟨w.heap.size + 1 + 1, 0, none⟩ = some (.int .u64 r.gen) ∧ W.cell? ⟨w.heap.size + 1 + 1, 1, none⟩ = some (.int .u64 r.seq) ∧ W.cell? ⟨w.heap.size + 1 + 1, 2, none⟩ = some (.slice Aw r.ws.length cw) ∧ W.cell? ⟨w.heap.size + 1 + 1, 3, none⟩ = some (.slice Am r.ms.length cm) ∧ W.cell? ⟨w.heap.size + 1 + 1, 4, none⟩ = some (.slice An r.nt.length cn)) (by kernel_rfl) ?_
  (try change wpAnyT _ _ _ _ _ _ _ _ _ (World.drew _))
  refine wpAnyT_take (i := 0) (v := ?_) 60 rfl (by kernel_rfl) (by kernel_rfl) (by kernel_rfl) (by kernel_rfl) (by kernel_rfl) (fun _ _ _ h => h) (Or.inl ⟨by rfl, ?_⟩) hS0 ?_
  rotate_left
  ·(intro W hW; (try dsimp only at hW); obtain ⟨hW0, hW1, hW2, hW3, hW4, hW5, hW6, hW7, hW8, hW9, hW10, hW11⟩ := hW; go_simp; try with_reducible rfl)
  (simp only [List.getElem_toArray, List.getElem_cons_zero, Act.put, List.setIfInBounds_toArray, List.set_cons_zero, List.set_cons_succ])
  refine wpAnyT_take (i := 1) (v := ?_) 60 rfl (by kernel_rfl) (by kernel_rfl) (by kernel_rfl) (by kernel_rfl) (by kernel_rfl) (fun _ _ _ h => h) (Or.inl ⟨by rfl, ?_⟩) hS0 ?_
  rotate_left
  ·(intro W hW; (try dsimp only at hW); obtain ⟨hW0, hW1, hW2, hW3, hW4, hW5, hW6, hW7, hW8, hW9, hW10, hW11⟩ := hW; go_simp; try with_reducible rfl)
  (simp only [List.getElem_toArray, List.getElem_cons_zero, List.getElem_cons_succ, Act.put, List.setIfInBounds_toArray, List.set_cons_zero, List.set_cons_succ])
  refine wpAnyT_take (i := 3) (v := ?_) 60 rfl (by kernel_rfl) (by kernel_rfl) (by kernel_rfl) (by kernel_rfl) (by kernel_rfl) (fun _ _ _ h => h) (Or.inl ⟨by rfl, ?_⟩) hS0 ?_
  rotate_left
  ·(intro W hW; (try dsimp only at hW); obtain ⟨hW0, hW1, hW2, hW3, hW4, hW5, hW6, hW7, hW8, hW9, hW10, hW11⟩ := hW; go_simp; try with_reducible rfl)
  (simp only [List.getElem_toArray, List.getElem_cons_zero, List.getElem_cons_succ, Act.put, List.setIfInBounds_toArray, List.set_cons_zero, List.set_cons_succ])
  refine wpAnyT_one (i := 2) (by kernel_rfl) rfl rfl (fun K hK => ?_)
  (go_simp; go_wp2_with (go_at_call 31; ((with_reducible refine HCP.out.mono ?_); rintro e y1 ⟨⟨lv, mv, nv, rfl, hst1, hlo1⟩, hby1⟩)))
  have hb1 : Below w2.heap.size w2 y1 := (Below.refl _ _).drew.trans hby1
  have hS1 := HSX.out y1 hb1
  have HAP := Lib.hid (HAPX.out y1 lv mv nv hb1 hst1 hlo1)
  obtain ⟨Al, cl, rfl, -⟩ := hst1.1.form
  obtain ⟨Av, cv, rfl, -⟩ := hst1.2.1
  obtain ⟨Ao, co, rfl, -⟩ := hst1.2.2.form
  (refine hK _ _ (.inr hS1) ?_)
  (clear hK K)
  (try simp only [List.getElem_toArray, List.getElem_cons_zero, List.getElem_cons_succ, Act.put, List.setIfInBounds_toArray, List.set_cons_zero, List.set_cons_succ])
  refine wpAnyT_one (i := 4) (by kernel_rfl) rfl rfl (fun K hK => ?_)
  (go_simp; go_wp2_with (go_at_call 30; ((with_reducible refine HAP.out.mono ?_); rintro e y2 ⟨hb2, v2, rfl, hsv2⟩)))
  have hS2 := HSX.out y2 hb2
  obtain ⟨B1, d1, B2, d2, B3, d3, rfl, -⟩ := hsv2.now.form
  obtain ⟨z0, z1, z2⟩ := zero3 ((hb2.block _ (by omega)).trans HR2.out)
  have f0 := frozen_blk ((hb2.block _ (by omega)).trans HR2.out) 0
  have f1 := frozen_blk ((hb2.block _ (by omega)).trans HR2.out) 1
  have f2 := frozen_blk ((hb2.block _ (by omega)).trans HR2.out) 2
  (refine hK _ _ (.inr hS2) ?_)
  (clear hK K)
  (try simp only [List.getElem_toArray, List.getElem_cons_zero, List.getElem_cons_succ, Act.put, List.setIfInBounds_toArray, List.set_cons_zero, List.set_cons_succ])
  refine wpAnyT_take (i := 5) (v := ?_) 60 rfl (by kernel_rfl) (by kernel_rfl) (by kernel_rfl) (by kernel_rfl) (by kernel_rfl) (fun _ _ _ h => h) (Or.inl ⟨by rfl, ?_⟩) hS2 ?_
  rotate_left
  ·(intro W hW; (try dsimp only at hW); obtain ⟨hW0, hW1, hW2, hW3, hW4, hW5, hW6, hW7, hW8, hW9, hW10, hW11⟩ := hW; go_simp; try with_reducible rfl)
  (simp only [List.getElem_toArray, List.getElem_cons_zero, List.getElem_cons_succ, Act.put, List.setIfInBounds_toArray, List.set_cons_zero, List.set_cons_succ])
  refine wpAnyT_free (i := 6) (v := ?_) rfl (by kernel_rfl) (by kernel_rfl) (by kernel_rfl) (fun _ _ _ h => h) (Or.inl ⟨by rfl, ?_⟩) hS2 ?_
  rotate_left
  ·(intro W hW; clear hW; go_simp; try with_reducible rfl)
  (simp only [List.getElem_toArray, List.getElem_cons_zero, List.getElem_cons_succ, Act.put, List.setIfInBounds_toArray, List.set_cons_zero, List.set_cons_succ])
  refine wpAnyT_one (i := 7) (by kernel_rfl) rfl rfl (fun K hK => ?_)
  go_simp
  (refine hK _ _ (.inl (by kernel_rfl)) ?_)
  (clear hK K)
  (try simp only [List.getElem_toArray, List.getElem_cons_zero, List.getElem_cons_succ, Act.put, List.setIfInBounds_toArray, List.set_cons_zero, List.set_cons_succ])
  refine wpAnyT_one (i := 8) (by kernel_rfl) rfl rfl (fun K hK => ?_)
  go_simp
  (refine hK _ _ (.inl (by kernel_rfl)) ?_)
  (clear hK K)
  (try simp only [List.getElem_toArray, List.getElem_cons_zero, List.getElem_cons_succ, Act.put, List.setIfInBounds_toArray, List.set_cons_zero, List.set_cons_succ])
  refine wpAnyT_done (by kernel_rfl) ?_ _
  have HBF : Hid (Below w.heap.size w (((y2.setCell ⟨w.heap.size + 1 + 1 + 1, 0, none⟩ (.slice B1 S'.ls.length d1)).setCell ⟨w.heap.size + 1 + 1 + 1, 1, none⟩ (.slice B2 S'.ms.length d2)).setCell ⟨w.heap.size + 1 + 1 + 1, 2, none⟩ (.slice B3 S'.nt.length d3))) := (((HB2.out.trans (hb2.mono HB2.out.size)).setCell (by simp; omega) _).setCell (by simp; omega) _).setCell (by simp; omega) _
  have HSF : Hid (StE (fun k => k < w.heap.size) (((y2.setCell ⟨w.heap.size + 1 + 1 + 1, 0, none⟩ (.slice B1 S'.ls.length d1)).setCell ⟨w.heap.size + 1 + 1 + 1, 1, none⟩ (.slice B2 S'.ms.length d2)).setCell ⟨w.heap.size + 1 + 1 + 1, 2, none⟩ (.slice B3 S'.nt.length d3)) (.agg #[.slice B1 S'.ls.length d1, .slice B2 S'.ms.length d2, .slice B3 S'.nt.length d3]) S') := fun V hV => hsv2 V ((agr_three (E := fun k => k ≤ w.heap.size + 1 + 1 + 1) (Nat.le_refl _) _ _ _).trans' hV fun k _ e => by have e1 : k < w.heap.size := e; show k ≤ _; omega)
  clear hsv2 hS0 hS1 hS2 hst1 hlo1 hby1 hb1
  go_wp2
  (try simp only [Exit.inBlock, Exit.then])
  refine bodyPost_ret (v := .tuple #[.agg #[.slice B1 S'.ls.length d1, .slice B2 S'.ms.length d2, .slice B3 S'.nt.length d3], .int .i64 er]) ?_ rfl ⟨⟨_, rfl, HSF.out⟩, HBF.out⟩
  rw [results_cell_tmp rfl]
  go_simp
end Go.Proofs.YtopoefcklipaeaaGreatDoor
namespace Go.Proofs.YtopoefcklipaeaaGreatDoor
open Go.RowKit
theorem RdS.drop1 {w : World} {B b off : Nat} {rows : List (List Value)} (h : RdS w B 1 (some ⟨b, off, none⟩) rows) (k : Nat) : RdS w B 1 (some ⟨b, off + k, none⟩) (rows.drop k) := by
 refine ⟨fun r hr => h.1 r (List.mem_of_mem_drop hr), fun hn => ?_⟩
 rw [List.length_drop] at hn
 obtain ⟨b', off', he, hb, hc⟩ := h.2 (by omega)
 cases he
 refine ⟨b, off + k, rfl, hb, fun i r hr j v hv => ?_⟩
 rw [List.getElem?_drop] at hr
 have := hc (k + i) r hr j v hv
 rw [show off + k + i * 1 + j = off + (k + i) * 1 + j by omega]
 exact this
end Go.Proofs.YtopoefcklipaeaaGreatDoor
namespace Go.Proofs.YtopoefcklipaeaaGreatDoor
open Go.RowKit
def StK (F : Nat → Prop) (w : World) (v : Value) (S : St) : Prop := ∃ (A1 : Option Addr) (c1 : Nat) (A2 : Option Addr) (c2 : Nat) (A3 : Option Addr) (c3 : Nat) (rows : List (Value × Value)) (vs : List (Option Addr × Nat)), v = .agg #[.slice A1 S.ls.length c1, .slice A2 S.ms.length c2, .slice A3 S.nt.length c3] ∧ rows.length = S.ls.length ∧ vs.length = S.nt.length ∧
 (Stb F w fun W => RdS W W.heap.size 2 A1 (rows.map fun x => [x.1, x.2])) ∧ (∀ (k : Nat) (x : Value × Value) (L : Leaf), rows[k]? = some x → S.ls[k]? = some L → Stb F w fun W => LfV W W.heap.size (.agg #[x.1, x.2]) L) ∧
 (Stb F w fun W => MvS W W.heap.size A2 S.ms) ∧ (Stb F w fun W => RdS W W.heap.size 1 A3 ((vs.zip S.nt).map ntRow)) ∧ ∀ (i : Nat) (p : Option Addr × Nat) (g : List Nat), vs[i]? = some p → S.nt[i]? = some g → Stb F w fun W => BytS W W.heap.size p.1 g
section
variable {F F' : Nat → Prop} {w w' : World} {v : Value} {S : St}
theorem StK.to (h : StK F w v S) (k : Agr F w w') (hF : ∀ i, i < w.heap.size → F' i → F i) : StK F' w' v S := by
 obtain ⟨A1, c1, A2, c2, A3, c3, rows, vs, rfl, hn, hvn, h1, h2, h3, h4, h5⟩ := h
 exact ⟨A1, c1, A2, c2, A3, c3, rows, vs, rfl, hn, hvn, h1.to k hF, fun j x L hj hL => (h2 j x L hj hL).to k hF, h3.to k hF, h4.to k hF, fun i p g hp hg => (h5 i p g hp hg).to k hF⟩
theorem StK.step (h : StK F w v S) (k : Agr F w w') : StK F w' v S := h.to k fun _ _ e => e
theorem StK.call (h : StK F w v S) (k : Below w.heap.size w w') : StK F w' v S := h.step (.of k)
theorem StV.stk {B : Nat} (h : StV w B v S) (hB : B ≤ w.heap.size) (hF : ∀ k, k < w.heap.size → F k → B ≤ k) : StK F w v S := by
 obtain ⟨A1, c1, A2, c2, A3, c3, rfl, ⟨rows, hn, h1, h2⟩, h3, ⟨vs, hvn, h4, h5⟩⟩ := h
 exact ⟨A1, c1, A2, c2, A3, c3, rows, vs, rfl, hn, hvn, stb_in hB hF fun W hW => RdS.more (RdS.below' h1 hW (Nat.le_refl _)) (Nat.le_trans hB hW.size), fun k x L hk hL => stb_in hB hF fun W hW => ((h2 k x L hk hL).below hW (Nat.le_refl _)).more (Nat.le_trans hB hW.size), stb_in hB hF fun W hW => RdS.more (RdS.below' h3 hW (Nat.le_refl _)) (Nat.le_trans hB hW.size),
  stb_in hB hF fun W hW => RdS.more (RdS.below' h4 hW (Nat.le_refl _)) (Nat.le_trans hB hW.size), fun i p g hp hg => stb_in hB hF fun W hW => RdS.more (RdS.below' (h5 i p g hp hg) hW (Nat.le_refl _)) (Nat.le_trans hB hW.size)⟩
theorem StK.zero (F : Nat → Prop) (w : World) : StK F w (.agg #[.slice none 0 0, .slice none 0 0, .slice none 0 0]) St.zero := (StV.zero w 0).stk (Nat.zero_le _) fun _ _ _ => Nat.zero_le _
theorem StW.stk {E : Nat → Prop} {lv mv nv : Value} (h : StW w E lv mv nv S) (hF : ∀ k, F k → E k ∧ ¬ FsB lv nv k) : StK F w (.agg #[lv, mv, nv]) S := by
 obtain ⟨⟨rows, hn, ho, hof, hl⟩, ⟨A2, c2, rfl, hm⟩, ⟨vs, hvn, hvo, hvf, hvl⟩⟩ := h
 obtain ⟨A1, c1, rfl, -⟩ := ho.form
 obtain ⟨A3, c3, rfl, -⟩ := hvo.form
 have hEF : ∀ i, i < w.heap.size → F i → FE E (.slice A1 (rows.map fun x => [x.1, x.2]).length c1) (.slice A3 ((vs.zip S.nt).map ntRow).length c3) i := fun i _ e => .inl (hF i e).1
 refine ⟨A1, c1, A2, c2, A3, c3, rows, vs, by simp [hn, hvn], hn, hvn, RdS.stb ho.reads fun a ha hf => (hF _ hf).2 (.inl (by rw [ha]; rfl)), fun k x L hk hL => (hl k x L hk hL).mono hEF, hm.mono hEF, RdS.stb hvo.reads fun a ha hf => (hF _ hf).2 (.inr (by rw [ha]; rfl)), fun i p g hp hg => (hvl i p g hp hg).mono hEF⟩
end
theorem StB.from {w wx : World} {X W0 : Nat} {E E0 : Nat → Prop} {T : TypeId} {va vb mv : Value} {ls : List Leaf} {ms : List Mv} {nt : List (List Nat)} {rows : List (Value × Value)} {vs : List (Option Addr × Nat)}
  (hb : Below w.heap.size w wx) (hW : w.heap.size ≤ W0) (hn : rows.length = ls.length) (hl : ∀ (k : Nat) (x : Value × Value) (L : Leaf), rows[k]? = some x → ls[k]? = some L → Stb E0 w fun W => LfV W W.heap.size (.agg #[x.1, x.2]) L)
  (hvn : vs.length = nt.length) (hvl : ∀ (i : Nat) (p : Option Addr × Nat) (g : List Nat), vs[i]? = some p → nt[i]? = some g → Stb E0 w fun W => BytS W W.heap.size p.1 g) (hm : ∃ A c, mv = .slice A ms.length c ∧ Stb E0 w fun W => MvS W W.heap.size A ms)
  (hE : ∀ k, E k → w.heap.size ≤ k ∨ E0 k) (hx : wx.heap[X]? = some (.cells #[va, mv, vb] T (0, 0))) (hX : w.heap.size ≤ X) (ha : OwS wx W0 58 2 va (rows.map fun x => [x.1, x.2])) (hbv : OwS wx W0 40 1 vb ((vs.zip nt).map ntRow)) (hT : T ≠ 58 ∧ T ≠ 40) :
  StB wx X E T va mv vb ⟨ls, ms, nt⟩ := by
 have hF : ∀ k, k < w.heap.size → FX X E va vb k → E0 k := fun k hk0 hk => by
  rcases hk with rfl | hk | hk | hk
  ·omega
  ·rcases hE k hk with h | h
   ·omega
   ·exact h
  ·have := (ha.lt hk).1; omega
  ·have := (hbv.lt hk).1; omega
 refine ⟨hx, ⟨rows, hn, ha.mono (Nat.zero_le _), FX.l, fun k x L h1 h2 => ?_⟩, ?_, ⟨vs, hvn, hbv.mono (Nat.zero_le _), FX.n, fun k x L h1 h2 => ?_⟩, hT.1, hT.2⟩
 ·exact (hl k x L h1 h2).to (.of hb) hF
 ·obtain ⟨A, c, rfl, hm⟩ := hm
  exact ⟨A, c, rfl, hm.to (.of hb) hF⟩
 ·exact (hvl k x L h1 h2).to (.of hb) hF
end Go.Proofs.YtopoefcklipaeaaGreatDoor
