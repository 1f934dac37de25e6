/- Walk of replay.Apply.
Walk of tegularef50.Valid.
Bytes that stay; a slice's rest; a conversion. No program is walked here.
Helpers for the walk of tegularef50.Apply (no program is walked here). -/
import Derived.Test.YtjgjofepedcfnaaGreatRpX
import Derived.Test.YtjgjofepedcfnaaGreatGRm
import Derived.Test.YtjgjofepedcfnaaGreatGRj
import Derived.Test.YtjgjofepedcfnaaGreatRpG
import Derived.Test.YtjgjofepedcfnaaGreatGRn
namespace Go.Proofs.YtjgjofepedcfnaaGreat
open Go.RowKit
theorem applyS_zero {L : LayD} {S : St} {r : Rcd} (h : (applyS L S r).2 ≠ 0) : (applyS L S r).1 = St.zero := by
 unfold applyS at h ⊢
 split
 ·rename_i h1
  rw [if_pos h1] at h
  rcases hw : wsF S.ls r.ws with _ | l
  ·rfl
  ·rw [hw] at h
   simp only at h ⊢
   by_cases h0 : (msF L S.ms r.ms).2 = 0
   ·rw [if_pos h0] at h
    exact absurd rfl h
   ·rw [if_neg h0]
 ·rfl
theorem StV.form {w : World} {B : Nat} {v : Value} {S : St} (h : StV w B v S) : ∃ A1 c1 A2 c2 A3 c3, v = .agg #[.slice A1 S.ls.length c1, .slice A2 S.ms.length c2, .slice A3 S.nt.length c3] ∧ StV w B (.agg #[.slice A1 S.ls.length c1, .slice A2 S.ms.length c2, .slice A3 S.nt.length c3]) S := by
 have h0 := h
 obtain ⟨A, c, A', c', A'', c'', rfl, h1⟩ := h
 exact ⟨A, c, A', c', A'', c'', rfl, h0⟩
theorem AplP.val {E : Nat → Prop} {L : LayD} {S : St} {r : Rcd} {w w' : World} {lv nv : Value} {e : Ending} (h : AplP E L S r w lv nv w' e) (hE : ∀ k, E k → k < w.heap.size ∧ ¬ FS lv nv k) : ∃ v, e = .returned (.tuple #[v, .int .i64 (applyS L S r).2]) ∧ Stb E w' fun V => StV V V.heap.size v (applyS L S r).1 := by
 by_cases h0 : (applyS L S r).2 = 0
 ·obtain ⟨mv', nv', rfl, h1, h2⟩ := h.2 h0
  refine ⟨_, by rw [h0], fun V hV => ?_⟩
  refine (h1.turn (hV.mono fun i _ e => .inl e) fun k hk => hV.block k (FS.lt h1.1 h1.2.2 hk) fun e => ?_).reads
  have he := hE k e
  rcases hk with hk | hk
  ·exact he.2 (.inl hk)
  ·rcases h2 with h2 | ⟨j, h2, hj⟩
   ·exact he.2 (.inr (h2 ▸ hk))
   ·rw [h2] at hk
    injection hk with hk
    omega
 ·exact ⟨_, h.1 h0, fun V _ => by rw [applyS_zero h0]; exact StV.zero _ _⟩
theorem agr_three {E : Nat → Prop} {w : World} {R : Nat} (h : E R) (a b c : Value) : Agr E w (((w.setCell ⟨R, 0, none⟩ a).setCell ⟨R, 1, none⟩ b).setCell ⟨R, 2, none⟩ c) :=
 (((Agr.refl E w).set (p := ⟨R, 0, none⟩) (.inl h) a).set (p := ⟨R, 1, none⟩) (.inl h) b).set (p := ⟨R, 2, none⟩) (.inl h) c
theorem stOk_few {L : LayD} {S : St} (h : stOk L S = true) (hw : L.w ≤ 16) (n1 : S.ls.length ≤ 100000) (n2 : S.ms.length ≤ 10000) (n3 : S.nt.length ≤ 100000) : StFew S := by
 have hl := stOk_ls h
 have hn := stOk_nt h
 refine ⟨n1, n2, n3, fun x hx => ?_, fun n hx => ?_⟩
 ·have := hl.2 x hx
  omega
 ·have := hn n hx
  unfold noteOk at this
  simp only [Bool.and_eq_true, decide_eq_true_eq] at this
  omega
set_option maxHeartbeats 4000000 in
set_option maxRecDepth 100000 in
theorem rApply {L : LayD} {A : Option Addr} {B c : Nat} {rv v : Value} {S : St} {r : Rcd} (w : World) (hx : LayX L) (hv : GsV w B A L.gs) (h : StV w B v S) (hr : RcdV w B rv r) (hB : B ≤ w.heap.size) (hwf : ∀ m ∈ S.ms, PlWf m.to) (hro : RcdOk r)
  (n1 : S.ls.length ≤ 100000) (n2 : S.ms.length ≤ 9000) (n3 : S.nt.length ≤ 100000) :
  Calls Tryz.prog 19 #[layAgg L A c, v, rv] w fun e w' => (∃ v', e = .returned (.tuple #[v', .int .i64 (applyR L S r).2]) ∧ StE (fun k => k < w.heap.size) w' v' (applyR L S r).1) ∧ Below w.heap.size w w' := by
 have hG := hx.ok.G
 have hw16 := hx.ok.w.2
 obtain ⟨A1, c1, A2, c2, A3, c3, rfl, h0⟩ := h.form
 have hr0 := hr
 obtain ⟨Aw, cw, Am, cm, An, cn, rfl, -⟩ := hr0
 have HVA : Hid (∀ W, Below w.heap.size w W → Calls Tryz.prog 21 #[.agg #[.int .i64 L.disks, .slice A L.n c, .int .i64 L.tiles, .int .i64 L.spare], .agg #[.slice A1 S.ls.length c1, .slice A2 S.ms.length c2, .slice A3 S.nt.length c3]] W fun e w' => e = .returned (.bool (stOk L S)) ∧ Below W.heap.size W w') := fun W hW => rvalidS W hx (hv.below hW hB) (h0.below hW hB) hwf (Nat.le_trans hB hW.size) n1 (by omega) (by omega)
 have HCPX : Hid (stOk L S = true → ∀ W, Below w.heap.size w W → w.heap.size + 4 ≤ W.heap.size → Calls Tryz.prog 48 #[.agg #[.slice A1 S.ls.length c1, .slice A2 S.ms.length c2, .slice A3 S.nt.length c3]] W fun e w' => (∃ lv mv nv, e = .returned (.agg #[lv, mv, nv]) ∧ StW w' (fun k => k ≤ w.heap.size + 1 + 1 + 1) lv mv nv S ∧ ∀ k, FS lv nv k → W.heap.size ≤ k) ∧ Below W.heap.size W w') := fun hok W hW hsz => rcopied _ W (h0.below hW hB) (Nat.le_trans hB hW.size) (stOk_few hok hw16 n1 (by omega) n3) (fun k hk => by omega)
 have HAPY : Hid (stOk L S = true → ∀ (W W1 : World) (lv mv nv : Value), Below w.heap.size w W → w.heap.size + 4 ≤ W.heap.size → Below W.heap.size W W1 → StW W1 (fun k => k ≤ w.heap.size + 1 + 1 + 1) lv mv nv S → (∀ k, FS lv nv k → W.heap.size ≤ k) → Calls Tryz.prog 47 #[.agg #[.int .i64 L.disks, .slice A L.n c, .int .i64 L.tiles, .int .i64 L.spare], .agg #[lv, mv, nv], .agg #[.int .u64 r.gen, .int .u64 r.seq, .slice Aw r.ws.length cw, .slice Am r.ms.length cm, .slice An r.nt.length cn]] W1 fun e w' => Below W.heap.size W w' ∧ ∃ v', e = .returned (.tuple #[v', .int .i64 (applyS L S r).2]) ∧ Stb (fun k => k ≤ w.heap.size + 1 + 1 + 1) w' fun V => StV V V.heap.size v' (applyS L S r).1) := fun hok W W1 lv mv nv hW hsz hW1 hst hlo => by
  have hb1 : Below w.heap.size w W1 := hW.trans (hW1.mono hW.size)
  have hF : ∀ k, k < W1.heap.size → FS lv nv k → w.heap.size ≤ k := fun k _ hk => Nat.le_trans hW.size (hlo k hk)
  have hgs : Stb (FS lv nv) W1 fun W => GsV W W.heap.size A L.gs := stb_in hb1.size hF fun V hV => (hv.below (hb1.trans hV) hB).more (Nat.le_trans (Nat.le_trans hB hb1.size) hV.size)
  have hrs : Stb (FS lv nv) W1 fun W => RcdV W W.heap.size (.agg #[.int .u64 r.gen, .int .u64 r.seq, .slice Aw r.ws.length cw, .slice Am r.ms.length cm, .slice An r.nt.length cn]) r := stb_in hb1.size hF fun V hV => (hr.below (hb1.trans hV) hB).more (Nat.le_trans (Nat.le_trans hB hb1.size) hV.size)
  refine (rapply _ W1 hx hgs hrs hst (fun k hk => by have := hW1.size; omega) hok hro (by omega) hw16 n2 (by omega)).mono fun e w' hh => ⟨?_, hh.2.val fun k hk => ⟨by have := hW1.size; omega, fun hf => by have := hlo k hf; omega⟩⟩
  exact hW1.trans (hh.1.below (fun k _ hk => hlo k hk) hW1.size)
 have HAR : Hid (applyR L S r = if stOk L S = true then applyS L S r else (St.zero, 1)) := rfl
 generalize stOk L S = ok at *
 generalize applyR L S r = rr at *
 unfold layAgg
 clear hx hv h h0 hr hwf hro hG hw16
 go_enter Tryz.func19, Tryz.ntmps19
 go_upto_region 1 with (fail)
 obtain ⟨w1, hw1', ha, hb, hc, hd, hbl, hz⟩ := four_laid w (.cells #[.int .i64 L.disks, .slice A L.n c, .int .i64 L.tiles, .int .i64 L.spare] 36) (.cells #[.slice A1 S.ls.length c1, .slice A2 S.ms.length c2, .slice A3 S.nt.length c3] 41) (.cells #[.int .u64 r.gen, .int .u64 r.seq, .slice Aw r.ws.length cw, .slice Am r.ms.length cm, .slice An r.nt.length cn] 28) (.cells #[.slice none 0 0, .slice none 0 0, .slice none 0 0] 41)
 rw [hw1']
 have HA := Lib.hid ha
 have HS := Lib.hid hb
 have HC := Lib.hid hc
 have HR := Lib.hid hd
 have HB := Lib.hid hbl
 have hz1 : w.heap.size + 4 ≤ w1.heap.size := Nat.le_of_eq hz.symm
 obtain ⟨l0, l1, l2, l3⟩ := LayB.cells (L := L) ha
 have s0 : w1.cell? ⟨w.heap.size + 1, 0, none⟩ = some (.slice A1 S.ls.length c1) := by rw [cell_of_row _ _ _ _ _ _ hb]; rfl
 have s1 : w1.cell? ⟨w.heap.size + 1, 1, none⟩ = some (.slice A2 S.ms.length c2) := by rw [cell_of_row _ _ _ _ _ _ hb]; rfl
 have s2 : w1.cell? ⟨w.heap.size + 1, 2, none⟩ = some (.slice A3 S.nt.length c3) := by rw [cell_of_row _ _ _ _ _ _ hb]; rfl
 clear ha hb hc hd hbl hz hw1'
 go_wp2_with fail
 refine (HVA.out w1 HB.out).mono ?_
 rintro e w2 ⟨rfl, hb2⟩
 have HA2 := Lib.hid ((hb2.block _ (by omega)).trans HA.out)
 have HS2 := Lib.hid ((hb2.block _ (by omega)).trans HS.out)
 have HC2 := Lib.hid ((hb2.block _ (by omega)).trans HC.out)
 have HR2 := Lib.hid ((hb2.block _ (by omega)).trans HR.out)
 have HB2 := Lib.hid (HB.out.trans (hb2.mono HB.out.size))
 have hz2 : w.heap.size + 4 ≤ w2.heap.size := Nat.le_trans hz1 hb2.size
 clear hb2 HA HS HC HR HB hz1 l0 l1 l2 l3 s0 s1 s2
 cases ok with
 | false =>
  have HRF : Hid (rr = (St.zero, 1)) := by rw [Hid, HAR.out]; rfl
  obtain ⟨z0, z1, z2⟩ := zero3 HR2.out
  have f0 := frozen_blk HR2.out 0
  have f1 := frozen_blk HR2.out 1
  have f2 := frozen_blk HR2.out 2
  have HBF : Hid (Below w.heap.size w (((w2.setCell ⟨w.heap.size + 1 + 1 + 1, 0, none⟩ (.slice none 0 0)).setCell ⟨w.heap.size + 1 + 1 + 1, 1, none⟩ (.slice none 0 0)).setCell ⟨w.heap.size + 1 + 1 + 1, 2, none⟩ (.slice none 0 0))) := ((HB2.out.setCell (by simp; omega) _).setCell (by simp; omega) _).setCell (by simp; omega) _
  have HZ : Hid (∀ V : World, StE (fun k => k < w.heap.size) V (.agg #[.slice none 0 0, .slice none 0 0, .slice none 0 0]) St.zero) := fun V => StE.zero _ V
  go_wp2
  (try simp only [Exit.inBlock, Exit.then])
  refine bodyPost_ret (v := .tuple #[.agg #[.slice none 0 0, .slice none 0 0, .slice none 0 0], .int .i64 1]) ?_ rfl ⟨⟨_, by rw [HRF.out], by rw [HRF.out]; exact HZ.out _⟩, HBF.out⟩
  rw [results_cell_tmp rfl]
  go_simp
 | true =>
  have HRT : Hid (rr = applyS L S r) := by rw [Hid, HAR.out]; rfl
  have HCP : Hid (Calls Tryz.prog 48 #[.agg #[.slice A1 S.ls.length c1, .slice A2 S.ms.length c2, .slice A3 S.nt.length c3]] w2.drew fun e w' => (∃ lv mv nv, e = .returned (.agg #[lv, mv, nv]) ∧ StW w' (fun k => k ≤ w.heap.size + 1 + 1 + 1) lv mv nv S ∧ ∀ k, FS lv nv k → w2.heap.size ≤ k) ∧ Below w2.heap.size w2.drew w') := HCPX.out (by simp) w2.drew HB2.out.drew hz2
  have HAPX : Hid (∀ (W1 : World) (lv mv nv : Value), Below w2.heap.size w2 W1 → StW W1 (fun k => k ≤ w.heap.size + 1 + 1 + 1) lv mv nv S → (∀ k, FS lv nv k → w2.heap.size ≤ k) → Calls Tryz.prog 47 #[.agg #[.int .i64 L.disks, .slice A L.n c, .int .i64 L.tiles, .int .i64 L.spare], .agg #[lv, mv, nv], .agg #[.int .u64 r.gen, .int .u64 r.seq, .slice Aw r.ws.length cw, .slice Am r.ms.length cm, .slice An r.nt.length cn]] W1 fun e w' => Below w2.heap.size w2 w' ∧ ∃ v', e = .returned (.tuple #[v', .int .i64 (applyS L S r).2]) ∧ Stb (fun k => k ≤ w.heap.size + 1 + 1 + 1) w' fun V => StV V V.heap.size v' (applyS L S r).1) := fun W1 lv mv nv h1 h2 h3 => HAPY.out (by simp) w2 W1 lv mv nv HB2.out hz2 h1 h2 h3
  have HSX : Hid (∀ W, Below w2.heap.size w2 W → (W.cell? ⟨w.heap.size, 0, none⟩ = some (.int .i64 L.disks) ∧ W.cell? ⟨w.heap.size, 1, none⟩ = some (.slice A L.n c) ∧ W.cell? ⟨w.heap.size, 2, none⟩ = some (.int .i64 L.tiles) ∧ W.cell? ⟨w.heap.size, 3, none⟩ = some (.int .i64 L.spare) ∧ W.cell? ⟨w.heap.size + 1, 0, none⟩ = some (.slice A1 S.ls.length c1) ∧ W.cell? ⟨w.heap.size + 1, 1, none⟩ = some (.slice A2 S.ms.length c2) ∧ W.cell? ⟨w.heap.size + 1, 2, none⟩ = some (.slice A3 S.nt.length c3) ∧ W.cell? ⟨w.heap.size + 1 + 1, 0, none⟩ = some (.int .u64 r.gen) ∧ W.cell? ⟨w.heap.size + 1 + 1, 1, none⟩ = some (.int .u64 r.seq) ∧ W.cell? ⟨w.heap.size + 1 + 1, 2, none⟩ = some (.slice Aw r.ws.length cw) ∧ W.cell? ⟨w.heap.size + 1 + 1, 3, none⟩ = some (.slice Am r.ms.length cm) ∧ W.cell? ⟨w.heap.size + 1 + 1, 4, none⟩ = some (.slice An r.nt.length cn))) := fun W hW => by
   have hA := (hW.block _ (by omega)).trans HA2.out
   have hS := (hW.block _ (by omega)).trans HS2.out
   have hC := (hW.block _ (by omega)).trans HC2.out
   exact ⟨by rw [cell_of_row _ _ _ _ _ _ hA]; rfl, by rw [cell_of_row _ _ _ _ _ _ hA]; rfl, by rw [cell_of_row _ _ _ _ _ _ hA]; rfl, by rw [cell_of_row _ _ _ _ _ _ hA]; rfl, by rw [cell_of_row _ _ _ _ _ _ hS]; rfl, by rw [cell_of_row _ _ _ _ _ _ hS]; rfl, by rw [cell_of_row _ _ _ _ _ _ hS]; rfl, by rw [cell_of_row _ _ _ _ _ _ hC]; rfl, by rw [cell_of_row _ _ _ _ _ _ hC]; rfl, by rw [cell_of_row _ _ _ _ _ _ hC]; rfl, by rw [cell_of_row _ _ _ _ _ _ hC]; rfl, by rw [cell_of_row _ _ _ _ _ _ hC]; rfl⟩
  have hS0 := HSX.out w2.drew (Below.refl _ _).drew
  rw [← HRT.out] at HAPX
  obtain ⟨S', er⟩ := rr
  simp only at HAPX
  clear HCPX HAPY HAR HRT HVA
  go_wp2_with fail
  refine wp_regionT (T := 7) (S := fun W : World => W.cell? ⟨w.heap.size, 0, none⟩ = some (.int .i64 L.disks) ∧ W.cell? ⟨w.heap.size, 1, none⟩ = some (.slice A L.n c) ∧ W.cell? ⟨w.heap.size, 2, none⟩ = some (.int .i64 L.tiles) ∧ W.cell? ⟨w.heap.size, 3, none⟩ = some (.int .i64 L.spare) ∧ W.cell? ⟨w.heap.size + 1, 0, none⟩ = some (.slice A1 S.ls.length c1) ∧ W.cell? ⟨w.heap.size + 1, 1, none⟩ = some (.slice A2 S.ms.length c2) ∧ W.cell? ⟨w.heap.size + 1, 2, none⟩ = some (.slice A3 S.nt.length c3) ∧ W.cell? ⟨w.heap.size + 1 + 1, 0, none⟩ = some (.int .u64 r.gen) ∧ W.cell? ⟨w.heap.size + 1 + 1, 1, none⟩ = some (.int .u64 r.seq) ∧ W.cell? ⟨w.heap.size + 1 + 1, 2, none⟩ = some (.slice Aw r.ws.length cw) ∧ W.cell? ⟨w.heap.size + 1 + 1, 3, none⟩ = some (.slice Am r.ms.length cm) ∧ W.cell? ⟨w.heap.size + 1 + 1, 4, none⟩ = some (.slice An r.nt.length cn)) (by kernel_rfl) ?_
  (try change wpAnyT _ _ _ _ _ _ _ _ _ (World.drew _))
  refine wpAnyT_take (i := 0) (v := ?_) 60 rfl (by kernel_rfl) (by kernel_rfl) (by kernel_rfl) (by kernel_rfl) (by kernel_rfl) (fun _ _ _ h => h) (Or.inl ⟨by rfl, ?_⟩) hS0 ?_
  rotate_left
  ·(intro W hW; (try dsimp only at hW); obtain ⟨hW0, hW1, hW2, hW3, hW4, hW5, hW6, hW7, hW8, hW9, hW10, hW11⟩ := hW; go_simp; try with_reducible rfl)
  (simp only [List.getElem_toArray, List.getElem_cons_zero, Act.put, List.setIfInBounds_toArray, List.set_cons_zero, List.set_cons_succ])
  refine wpAnyT_take (i := 1) (v := ?_) 60 rfl (by kernel_rfl) (by kernel_rfl) (by kernel_rfl) (by kernel_rfl) (by kernel_rfl) (fun _ _ _ h => h) (Or.inl ⟨by rfl, ?_⟩) hS0 ?_
  rotate_left
  ·(intro W hW; (try dsimp only at hW); obtain ⟨hW0, hW1, hW2, hW3, hW4, hW5, hW6, hW7, hW8, hW9, hW10, hW11⟩ := hW; go_simp; try with_reducible rfl)
  (simp only [List.getElem_toArray, List.getElem_cons_zero, List.getElem_cons_succ, Act.put, List.setIfInBounds_toArray, List.set_cons_zero, List.set_cons_succ])
  refine wpAnyT_take (i := 3) (v := ?_) 60 rfl (by kernel_rfl) (by kernel_rfl) (by kernel_rfl) (by kernel_rfl) (by kernel_rfl) (fun _ _ _ h => h) (Or.inl ⟨by rfl, ?_⟩) hS0 ?_
  rotate_left
  ·(intro W hW; (try dsimp only at hW); obtain ⟨hW0, hW1, hW2, hW3, hW4, hW5, hW6, hW7, hW8, hW9, hW10, hW11⟩ := hW; go_simp; try with_reducible rfl)
  (simp only [List.getElem_toArray, List.getElem_cons_zero, List.getElem_cons_succ, Act.put, List.setIfInBounds_toArray, List.set_cons_zero, List.set_cons_succ])
  refine wpAnyT_one (i := 2) (by kernel_rfl) rfl rfl (fun K hK => ?_)
  (go_simp; go_wp2_with (go_at_call 48; ((with_reducible refine HCP.out.mono ?_); rintro e y1 ⟨⟨lv, mv, nv, rfl, hst1, hlo1⟩, hby1⟩)))
  have hb1 : Below w2.heap.size w2 y1 := (Below.refl _ _).drew.trans hby1
  have hS1 := HSX.out y1 hb1
  have HAP := Lib.hid (HAPX.out y1 lv mv nv hb1 hst1 hlo1)
  obtain ⟨Al, cl, rfl, -⟩ := hst1.1.form
  obtain ⟨Av, cv, rfl, -⟩ := hst1.2.1
  obtain ⟨Ao, co, rfl, -⟩ := hst1.2.2.form
  (refine hK _ _ (.inr hS1) ?_)
  (clear hK K)
  (try simp only [List.getElem_toArray, List.getElem_cons_zero, List.getElem_cons_succ, Act.put, List.setIfInBounds_toArray, List.set_cons_zero, List.set_cons_succ])
  refine wpAnyT_one (i := 4) (by kernel_rfl) rfl rfl (fun K hK => ?_)
  (go_simp; go_wp2_with (go_at_call 47; ((with_reducible refine HAP.out.mono ?_); rintro e y2 ⟨hb2, v2, rfl, hsv2⟩)))
  have hS2 := HSX.out y2 hb2
  obtain ⟨B1, d1, B2, d2, B3, d3, rfl, -⟩ := hsv2.now.form
  obtain ⟨z0, z1, z2⟩ := zero3 ((hb2.block _ (by omega)).trans HR2.out)
  have f0 := frozen_blk ((hb2.block _ (by omega)).trans HR2.out) 0
  have f1 := frozen_blk ((hb2.block _ (by omega)).trans HR2.out) 1
  have f2 := frozen_blk ((hb2.block _ (by omega)).trans HR2.out) 2
  (refine hK _ _ (.inr hS2) ?_)
  (clear hK K)
  (try simp only [List.getElem_toArray, List.getElem_cons_zero, List.getElem_cons_succ, Act.put, List.setIfInBounds_toArray, List.set_cons_zero, List.set_cons_succ])
  refine wpAnyT_take (i := 5) (v := ?_) 60 rfl (by kernel_rfl) (by kernel_rfl) (by kernel_rfl) (by kernel_rfl) (by kernel_rfl) (fun _ _ _ h => h) (Or.inl ⟨by rfl, ?_⟩) hS2 ?_
  rotate_left
  ·(intro W hW; (try dsimp only at hW); obtain ⟨hW0, hW1, hW2, hW3, hW4, hW5, hW6, hW7, hW8, hW9, hW10, hW11⟩ := hW; go_simp; try with_reducible rfl)
  (simp only [List.getElem_toArray, List.getElem_cons_zero, List.getElem_cons_succ, Act.put, List.setIfInBounds_toArray, List.set_cons_zero, List.set_cons_succ])
  refine wpAnyT_free (i := 6) (v := ?_) rfl (by kernel_rfl) (by kernel_rfl) (by kernel_rfl) (fun _ _ _ h => h) (Or.inl ⟨by rfl, ?_⟩) hS2 ?_
  rotate_left
  ·(intro W hW; clear hW; go_simp; try with_reducible rfl)
  (simp only [List.getElem_toArray, List.getElem_cons_zero, List.getElem_cons_succ, Act.put, List.setIfInBounds_toArray, List.set_cons_zero, List.set_cons_succ])
  refine wpAnyT_one (i := 7) (by kernel_rfl) rfl rfl (fun K hK => ?_)
  go_simp
  (refine hK _ _ (.inl (by kernel_rfl)) ?_)
  (clear hK K)
  (try simp only [List.getElem_toArray, List.getElem_cons_zero, List.getElem_cons_succ, Act.put, List.setIfInBounds_toArray, List.set_cons_zero, List.set_cons_succ])
  refine wpAnyT_one (i := 8) (by kernel_rfl) rfl rfl (fun K hK => ?_)
  go_simp
  (refine hK _ _ (.inl (by kernel_rfl)) ?_)
  (clear hK K)
  (try simp only [List.getElem_toArray, List.getElem_cons_zero, List.getElem_cons_succ, Act.put, List.setIfInBounds_toArray, List.set_cons_zero, List.set_cons_succ])
  refine wpAnyT_done (by kernel_rfl) ?_ _
  have HBF : Hid (Below w.heap.size w (((y2.setCell ⟨w.heap.size + 1 + 1 + 1, 0, none⟩ (.slice B1 S'.ls.length d1)).setCell ⟨w.heap.size + 1 + 1 + 1, 1, none⟩ (.slice B2 S'.ms.length d2)).setCell ⟨w.heap.size + 1 + 1 + 1, 2, none⟩ (.slice B3 S'.nt.length d3))) := (((HB2.out.trans (hb2.mono HB2.out.size)).setCell (by simp; omega) _).setCell (by simp; omega) _).setCell (by simp; omega) _
  have HSF : Hid (StE (fun k => k < w.heap.size) (((y2.setCell ⟨w.heap.size + 1 + 1 + 1, 0, none⟩ (.slice B1 S'.ls.length d1)).setCell ⟨w.heap.size + 1 + 1 + 1, 1, none⟩ (.slice B2 S'.ms.length d2)).setCell ⟨w.heap.size + 1 + 1 + 1, 2, none⟩ (.slice B3 S'.nt.length d3)) (.agg #[.slice B1 S'.ls.length d1, .slice B2 S'.ms.length d2, .slice B3 S'.nt.length d3]) S') := fun V hV => hsv2 V ((agr_three (E := fun k => k ≤ w.heap.size + 1 + 1 + 1) (Nat.le_refl _) _ _ _).trans' hV fun k _ e => by have e1 : k < w.heap.size := e; show k ≤ _; omega)
  clear hsv2 hS0 hS1 hS2 hst1 hlo1 hby1 hb1
  go_wp2
  (try simp only [Exit.inBlock, Exit.then])
  refine bodyPost_ret (v := .tuple #[.agg #[.slice B1 S'.ls.length d1, .slice B2 S'.ms.length d2, .slice B3 S'.nt.length d3], .int .i64 er]) ?_ rfl ⟨⟨_, rfl, HSF.out⟩, HBF.out⟩
  rw [results_cell_tmp rfl]
  go_simp
end Go.Proofs.YtjgjofepedcfnaaGreat
namespace Go.Proofs.YtjgjofepedcfnaaGreat
open Go.RowKit
set_option maxHeartbeats 2000000 in
set_option maxRecDepth 100000 in
theorem r50valid {L : LayD} {A : Option Addr} {B c : Nat} {v : Value} {S : St} (w : World) (hx : LayX L) (hv : GsV w B A L.gs) (h : StV w B v S) (hB : B ≤ w.heap.size) (n1 : S.ls.length ≤ 100000) (n2 : S.ms.length ≤ 10000) (n3 : S.nt.length ≤ 1000000) :
  Calls Tryz.prog 23 #[layAgg L A c, v] w fun r w' => r = .returned (.bool (stOk L S)) ∧ Below w.heap.size w w' := by
 obtain ⟨A1, c1, A2, c2, A3, c3, rfl, h1, h2, h3⟩ := h
 obtain ⟨ls, ms, nt⟩ := S
 simp only at h1 h2 h3 n1 n2 n3 ⊢
 have HVA : Hid (∀ W, Below w.heap.size w W → Calls Tryz.prog 38 #[.agg #[.int .i64 L.disks, .slice A L.n c, .int .i64 L.tiles, .int .i64 L.spare]] W fun r w' => r = .returned (.bool true) ∧ Below W.heap.size W w') := fun W hW => r21valid W hx (hv.below hW hB) (Nat.le_trans hB hW.size)
 have HGR : Hid (∀ W, Below w.heap.size w W → Calls Tryz.prog 39 #[.agg #[.int .i64 L.disks, .slice A L.n c, .int .i64 L.tiles, .int .i64 L.spare]] W fun r w' => r = .returned (.int .i64 (L.G : Int)) ∧ Below W.heap.size W w') := fun W hW => r21groups W hx
 have HWI : Hid (∀ W, Below w.heap.size w W → Calls Tryz.prog 41 #[.agg #[.int .i64 L.disks, .slice A L.n c, .int .i64 L.tiles, .int .i64 L.spare]] W fun r w' => r = .returned (.int .i64 (L.w : Int)) ∧ Below W.heap.size W w') := fun W hW => r21width W hx (hv.below hW hB) (Nat.le_trans hB hW.size)
 have HSV : Hid (∀ W, Below w.heap.size w W → Calls Tryz.prog 52 #[.agg #[.int .i64 L.disks, .slice A L.n c, .int .i64 L.tiles, .int .i64 L.spare], .slice A2 ms.length c2] W fun r w' => r = .returned (.bool (validM L ms)) ∧ Below W.heap.size W w') := fun W hW => r22valid W hx (hv.below hW hB) (h2.below' hW hB) (Nat.le_trans hB hW.size) (by omega)
 have HNS := Lib.hid h3
 have HLS := Lib.hid h1
 have HOK : Hid (stOk L ⟨ls, ms, nt⟩ = (decide (ls.length = L.G) && validM L ms && ls.all (leafOk L) && nt.all noteOk)) := rfl
 have HLF : Hid (∀ x, leafOk L x = (decide (x.vs.length = L.w) && decide (x.ss.length = L.w))) := fun _ => rfl
 generalize stOk L ⟨ls, ms, nt⟩ = res at *
 unfold layAgg
 generalize leafOk L = lf at *
 generalize validM L ms = vm at *
 generalize L.G = G at *
 generalize L.w = wd at *
 have HNF : Hid (∀ n, noteOk n = (decide (1 ≤ n.length) && decide (n.length ≤ 256))) := fun _ => rfl
 generalize noteOk = nf at *
 clear hx hv h1 h2 h3
 go_enter Tryz.func23, Tryz.ntmps23
 go_upto_region 1 with (fail)
 obtain ⟨w1, hw1', ha, hc, hb, hz⟩ := two_laid w (.cells #[.int .i64 L.disks, .slice A L.n c, .int .i64 L.tiles, .int .i64 L.spare] 36) (.cells #[.slice A1 ls.length c1, .slice A2 ms.length c2, .slice A3 nt.length c3] 45)
 rw [hw1']
 have HA := Lib.hid ha
 have HC := Lib.hid hc
 have HB := Lib.hid hb
 have hz1 : w.heap.size + 1 < w1.heap.size := by omega
 have Q : ∀ d xs, (Sort.grow (redrawn w1 d) xs).cell? ⟨w.heap.size, 0, none⟩ = some (.int .i64 L.disks) ∧ (Sort.grow (redrawn w1 d) xs).cell? ⟨w.heap.size, 1, none⟩ = some (.slice A L.n c) ∧ (Sort.grow (redrawn w1 d) xs).cell? ⟨w.heap.size, 2, none⟩ = some (.int .i64 L.tiles) ∧ (Sort.grow (redrawn w1 d) xs).cell? ⟨w.heap.size, 3, none⟩ = some (.int .i64 L.spare) := fun d xs => by
  have hq := ((below_regrown w1 d xs).block _ (by omega)).trans ha
  exact ⟨by rw [cell_of_row _ _ _ _ _ _ hq]; rfl, by rw [cell_of_row _ _ _ _ _ _ hq]; rfl, by rw [cell_of_row _ _ _ _ _ _ hq]; rfl, by rw [cell_of_row _ _ _ _ _ _ hq]; rfl⟩
 have Y : ∀ d xs, (Sort.grow (redrawn w1 d) xs).cell? ⟨w.heap.size + 1, 0, none⟩ = some (.slice A1 ls.length c1) ∧ (Sort.grow (redrawn w1 d) xs).cell? ⟨w.heap.size + 1, 1, none⟩ = some (.slice A2 ms.length c2) := fun d xs => by
  have hq := ((below_regrown w1 d xs).block _ hz1).trans hc
  exact ⟨by rw [cell_of_row _ _ _ _ _ _ hq]; rfl, by rw [cell_of_row _ _ _ _ _ _ hq]; rfl⟩
 have KV := Lib.hid (fun d xs => HVA.out (Sort.grow (redrawn w1 d) xs) (HB.out.trans ((below_regrown w1 d xs).mono HB.out.size)))
 have KG := Lib.hid (fun d xs => HGR.out (Sort.grow (redrawn w1 d) xs) (HB.out.trans ((below_regrown w1 d xs).mono HB.out.size)))
 have KS := Lib.hid (fun d xs => HSV.out (Sort.grow (redrawn w1 d) xs) (HB.out.trans ((below_regrown w1 d xs).mono HB.out.size)))
 clear ha hc hb hw1' hz
 by_cases hG : ls.length = G
 case neg =>
  have HRF : Hid (res = false) := by rw [Hid, HOK.out, decide_eq_false hG]; rfl
  obtain ⟨g1, g2, g3, g4⟩ := len_ne hG
  clear hG
  refine quiet_below (by kernel_rfl) (by kernel_rfl) ?_
  repeat (go_big_quiet_step (first | (go_at_call 38; exact Calls.regrown_of (KV.out _ _)) | (go_at_call 39; exact Calls.regrown_of (KG.out _ _))))
  refine wpQuiet_nil ?_
  intro w2 hb2
  have HB2 := Lib.hid (HB.out.trans (hb2.mono HB.out.size))
  clear hb2 Q Y
  go_wp2
  go_ret
  exact ⟨ret_bool HRF.out.symm, HB2.out⟩
 case pos =>
  obtain ⟨g1, g2, g3, g4⟩ := len_eq hG
  have HR1 : Hid (res = (vm && ls.all lf && nt.all nf)) := by rw [Hid, HOK.out, decide_eq_true hG]; rfl
  clear hG HOK
  refine quiet_below (by kernel_rfl) (by kernel_rfl) ?_
  repeat (go_big_quiet_step (first | (go_at_call 38; exact Calls.regrown_of (KV.out _ _)) | (go_at_call 39; exact Calls.regrown_of (KG.out _ _)) | (go_at_call 52; exact Calls.regrown_of (KS.out _ _))))
  refine wpQuiet_nil ?_
  intro w2 hb2
  have HB2 := Lib.hid (HB.out.trans (hb2.mono HB.out.size))
  have HA2 := Lib.hid ((hb2.block _ (by omega)).trans HA.out)
  have HC2 := Lib.hid ((hb2.block _ hz1).trans HC.out)
  have hz2 : w.heap.size + 1 < w2.heap.size := Nat.lt_of_lt_of_le hz1 hb2.size
  clear hb2 Q Y HA HC HB hz1 KV KG KS g1 g2 g3 g4
  cases vm with
  | false =>
   have HRF : Hid (res = false) := by rw [Hid, HR1.out]; rfl
   go_wp2
   go_ret
   exact ⟨ret_bool HRF.out.symm, HB2.out⟩
  | true =>
   have HR2 : Hid (res = (ls.all lf && nt.all nf)) := HR1.out
   clear HR1
   have hA2 := HA2.out
   obtain ⟨l0, l1, l2, l3⟩ := LayB.cells (L := L) (A := A) (c := c) hA2
   clear hA2
   go_wp2_with fail
   refine (HWI.out w2 HB2.out).mono ?_
   rintro r w3 ⟨rfl, hb3⟩
   have hz3 : w.heap.size + 1 < w3.heap.size := Nat.lt_of_lt_of_le hz2 hb3.size
   have HC3 := Lib.hid ((hb3.block _ hz2).trans HC2.out)
   have HB3 := Lib.hid (HB2.out.trans (hb3.mono HB2.out.size))
   clear hb3 HA2 HC2 HB2 l0 l1 l2 l3 hz2
   go_wp2
   go_loopw [6] (fun s6 wr => ∃ k : Nat, k ≤ ls.length ∧ s6 = .int .i64 k ∧ (ls.take k).all lf = true ∧ Below w3.heap.size w3 wr) (fun s6 _ => ls.length - (intOf s6).toNat)
   case atStart => exact ⟨0, by omega, rfl, rfl, Below.refl _ _⟩
   case round =>
    obtain ⟨k, hk, rfl, hall, hbw⟩ := hrel
    have HAL := Lib.hid hall
    have HBW := Lib.hid hbw
    have hzw := hbw.size
    have HBX := Lib.hid (HB3.out.trans (HBW.out.mono (by omega)))
    have y0 : wr.cell? ⟨w.heap.size + 1, 0, none⟩ = some (.slice A1 ls.length c1) := by rw [cell_of_row _ _ _ _ _ _ ((HBW.out.block _ hz3).trans HC3.out)]; rfl
    clear hall hbw
    by_cases hkn : k < ls.length
    case neg =>
     have hkI : ¬ (k : Int) < (ls.length : Int) := by omega
     obtain rfl : k = ls.length := by omega
     have HR3 : Hid (res = nt.all nf) := by have h0 := HAL.out; rw [List.take_of_length_le (Nat.le_refl _)] at h0; rw [Hid, HR2.out, h0]; rfl
     clear hkn
     go_wp2
     clear hkI y0
     generalize wr = wo at *
     go_loopw [7] (fun s7 wr => ∃ k : Nat, k ≤ nt.length ∧ s7 = .int .i64 k ∧ (nt.take k).all nf = true ∧ Below w3.heap.size w3 wr) (fun s7 _ => nt.length - (intOf s7).toNat)
     case atStart => exact ⟨0, by omega, rfl, rfl, HBW.out⟩
     case round =>
      obtain ⟨k, hk3, rfl, hall, hbw⟩ := hrel
      have HAN := Lib.hid hall
      have HBW2 := Lib.hid hbw
      have hzw2 := hbw.size
      have HBX2 := Lib.hid (HB3.out.trans (HBW2.out.mono (by omega)))
      have y2 : wr.cell? ⟨w.heap.size + 1, 2, none⟩ = some (.slice A3 nt.length c3) := by rw [cell_of_row _ _ _ _ _ _ ((HBW2.out.block _ hz3).trans HC3.out)]; rfl
      clear hall hbw
      by_cases hkn : k < nt.length
      case neg =>
       have hkI : ¬ (k : Int) < (nt.length : Int) := by omega
       obtain rfl : k = nt.length := by omega
       have HRT : Hid (res = true) := by have h0 := HAN.out; rw [List.take_of_length_le (Nat.le_refl _)] at h0; rw [Hid, HR3.out, h0]
       clear hkn
       go_wp2
       go_ret
       exact ⟨ret_bool HRT.out.symm, HBX2.out⟩
      case pos =>
       have hkI : (k : Int) < (nt.length : Int) := by omega
       have hk0 : ¬ (k : Int) < 0 := by omega
       obtain ⟨x, hxk⟩ : ∃ x, nt[k]? = some x := ⟨_, List.getElem?_eq_getElem hkn⟩
       obtain ⟨b, off, Ai, ci, rfl, hbB, q0, -⟩ := (HNS.out.below HBX2.out hB).at_ hxk
       have HXK := Lib.hid hxk
       have HTK : Hid ((nt.take (k + 1)).all nf = nf x) := by
        have h0 := HAN.out
        unfold Hid
        rw [List.take_add_one, hxk, List.all_append, h0]
        simp
       have HRX : Hid (nf x = false → res = false) := fun hf => by
        rw [HR3.out, List.all_eq_false.2 ⟨x, List.mem_of_getElem? HXK.out, by rw [hf]; simp⟩]
       have HNX := Lib.hid (HNF.out x)
       generalize nf x = nx at *
       clear hxk
       by_cases e1 : (x.length : Int) < 1
       ·have HF : Hid (res = false) := HRX.out (by rw [HNX.out, decide_eq_false (by omega)]; rfl)
        go_wp2
        go_ret
        exact ⟨ret_bool HF.out.symm, HBX2.out⟩
       ·by_cases e2 : (256 : Int) < (x.length : Int)
        ·have HF : Hid (res = false) := HRX.out (by rw [HNX.out, decide_eq_false (p := x.length ≤ 256) (by omega)]; simp)
         go_wp2
         go_ret
         exact ⟨ret_bool HF.out.symm, HBX2.out⟩
        ·have HT : Hid ((nt.take (k + 1)).all nf = true) := by rw [Hid, HTK.out, HNX.out, decide_eq_true (p := x.length ≤ 256) (by omega), decide_eq_true (p := 1 ≤ x.length) (by omega)]; rfl
         go_wp2
         go_roundw
         case rel => exact ⟨k + 1, by omega, by go_num, HT.out, HBW2.out⟩
         case measure => simp [intOf] <;> omega
    case pos =>
     have hkI : (k : Int) < (ls.length : Int) := by omega
     have hk0 : ¬ (k : Int) < 0 := by omega
     obtain ⟨x, hxk⟩ : ∃ x, ls[k]? = some x := ⟨_, List.getElem?_eq_getElem hkn⟩
     obtain ⟨b, off, Av, cv, As, cs, rfl, hbB, q0, q1, -, -, -, -⟩ := (HLS.out.below HBX.out hB).row hxk
     have HXK := Lib.hid hxk
     have HTK : Hid ((ls.take (k + 1)).all lf = lf x) := by
      have h0 := HAL.out
      unfold Hid
      rw [List.take_add_one, hxk, List.all_append, h0]
      simp
     have HRX : Hid (lf x = false → res = false) := fun hf => by
      rw [HR2.out, List.all_eq_false.2 ⟨x, List.mem_of_getElem? HXK.out, by rw [hf]; simp⟩]
      rfl
     have HLX := Lib.hid (HLF.out x)
     generalize lf x = lx at *
     clear hxk
     by_cases e1 : x.vs.length = wd
     ·by_cases e2 : x.ss.length = wd
      ·obtain ⟨g1, g2, g3, g4⟩ := len_eq e1
       obtain ⟨f1, f2, f3, f4⟩ := len_eq e2
       have HT : Hid ((ls.take (k + 1)).all lf = true) := by rw [Hid, HTK.out, HLX.out, decide_eq_true e1, decide_eq_true e2]; rfl
       clear e1 e2
       go_wp2
       go_roundw
       case rel => exact ⟨k + 1, by omega, by go_num, HT.out, HBW.out⟩
       case measure => simp [intOf] <;> omega
      ·obtain ⟨g1, g2, g3, g4⟩ := len_eq e1
       obtain ⟨f1, f2, f3, f4⟩ := len_ne e2
       have HF : Hid (res = false) := HRX.out (by rw [HLX.out, decide_eq_false e2]; simp)
       clear e1 e2
       go_wp2
       go_ret
       exact ⟨ret_bool HF.out.symm, HBX.out⟩
     ·obtain ⟨g1, g2, g3, g4⟩ := len_ne e1
      have HF : Hid (res = false) := HRX.out (by rw [HLX.out, decide_eq_false e1]; rfl)
      clear e1
      go_wp2
      go_ret
      exact ⟨ret_bool HF.out.symm, HBX.out⟩
end Go.Proofs.YtjgjofepedcfnaaGreat
namespace Go.Proofs.YtjgjofepedcfnaaGreat
open Go.RowKit
theorem byt_keep {w w' : World} {A : Option Addr} {l : List Nat} (h : BytS w w.heap.size A l) (hb : Below w.heap.size w w') : BytS w' w'.heap.size A l := RdS.more (RdS.below' h hb (Nat.le_refl _)) hb.size
theorem RdS.drop1 {w : World} {B b off : Nat} {rows : List (List Value)} (h : RdS w B 1 (some ⟨b, off, none⟩) rows) (k : Nat) : RdS w B 1 (some ⟨b, off + k, none⟩) (rows.drop k) := by
 refine ⟨fun r hr => h.1 r (List.mem_of_mem_drop hr), fun hn => ?_⟩
 rw [List.length_drop] at hn
 obtain ⟨b', off', he, hb, hc⟩ := h.2 (by omega)
 cases he
 refine ⟨b, off + k, rfl, hb, fun i r hr j v hv => ?_⟩
 rw [List.getElem?_drop] at hr
 have := hc (k + i) r hr j v hv
 rw [show off + k + i * 1 + j = off + (k + i) * 1 + j by omega]
 exact this
theorem conv_nn (n : Nat) (h : n < 9223372036854775808) (W : World) : (convert 3 23 (.int .i64 (n : Int))).run Tryz.prog W = .ok (.int .u64 (n : Int)) W := conv_iu64 (n : Int) (by omega) (by omega) W
theorem drop_at {α : Type} {l : List α} {k : Nat} {x : α} (h : l[k]? = some x) : l.drop k = x :: l.drop (k + 1) := by
 obtain ⟨hk, rfl⟩ := List.getElem?_eq_some_iff.1 h
 exact List.drop_eq_getElem_cons hk
theorem results_cell_tmp2 {fn : Func} {p u x : Tmp} {ty : TypeId} (h : fn.results = #[.cell p ty, .tmp u, .tmp x]) (tmps : Array Value) (P : Program) (w : World) :
  (results fn tmps).run P w =
   ((asAddr (tmps.getD p undef)).run P w).andThen fun a w₁ => ((loadVar ty a).run P w₁).andThen fun v w₂ => .ok (.tuple #[v, tmps.getD u undef, tmps.getD x undef]) w₂ := by
 simp only [results, h]
 simp [Sem.run_bind, Result.andThen]
end Go.Proofs.YtjgjofepedcfnaaGreat
namespace Go.Proofs.YtjgjofepedcfnaaGreat
open Go.RowKit
theorem oper_ap1 {P : Program} {w : World} {base size bytes : Nat} {t e : TypeId} {v : Value} {rows : List (List Value)} {o : Oper} {a : Act} {K : Act → World → Prop} {Q : Exit → Act → World → Prop} (s x : Operand) (t' : TypeId) (_htt : t' = t)
  (ho : o.op = .call { callee := .builtin .append, args := #[s, x], argTypes := #[t, t] }) (E : Elem P t e size bytes)
  (hs : a.eval s = v) (hown : OwS w base e size v rows) (cs : List Value) (e' : TypeId) (hcs : cs.length = size) (g : Nat) (hx : a.eval x = .slice (some ⟨g, 0, none⟩) 1 1) (hg : g = w.heap.size)
  (h1 : ∀ u ∈ cs, u.oneCell' = true) (h63 : rows.length + 1 ≤ maxLen) (hbytes : (rows.length + 1) * bytes ≤ 140737488355328) (hbase : base ≤ w.heap.size)
  (h : ∀ v' w', OwS w' base e size v' (rows ++ [cs]) → (w.alloc (.cells cs.toArray e')).grownBy w' v.ownBlock → (v'.ownBlock = v.ownBlock ∨ v'.ownBlock = some (w.heap.size + 1)) → K (a.put o.dst v') w') : Oper.wp P o a (w.alloc (.cells cs.toArray e')) K Q := by
 subst hg
 refine oper_apS s x t ho E hs (hown.alloc _) (w.heap.size + 1) _ 1 1 [cs] hx ⟨by simp [hcs], fun _ => ⟨w.heap.size, 0, rfl, by omega, ?_⟩⟩ rfl (by simpa using h1) (by simpa using h63) (by simpa using hbytes) (by simp; omega) ?_
 ·intro i r hi j u hj
  match i, hi with
  | 0, hi =>
   simp at hi
   subst hi
   rw [cell_of_row _ w.heap.size _ cs.toArray e' (0, 0) (heap_alloc_new w _)]
   simpa using hj
 ·intro v' w' h2 h3 h4
  exact h v' w' h2 h3 (by simpa using h4)
theorem Pl.fin3 {e1 s1 e2 s2 : Nat} {a b : List (List Value)} {tS : TypeId} {z0 z1 z2 u0 u1 u2 : Value} {B : Nat} {w0 w : World} {eA eB : Option Nat} {vA vB : Option Value} {k : Nat} (h : Pl e1 s1 e2 s2 a b tS #[z0, z1, z2] B w0 w eA eB vA vB (some k)) : Pl e1 s1 e2 s2 a b tS #[u0, u1, u2] B w0 (((w.setCell ⟨k, 0, none⟩ u0).setCell ⟨k, 1, none⟩ u1).setCell ⟨k, 2, none⟩ u2) eA eB vA vB (some k) :=
 ((h.set (j := 0) rfl u0).set (j := 1) rfl u1).set (j := 2) rfl u2
theorem Pl.box3 {e1 s1 e2 s2 : Nat} {a b : List (List Value)} {tS : TypeId} {z0 z1 z2 : Value} {B : Nat} {w0 w : World} {eA eB : Option Nat} {vA vB : Option Value} {S : Option Nat} (h : Pl e1 s1 e2 s2 a b tS #[z0, z1, z2] B w0 w eA eB vA vB S) {k : Nat} (hk : S = some k) :
  (w.cell? ⟨k, 0, none⟩ = some z0 ∧ w.cell? ⟨k, 1, none⟩ = some z1 ∧ w.cell? ⟨k, 2, none⟩ = some z2) ∧ w.frozen? ⟨k, 0, none⟩ = false ∧ w.frozen? ⟨k, 1, none⟩ = false ∧ w.frozen? ⟨k, 2, none⟩ = false := by
 have hb := (h.bx k hk).1
 exact ⟨⟨by rw [cell_of_row _ _ _ _ _ _ hb]; rfl, by rw [cell_of_row _ _ _ _ _ _ hb]; rfl, by rw [cell_of_row _ _ _ _ _ _ hb]; rfl⟩, frozen_blk hb 0, frozen_blk hb 1, frozen_blk hb 2⟩
theorem leafRow_one {w : World} {B : Nat} {ls : List Leaf} {rows : List (Value × Value)} (hn : rows.length = ls.length) (hl : ∀ (k : Nat) (x : Value × Value) (L : Leaf), rows[k]? = some x → ls[k]? = some L → LfV w B (.agg #[x.1, x.2]) L) : ∀ r ∈ rows.map (fun x => [x.1, x.2]), ∀ u ∈ r, u.oneCell' = true := by
 intro r hr u hu
 obtain ⟨x, hx, rfl⟩ := List.mem_map.1 hr
 obtain ⟨k, hk, rfl⟩ := List.getElem_of_mem hx
 obtain ⟨A, c, A', c', he, -⟩ := hl k _ _ (List.getElem?_eq_getElem hk) (List.getElem?_eq_getElem (by omega))
 injection he with he
 have e1 : ∃ n, rows[k].1 = .slice A n c := ⟨_, by have := congrArg (fun x => x[0]?) he; simpa using this⟩
 have e2 : ∃ n, rows[k].2 = .slice A' n c' := ⟨_, by have := congrArg (fun x => x[1]?) he; simpa using this⟩
 obtain ⟨n1, e1⟩ := e1
 obtain ⟨n2, e2⟩ := e2
 simp only [List.mem_cons, List.not_mem_nil, or_false] at hu
 rcases hu with rfl | rfl
 ·rw [e1]; rfl
 ·rw [e2]; rfl
theorem ntRow_one {vs : List (Option Addr × Nat)} {nt : List (List Nat)} : ∀ r ∈ (vs.zip nt).map ntRow, ∀ u ∈ r, u.oneCell' = true := by
 intro r hr u hu
 obtain ⟨x, hx, rfl⟩ := List.mem_map.1 hr
 rw [ntRow, List.mem_singleton] at hu
 subst hu
 rfl
def StK (F : Nat → Prop) (w : World) (v : Value) (S : St) : Prop := ∃ (A1 : Option Addr) (c1 : Nat) (A2 : Option Addr) (c2 : Nat) (A3 : Option Addr) (c3 : Nat) (rows : List (Value × Value)) (vs : List (Option Addr × Nat)), v = .agg #[.slice A1 S.ls.length c1, .slice A2 S.ms.length c2, .slice A3 S.nt.length c3] ∧ rows.length = S.ls.length ∧ vs.length = S.nt.length ∧
 (Stb F w fun W => RdS W W.heap.size 2 A1 (rows.map fun x => [x.1, x.2])) ∧ (∀ (k : Nat) (x : Value × Value) (L : Leaf), rows[k]? = some x → S.ls[k]? = some L → Stb F w fun W => LfV W W.heap.size (.agg #[x.1, x.2]) L) ∧
 (Stb F w fun W => MvS W W.heap.size A2 S.ms) ∧ (Stb F w fun W => RdS W W.heap.size 1 A3 ((vs.zip S.nt).map ntRow)) ∧ ∀ (i : Nat) (p : Option Addr × Nat) (g : List Nat), vs[i]? = some p → S.nt[i]? = some g → Stb F w fun W => BytS W W.heap.size p.1 g
section
variable {F F' : Nat → Prop} {w w' : World} {v : Value} {S : St}
theorem StK.now (h : StK F w v S) : StV w w.heap.size v S := by
 obtain ⟨A1, c1, A2, c2, A3, c3, rows, vs, rfl, hn, hvn, h1, h2, h3, h4, h5⟩ := h
 exact ⟨A1, c1, A2, c2, A3, c3, rfl, ⟨rows, hn, h1.now, fun k x L hk hL => (h2 k x L hk hL).now⟩, h3.now, ⟨vs, hvn, h4.now, fun i p g hp hg => (h5 i p g hp hg).now⟩⟩
theorem StK.to (h : StK F w v S) (k : Agr F w w') (hF : ∀ i, i < w.heap.size → F' i → F i) : StK F' w' v S := by
 obtain ⟨A1, c1, A2, c2, A3, c3, rows, vs, rfl, hn, hvn, h1, h2, h3, h4, h5⟩ := h
 exact ⟨A1, c1, A2, c2, A3, c3, rows, vs, rfl, hn, hvn, h1.to k hF, fun j x L hj hL => (h2 j x L hj hL).to k hF, h3.to k hF, h4.to k hF, fun i p g hp hg => (h5 i p g hp hg).to k hF⟩
theorem StK.step (h : StK F w v S) (k : Agr F w w') : StK F w' v S := h.to k fun _ _ e => e
theorem StK.call (h : StK F w v S) (k : Below w.heap.size w w') : StK F w' v S := h.step (.of k)
theorem StK.less (h : StK F w v S) (hF : ∀ i, i < w.heap.size → F' i → F i) : StK F' w v S := h.to (Agr.refl _ _) hF
theorem StV.stk {B : Nat} (h : StV w B v S) (hB : B ≤ w.heap.size) (hF : ∀ k, k < w.heap.size → F k → B ≤ k) : StK F w v S := by
 obtain ⟨A1, c1, A2, c2, A3, c3, rfl, ⟨rows, hn, h1, h2⟩, h3, ⟨vs, hvn, h4, h5⟩⟩ := h
 exact ⟨A1, c1, A2, c2, A3, c3, rows, vs, rfl, hn, hvn, stb_in hB hF fun W hW => RdS.more (RdS.below' h1 hW (Nat.le_refl _)) (Nat.le_trans hB hW.size), fun k x L hk hL => stb_in hB hF fun W hW => ((h2 k x L hk hL).below hW (Nat.le_refl _)).more (Nat.le_trans hB hW.size), stb_in hB hF fun W hW => RdS.more (RdS.below' h3 hW (Nat.le_refl _)) (Nat.le_trans hB hW.size),
  stb_in hB hF fun W hW => RdS.more (RdS.below' h4 hW (Nat.le_refl _)) (Nat.le_trans hB hW.size), fun i p g hp hg => stb_in hB hF fun W hW => RdS.more (RdS.below' (h5 i p g hp hg) hW (Nat.le_refl _)) (Nat.le_trans hB hW.size)⟩
theorem StK.zero (F : Nat → Prop) (w : World) : StK F w (.agg #[.slice none 0 0, .slice none 0 0, .slice none 0 0]) St.zero := (StV.zero w 0).stk (Nat.zero_le _) fun _ _ _ => Nat.zero_le _
theorem StW.stk {E : Nat → Prop} {lv mv nv : Value} (h : StW w E lv mv nv S) (hF : ∀ k, F k → E k ∧ ¬ FS lv nv k) : StK F w (.agg #[lv, mv, nv]) S := by
 obtain ⟨⟨rows, hn, ho, hof, hl⟩, ⟨A2, c2, rfl, hm⟩, ⟨vs, hvn, hvo, hvf, hvl⟩⟩ := h
 obtain ⟨A1, c1, rfl, -⟩ := ho.form
 obtain ⟨A3, c3, rfl, -⟩ := hvo.form
 have hEF : ∀ i, i < w.heap.size → F i → FE E (.slice A1 (rows.map fun x => [x.1, x.2]).length c1) (.slice A3 ((vs.zip S.nt).map ntRow).length c3) i := fun i _ e => .inl (hF i e).1
 refine ⟨A1, c1, A2, c2, A3, c3, rows, vs, by simp [hn, hvn], hn, hvn, RdS.stb ho.reads fun a ha hf => (hF _ hf).2 (.inl (by rw [ha]; rfl)), fun k x L hk hL => (hl k x L hk hL).mono hEF, hm.mono hEF, RdS.stb hvo.reads fun a ha hf => (hF _ hf).2 (.inr (by rw [ha]; rfl)), fun i p g hp hg => (hvl i p g hp hg).mono hEF⟩
end
theorem StB.from {w wx : World} {X W0 : Nat} {E E0 : Nat → Prop} {T : TypeId} {va vb mv : Value} {ls : List Leaf} {ms : List Mv} {nt : List (List Nat)} {rows : List (Value × Value)} {vs : List (Option Addr × Nat)}
  (hb : Below w.heap.size w wx) (hW : w.heap.size ≤ W0) (hn : rows.length = ls.length) (hl : ∀ (k : Nat) (x : Value × Value) (L : Leaf), rows[k]? = some x → ls[k]? = some L → Stb E0 w fun W => LfV W W.heap.size (.agg #[x.1, x.2]) L)
  (hvn : vs.length = nt.length) (hvl : ∀ (i : Nat) (p : Option Addr × Nat) (g : List Nat), vs[i]? = some p → nt[i]? = some g → Stb E0 w fun W => BytS W W.heap.size p.1 g) (hm : ∃ A c, mv = .slice A ms.length c ∧ Stb E0 w fun W => MvS W W.heap.size A ms)
  (hE : ∀ k, E k → w.heap.size ≤ k ∨ E0 k) (hx : wx.heap[X]? = some (.cells #[va, mv, vb] T (0, 0))) (hX : w.heap.size ≤ X) (ha : OwS wx W0 80 2 va (rows.map fun x => [x.1, x.2])) (hbv : OwS wx W0 26 1 vb ((vs.zip nt).map ntRow)) (hT : T ≠ 80 ∧ T ≠ 26) :
  StB wx X E T va mv vb ⟨ls, ms, nt⟩ := by
 have hF : ∀ k, k < w.heap.size → FX X E va vb k → E0 k := fun k hk0 hk => by
  rcases hk with rfl | hk | hk | hk
  ·omega
  ·rcases hE k hk with h | h
   ·omega
   ·exact h
  ·have := (ha.lt hk).1; omega
  ·have := (hbv.lt hk).1; omega
 refine ⟨hx, ⟨rows, hn, ha.mono (Nat.zero_le _), FX.l, fun k x L h1 h2 => ?_⟩, ?_, ⟨vs, hvn, hbv.mono (Nat.zero_le _), FX.n, fun k x L h1 h2 => ?_⟩, hT.1, hT.2⟩
 ·exact (hl k x L h1 h2).to (.of hb) hF
 ·obtain ⟨A, c, rfl, hm⟩ := hm
  exact ⟨A, c, rfl, hm.to (.of hb) hF⟩
 ·exact (hvl k x L h1 h2).to (.of hb) hF
end Go.Proofs.YtjgjofepedcfnaaGreat
