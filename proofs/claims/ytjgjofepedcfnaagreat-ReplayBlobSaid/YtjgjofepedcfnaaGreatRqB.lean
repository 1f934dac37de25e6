/- Walk of tegularef50.Apply. -/
import Derived.Test.YtjgjofepedcfnaaGreatGRo
namespace Go.Proofs.YtjgjofepedcfnaaGreat
open Go.RowKit
structure ApJ (w wr : World) (L : LayD) (A : Option Addr) (c : Nat) (sc rc : Array Value) : Prop where
 lay : LayB wr w.heap.size L A c
 sb : wr.heap[w.heap.size + 1]? = some (.cells sc 45 (0, 0))
 rcd : wr.heap[w.heap.size + 1 + 1]? = some (.cells rc 28 (0, 0))
 res : wr.heap[w.heap.size + 1 + 1 + 1]? = some (.cells #[.slice none 0 0, .slice none 0 0, .slice none 0 0] 45 (0, 0))
 bel : Below w.heap.size w wr
theorem ApJ.lt {w wr : World} {L : LayD} {A : Option Addr} {c : Nat} {sc rc : Array Value} (h : ApJ w wr L A c sc rc) : w.heap.size + 1 + 1 + 1 < wr.heap.size := (Array.getElem?_eq_some_iff.1 h.res).1
theorem ApJ.call {w wr w' : World} {L : LayD} {A : Option Addr} {c : Nat} {sc rc : Array Value} (h : ApJ w wr L A c sc rc) (hb : Below wr.heap.size wr w') : ApJ w w' L A c sc rc := by
 have hl := h.lt
 exact ⟨h.lay.below hb (by omega), (hb.block _ (by omega)).trans h.sb, (hb.block _ (by omega)).trans h.rcd, (hb.block _ hl).trans h.res, h.bel.trans (hb.mono (by omega))⟩
structure ApK (E : Nat → Prop) (w wr : World) (L : LayD) (A : Option Addr) (c : Nat) (rc : Array Value) (X : Nat) (lv mv nv : Value) (S : St) : Prop where
 lay : LayB wr w.heap.size L A c
 rcd : wr.heap[w.heap.size + 1 + 1]? = some (.cells rc 28 (0, 0))
 res : wr.heap[w.heap.size + 1 + 1 + 1]? = some (.cells #[.slice none 0 0, .slice none 0 0, .slice none 0 0] 45 (0, 0))
 bel : Below w.heap.size w wr
 st : StB wr X (apE w E) 45 lv mv nv S
 gx : w.heap.size + 4 ≤ X
 go : ∀ k, FS lv nv k → w.heap.size + 4 ≤ k
 el : ∀ k, E k → k < w.heap.size
section
variable {E : Nat → Prop} {w wr w' : World} {L : LayD} {A : Option Addr} {c X : Nat} {rc : Array Value} {lv mv nv : Value} {S : St}
theorem ApK.lt (h : ApK E w wr L A c rc X lv mv nv S) : w.heap.size + 1 + 1 + 1 < wr.heap.size := (Array.getElem?_eq_some_iff.1 h.res).1
theorem ApK.call (h : ApK E w wr L A c rc X lv mv nv S) (hb : Below wr.heap.size wr w') : ApK E w w' L A c rc X lv mv nv S := by
 have hl := h.lt
 exact ⟨h.lay.below hb (by omega), (hb.block _ (by omega)).trans h.rcd, (hb.block _ hl).trans h.res, h.bel.trans (hb.mono (by omega)), h.st.call hb, h.gx, h.go, h.el⟩
theorem ApK.turn {lv' mv' nv' : Value} {S' : St} (h : ApK E w wr L A c rc X lv mv nv S) (hb : Below (w.heap.size + 4) wr w') (hs : StB w' X (apE w E) 45 lv' mv' nv' S') (hg : ∀ k, FS lv' nv' k → w.heap.size + 4 ≤ k) : ApK E w w' L A c rc X lv' mv' nv' S' :=
 ⟨(hb.block _ (by omega)).trans h.lay, (hb.block _ (by omega)).trans h.rcd, (hb.block _ (by omega)).trans h.res, h.bel.trans (hb.mono (by omega)), hs, h.gx, hg, h.el⟩
theorem ApK.elt (h : ApK E w wr L A c rc X lv mv nv S) : ∀ k, apE w E k → k < wr.heap.size := fun k hk => by
 have := h.lt
 rcases hk with rfl | hk
 ·exact this
 ·have := h.el k hk; omega
theorem ApK.fin (h : ApK E w wr L A c rc X lv mv nv S) : StK E (((wr.setCell ⟨w.heap.size + 1 + 1 + 1, 0, none⟩ lv).setCell ⟨w.heap.size + 1 + 1 + 1, 1, none⟩ mv).setCell ⟨w.heap.size + 1 + 1 + 1, 2, none⟩ nv) (.agg #[lv, mv, nv]) S ∧
  Below w.heap.size w (((wr.setCell ⟨w.heap.size + 1 + 1 + 1, 0, none⟩ lv).setCell ⟨w.heap.size + 1 + 1 + 1, 1, none⟩ mv).setCell ⟨w.heap.size + 1 + 1 + 1, 2, none⟩ nv) := by
 have hg := h.gx
 have hn := h.st.not h.res (by decide) (by decide)
 exact ⟨((((h.st.setR (.inl rfl) (by omega) hn 0 lv).setR (.inl rfl) (by omega) hn 1 mv).setR (.inl rfl) (by omega) hn 2 nv).val (E0 := E) (fun k hk => .inr hk)).stk fun k hk => ⟨hk, fun e => by have := h.go k e; have := h.el k hk; omega⟩, ((h.bel.setCell (by simp; omega) _).setCell (by simp; omega) _).setCell (by simp; omega) _⟩
end
theorem rcd_wn {r : Rcd} (hr : rcdB r = true) {x : Pw} (hx : x ∈ r.ws) : ∃ g p : Nat, x.g = (g : Int) ∧ x.p = (p : Int) := by
 unfold rcdB at hr
 simp only [Bool.and_eq_true, List.all_eq_true] at hr
 have h1 := hr.1.2 x hx
 unfold wrB pieceB inB at h1
 simp only [Bool.and_eq_true, decide_eq_true_eq] at h1
 exact ⟨x.g.toNat, x.p.toNat, by omega, by omega⟩
theorem rcd_mn {r : Rcd} (hr : rcdB r = true) {x : Mv} (hx : x ∈ r.ms) : ∃ g p : Nat, x.g = (g : Int) ∧ x.p = (p : Int) := by
 unfold rcdB at hr
 simp only [Bool.and_eq_true, List.all_eq_true] at hr
 have h1 := hr.2 x hx
 unfold mvB pieceB inB at h1
 simp only [Bool.and_eq_true, decide_eq_true_eq] at h1
 exact ⟨x.g.toNat, x.p.toNat, by omega, by omega⟩
theorem ge_no {a b : Nat} (h : a < b) : decide ((b : Int) ≤ (a : Int)) = false ∧ decide (b ≤ a) = false := ⟨decide_eq_false (by omega), decide_eq_false (by omega)⟩
theorem ge_yes {a b : Nat} (h : b ≤ a) : decide ((b : Int) ≤ (a : Int)) = true ∧ decide (b ≤ a) = true := ⟨decide_eq_true (by omega), decide_eq_true (by omega)⟩
theorem pw_all {w : World} {A : Option Addr} {l : List Pw} {k : Nat} {x : Pw} (h : PwS w w.heap.size A l) (hx : l[k]? = some x) : ∃ b off, A = some ⟨b, off, none⟩ ∧ b < w.heap.size ∧ ∀ W, Below w.heap.size w W → W.cell? ⟨b, off + k * 11, none⟩ = some (.int .i64 x.g) ∧ W.cell? ⟨b, off + k * 11 + 1, none⟩ = some (.int .i64 x.p) := by
 obtain ⟨b, off, rfl, hb, hc⟩ := PwS.at_ h hx
 exact ⟨b, off, rfl, hb, fun W hW => ⟨(hW.cell (p := ⟨b, off + k * 11, none⟩) hb).trans (by simpa using hc 0 _ rfl), (hW.cell (p := ⟨b, off + k * 11 + 1, none⟩) hb).trans (hc 1 _ rfl)⟩⟩
theorem mv_all {w : World} {A : Option Addr} {l : List Mv} {k : Nat} {x : Mv} (h : MvS w w.heap.size A l) (hx : l[k]? = some x) : ∃ b off, A = some ⟨b, off, none⟩ ∧ b < w.heap.size ∧ ∀ W, Below w.heap.size w W → W.cell? ⟨b, off + k * 4, none⟩ = some (.int .i64 x.g) ∧ W.cell? ⟨b, off + k * 4 + 1, none⟩ = some (.int .i64 x.p) := by
 obtain ⟨b, off, rfl, hb, c0, c1, -, -⟩ := MvS.at_ h hx
 exact ⟨b, off, rfl, hb, fun W hW => ⟨(hW.cell (p := ⟨b, off + k * 4, none⟩) hb).trans c0, (hW.cell (p := ⟨b, off + k * 4 + 1, none⟩) hb).trans c1⟩⟩
set_option maxHeartbeats 8000000 in
set_option maxRecDepth 100000 in
theorem r50apply (E : Nat → Prop) {L : LayD} {A : Option Addr} {B c : Nat} {rv v : Value} {S : St} {r : Rcd} (w : World) (hx : LayX L) (hv : GsV w B A L.gs) (h : StK E w v S) (hE : ∀ k, E k → k < w.heap.size) (hr : RcdV w B rv r) (hB : B ≤ w.heap.size) (hro : RcdOk r)
  (n1 : S.ls.length ≤ 100000) (n2 : S.ms.length ≤ 9000) (n3 : S.nt.length ≤ 100000) :
  Calls Tryz.prog 18 #[layAgg L A c, v, rv] w fun e w' => (∃ v', e = .returned (.tuple #[v', .int .i64 (applyR L S r).2]) ∧ StK E w' v' (applyR L S r).1) ∧ Below w.heap.size w w' := by
 have hG := hx.ok.G
 have hw16 := hx.ok.w.2
 replace hv := hv.more hB
 replace hr := hr.more hB
 clear hB
 have hB := Nat.le_refl w.heap.size
 have h00 := h
 replace h := h.now
 have hr0 := hr
 obtain ⟨A1, c1, A2, c2, A3, c3, rows0, vs0, rfl, hrn0, hvn0, hk1, hk2, hk3, hk4, hk5⟩ := h00
 obtain ⟨Aw, cw, Am, cm, An, cn, rfl, hrw, hrm, hrn⟩ := hr0
 obtain ⟨ls0, ms0, nt0⟩ := S
 obtain ⟨gen, seq, ws, ms, nt⟩ := r
 obtain ⟨hq, nw, nm, nn, dok⟩ := hro
 simp only at hrn0 hvn0 hk1 hk2 hk3 hk4 hk5 hrw hrm hrn hq nw nm nn dok n1 n2 n3
 simp only at h hr ⊢
 have HVA : Hid (∀ W, Below w.heap.size w W → Calls Tryz.prog 23 #[.agg #[.int .i64 L.disks, .slice A L.n c, .int .i64 L.tiles, .int .i64 L.spare], .agg #[.slice A1 ls0.length c1, .slice A2 ms0.length c2, .slice A3 nt0.length c3]] W fun e w' => e = .returned (.bool (stOk L ⟨ls0, ms0, nt0⟩)) ∧ Below W.heap.size W w') := fun W hW => r50valid W hx (hv.below hW hB) (h.below hW hB) (Nat.le_trans hB hW.size) n1 (by simp only; omega) (by simp only; omega)
 have HRV : Hid (∀ W, Below w.heap.size w W → Calls Tryz.prog 44 #[.agg #[.int .u64 gen, .int .u64 seq, .slice Aw ws.length cw, .slice Am ms.length cm, .slice An nt.length cn]] W fun e w' => e = .returned (.bool (rcdB ⟨gen, seq, ws, ms, nt⟩)) ∧ Below W.heap.size W w') := fun W hW => r27valid W (hr.below hW hB) (Nat.le_trans hB hW.size) nw nm nn hq
 have HWI : Hid (∀ W, Below w.heap.size w W → Calls Tryz.prog 41 #[.agg #[.int .i64 L.disks, .slice A L.n c, .int .i64 L.tiles, .int .i64 L.spare]] W fun r w' => r = .returned (.int .i64 (L.w : Int)) ∧ Below W.heap.size W w') := fun W hW => r21width W hx (hv.below hW hB) (Nat.le_trans hB hW.size)
 have HRE : Hid (∀ W, Below w.heap.size w W → PwS W W.heap.size Aw ws ∧ MvS W W.heap.size Am ms ∧ BytS W W.heap.size An nt) := fun W hW => ⟨RdS.more (RdS.below' hrw hW hB) (Nat.le_trans hB hW.size), RdS.more (RdS.below' hrm hW hB) (Nat.le_trans hB hW.size), RdS.more (RdS.below' hrn hW hB) (Nat.le_trans hB hW.size)⟩
 have HGS : Hid (∀ W, Below w.heap.size w W → GsV W W.heap.size A L.gs) := fun W hW => (hv.below hW hB).more (Nat.le_trans hB hW.size)
 have HX := Lib.hid hx
 have HLS : Hid (∃ rows : List (Value × Value), rows.length = ls0.length ∧ RdS w w.heap.size 2 A1 (rows.map fun x => [x.1, x.2]) ∧ ∀ (k : Nat) (x : Value × Value) (L : Leaf), rows[k]? = some x → ls0[k]? = some L → Stb E w fun W => LfV W W.heap.size (.agg #[x.1, x.2]) L) := ⟨rows0, hrn0, hk1.now, hk2⟩
 have HNS : Hid (∃ vs : List (Option Addr × Nat), vs.length = nt0.length ∧ RdS w w.heap.size 1 A3 ((vs.zip nt0).map ntRow) ∧ ∀ (i : Nat) (p : Option Addr × Nat) (g : List Nat), vs[i]? = some p → nt0[i]? = some g → Stb E w fun W => BytS W W.heap.size p.1 g) := ⟨vs0, hvn0, hk4.now, hk5⟩
 have HMS := Lib.hid hk3
 have HEL := Lib.hid hE
 have HDK := Lib.hid dok
 have HAR : Hid (applyR L ⟨ls0, ms0, nt0⟩ ⟨gen, seq, ws, ms, nt⟩ = if stOk L ⟨ls0, ms0, nt0⟩ = true then applyS L ⟨ls0, ms0, nt0⟩ ⟨gen, seq, ws, ms, nt⟩ else (St.zero, 1)) := rfl
 have HOL := Lib.hid (fun (h : stOk L ⟨ls0, ms0, nt0⟩ = true) => (stOk_ls h))
 have HOM := Lib.hid (fun (h : stOk L ⟨ls0, ms0, nt0⟩ = true) => (stOk_ms h))
 have HAS : Hid (applyS L ⟨ls0, ms0, nt0⟩ ⟨gen, seq, ws, ms, nt⟩ = if rcdB ⟨gen, seq, ws, ms, nt⟩ && knownB L ⟨gen, seq, ws, ms, nt⟩ then (match wsF ls0 ws with
  | none => (St.zero, 8)
  | some ls => if (msF L ms0 ms).2 = 0 then (⟨ls, (msF L ms0 ms).1, ntF nt0 nt⟩, 0) else (St.zero, (msF L ms0 ms).2)) else (St.zero, 1)) := rfl
 have HRWN := Lib.hid (fun (h : rcdB ⟨gen, seq, ws, ms, nt⟩ = true) (x : Pw) (hx : x ∈ ws) => rcd_wn h (x := x) hx)
 have HRMN := Lib.hid (fun (h : rcdB ⟨gen, seq, ws, ms, nt⟩ = true) (x : Mv) (hx : x ∈ ms) => rcd_mn h (x := x) hx)
 have HRL := Lib.hid (fun (h1 : rcdB ⟨gen, seq, ws, ms, nt⟩ = true) => rcd_len h1)
 have HKB : Hid (knownB L ⟨gen, seq, ws, ms, nt⟩ = (ws.all (knW L) && ms.all (knM L))) := rfl
 have HWK := Lib.hid (fun (h1 : rcdB ⟨gen, seq, ws, ms, nt⟩ = true) (h2 : knownB L ⟨gen, seq, ws, ms, nt⟩ = true) (x : Pw) (hx : x ∈ ws) => rcd_w (L := L) h1 h2 (x := x) hx)
 have HKWX : Hid (∀ x : Pw, knW L x = (decide (x.g < (L.G : Int)) && decide (x.p < (L.w : Int)))) := fun _ => rfl
 have HKMX : Hid (∀ x : Mv, knM L x = (decide (x.g < (L.G : Int)) && decide (x.p < (L.w : Int)))) := fun _ => rfl
 generalize stOk L ⟨ls0, ms0, nt0⟩ = ok at *
 generalize applyR L ⟨ls0, ms0, nt0⟩ ⟨gen, seq, ws, ms, nt⟩ = rr at *
 obtain ⟨rb, hrb⟩ : ∃ q, rcdB ⟨gen, seq, ws, ms, nt⟩ = q := ⟨_, rfl⟩
 rw [hrb] at HRV HAS HRWN HRMN HRL HWK
 obtain ⟨kb, hkb⟩ : ∃ q, knownB L ⟨gen, seq, ws, ms, nt⟩ = q := ⟨_, rfl⟩
 rw [hkb] at HKB HAS HWK
 generalize applyS L ⟨ls0, ms0, nt0⟩ ⟨gen, seq, ws, ms, nt⟩ = ap at *
 generalize knW L = kw at *
 generalize knM L = km at *
 obtain ⟨wd, hwd⟩ : ∃ wd, L.w = wd := ⟨_, rfl⟩
 simp only [hwd] at HWI HKWX HKMX
 have HWD := Lib.hid hwd
 unfold layAgg
 clear hx hv h hr hk1 hk2 hk3 hk4 hk5 hrn0 hvn0 rows0 vs0 hE hrw hrm hrn dok hrb hkb hwd
 go_enter Tryz.func18, Tryz.ntmps18
 go_upto_region 1 with (fail)
 obtain ⟨w1, hw1', ha, hb, hc, hd, hbl, hz⟩ := four_laid w (.cells #[.int .i64 L.disks, .slice A L.n c, .int .i64 L.tiles, .int .i64 L.spare] 36) (.cells #[.slice A1 ls0.length c1, .slice A2 ms0.length c2, .slice A3 nt0.length c3] 45) (.cells #[.int .u64 gen, .int .u64 seq, .slice Aw ws.length cw, .slice Am ms.length cm, .slice An nt.length cn] 28) (.cells #[.slice none 0 0, .slice none 0 0, .slice none 0 0] 45)
 rw [hw1']
 have HJ : Hid (ApJ w w1 L A c #[.slice A1 ls0.length c1, .slice A2 ms0.length c2, .slice A3 nt0.length c3] #[.int .u64 gen, .int .u64 seq, .slice Aw ws.length cw, .slice Am ms.length cm, .slice An nt.length cn]) := ⟨ha, hb, hc, hd, hbl⟩
 obtain ⟨l0, l1, l2, l3⟩ := LayB.cells (L := L) ha
 have s0 : w1.cell? ⟨w.heap.size + 1, 0, none⟩ = some (.slice A1 ls0.length c1) := by rw [cell_of_row _ _ _ _ _ _ hb]; rfl
 have s1 : w1.cell? ⟨w.heap.size + 1, 1, none⟩ = some (.slice A2 ms0.length c2) := by rw [cell_of_row _ _ _ _ _ _ hb]; rfl
 have s2 : w1.cell? ⟨w.heap.size + 1, 2, none⟩ = some (.slice A3 nt0.length c3) := by rw [cell_of_row _ _ _ _ _ _ hb]; rfl
 clear ha hb hc hd hbl hz hw1'
 go_wp2_with fail
 refine (HVA.out w1 HJ.out.bel).mono ?_
 rintro e w2 ⟨rfl, hb2⟩
 have HJ2 := Lib.hid (HJ.out.call hb2)
 have hz2 := HJ2.out.lt
 have q0 : w2.cell? ⟨w.heap.size + 1 + 1, 0, none⟩ = some (.int .u64 gen) := by rw [cell_of_row _ _ _ _ _ _ HJ2.out.rcd]; rfl
 have q1 : w2.cell? ⟨w.heap.size + 1 + 1, 1, none⟩ = some (.int .u64 seq) := by rw [cell_of_row _ _ _ _ _ _ HJ2.out.rcd]; rfl
 have q2 : w2.cell? ⟨w.heap.size + 1 + 1, 2, none⟩ = some (.slice Aw ws.length cw) := by rw [cell_of_row _ _ _ _ _ _ HJ2.out.rcd]; rfl
 have q3 : w2.cell? ⟨w.heap.size + 1 + 1, 3, none⟩ = some (.slice Am ms.length cm) := by rw [cell_of_row _ _ _ _ _ _ HJ2.out.rcd]; rfl
 have q4 : w2.cell? ⟨w.heap.size + 1 + 1, 4, none⟩ = some (.slice An nt.length cn) := by rw [cell_of_row _ _ _ _ _ _ HJ2.out.rcd]; rfl
 clear l0 l1 l2 l3 s0 s1 s2 hb2 HJ
 cases ok with
 | false =>
  have HF : Hid (rr = (St.zero, 1)) := by rw [Hid, HAR.out]; rfl
  obtain ⟨z0, z1, z2⟩ := zero3 HJ2.out.res
  have f0 := frozen_blk HJ2.out.res 0
  have f1 := frozen_blk HJ2.out.res 1
  have f2 := frozen_blk HJ2.out.res 2
  have HBF : Hid (Below w.heap.size w _) := ((HJ2.out.bel.setCell (p := ⟨w.heap.size + 1 + 1 + 1, 0, none⟩) (by simp; omega) (.slice none 0 0)).setCell (p := ⟨w.heap.size + 1 + 1 + 1, 1, none⟩) (by simp; omega) (.slice none 0 0)).setCell (p := ⟨w.heap.size + 1 + 1 + 1, 2, none⟩) (by simp; omega) (.slice none 0 0)
  have HZ : Hid (∀ V : World, StK E V (.agg #[.slice none 0 0, .slice none 0 0, .slice none 0 0]) St.zero) := fun V => StK.zero E V
  go_wp2
  (try simp only [Exit.inBlock, Exit.then])
  refine bodyPost_ret (v := .tuple #[.agg #[.slice none 0 0, .slice none 0 0, .slice none 0 0], .int .i64 1]) ?_ rfl ⟨⟨_, by rw [HF.out], by rw [HF.out]; exact HZ.out _⟩, HBF.out⟩
  rw [results_cell_tmp rfl]
  go_simp
 | true =>
  have HRA : Hid (rr = ap) := by rw [Hid, HAR.out]; rfl
  have HLK := Lib.hid (HOL.out (by simp))
  have HMK := Lib.hid (HOM.out (by simp))
  go_wp2_with fail
  refine (HRV.out w2 HJ2.out.bel).mono ?_
  rintro e w3 ⟨rfl, hb3⟩
  have HJ := Lib.hid (HJ2.out.call hb3)
  have hz3 := HJ.out.lt
  clear q0 q1 q2 q3 q4 hb3 HJ2 hz2 HAR HOL HOM HVA
  cases rb with
  | false =>
   have HF : Hid (rr = (St.zero, 1)) := by rw [Hid, HRA.out, HAS.out]; rfl
   obtain ⟨z0, z1, z2⟩ := zero3 HJ.out.res
   have f0 := frozen_blk HJ.out.res 0
   have f1 := frozen_blk HJ.out.res 1
   have f2 := frozen_blk HJ.out.res 2
   have HBF : Hid (Below w.heap.size w _) := ((HJ.out.bel.setCell (p := ⟨w.heap.size + 1 + 1 + 1, 0, none⟩) (by simp; omega) (.slice none 0 0)).setCell (p := ⟨w.heap.size + 1 + 1 + 1, 1, none⟩) (by simp; omega) (.slice none 0 0)).setCell (p := ⟨w.heap.size + 1 + 1 + 1, 2, none⟩) (by simp; omega) (.slice none 0 0)
   have HZ : Hid (∀ V : World, StK E V (.agg #[.slice none 0 0, .slice none 0 0, .slice none 0 0]) St.zero) := fun V => StK.zero E V
   go_wp2
   (try simp only [Exit.inBlock, Exit.then])
   refine bodyPost_ret (v := .tuple #[.agg #[.slice none 0 0, .slice none 0 0, .slice none 0 0], .int .i64 1]) ?_ rfl ⟨⟨_, by rw [HF.out], by rw [HF.out]; exact HZ.out _⟩, HBF.out⟩
   rw [results_cell_tmp rfl]
   go_simp
  | true =>
   have HRWM := Lib.hid (HRWN.out (by simp))
   have HRMM := Lib.hid (HRMN.out (by simp))
   have hln := HRL.out (by simp)
   (try simp only at hln)
   have HRR : Hid (kb = false → rr = (St.zero, 1)) := fun hf => by rw [HRA.out, HAS.out, hf]; rfl
   have HGL : Hid (L.G = ls0.length) := HLK.out.1.symm
   have HKW2 : Hid (∀ x : Pw, kw x = (decide (x.g < (ls0.length : Int)) && decide (x.p < (wd : Int)))) := fun x => by rw [HKWX.out x, HGL.out]
   have HKM2 : Hid (∀ x : Mv, km x = (decide (x.g < (ls0.length : Int)) && decide (x.p < (wd : Int)))) := fun x => by rw [HKMX.out x, HGL.out]
   clear HRL HRWN HRMN HKWX HKMX
   go_wp2
   clear hz3
   go_loopw [8] (fun s8 wr => ∃ k : Nat, k ≤ ws.length ∧ s8 = .int .i64 k ∧ (ws.take k).all kw = true ∧ ApJ w wr L A c #[.slice A1 ls0.length c1, .slice A2 ms0.length c2, .slice A3 nt0.length c3] #[.int .u64 gen, .int .u64 seq, .slice Aw ws.length cw, .slice Am ms.length cm, .slice An nt.length cn]) (fun s8 _ => ws.length - (intOf s8).toNat)
   case atStart => exact ⟨0, by omega, rfl, rfl, HJ.out⟩
   case round =>
    obtain ⟨k, hk, rfl, hall, hJ⟩ := hrel
    clear HJ
    have HJ := Lib.hid hJ
    have HAL := Lib.hid hall
    have hlt := hJ.lt
    have rb : wr.cell? ⟨w.heap.size + 1 + 1, 2, none⟩ = some (.slice Aw ws.length cw) := by rw [cell_of_row _ _ _ _ _ _ hJ.rcd]; rfl
    clear hJ hall
    by_cases hkn : k < ws.length
    case neg =>
     have hkI : ¬ (k : Int) < (ws.length : Int) := by omega
     obtain rfl : k = ws.length := by omega
     have HALL : Hid (ws.all kw = true) := by have h0 := HAL.out; rwa [List.take_of_length_le (Nat.le_refl _)] at h0
     clear hkn HAL
     go_wp2
     clear hkI rb
     have HALLW := Lib.hid HALL.out
     clear HALL hlt
     generalize wr = wo at *
     go_loopw [9] (fun s9 wr => ∃ k : Nat, k ≤ ms.length ∧ s9 = .int .i64 k ∧ (ms.take k).all km = true ∧ ApJ w wr L A c #[.slice A1 ls0.length c1, .slice A2 ms0.length c2, .slice A3 nt0.length c3] #[.int .u64 gen, .int .u64 seq, .slice Aw ws.length cw, .slice Am ms.length cm, .slice An nt.length cn]) (fun s9 _ => ms.length - (intOf s9).toNat)
     case atStart => exact ⟨0, by omega, rfl, rfl, HJ.out⟩
     case round =>
      obtain ⟨k, hk, rfl, hall, hJ⟩ := hrel
      clear HJ
      have HJ := Lib.hid hJ
      have HAL := Lib.hid hall
      have hlt := hJ.lt
      have rb : wr.cell? ⟨w.heap.size + 1 + 1, 3, none⟩ = some (.slice Am ms.length cm) := by rw [cell_of_row _ _ _ _ _ _ hJ.rcd]; rfl
      clear hJ hall
      by_cases hkn : k < ms.length
      case neg =>
       have hkI : ¬ (k : Int) < (ms.length : Int) := by omega
       obtain rfl : k = ms.length := by omega
       have HALL : Hid (ms.all km = true) := by have h0 := HAL.out; rwa [List.take_of_length_le (Nat.le_refl _)] at h0
       clear hkn HAL
       go_wp2
       clear hkI rb
       have HKT : Hid (kb = true) := by rw [Hid, HKB.out, HALLW.out, HALL.out]; rfl
       have HWKX := Lib.hid (HWK.out (by simp) HKT.out)
       have HAT : Hid (rr = match wsF ls0 ws with
         | none => (St.zero, 8)
         | some ls => if (msF L ms0 ms).2 = 0 then (⟨ls, (msF L ms0 ms).1, ntF nt0 nt⟩, 0) else (St.zero, (msF L ms0 ms).2)) := by rw [Hid, HRA.out, HAS.out, HKT.out]; rfl
       obtain ⟨rows, hrn, hrd, hrl⟩ := HLS.out
       obtain ⟨vs, hvn, hvd, hvl⟩ := HNS.out
       have HRN := Lib.hid hrn
       have HRL := Lib.hid hrl
       have HVN := Lib.hid hvn
       have HVL := Lib.hid hvl
       have HRA2 : Hid (∀ W, Below wr.heap.size wr W → RdS W w.heap.size 2 A1 (rows.map fun x => [x.1, x.2])) := fun W hW => (hrd.below' (HJ.out.bel.trans (hW.mono HJ.out.bel.size)) (Nat.le_refl _))
       have HRB2 : Hid (∀ W, Below wr.heap.size wr W → RdS W w.heap.size 1 A3 ((vs.zip nt0).map ntRow)) := fun W hW => (hvd.below' (HJ.out.bel.trans (hW.mono HJ.out.bel.size)) (Nat.le_refl _))
       have HL1 : Hid (ls0.length = (rows.map fun x => [x.1, x.2]).length) := by rw [Hid, List.length_map]; exact hrn.symm
       have HL3 : Hid (nt0.length = ((vs.zip nt0).map ntRow).length) := by rw [Hid, List.length_map, List.length_zip, hvn]; simp
       have HX4 : Hid (∀ W, Below wr.heap.size wr W → (W.cell? ⟨w.heap.size + 1, 0, none⟩ = some (.slice A1 ls0.length c1) ∧ W.cell? ⟨w.heap.size + 1, 1, none⟩ = some (.slice A2 ms0.length c2) ∧ W.cell? ⟨w.heap.size + 1, 2, none⟩ = some (.slice A3 nt0.length c3))) := fun W hW => by
        have h := (HJ.out.call hW).sb
        exact ⟨by rw [cell_of_row _ _ _ _ _ _ h]; rfl, by rw [cell_of_row _ _ _ _ _ _ h]; rfl, by rw [cell_of_row _ _ _ _ _ _ h]; rfl⟩
       have HP0 : Hid (Pl 80 2 26 1 (rows.map fun x => [x.1, x.2]) ((vs.zip nt0).map ntRow) 45 #[.slice none 0 0, .slice none 0 0, .slice none 0 0] wr.heap.size wr wr none none none none none) := Pl.start (Below.refl _ _) (Nat.le_refl _)
       have hq0 := HP0.out
       have hbel := hq0.bel
       clear hrn hrd hrl hvn hvd hvl HKT HALLW HALL HRR HKW2 HKM2 HRWM HRMM
       go_cut [10] (fun s10 wx => ∃ X va vb, s10 = .pointer (some ⟨X, 0, none⟩) ∧ Pl 80 2 26 1 (rows.map fun x => [x.1, x.2]) ((vs.zip nt0).map ntRow) 45 #[va, .slice A2 ms0.length c2, vb] wr.heap.size wr wx none none (some va) (some vb) (some X))
       case first =>
        go_region_held3 (fun W => W.cell? ⟨w.heap.size + 1, 0, none⟩ = some (.slice A1 ls0.length c1) ∧ W.cell? ⟨w.heap.size + 1, 1, none⟩ = some (.slice A2 ms0.length c2) ∧ W.cell? ⟨w.heap.size + 1, 2, none⟩ = some (.slice A3 nt0.length c3))
         (exact HX4.out _ (by (repeat' (first | assumption | (with_reducible refine Below.drew ?_) | (with_reducible refine bel_alloc ?_ _) | (with_reducible refine Below.setCell ?_ ?_ _) | (with_reducible exact Below.refl _ _) | (with_reducible exact Nat.le_refl _) | omega | (dsimp only; omega) | (simp; omega)))))
         (first
          | (refine Pl.appA (by rfl) (.tmp 85) (.tmp 87) _ (by rfl) elemLeaf (by rfl) w.heap.size _ _ _ (by rfl) (show Pl 80 2 26 1 (rows.map fun x => [x.1, x.2]) ((vs.zip nt0).map ntRow) 45 #[.slice none 0 0, .slice none 0 0, .slice none 0 0] wr.heap.size wr _ _ _ _ _ _ from by (first | assumption | (with_reducible exact Pl.newA' (by first | rfl | (simp; done) | fail) (by first | assumption | (with_reducible exact Pl.newB' (by first | rfl | (simp; done) | fail) (by first | assumption | (with_reducible exact Pl.newS' (by first | rfl | (simp; done) | fail) (by first | assumption | (with_reducible exact Pl.drew (by first | assumption | fail)) | fail)) | (with_reducible exact Pl.drew (by first | assumption | (with_reducible exact Pl.newS' (by first | rfl | (simp; done) | fail) (by first | assumption | (with_reducible exact Pl.drew (by first | assumption | fail)) | fail)) | fail)) | fail)) | (with_reducible exact Pl.newS' (by first | rfl | (simp; done) | fail) (by first | assumption | (with_reducible exact Pl.newB' (by first | rfl | (simp; done) | fail) (by first | assumption | (with_reducible exact Pl.drew (by first | assumption | fail)) | fail)) | (with_reducible exact Pl.drew (by first | assumption | (with_reducible exact Pl.newB' (by first | rfl | (simp; done) | fail) (by first | assumption | (with_reducible exact Pl.drew (by first | assumption | fail)) | fail)) | fail)) | fail)) | (with_reducible exact Pl.drew (by first | assumption | (with_reducible exact Pl.newB' (by first | rfl | (simp; done) | fail) (by first | assumption | (with_reducible exact Pl.newS' (by first | rfl | (simp; done) | fail) (by first | assumption | (with_reducible exact Pl.drew (by first | assumption | fail)) | fail)) | (with_reducible exact Pl.drew (by first | assumption | (with_reducible exact Pl.newS' (by first | rfl | (simp; done) | fail) (by first | assumption | (with_reducible exact Pl.drew (by first | assumption | fail)) | fail)) | fail)) | fail)) | (with_reducible exact Pl.newS' (by first | rfl | (simp; done) | fail) (by first | assumption | (with_reducible exact Pl.newB' (by first | rfl | (simp; done) | fail) (by first | assumption | (with_reducible exact Pl.drew (by first | assumption | fail)) | fail)) | (with_reducible exact Pl.drew (by first | assumption | (with_reducible exact Pl.newB' (by first | rfl | (simp; done) | fail) (by first | assumption | (with_reducible exact Pl.drew (by first | assumption | fail)) | fail)) | fail)) | fail)) | fail)) | fail)) | (with_reducible exact Pl.newB' (by first | rfl | (simp; done) | fail) (by first | assumption | (with_reducible exact Pl.newA' (by first | rfl | (simp; done) | fail) (by first | assumption | (with_reducible exact Pl.newS' (by first | rfl | (simp; done) | fail) (by first | assumption | (with_reducible exact Pl.drew (by first | assumption | fail)) | fail)) | (with_reducible exact Pl.drew (by first | assumption | (with_reducible exact Pl.newS' (by first | rfl | (simp; done) | fail) (by first | assumption | (with_reducible exact Pl.drew (by first | assumption | fail)) | fail)) | fail)) | fail)) | (with_reducible exact Pl.newS' (by first | rfl | (simp; done) | fail) (by first | assumption | (with_reducible exact Pl.newA' (by first | rfl | (simp; done) | fail) (by first | assumption | (with_reducible exact Pl.drew (by first | assumption | fail)) | fail)) | (with_reducible exact Pl.drew (by first | assumption | (with_reducible exact Pl.newA' (by first | rfl | (simp; done) | fail) (by first | assumption | (with_reducible exact Pl.drew (by first | assumption | fail)) | fail)) | fail)) | fail)) | (with_reducible exact Pl.drew (by first | assumption | (with_reducible exact Pl.newA' (by first | rfl | (simp; done) | fail) (by first | assumption | (with_reducible exact Pl.newS' (by first | rfl | (simp; done) | fail) (by first | assumption | (with_reducible exact Pl.drew (by first | assumption | fail)) | fail)) | (with_reducible exact Pl.drew (by first | assumption | (with_reducible exact Pl.newS' (by first | rfl | (simp; done) | fail) (by first | assumption | (with_reducible exact Pl.drew (by first | assumption | fail)) | fail)) | fail)) | fail)) | (with_reducible exact Pl.newS' (by first | rfl | (simp; done) | fail) (by first | assumption | (with_reducible exact Pl.newA' (by first | rfl | (simp; done) | fail) (by first | assumption | (with_reducible exact Pl.drew (by first | assumption | fail)) | fail)) | (with_reducible exact Pl.drew (by first | assumption | (with_reducible exact Pl.newA' (by first | rfl | (simp; done) | fail) (by first | assumption | (with_reducible exact Pl.drew (by first | assumption | fail)) | fail)) | fail)) | fail)) | fail)) | fail)) | (with_reducible exact Pl.newS' (by first | rfl | (simp; done) | fail) (by first | assumption | (with_reducible exact Pl.newA' (by first | rfl | (simp; done) | fail) (by first | assumption | (with_reducible exact Pl.newB' (by first | rfl | (simp; done) | fail) (by first | assumption | (with_reducible exact Pl.drew (by first | assumption | fail)) | fail)) | (with_reducible exact Pl.drew (by first | assumption | (with_reducible exact Pl.newB' (by first | rfl | (simp; done) | fail) (by first | assumption | (with_reducible exact Pl.drew (by first | assumption | fail)) | fail)) | fail)) | fail)) | (with_reducible exact Pl.newB' (by first | rfl | (simp; done) | fail) (by first | assumption | (with_reducible exact Pl.newA' (by first | rfl | (simp; done) | fail) (by first | assumption | (with_reducible exact Pl.drew (by first | assumption | fail)) | fail)) | (with_reducible exact Pl.drew (by first | assumption | (with_reducible exact Pl.newA' (by first | rfl | (simp; done) | fail) (by first | assumption | (with_reducible exact Pl.drew (by first | assumption | fail)) | fail)) | fail)) | fail)) | (with_reducible exact Pl.drew (by first | assumption | (with_reducible exact Pl.newA' (by first | rfl | (simp; done) | fail) (by first | assumption | (with_reducible exact Pl.newB' (by first | rfl | (simp; done) | fail) (by first | assumption | (with_reducible exact Pl.drew (by first | assumption | fail)) | fail)) | (with_reducible exact Pl.drew (by first | assumption | (with_reducible exact Pl.newB' (by first | rfl | (simp; done) | fail) (by first | assumption | (with_reducible exact Pl.drew (by first | assumption | fail)) | fail)) | fail)) | fail)) | (with_reducible exact Pl.newB' (by first | rfl | (simp; done) | fail) (by first | assumption | (with_reducible exact Pl.newA' (by first | rfl | (simp; done) | fail) (by first | assumption | (with_reducible exact Pl.drew (by first | assumption | fail)) | fail)) | (with_reducible exact Pl.drew (by first | assumption | (with_reducible exact Pl.newA' (by first | rfl | (simp; done) | fail) (by first | assumption | (with_reducible exact Pl.drew (by first | assumption | fail)) | fail)) | fail)) | fail)) | fail)) | fail)) | (with_reducible exact Pl.drew (by first | assumption | (with_reducible exact Pl.newA' (by first | rfl | (simp; done) | fail) (by first | assumption | (with_reducible exact Pl.newB' (by first | rfl | (simp; done) | fail) (by first | assumption | (with_reducible exact Pl.newS' (by first | rfl | (simp; done) | fail) (by first | assumption | (with_reducible exact Pl.drew (by first | assumption | fail)) | fail)) | (with_reducible exact Pl.drew (by first | assumption | (with_reducible exact Pl.newS' (by first | rfl | (simp; done) | fail) (by first | assumption | (with_reducible exact Pl.drew (by first | assumption | fail)) | fail)) | fail)) | fail)) | (with_reducible exact Pl.newS' (by first | rfl | (simp; done) | fail) (by first | assumption | (with_reducible exact Pl.newB' (by first | rfl | (simp; done) | fail) (by first | assumption | (with_reducible exact Pl.drew (by first | assumption | fail)) | fail)) | (with_reducible exact Pl.drew (by first | assumption | (with_reducible exact Pl.newB' (by first | rfl | (simp; done) | fail) (by first | assumption | (with_reducible exact Pl.drew (by first | assumption | fail)) | fail)) | fail)) | fail)) | (with_reducible exact Pl.drew (by first | assumption | (with_reducible exact Pl.newB' (by first | rfl | (simp; done) | fail) (by first | assumption | (with_reducible exact Pl.newS' (by first | rfl | (simp; done) | fail) (by first | assumption | (with_reducible exact Pl.drew (by first | assumption | fail)) | fail)) | (with_reducible exact Pl.drew (by first | assumption | (with_reducible exact Pl.newS' (by first | rfl | (simp; done) | fail) (by first | assumption | (with_reducible exact Pl.drew (by first | assumption | fail)) | fail)) | fail)) | fail)) | (with_reducible exact Pl.newS' (by first | rfl | (simp; done) | fail) (by first | assumption | (with_reducible exact Pl.newB' (by first | rfl | (simp; done) | fail) (by first | assumption | (with_reducible exact Pl.drew (by first | assumption | fail)) | fail)) | (with_reducible exact Pl.drew (by first | assumption | (with_reducible exact Pl.newB' (by first | rfl | (simp; done) | fail) (by first | assumption | (with_reducible exact Pl.drew (by first | assumption | fail)) | fail)) | fail)) | fail)) | fail)) | fail)) | (with_reducible exact Pl.newB' (by first | rfl | (simp; done) | fail) (by first | assumption | (with_reducible exact Pl.newA' (by first | rfl | (simp; done) | fail) (by first | assumption | (with_reducible exact Pl.newS' (by first | rfl | (simp; done) | fail) (by first | assumption | (with_reducible exact Pl.drew (by first | assumption | fail)) | fail)) | (with_reducible exact Pl.drew (by first | assumption | (with_reducible exact Pl.newS' (by first | rfl | (simp; done) | fail) (by first | assumption | (with_reducible exact Pl.drew (by first | assumption | fail)) | fail)) | fail)) | fail)) | (with_reducible exact Pl.newS' (by first | rfl | (simp; done) | fail) (by first | assumption | (with_reducible exact Pl.newA' (by first | rfl | (simp; done) | fail) (by first | assumption | (with_reducible exact Pl.drew (by first | assumption | fail)) | fail)) | (with_reducible exact Pl.drew (by first | assumption | (with_reducible exact Pl.newA' (by first | rfl | (simp; done) | fail) (by first | assumption | (with_reducible exact Pl.drew (by first | assumption | fail)) | fail)) | fail)) | fail)) | (with_reducible exact Pl.drew (by first | assumption | (with_reducible exact Pl.newA' (by first | rfl | (simp; done) | fail) (by first | assumption | (with_reducible exact Pl.newS' (by first | rfl | (simp; done) | fail) (by first | assumption | (with_reducible exact Pl.drew (by first | assumption | fail)) | fail)) | (with_reducible exact Pl.drew (by first | assumption | (with_reducible exact Pl.newS' (by first | rfl | (simp; done) | fail) (by first | assumption | (with_reducible exact Pl.drew (by first | assumption | fail)) | fail)) | fail)) | fail)) | (with_reducible exact Pl.newS' (by first | rfl | (simp; done) | fail) (by first | assumption | (with_reducible exact Pl.newA' (by first | rfl | (simp; done) | fail) (by first | assumption | (with_reducible exact Pl.drew (by first | assumption | fail)) | fail)) | (with_reducible exact Pl.drew (by first | assumption | (with_reducible exact Pl.newA' (by first | rfl | (simp; done) | fail) (by first | assumption | (with_reducible exact Pl.drew (by first | assumption | fail)) | fail)) | fail)) | fail)) | fail)) | fail)) | (with_reducible exact Pl.newS' (by first | rfl | (simp; done) | fail) (by first | assumption | (with_reducible exact Pl.newA' (by first | rfl | (simp; done) | fail) (by first | assumption | (with_reducible exact Pl.newB' (by first | rfl | (simp; done) | fail) (by first | assumption | (with_reducible exact Pl.drew (by first | assumption | fail)) | fail)) | (with_reducible exact Pl.drew (by first | assumption | (with_reducible exact Pl.newB' (by first | rfl | (simp; done) | fail) (by first | assumption | (with_reducible exact Pl.drew (by first | assumption | fail)) | fail)) | fail)) | fail)) | (with_reducible exact Pl.newB' (by first | rfl | (simp; done) | fail) (by first | assumption | (with_reducible exact Pl.newA' (by first | rfl | (simp; done) | fail) (by first | assumption | (with_reducible exact Pl.drew (by first | assumption | fail)) | fail)) | (with_reducible exact Pl.drew (by first | assumption | (with_reducible exact Pl.newA' (by first | rfl | (simp; done) | fail) (by first | assumption | (with_reducible exact Pl.drew (by first | assumption | fail)) | fail)) | fail)) | fail)) | (with_reducible exact Pl.drew (by first | assumption | (with_reducible exact Pl.newA' (by first | rfl | (simp; done) | fail) (by first | assumption | (with_reducible exact Pl.newB' (by first | rfl | (simp; done) | fail) (by first | assumption | (with_reducible exact Pl.drew (by first | assumption | fail)) | fail)) | (with_reducible exact Pl.drew (by first | assumption | (with_reducible exact Pl.newB' (by first | rfl | (simp; done) | fail) (by first | assumption | (with_reducible exact Pl.drew (by first | assumption | fail)) | fail)) | fail)) | fail)) | (with_reducible exact Pl.newB' (by first | rfl | (simp; done) | fail) (by first | assumption | (with_reducible exact Pl.newA' (by first | rfl | (simp; done) | fail) (by first | assumption | (with_reducible exact Pl.drew (by first | assumption | fail)) | fail)) | (with_reducible exact Pl.drew (by first | assumption | (with_reducible exact Pl.newA' (by first | rfl | (simp; done) | fail) (by first | assumption | (with_reducible exact Pl.drew (by first | assumption | fail)) | fail)) | fail)) | fail)) | fail)) | fail)) | fail)) | fail)) HRA2.out HL1.out (leafRow_one HRN.out fun k x L h1 h2 => (HRL.out k x L h1 h2).now) (by rw [← HL1.out]; simp [maxLen]; omega) (by rw [← HL1.out]; omega) ?_; intro A5 c5 y5 hp5; (try simp only [size_alloc] at hp5); have hbel5 := hp5.bel; have hz5 := hp5.le; try (obtain ⟨⟨z0, z1, z2⟩, f0, f1, f2⟩ := hp5.box3 rfl))
          | (refine Pl.appB (by rfl) (.tmp 91) (.tmp 93) _ (by rfl) elemNt (by rfl) w.heap.size _ _ _ (by rfl) (show Pl 80 2 26 1 (rows.map fun x => [x.1, x.2]) ((vs.zip nt0).map ntRow) 45 #[.slice none 0 0, .slice none 0 0, .slice none 0 0] wr.heap.size wr _ _ _ _ _ _ from by (first | assumption | (with_reducible exact Pl.newB' (by first | rfl | (simp; done) | fail) (by first | assumption | (with_reducible exact Pl.newA' (by first | rfl | (simp; done) | fail) (by first | assumption | (with_reducible exact Pl.newS' (by first | rfl | (simp; done) | fail) (by first | assumption | (with_reducible exact Pl.drew (by first | assumption | fail)) | fail)) | (with_reducible exact Pl.drew (by first | assumption | (with_reducible exact Pl.newS' (by first | rfl | (simp; done) | fail) (by first | assumption | (with_reducible exact Pl.drew (by first | assumption | fail)) | fail)) | fail)) | fail)) | (with_reducible exact Pl.newS' (by first | rfl | (simp; done) | fail) (by first | assumption | (with_reducible exact Pl.newA' (by first | rfl | (simp; done) | fail) (by first | assumption | (with_reducible exact Pl.drew (by first | assumption | fail)) | fail)) | (with_reducible exact Pl.drew (by first | assumption | (with_reducible exact Pl.newA' (by first | rfl | (simp; done) | fail) (by first | assumption | (with_reducible exact Pl.drew (by first | assumption | fail)) | fail)) | fail)) | fail)) | (with_reducible exact Pl.drew (by first | assumption | (with_reducible exact Pl.newA' (by first | rfl | (simp; done) | fail) (by first | assumption | (with_reducible exact Pl.newS' (by first | rfl | (simp; done) | fail) (by first | assumption | (with_reducible exact Pl.drew (by first | assumption | fail)) | fail)) | (with_reducible exact Pl.drew (by first | assumption | (with_reducible exact Pl.newS' (by first | rfl | (simp; done) | fail) (by first | assumption | (with_reducible exact Pl.drew (by first | assumption | fail)) | fail)) | fail)) | fail)) | (with_reducible exact Pl.newS' (by first | rfl | (simp; done) | fail) (by first | assumption | (with_reducible exact Pl.newA' (by first | rfl | (simp; done) | fail) (by first | assumption | (with_reducible exact Pl.drew (by first | assumption | fail)) | fail)) | (with_reducible exact Pl.drew (by first | assumption | (with_reducible exact Pl.newA' (by first | rfl | (simp; done) | fail) (by first | assumption | (with_reducible exact Pl.drew (by first | assumption | fail)) | fail)) | fail)) | fail)) | fail)) | fail)) | (with_reducible exact Pl.newA' (by first | rfl | (simp; done) | fail) (by first | assumption | (with_reducible exact Pl.newB' (by first | rfl | (simp; done) | fail) (by first | assumption | (with_reducible exact Pl.newS' (by first | rfl | (simp; done) | fail) (by first | assumption | (with_reducible exact Pl.drew (by first | assumption | fail)) | fail)) | (with_reducible exact Pl.drew (by first | assumption | (with_reducible exact Pl.newS' (by first | rfl | (simp; done) | fail) (by first | assumption | (with_reducible exact Pl.drew (by first | assumption | fail)) | fail)) | fail)) | fail)) | (with_reducible exact Pl.newS' (by first | rfl | (simp; done) | fail) (by first | assumption | (with_reducible exact Pl.newB' (by first | rfl | (simp; done) | fail) (by first | assumption | (with_reducible exact Pl.drew (by first | assumption | fail)) | fail)) | (with_reducible exact Pl.drew (by first | assumption | (with_reducible exact Pl.newB' (by first | rfl | (simp; done) | fail) (by first | assumption | (with_reducible exact Pl.drew (by first | assumption | fail)) | fail)) | fail)) | fail)) | (with_reducible exact Pl.drew (by first | assumption | (with_reducible exact Pl.newB' (by first | rfl | (simp; done) | fail) (by first | assumption | (with_reducible exact Pl.newS' (by first | rfl | (simp; done) | fail) (by first | assumption | (with_reducible exact Pl.drew (by first | assumption | fail)) | fail)) | (with_reducible exact Pl.drew (by first | assumption | (with_reducible exact Pl.newS' (by first | rfl | (simp; done) | fail) (by first | assumption | (with_reducible exact Pl.drew (by first | assumption | fail)) | fail)) | fail)) | fail)) | (with_reducible exact Pl.newS' (by first | rfl | (simp; done) | fail) (by first | assumption | (with_reducible exact Pl.newB' (by first | rfl | (simp; done) | fail) (by first | assumption | (with_reducible exact Pl.drew (by first | assumption | fail)) | fail)) | (with_reducible exact Pl.drew (by first | assumption | (with_reducible exact Pl.newB' (by first | rfl | (simp; done) | fail) (by first | assumption | (with_reducible exact Pl.drew (by first | assumption | fail)) | fail)) | fail)) | fail)) | fail)) | fail)) | (with_reducible exact Pl.newS' (by first | rfl | (simp; done) | fail) (by first | assumption | (with_reducible exact Pl.newB' (by first | rfl | (simp; done) | fail) (by first | assumption | (with_reducible exact Pl.newA' (by first | rfl | (simp; done) | fail) (by first | assumption | (with_reducible exact Pl.drew (by first | assumption | fail)) | fail)) | (with_reducible exact Pl.drew (by first | assumption | (with_reducible exact Pl.newA' (by first | rfl | (simp; done) | fail) (by first | assumption | (with_reducible exact Pl.drew (by first | assumption | fail)) | fail)) | fail)) | fail)) | (with_reducible exact Pl.newA' (by first | rfl | (simp; done) | fail) (by first | assumption | (with_reducible exact Pl.newB' (by first | rfl | (simp; done) | fail) (by first | assumption | (with_reducible exact Pl.drew (by first | assumption | fail)) | fail)) | (with_reducible exact Pl.drew (by first | assumption | (with_reducible exact Pl.newB' (by first | rfl | (simp; done) | fail) (by first | assumption | (with_reducible exact Pl.drew (by first | assumption | fail)) | fail)) | fail)) | fail)) | (with_reducible exact Pl.drew (by first | assumption | (with_reducible exact Pl.newB' (by first | rfl | (simp; done) | fail) (by first | assumption | (with_reducible exact Pl.newA' (by first | rfl | (simp; done) | fail) (by first | assumption | (with_reducible exact Pl.drew (by first | assumption | fail)) | fail)) | (with_reducible exact Pl.drew (by first | assumption | (with_reducible exact Pl.newA' (by first | rfl | (simp; done) | fail) (by first | assumption | (with_reducible exact Pl.drew (by first | assumption | fail)) | fail)) | fail)) | fail)) | (with_reducible exact Pl.newA' (by first | rfl | (simp; done) | fail) (by first | assumption | (with_reducible exact Pl.newB' (by first | rfl | (simp; done) | fail) (by first | assumption | (with_reducible exact Pl.drew (by first | assumption | fail)) | fail)) | (with_reducible exact Pl.drew (by first | assumption | (with_reducible exact Pl.newB' (by first | rfl | (simp; done) | fail) (by first | assumption | (with_reducible exact Pl.drew (by first | assumption | fail)) | fail)) | fail)) | fail)) | fail)) | fail)) | (with_reducible exact Pl.drew (by first | assumption | (with_reducible exact Pl.newB' (by first | rfl | (simp; done) | fail) (by first | assumption | (with_reducible exact Pl.newA' (by first | rfl | (simp; done) | fail) (by first | assumption | (with_reducible exact Pl.newS' (by first | rfl | (simp; done) | fail) (by first | assumption | (with_reducible exact Pl.drew (by first | assumption | fail)) | fail)) | (with_reducible exact Pl.drew (by first | assumption | (with_reducible exact Pl.newS' (by first | rfl | (simp; done) | fail) (by first | assumption | (with_reducible exact Pl.drew (by first | assumption | fail)) | fail)) | fail)) | fail)) | (with_reducible exact Pl.newS' (by first | rfl | (simp; done) | fail) (by first | assumption | (with_reducible exact Pl.newA' (by first | rfl | (simp; done) | fail) (by first | assumption | (with_reducible exact Pl.drew (by first | assumption | fail)) | fail)) | (with_reducible exact Pl.drew (by first | assumption | (with_reducible exact Pl.newA' (by first | rfl | (simp; done) | fail) (by first | assumption | (with_reducible exact Pl.drew (by first | assumption | fail)) | fail)) | fail)) | fail)) | (with_reducible exact Pl.drew (by first | assumption | (with_reducible exact Pl.newA' (by first | rfl | (simp; done) | fail) (by first | assumption | (with_reducible exact Pl.newS' (by first | rfl | (simp; done) | fail) (by first | assumption | (with_reducible exact Pl.drew (by first | assumption | fail)) | fail)) | (with_reducible exact Pl.drew (by first | assumption | (with_reducible exact Pl.newS' (by first | rfl | (simp; done) | fail) (by first | assumption | (with_reducible exact Pl.drew (by first | assumption | fail)) | fail)) | fail)) | fail)) | (with_reducible exact Pl.newS' (by first | rfl | (simp; done) | fail) (by first | assumption | (with_reducible exact Pl.newA' (by first | rfl | (simp; done) | fail) (by first | assumption | (with_reducible exact Pl.drew (by first | assumption | fail)) | fail)) | (with_reducible exact Pl.drew (by first | assumption | (with_reducible exact Pl.newA' (by first | rfl | (simp; done) | fail) (by first | assumption | (with_reducible exact Pl.drew (by first | assumption | fail)) | fail)) | fail)) | fail)) | fail)) | fail)) | (with_reducible exact Pl.newA' (by first | rfl | (simp; done) | fail) (by first | assumption | (with_reducible exact Pl.newB' (by first | rfl | (simp; done) | fail) (by first | assumption | (with_reducible exact Pl.newS' (by first | rfl | (simp; done) | fail) (by first | assumption | (with_reducible exact Pl.drew (by first | assumption | fail)) | fail)) | (with_reducible exact Pl.drew (by first | assumption | (with_reducible exact Pl.newS' (by first | rfl | (simp; done) | fail) (by first | assumption | (with_reducible exact Pl.drew (by first | assumption | fail)) | fail)) | fail)) | fail)) | (with_reducible exact Pl.newS' (by first | rfl | (simp; done) | fail) (by first | assumption | (with_reducible exact Pl.newB' (by first | rfl | (simp; done) | fail) (by first | assumption | (with_reducible exact Pl.drew (by first | assumption | fail)) | fail)) | (with_reducible exact Pl.drew (by first | assumption | (with_reducible exact Pl.newB' (by first | rfl | (simp; done) | fail) (by first | assumption | (with_reducible exact Pl.drew (by first | assumption | fail)) | fail)) | fail)) | fail)) | (with_reducible exact Pl.drew (by first | assumption | (with_reducible exact Pl.newB' (by first | rfl | (simp; done) | fail) (by first | assumption | (with_reducible exact Pl.newS' (by first | rfl | (simp; done) | fail) (by first | assumption | (with_reducible exact Pl.drew (by first | assumption | fail)) | fail)) | (with_reducible exact Pl.drew (by first | assumption | (with_reducible exact Pl.newS' (by first | rfl | (simp; done) | fail) (by first | assumption | (with_reducible exact Pl.drew (by first | assumption | fail)) | fail)) | fail)) | fail)) | (with_reducible exact Pl.newS' (by first | rfl | (simp; done) | fail) (by first | assumption | (with_reducible exact Pl.newB' (by first | rfl | (simp; done) | fail) (by first | assumption | (with_reducible exact Pl.drew (by first | assumption | fail)) | fail)) | (with_reducible exact Pl.drew (by first | assumption | (with_reducible exact Pl.newB' (by first | rfl | (simp; done) | fail) (by first | assumption | (with_reducible exact Pl.drew (by first | assumption | fail)) | fail)) | fail)) | fail)) | fail)) | fail)) | (with_reducible exact Pl.newS' (by first | rfl | (simp; done) | fail) (by first | assumption | (with_reducible exact Pl.newB' (by first | rfl | (simp; done) | fail) (by first | assumption | (with_reducible exact Pl.newA' (by first | rfl | (simp; done) | fail) (by first | assumption | (with_reducible exact Pl.drew (by first | assumption | fail)) | fail)) | (with_reducible exact Pl.drew (by first | assumption | (with_reducible exact Pl.newA' (by first | rfl | (simp; done) | fail) (by first | assumption | (with_reducible exact Pl.drew (by first | assumption | fail)) | fail)) | fail)) | fail)) | (with_reducible exact Pl.newA' (by first | rfl | (simp; done) | fail) (by first | assumption | (with_reducible exact Pl.newB' (by first | rfl | (simp; done) | fail) (by first | assumption | (with_reducible exact Pl.drew (by first | assumption | fail)) | fail)) | (with_reducible exact Pl.drew (by first | assumption | (with_reducible exact Pl.newB' (by first | rfl | (simp; done) | fail) (by first | assumption | (with_reducible exact Pl.drew (by first | assumption | fail)) | fail)) | fail)) | fail)) | (with_reducible exact Pl.drew (by first | assumption | (with_reducible exact Pl.newB' (by first | rfl | (simp; done) | fail) (by first | assumption | (with_reducible exact Pl.newA' (by first | rfl | (simp; done) | fail) (by first | assumption | (with_reducible exact Pl.drew (by first | assumption | fail)) | fail)) | (with_reducible exact Pl.drew (by first | assumption | (with_reducible exact Pl.newA' (by first | rfl | (simp; done) | fail) (by first | assumption | (with_reducible exact Pl.drew (by first | assumption | fail)) | fail)) | fail)) | fail)) | (with_reducible exact Pl.newA' (by first | rfl | (simp; done) | fail) (by first | assumption | (with_reducible exact Pl.newB' (by first | rfl | (simp; done) | fail) (by first | assumption | (with_reducible exact Pl.drew (by first | assumption | fail)) | fail)) | (with_reducible exact Pl.drew (by first | assumption | (with_reducible exact Pl.newB' (by first | rfl | (simp; done) | fail) (by first | assumption | (with_reducible exact Pl.drew (by first | assumption | fail)) | fail)) | fail)) | fail)) | fail)) | fail)) | fail)) | fail)) HRB2.out HL3.out ntRow_one (by rw [← HL3.out]; simp [maxLen]; omega) (by rw [← HL3.out]; omega) ?_; intro A6 c6 y6 hp6; (try simp only [size_alloc] at hp6); have hbel6 := hp6.bel; have hz6 := hp6.le; try (obtain ⟨⟨z0, z1, z2⟩, f0, f1, f2⟩ := hp6.box3 rfl))
          | fail)
        all_goals
         go_wp2_with fail
         go_meet
         refine ⟨_, .slice A5 ls0.length c5, .slice A6 nt0.length c6, rfl, ?_⟩
         first
          | with_reducible exact hp6.fin3
          | with_reducible exact hp5.fin3
          | with_reducible exact hp6.fin rfl
          | with_reducible exact hp5.fin rfl
          | exact hp6.fin (by simp)
          | exact hp5.fin (by simp)
       obtain ⟨X, va, vb, rfl, hP⟩ := hcut
       have hbP := hP.bel
       have hbx := hP.bx X rfl
       have hva := hP.va va rfl
       have hvb := hP.vb vb rfl
       have hzr : w.heap.size + 4 ≤ wr.heap.size := HJ.out.lt
       have hwx : Below w.heap.size w wc := HJ.out.bel.trans (hbP.mono (by omega))
       have HSB : Hid (StB wc X (apE w E) 45 va (.slice A2 ms0.length c2) vb ⟨ls0, ms0, nt0⟩) := StB.from hwx (W0 := wr.heap.size) (by omega) HRN.out HRL.out HVN.out HVL.out ⟨A2, c2, rfl, HMS.out⟩ (fun k hk => by
        rcases hk with hk | hk
        ·left; omega
        ·exact .inr hk) hbx.1 (by have := hbx.2; omega) hva hvb ⟨by decide, by decide⟩
       have HK : Hid (ApK E w wc L A c #[.int .u64 gen, .int .u64 seq, .slice Aw ws.length cw, .slice Am ms.length cm, .slice An nt.length cn] X va (.slice A2 ms0.length c2) vb ⟨ls0, ms0, nt0⟩) := by
        have hj := HJ.out.call hbP
        exact ⟨hj.lay, hj.rcd, hj.res, hj.bel, HSB.out, by have := hbx.2; omega, fun k hk => by
         rcases hk with hk | hk
         ·have := (hva.lt hk).1; omega
         ·have := (hvb.lt hk).1; omega, HEL.out⟩
       obtain ⟨Al, nl, cl, rfl⟩ := hva.sl
       obtain ⟨Ao, no, co, rfl⟩ := hvb.sl
       have HNL : Hid (nl = ls0.length) := by
        obtain ⟨A', c', he, -⟩ := hva.form
        injection he with h1 h2 h3
        rw [Hid, h2]
        exact HL1.out.symm
       have rb : wc.cell? ⟨w.heap.size + 1 + 1, 2, none⟩ = some (.slice Aw ws.length cw) := by rw [cell_of_row _ _ _ _ _ _ HK.out.rcd]; rfl
       clear hP hbP hbx hva hvb hwx HSB HX4 HRA2 HRB2 HP0 hq0 hbel HL1 HJ hlt HRN HRL HVN HVL
       go_wp2
       clear rb
       generalize wr = wo at *
       go_loopw [11] (fun s11 wr => ∃ k : Nat, k ≤ ws.length ∧ s11 = .int .i64 k ∧ ∃ cur, wsF ls0 (ws.take k) = some cur ∧ ApK E w wr L A c #[.int .u64 gen, .int .u64 seq, .slice Aw ws.length cw, .slice Am ms.length cm, .slice An nt.length cn] X (.slice Al nl cl) (.slice A2 ms0.length c2) (.slice Ao no co) ⟨cur, ms0, nt0⟩) (fun s11 _ => ws.length - (intOf s11).toNat)
       case atStart => exact ⟨0, by omega, rfl, ls0, rfl, HK.out⟩
       case round =>
        obtain ⟨k, hk, rfl, cur, hcur, hK⟩ := hrel
        clear HK
        have HK := Lib.hid hK
        have HCU := Lib.hid hcur
        have hlt := hK.lt
        have hgx := hK.gx
        have rb : wr.cell? ⟨w.heap.size + 1 + 1, 2, none⟩ = some (.slice Aw ws.length cw) := by rw [cell_of_row _ _ _ _ _ _ hK.rcd]; rfl
        clear hK hcur
        by_cases hkn : k < ws.length
        case neg =>
         have hkI : ¬ (k : Int) < (ws.length : Int) := by omega
         obtain rfl : k = ws.length := by omega
         have HCU2 : Hid (wsF ls0 ws = some cur) := by have h0 := HCU.out; rwa [List.take_of_length_le (Nat.le_refl _)] at h0
         have HAR2 : Hid (rr = if (msF L ms0 ms).2 = 0 then (⟨cur, (msF L ms0 ms).1, ntF nt0 nt⟩, 0) else (St.zero, (msF L ms0 ms).2)) := by rw [Hid, HAT.out, HCU2.out]
         have rb3 : wr.cell? ⟨w.heap.size + 1 + 1, 3, none⟩ = some (.slice Am ms.length cm) := by rw [cell_of_row _ _ _ _ _ _ HK.out.rcd]; rfl
         clear hkn HAT HCU HCU2
         go_wp2
         clear hkI rb rb3 hlt
         generalize wr = wo2 at *
         go_loopw [14] (fun s14 wr => ∃ k : Nat, k ≤ ms.length ∧ s14 = .int .i64 k ∧ (msF L ms0 (ms.take k)).2 = 0 ∧ ∃ mv', ApK E w wr L A c #[.int .u64 gen, .int .u64 seq, .slice Aw ws.length cw, .slice Am ms.length cm, .slice An nt.length cn] X (.slice Al nl cl) mv' (.slice Ao no co) ⟨cur, (msF L ms0 (ms.take k)).1, nt0⟩) (fun s14 _ => ms.length - (intOf s14).toNat)
         case atStart => exact ⟨0, by omega, rfl, rfl, _, HK.out⟩
         case round =>
          obtain ⟨k, hk2, rfl, hms, mv', hK⟩ := hrel
          have HM0 := Lib.hid hms
          clear HK
          have HK := Lib.hid hK
          have hlt := hK.lt
          obtain ⟨A5, c5, hmv, -⟩ := hK.st.ms
          obtain ⟨n5, hn5⟩ : ∃ n, (msF L ms0 (ms.take k)).1.length = n := ⟨_, rfl⟩
          simp only [hn5] at hmv
          subst hmv
          have HN5 := Lib.hid hn5
          have rb3 : wr.cell? ⟨w.heap.size + 1 + 1, 3, none⟩ = some (.slice Am ms.length cm) := by rw [cell_of_row _ _ _ _ _ _ hK.rcd]; rfl
          clear hms hK hn5
          by_cases hkn : k < ms.length
          case neg =>
           have hkI : ¬ (k : Int) < (ms.length : Int) := by omega
           obtain rfl : k = ms.length := by omega
           have HMT : Hid ((msF L ms0 ms).2 = 0 ∧ (msF L ms0 (ms.take ms.length)).1 = (msF L ms0 ms).1) := by have h0 := HM0.out; rw [List.take_of_length_le (Nat.le_refl _)] at h0 ⊢; exact ⟨h0, rfl⟩
           have HATT : Hid (rr = (⟨cur, (msF L ms0 (ms.take ms.length)).1, ntF nt0 nt⟩, 0)) := by rw [Hid, HAR2.out, if_pos HMT.out.1, HMT.out.2]
           generalize (msF L ms0 (ms.take ms.length)).1 = mfin at *
           have r4 : wr.cell? ⟨w.heap.size + 1 + 1, 4, none⟩ = some (.slice An nt.length cn) := by rw [cell_of_row _ _ _ _ _ _ HK.out.rcd]; rfl
           clear hkn HAR2 HM0 HMT
           by_cases hnt : nt.length = 0
           ·have hnI : ¬ (0 : Int) < (nt.length : Int) := by omega
            have hnN : ¬ 0 < nt.length := by omega
            have HAF : Hid (rr = (⟨cur, mfin, nt0⟩, 0)) := by rw [Hid, HATT.out, ntF, if_pos hnt]
            have HF9 := HK
            clear hnt HK
            obtain ⟨s0, s1, s2, -⟩ := HF9.out.st.cells
            obtain ⟨z0, z1, z2⟩ := zero3 HF9.out.res
            have f0 := frozen_blk HF9.out.res 0
            have f1 := frozen_blk HF9.out.res 1
            have f2 := frozen_blk HF9.out.res 2
            have HFN := Lib.hid (HF9.out.fin)
            have hgx := HF9.out.gx
            have hne : X ≠ w.heap.size + 1 + 1 + 1 := by omega
            go_wp2
            (try simp only [Exit.inBlock, Exit.then])
            refine bodyPost_ret (v := .tuple #[.agg #[.slice Al nl cl, .slice A5 n5 c5, .slice Ao no co], .int .i64 0]) ?_ rfl ⟨⟨_, by rw [HAF.out], by rw [HAF.out]; exact HFN.out.1⟩, HFN.out.2⟩
            rw [results_cell_tmp rfl]
            go_simp
           ·have hnI : (0 : Int) < (nt.length : Int) := by omega
            have hnN : 0 < nt.length := by omega
            have HAF : Hid (rr = (⟨cur, mfin, nt0 ++ [nt]⟩, 0)) := by rw [Hid, HATT.out, ntF, if_neg hnt]
            have hrr0 := (HRE.out wr HK.out.bel).2.2
            have hn256 : nt.length ≤ 1000000 := by omega
            obtain ⟨vs, hvn, how, -, hvl⟩ := HK.out.st.nt
            have HVN := Lib.hid hvn
            have HOW := Lib.hid how
            have HVL := Lib.hid hvl
            have HVK : Hid (vs.length ≤ 100000) := by rw [Hid, hvn]; exact n3
            have HSX : Hid (∀ W, Below wr.heap.size wr W → (W.cell? ⟨X, 2, none⟩ = some (.slice Ao no co) ∧ W.cell? ⟨w.heap.size + 1 + 1, 4, none⟩ = some (.slice An nt.length cn))) := fun W hW => by
             have h := HK.out.call hW
             exact ⟨h.st.cells.2.2.1, by rw [cell_of_row _ _ _ _ _ _ h.rcd]; rfl⟩
            have hS0 := HSX.out wr.drew (Below.refl _ _).drew
            have hS2 := HSX.out (wr.drew.alloc (.cells #[] 5)) ((Below.refl _ _).drew.alloc (Nat.le_refl _) _)
            have hz : OwS (wr.drew.alloc (.cells #[] 5)) wr.heap.size 5 1 (.slice (some ⟨wr.heap.size, 0, none⟩) 0 0) [] := OwS.lit (by simp) (heap_alloc_new wr.drew _) rfl rfl (by decide) (Nat.le_refl _)
            have hrr : BytS (wr.drew.alloc (.cells #[] 5)) wr.heap.size An nt := RdS.below' hrr0 ((Below.refl wr.heap.size wr).drew.alloc (Nat.le_refl _) _) (Nat.le_refl _)
            have hgx := HK.out.gx
            clear hnt hvn how hvl hrr0
            go_upto_region 31 with (fail)
            clear r4 rb3
            refine wp_regionT (T := 9) (S := fun W : World => (W.cell? ⟨X, 2, none⟩ = some (.slice Ao no co) ∧ W.cell? ⟨w.heap.size + 1 + 1, 4, none⟩ = some (.slice An nt.length cn))) (by kernel_rfl) ?_
            (try change wpAnyT _ _ _ _ _ _ _ _ _ (World.drew _))
            refine wpAnyT_take (i := 0) (v := ?_) 60 rfl (by kernel_rfl) (by kernel_rfl) (by kernel_rfl) (by kernel_rfl) (by kernel_rfl) (fun _ _ _ h => h) (Or.inl ⟨by rfl, ?_⟩) hS0 ?_
            rotate_left
            ·(intro W hW; (try dsimp only at hW); obtain ⟨hW0, hW1⟩ := hW; go_simp; try with_reducible rfl)
            (simp only [List.getElem_toArray, List.getElem_cons_zero, Act.put, List.setIfInBounds_toArray, List.set_cons_zero, List.set_cons_succ])
            refine wpAnyT_take (i := 1) (v := ?_) 60 rfl (by kernel_rfl) (by kernel_rfl) (by kernel_rfl) (by kernel_rfl) (by kernel_rfl) (fun _ _ _ h => h) (Or.inl ⟨by rfl, ?_⟩) hS0 ?_
            rotate_left
            ·(intro W hW; (try dsimp only at hW); obtain ⟨hW0, hW1⟩ := hW; go_simp; try with_reducible rfl)
            (simp only [List.getElem_toArray, List.getElem_cons_zero, List.getElem_cons_succ, Act.put, List.setIfInBounds_toArray, List.set_cons_zero, List.set_cons_succ])
            refine wpAnyT_take (i := 3) (v := ?_) 60 rfl (by kernel_rfl) (by kernel_rfl) (by kernel_rfl) (by kernel_rfl) (by kernel_rfl) (fun _ _ _ h => h) (Or.inl ⟨by rfl, ?_⟩) hS0 ?_
            rotate_left
            ·(intro W hW; (try dsimp only at hW); obtain ⟨hW0, hW1⟩ := hW; go_simp; try with_reducible rfl)
            (simp only [List.getElem_toArray, List.getElem_cons_zero, List.getElem_cons_succ, Act.put, List.setIfInBounds_toArray, List.set_cons_zero, List.set_cons_succ])
            refine wpAnyT_take (i := 4) (v := ?_) 60 rfl (by kernel_rfl) (by kernel_rfl) (by kernel_rfl) (by kernel_rfl) (by kernel_rfl) (fun _ _ _ h => h) (Or.inl ⟨by rfl, ?_⟩) hS0 ?_
            rotate_left
            ·(intro W hW; (try dsimp only at hW); obtain ⟨hW0, hW1⟩ := hW; go_simp; try with_reducible rfl)
            (simp only [List.getElem_toArray, List.getElem_cons_zero, List.getElem_cons_succ, Act.put, List.setIfInBounds_toArray, List.set_cons_zero, List.set_cons_succ])
            refine wpAnyT_one (i := 2) (by kernel_rfl) rfl rfl (fun K hK => ?_)
            go_simp
            (refine hK _ _ (.inr hS2) ?_)
            (clear hK K)
            (try simp only [List.getElem_toArray, List.getElem_cons_zero, List.getElem_cons_succ, Act.put, List.setIfInBounds_toArray, List.set_cons_zero, List.set_cons_succ])
            refine wpAnyT_one (i := 5) (by kernel_rfl) rfl rfl (fun K hK => ?_)
            (refine oper_apS (.tmp 167) (.tmp 169) _ rfl elemByte rfl hz wr.heap.size _ _ cn (nt.map u8C) rfl hrr (by simp) (u8C_all nt) (by simp [maxLen]; omega) (by simp; omega) (by simp) ?_)
            intro v3 w3 hown3 hg3 _
            rw [List.nil_append] at hown3
            have hb3 : Below wr.heap.size wr w3 := ((Below.refl wr.heap.size wr).drew.alloc (Nat.le_refl _) _).grown hg3 (by simp) (fun k h => (hz.lt h).1)
            obtain ⟨A7, c7, rfl, -⟩ := hown3.form
            rw [List.length_map] at hown3
            simp only [List.length_map]
            have hS3 := HSX.out w3 hb3
            have hS4 := HSX.out (w3.alloc (.cells #[.slice A7 nt.length c7] 26)) (hb3.alloc hb3.size _)
            (refine hK _ _ (.inr hS3) ?_)
            (clear hK K)
            (try simp only [List.getElem_toArray, List.getElem_cons_zero, List.getElem_cons_succ, Act.put, List.setIfInBounds_toArray, List.set_cons_zero, List.set_cons_succ])
            refine wpAnyT_one (i := 6) (by kernel_rfl) rfl rfl (fun K hK => ?_)
            go_simp
            (refine hK _ _ (.inr hS4) ?_)
            (clear hK K)
            (try simp only [List.getElem_toArray, List.getElem_cons_zero, List.getElem_cons_succ, Act.put, List.setIfInBounds_toArray, List.set_cons_zero, List.set_cons_succ])
            refine wpAnyT_one (i := 7) (by kernel_rfl) rfl rfl (fun K hK => ?_)
            (refine oper_ap1 (.tmp 166) (.tmp 171) _ rfl rfl elemNt rfl (HOW.out.below hb3) [.slice A7 nt.length c7] _ (by rfl) w3.heap.size (by rfl) (by rfl) (by intro u hu; rw [List.mem_singleton] at hu; subst hu; rfl) (by have := HVK.out; simp [maxLen]; omega) (by have := HVK.out; simp; omega) (Nat.zero_le _) ?_)
            intro v8 w8 hown8 hg8 hv8
            obtain ⟨A8, n8, c8, rfl⟩ := hown8.sl
            obtain ⟨hd8, hx8⟩ := cn_done2 HK.out.st HVN.out HVL.out HK.out.elt hb3 hown3 hg8 hown8 hv8
            have hk8 : ∀ j, j < w.heap.size + 4 → w8.heap[j]? = wr.heap[j]? := fun j hj => by
                   have h1 := HK.out.lt
                   have h2 := hb3.size
                   exact (hg8.block j (by simp; omega) (fun e => by have := HK.out.go j (.inr e.symm); omega)).trans ((Below.heap_alloc _ _ _ (by omega)).trans (hb3.block j (by omega)))
            have hS8 : (w8.cell? ⟨X, 2, none⟩ = some (.slice Ao no co) ∧ w8.cell? ⟨w.heap.size + 1 + 1, 4, none⟩ = some (.slice An nt.length cn)) := ⟨by rw [cell_of_row _ _ _ _ _ _ hx8]; rfl, by rw [cell_of_row _ _ _ _ _ _ ((hk8 _ (by omega)).trans HK.out.rcd)]; rfl⟩
            have zf8 := frozen_blk hx8 2
            (refine hK _ _ (.inr hS8) ?_)
            (clear hK K)
            (try simp only [List.getElem_toArray, List.getElem_cons_zero, List.getElem_cons_succ, Act.put, List.setIfInBounds_toArray, List.set_cons_zero, List.set_cons_succ])
            refine wpAnyT_take (i := 8) (v := ?_) 60 rfl (by kernel_rfl) (by kernel_rfl) (by kernel_rfl) (by kernel_rfl) (by kernel_rfl) (fun _ _ _ h => h) (Or.inl ⟨by rfl, ?_⟩) hS8 ?_
            rotate_left
            ·(intro W hW; (try dsimp only at hW); obtain ⟨hW0, hW1⟩ := hW; go_simp; try with_reducible rfl)
            (simp only [List.getElem_toArray, List.getElem_cons_zero, List.getElem_cons_succ, Act.put, List.setIfInBounds_toArray, List.set_cons_zero, List.set_cons_succ])
            refine wpAnyT_one (i := 9) (by kernel_rfl) rfl rfl (fun K hK => ?_)
            go_simp
            (refine hK _ _ (.inl (by kernel_rfl)) ?_)
            (clear hK K)
            (try simp only [List.getElem_toArray, List.getElem_cons_zero, List.getElem_cons_succ, Act.put, List.setIfInBounds_toArray, List.set_cons_zero, List.set_cons_succ])
            refine wpAnyT_done (by kernel_rfl) ?_ _
            have HE : Hid (ApK E w (w8.setCell ⟨X, 2, none⟩ (.slice A8 n8 c8)) L A c #[.int .u64 gen, .int .u64 seq, .slice Aw ws.length cw, .slice Am ms.length cm, .slice An nt.length cn] X (.slice Al nl cl) (.slice A5 n5 c5) (.slice A8 n8 c8) ⟨cur, mfin, nt0 ++ [nt]⟩) := by
             refine HK.out.turn ⟨?_, ?_, ?_, ?_, fun j hj => ?_⟩ hd8 fun k hk => ?_
             ·exact (hg8.os.trans hb3.os)
             ·exact (hg8.tape.trans hb3.tape)
             ·exact (hg8.output.trans hb3.output)
             ·have h1 := hg8.size
              have h2 := hb3.size
              simp only [World.setCell, Array.size_modify] at h1 ⊢
              simp at h1
              omega
             ·exact (heap_setCell_other _ _ _ _ (by show j ≠ X; omega)).trans (hk8 j hj)
             ·rcases hk with hk | hk
              ·exact HK.out.go k (.inl hk)
              ·rcases hv8 with e | e
               ·exact HK.out.go k (.inr (e ▸ hk))
               ·rw [e] at hk
                injection hk with hk
                have h1 := HK.out.lt
                have h2 := hb3.size
                omega
            have HF9 := HE
            clear HE hd8 hx8 hg8 hown8 hv8 hS0 hS2 hS3 hS4 hS8 zf8 hk8 hown3 hg3 hb3 hz hrr HK
            go_upto_region 32 with (fail)
            generalize w8.setCell _ _ = w9 at *
            obtain ⟨s0, s1, s2, -⟩ := HF9.out.st.cells
            obtain ⟨z0, z1, z2⟩ := zero3 HF9.out.res
            have f0 := frozen_blk HF9.out.res 0
            have f1 := frozen_blk HF9.out.res 1
            have f2 := frozen_blk HF9.out.res 2
            have HFN := Lib.hid (HF9.out.fin)
            have hgx := HF9.out.gx
            have hne : X ≠ w.heap.size + 1 + 1 + 1 := by omega
            go_wp2
            (try simp only [Exit.inBlock, Exit.then])
            refine bodyPost_ret (v := .tuple #[.agg #[.slice Al nl cl, .slice A5 n5 c5, .slice A8 n8 c8], .int .i64 0]) ?_ rfl ⟨⟨_, by rw [HAF.out], by rw [HAF.out]; exact HFN.out.1⟩, HFN.out.2⟩
            rw [results_cell_tmp rfl]
            go_simp
          case pos =>
           have hkI : (k : Int) < (ms.length : Int) := by omega
           have hk0 : ¬ (k : Int) < 0 := by omega
           have hk00 : (0 : Int) ≤ (k : Int) := by omega
           obtain ⟨x, hxk⟩ : ∃ x, ms[k]? = some x := ⟨_, List.getElem?_eq_getElem hkn⟩
           have hmr := (HRE.out wr HK.out.bel).2.1
           obtain ⟨b, off, rfl, hbB, x0, x1, x2, x3⟩ := MvS.at_ hmr hxk
           have hmok := msF_ok _ _ HMK.out HM0.out
           have hml := msF_len (L := L) (ms.take k) ms0
           have hmt : (ms.take k).length ≤ 64 := by rw [List.length_take]; omega
           have HSN := Lib.hid (msF_snoc (L := L) (ms := ms0) hxk HM0.out)
           have HML : Hid ((msF L ms0 (ms.take k)).1.length ≤ 100000) := by unfold Hid; omega
           generalize (msF L ms0 (ms.take k)).1 = mcur at *
           obtain ⟨out, er, hap⟩ : ∃ out er, applyL L mcur x = (out, er) := ⟨_, _, rfl⟩
           rw [hap] at HSN
           simp only at HSN
           have HAP2 := Lib.hid hap
           obtain ⟨mg, mp, ⟨md, mb⟩⟩ := x
           simp only at x0 x1 x2 x3
           have HXC : Hid (∀ W, Below wr.heap.size wr W → W.cell? ⟨b, off + k * 4, none⟩ = some (.int .i64 mg) ∧ W.cell? ⟨b, off + k * 4 + 1, none⟩ = some (.int .i64 mp) ∧ W.cell? ⟨b, off + k * 4 + 2, none⟩ = some (.int .i64 md) ∧ W.cell? ⟨b, off + k * 4 + 3, none⟩ = some (.int .i64 mb)) := fun W hW =>
            ⟨(hW.cell (p := ⟨b, off + k * 4, none⟩) hbB).trans x0, (hW.cell (p := ⟨b, off + k * 4 + 1, none⟩) hbB).trans x1, (hW.cell (p := ⟨b, off + k * 4 + 2, none⟩) hbB).trans x2, (hW.cell (p := ⟨b, off + k * 4 + 3, none⟩) hbB).trans x3⟩
           obtain ⟨A4, c4, hmv, hmS⟩ := HK.out.st.ms
           have e3 : A5 = A4 := by injection hmv
           have e4 : c5 = c4 := by injection hmv
           have e5 : n5 = mcur.length := HN5.out.symm
           subst e3 e4 e5
           have HCA : Hid (Calls Tryz.prog 46 #[.agg #[.int .i64 L.disks, .slice A L.n c, .int .i64 L.tiles, .int .i64 L.spare], .slice A5 mcur.length c5, .agg #[.int .i64 mg, .int .i64 mp, .int .i64 md, .int .i64 mb]] wr.drew fun r w' => (∃ v, r = .returned (.tuple #[v, .int .i64 er]) ∧ OwS w' wr.heap.size 89 4 v (out.map Mv.cells)) ∧ Below wr.heap.size wr.drew w') := by
            have hd : Below wr.heap.size wr wr.drew := (Below.refl _ _).drew
            have h := r22apply (L := L) (A := A) (Am := A5) (B := wr.heap.size) (c := c) (cm := c5) (ms := mcur) ⟨mg, mp, ⟨md, mb⟩⟩ wr.drew HX.out ((HGS.out wr HK.out.bel).below hd (Nat.le_refl _)) (RdS.below' hmS.now hd (Nat.le_refl _)) (Nat.le_refl _) HML.out
            rw [HAP2.out] at h
            exact h
           have HSX : Hid (∀ W, Below wr.heap.size wr W → (W.cell? ⟨w.heap.size, 0, none⟩ = some (.int .i64 L.disks) ∧ W.cell? ⟨w.heap.size, 1, none⟩ = some (.slice A L.n c) ∧ W.cell? ⟨w.heap.size, 2, none⟩ = some (.int .i64 L.tiles) ∧ W.cell? ⟨w.heap.size, 3, none⟩ = some (.int .i64 L.spare) ∧ W.cell? ⟨X, 1, none⟩ = some (.slice A5 mcur.length c5) ∧ W.cell? ⟨w.heap.size + 1 + 1, 3, none⟩ = some (.slice (some ⟨b, off, none⟩) ms.length cm) ∧ W.cell? ⟨b, off + k * 4, none⟩ = some (.int .i64 mg) ∧ W.cell? ⟨b, off + k * 4 + 1, none⟩ = some (.int .i64 mp) ∧ W.cell? ⟨b, off + k * 4 + 2, none⟩ = some (.int .i64 md) ∧ W.cell? ⟨b, off + k * 4 + 3, none⟩ = some (.int .i64 mb))) := fun W hW => by
            have h := HK.out.call hW
            obtain ⟨h0, h1, h2, h3⟩ := h.lay.cells
            exact ⟨h0, h1, h2, h3, h.st.cells.2.1, by rw [cell_of_row _ _ _ _ _ _ h.rcd]; rfl, HXC.out W hW⟩
           have hS0 := HSX.out wr.drew (Below.refl _ _).drew
           clear hmr hmok hml hmt hap hxk x0 x1 x2 x3 hmv hmS
           go_upto_region 26 with (fail)
           clear rb3
           refine wp_regionT (T := 13) (S := fun W : World => (W.cell? ⟨w.heap.size, 0, none⟩ = some (.int .i64 L.disks) ∧ W.cell? ⟨w.heap.size, 1, none⟩ = some (.slice A L.n c) ∧ W.cell? ⟨w.heap.size, 2, none⟩ = some (.int .i64 L.tiles) ∧ W.cell? ⟨w.heap.size, 3, none⟩ = some (.int .i64 L.spare) ∧ W.cell? ⟨X, 1, none⟩ = some (.slice A5 mcur.length c5) ∧ W.cell? ⟨w.heap.size + 1 + 1, 3, none⟩ = some (.slice (some ⟨b, off, none⟩) ms.length cm) ∧ W.cell? ⟨b, off + k * 4, none⟩ = some (.int .i64 mg) ∧ W.cell? ⟨b, off + k * 4 + 1, none⟩ = some (.int .i64 mp) ∧ W.cell? ⟨b, off + k * 4 + 2, none⟩ = some (.int .i64 md) ∧ W.cell? ⟨b, off + k * 4 + 3, none⟩ = some (.int .i64 mb))) (by kernel_rfl) ?_
           (try change wpAnyT _ _ _ _ _ _ _ _ _ (World.drew _))
           refine wpAnyT_take (i := 0) (v := ?_) 60 rfl (by kernel_rfl) (by kernel_rfl) (by kernel_rfl) (by kernel_rfl) (by kernel_rfl) (fun _ _ _ h => h) (Or.inl ⟨by rfl, ?_⟩) hS0 ?_
           rotate_left
           ·(intro W hW; (try dsimp only at hW); obtain ⟨hW0, hW1, hW2, hW3, hW4, hW5, hW6, hW7, hW8, hW9⟩ := hW; go_simp; try with_reducible rfl)
           (simp only [List.getElem_toArray, List.getElem_cons_zero, Act.put, List.setIfInBounds_toArray, List.set_cons_zero, List.set_cons_succ])
           refine wpAnyT_take (i := 1) (v := ?_) 60 rfl (by kernel_rfl) (by kernel_rfl) (by kernel_rfl) (by kernel_rfl) (by kernel_rfl) (fun _ _ _ h => h) (Or.inl ⟨by rfl, ?_⟩) hS0 ?_
           rotate_left
           ·(intro W hW; (try dsimp only at hW); obtain ⟨hW0, hW1, hW2, hW3, hW4, hW5, hW6, hW7, hW8, hW9⟩ := hW; go_simp; try with_reducible rfl)
           (simp only [List.getElem_toArray, List.getElem_cons_zero, List.getElem_cons_succ, Act.put, List.setIfInBounds_toArray, List.set_cons_zero, List.set_cons_succ])
           refine wpAnyT_take (i := 2) (v := ?_) 60 rfl (by kernel_rfl) (by kernel_rfl) (by kernel_rfl) (by kernel_rfl) (by kernel_rfl) (fun _ _ _ h => h) (Or.inl ⟨by rfl, ?_⟩) hS0 ?_
           rotate_left
           ·(intro W hW; (try dsimp only at hW); obtain ⟨hW0, hW1, hW2, hW3, hW4, hW5, hW6, hW7, hW8, hW9⟩ := hW; go_simp; try with_reducible rfl)
           (simp only [List.getElem_toArray, List.getElem_cons_zero, List.getElem_cons_succ, Act.put, List.setIfInBounds_toArray, List.set_cons_zero, List.set_cons_succ])
           refine wpAnyT_take (i := 3) (v := ?_) 60 rfl (by kernel_rfl) (by kernel_rfl) (by kernel_rfl) (by kernel_rfl) (by kernel_rfl) (fun _ _ _ h => h) (Or.inl ⟨by rfl, ?_⟩) hS0 ?_
           rotate_left
           ·(intro W hW; (try dsimp only at hW); obtain ⟨hW0, hW1, hW2, hW3, hW4, hW5, hW6, hW7, hW8, hW9⟩ := hW; go_simp; try with_reducible rfl)
           (simp only [List.getElem_toArray, List.getElem_cons_zero, List.getElem_cons_succ, Act.put, List.setIfInBounds_toArray, List.set_cons_zero, List.set_cons_succ])
           refine wpAnyT_take (i := 4) (v := ?_) 60 rfl (by kernel_rfl) (by kernel_rfl) (by kernel_rfl) (by kernel_rfl) (by kernel_rfl) (fun _ _ _ h => h) (Or.inl ⟨by rfl, ?_⟩) hS0 ?_
           rotate_left
           ·(intro W hW; (try dsimp only at hW); obtain ⟨hW0, hW1, hW2, hW3, hW4, hW5, hW6, hW7, hW8, hW9⟩ := hW; go_simp; try with_reducible rfl)
           (simp only [List.getElem_toArray, List.getElem_cons_zero, List.getElem_cons_succ, Act.put, List.setIfInBounds_toArray, List.set_cons_zero, List.set_cons_succ])
           refine wpAnyT_take (i := 5) (v := ?_) 60 rfl (by kernel_rfl) (by kernel_rfl) (by kernel_rfl) (by kernel_rfl) (by kernel_rfl) (fun _ _ _ h => h) (Or.inl ⟨by rfl, ?_⟩) hS0 ?_
           rotate_left
           ·(intro W hW; (try dsimp only at hW); obtain ⟨hW0, hW1, hW2, hW3, hW4, hW5, hW6, hW7, hW8, hW9⟩ := hW; go_simp; try with_reducible rfl)
           (simp only [List.getElem_toArray, List.getElem_cons_zero, List.getElem_cons_succ, Act.put, List.setIfInBounds_toArray, List.set_cons_zero, List.set_cons_succ])
           refine wpAnyT_take (i := 6) (v := ?_) 60 rfl (by kernel_rfl) (by kernel_rfl) (by kernel_rfl) (by kernel_rfl) (by kernel_rfl) (fun _ _ _ h => h) (Or.inl ⟨by rfl, ?_⟩) hS0 ?_
           rotate_left
           ·(intro W hW; (try dsimp only at hW); obtain ⟨hW0, hW1, hW2, hW3, hW4, hW5, hW6, hW7, hW8, hW9⟩ := hW; go_simp; try with_reducible rfl)
           (simp only [List.getElem_toArray, List.getElem_cons_zero, List.getElem_cons_succ, Act.put, List.setIfInBounds_toArray, List.set_cons_zero, List.set_cons_succ])
           refine wpAnyT_take (i := 7) (v := ?_) 60 rfl (by kernel_rfl) (by kernel_rfl) (by kernel_rfl) (by kernel_rfl) (by kernel_rfl) (fun _ _ _ h => h) (Or.inl ⟨by rfl, ?_⟩) hS0 ?_
           rotate_left
           ·(intro W hW; (try dsimp only at hW); obtain ⟨hW0, hW1, hW2, hW3, hW4, hW5, hW6, hW7, hW8, hW9⟩ := hW; go_simp; try with_reducible rfl)
           (simp only [List.getElem_toArray, List.getElem_cons_zero, List.getElem_cons_succ, Act.put, List.setIfInBounds_toArray, List.set_cons_zero, List.set_cons_succ])
           refine wpAnyT_one (i := 8) (by kernel_rfl) rfl rfl (fun K hK => ?_)
           (go_simp; go_wp2_with (go_at_call 46; ((with_reducible refine HCA.out.mono ?_); rintro e y1 ⟨⟨v6, rfl, hown⟩, hby⟩)))
           have hby1 : Below wr.heap.size wr y1 := (Below.refl _ _).drew.trans hby
           have hS1 := HSX.out y1 hby1
           have HOWN := Lib.hid hown
           obtain ⟨A6, n6, c6, rfl⟩ := hown.sl
           (refine hK _ _ (.inr hS1) ?_)
           (clear hK K)
           (try simp only [List.getElem_toArray, List.getElem_cons_zero, List.getElem_cons_succ, Act.put, List.setIfInBounds_toArray, List.set_cons_zero, List.set_cons_succ])
           refine wpAnyT_take (i := 9) (v := ?_) 60 rfl (by kernel_rfl) (by kernel_rfl) (by kernel_rfl) (by kernel_rfl) (by kernel_rfl) (fun _ _ _ h => h) (Or.inl ⟨by rfl, ?_⟩) hS1 ?_
           rotate_left
           ·(intro W hW; (try dsimp only at hW); obtain ⟨hW0, hW1, hW2, hW3, hW4, hW5, hW6, hW7, hW8, hW9⟩ := hW; go_simp; try with_reducible rfl)
           (simp only [List.getElem_toArray, List.getElem_cons_zero, List.getElem_cons_succ, Act.put, List.setIfInBounds_toArray, List.set_cons_zero, List.set_cons_succ])
           refine wpAnyT_free (i := 10) (v := ?_) rfl (by kernel_rfl) (by kernel_rfl) (by kernel_rfl) (fun _ _ _ h => h) (Or.inl ⟨by rfl, ?_⟩) hS1 ?_
           rotate_left
           ·(intro W hW; clear hW; go_simp; try with_reducible rfl)
           (simp only [List.getElem_toArray, List.getElem_cons_zero, List.getElem_cons_succ, Act.put, List.setIfInBounds_toArray, List.set_cons_zero, List.set_cons_succ])
           refine wpAnyT_take (i := 11) (v := ?_) 60 rfl (by kernel_rfl) (by kernel_rfl) (by kernel_rfl) (by kernel_rfl) (by kernel_rfl) (fun _ _ _ h => h) (Or.inl ⟨by rfl, ?_⟩) hS1 ?_
           rotate_left
           ·(intro W hW; (try dsimp only at hW); obtain ⟨hW0, hW1, hW2, hW3, hW4, hW5, hW6, hW7, hW8, hW9⟩ := hW; go_simp; try with_reducible rfl)
           (simp only [List.getElem_toArray, List.getElem_cons_zero, List.getElem_cons_succ, Act.put, List.setIfInBounds_toArray, List.set_cons_zero, List.set_cons_succ])
           refine wpAnyT_free (i := 12) (v := ?_) rfl (by kernel_rfl) (by kernel_rfl) (by kernel_rfl) (fun _ _ _ h => h) (Or.inl ⟨by rfl, ?_⟩) hS1 ?_
           rotate_left
           ·(intro W hW; clear hW; go_simp; try with_reducible rfl)
           (simp only [List.getElem_toArray, List.getElem_cons_zero, List.getElem_cons_succ, Act.put, List.setIfInBounds_toArray, List.set_cons_zero, List.set_cons_succ])
           refine wpAnyT_one (i := 13) (by kernel_rfl) rfl rfl (fun K hK => ?_)
           go_simp
           (refine hK _ _ (.inl (by kernel_rfl)) ?_)
           (clear hK K)
           (try simp only [List.getElem_toArray, List.getElem_cons_zero, List.getElem_cons_succ, Act.put, List.setIfInBounds_toArray, List.set_cons_zero, List.set_cons_succ])
           refine wpAnyT_done (by kernel_rfl) ?_ _
           have HK6 := Lib.hid (HK.out.call hby1)
           have HMV := Lib.hid (MvW.made (F := FX X (apE w E) (.slice Al nl cl) (.slice Ao no co)) HOWN.out fun k hk => HK.out.st.flt HK.out.elt hk)
           have hlt6 := HK6.out.lt
           clear hS0 hS1 hown HOWN hby hby1 HCA HSX HXC
           by_cases her : er = 0
           ·subst her
            have HT : Hid ((msF L ms0 (ms.take (k + 1))).2 = 0 ∧ (msF L ms0 (ms.take (k + 1))).1 = out) := by rw [Hid, HSN.out]; simp
            obtain ⟨-, z1, -, zf⟩ := HK6.out.st.cells
            have f1 := zf 1
            have HE : Hid (ApK E w (y1.setCell ⟨X, 1, none⟩ (.slice A6 n6 c6)) L A c _ X (.slice Al nl cl) (.slice A6 n6 c6) (.slice Ao no co) ⟨cur, out, nt0⟩) :=
             HK6.out.turn ((Below.refl _ _).setCell (p := ⟨X, 1, none⟩) HK.out.gx _) (HK6.out.st.setM HMV.out) HK.out.go
            clear zf
            go_wp2
            go_roundw
            case rel => exact ⟨k + 1, by omega, by go_num, HT.out.1, _, by rw [HT.out.2]; exact HE.out⟩
            case measure => simp [intOf] <;> omega
           ·have g1 : (er != 0) = true := by simpa using her
            have g2 : (er == 0) = false := by simpa using her
            have HF : Hid (rr = (St.zero, er)) := by
             have h1 : (msF L ms0 (ms.take (k + 1))).2 = er := by rw [HSN.out, if_neg her]
             have h2 : (msF L ms0 ms).2 = er := by rw [← h1]; exact msF_stop (by rw [h1]; exact her)
             rw [Hid, HAR2.out, h2, if_neg her]
            clear her HSN
            obtain ⟨z0, z1, z2⟩ := zero3 HK6.out.res
            have f0 := frozen_blk HK6.out.res 0
            have f1 := frozen_blk HK6.out.res 1
            have f2 := frozen_blk HK6.out.res 2
            have HBF : Hid (Below w.heap.size w _) := ((HK6.out.bel.setCell (p := ⟨w.heap.size + 1 + 1 + 1, 0, none⟩) (by simp; omega) (.slice none 0 0)).setCell (p := ⟨w.heap.size + 1 + 1 + 1, 1, none⟩) (by simp; omega) (.slice none 0 0)).setCell (p := ⟨w.heap.size + 1 + 1 + 1, 2, none⟩) (by simp; omega) (.slice none 0 0)
            have HZ : Hid (∀ V : World, StK E V (.agg #[.slice none 0 0, .slice none 0 0, .slice none 0 0]) St.zero) := fun V => StK.zero E V
            go_wp2
            (try simp only [Exit.inBlock, Exit.then])
            refine bodyPost_ret (v := .tuple #[.agg #[.slice none 0 0, .slice none 0 0, .slice none 0 0], .int .i64 er]) ?_ rfl ⟨⟨_, by rw [HF.out], by rw [HF.out]; exact HZ.out _⟩, HBF.out⟩
            rw [results_cell_tmp rfl]
            go_simp
        case pos =>
         have hkI : (k : Int) < (ws.length : Int) := by omega
         have hk0 : ¬ (k : Int) < 0 := by omega
         obtain ⟨x, hxk⟩ : ∃ x, ws[k]? = some x := ⟨_, List.getElem?_eq_getElem hkn⟩
         obtain ⟨hwr, -, -⟩ := HRE.out wr HK.out.bel
         obtain ⟨b, off, rfl, hbB, hcx⟩ := PwS.at_ hwr hxk
         have hmem := List.mem_of_getElem? hxk
         obtain ⟨g, p, hg, hp, hgG, hpw⟩ := HWKX.out x hmem
         have hdx := HDK.out x hmem
         have HTK : Hid (wsF ls0 (ws.take (k + 1)) = wstep cur x) := wsF_snoc hxk HCU.out
         have HNO : Hid (wstep cur x = none → rr = (St.zero, 8)) := fun h => by rw [HAT.out, wsF_none (k := k + 1) (HTK.out.trans h)]
         have HWS : Hid (∀ y, cur[x.g.toNat]? = some y → wstep cur x = if x.v < y.vs.getD x.p.toNat 0 then none else some (cur.set x.g.toNat (setL y x.g.toNat x.p.toNat x.v x.d))) := fun y hy => by unfold wstep; rw [hy]
         generalize wstep cur x = st at *
         obtain ⟨xg, xp, v, d⟩ := x
         simp only at hg hp hdx HWS
         subst hg hp
         simp only [Int.toNat_natCast] at HWS
         have hok := wsF_ok _ _ HLK.out _ HCU.out
         obtain ⟨y, hy⟩ : ∃ y, cur[g]? = some y := ⟨_, List.getElem?_eq_getElem (by rw [hok.1]; exact hgG)⟩
         have hyl := hok.2 y (List.mem_of_getElem? hy)
         have HW1 := Lib.hid (HWS.out y hy)
         obtain ⟨vp, hvp⟩ : ∃ vp, y.vs[p]? = some vp := ⟨_, List.getElem?_eq_getElem (by rw [hyl.1]; exact hpw)⟩
         have hgd : y.vs.getD p 0 = vp := by rw [List.getD_eq_getElem?_getD, hvp]; rfl
         rw [hgd] at HW1
         have HDX := Lib.hid hdx
         have HY := Lib.hid hy
         have hcl : cur.length = ls0.length := by rw [hok.1]; exact HGL.out
         obtain ⟨SL, hSL⟩ : ∃ SL, setL y g p v d = SL := ⟨_, rfl⟩
         rw [hSL] at HW1
         have HSLE := Lib.hid hSL
         obtain ⟨b0, b1, b2, b3, b4, b5, b6, b7⟩ := d
         have x0 := hcx 0 _ rfl
         have x1 := hcx 1 _ rfl
         have x2 := hcx 2 _ rfl
         have x3 := hcx 3 _ rfl
         have x4 := hcx 4 _ rfl
         have x5 := hcx 5 _ rfl
         have x6 := hcx 6 _ rfl
         have x7 := hcx 7 _ rfl
         have x8 := hcx 8 _ rfl
         have x9 := hcx 9 _ rfl
         have x10 := hcx 10 _ rfl
         simp only [Nat.add_zero] at x0
         have hgN : g < nl := by have h9 := HNL.out; have h8 := HGL.out; omega
         have hgI : (g : Int) < (nl : Int) := by omega
         have hpI : (p : Int) < (y.vs.length : Int) := by omega
         have hpN : p < y.vs.length := by omega
         have hg0 : ¬ (g : Int) < 0 := by omega
         have hp0 : ¬ (p : Int) < 0 := by omega
         have hg00 : (0 : Int) ≤ (g : Int) := by omega
         have hp00 : (0 : Int) ≤ (p : Int) := by omega
         have hvl16 : y.vs.length ≤ 1000 := by omega
         have HVS : Hid (y.ss.length = y.vs.length) := by unfold Hid; omega
         have hg6 : g < 1000000 := by omega
         have hgc : g < cur.length := by rw [hok.1]; exact hgG
         have rb : wr.cell? ⟨w.heap.size + 1 + 1, 2, none⟩ = some (.slice (some ⟨b, off, none⟩) ws.length cw) := by rw [cell_of_row _ _ _ _ _ _ HK.out.rcd]; rfl
         clear hwr hcx hxk hmem HWS hy hok hgd hSL hdx hyl hcl
         go_upto_region 18 with (fail)
         have hn5 := heap_alloc_new wr (.cells #[.int .i64 (g : Int), .int .i64 (p : Int), .int .u64 v, .int .u8 b0, .int .u8 b1, .int .u8 b2, .int .u8 b3, .int .u8 b4, .int .u8 b5, .int .u8 b6, .int .u8 b7] 64)
         have hb5 : Below wr.heap.size wr (wr.alloc (.cells #[.int .i64 (g : Int), .int .i64 (p : Int), .int .u64 v, .int .u8 b0, .int .u8 b1, .int .u8 b2, .int .u8 b3, .int .u8 b4, .int .u8 b5, .int .u8 b6, .int .u8 b7] 64)) := below_laid
         have hz5 : wr.heap.size < (wr.alloc (.cells #[.int .i64 (g : Int), .int .i64 (p : Int), .int .u64 v, .int .u8 b0, .int .u8 b1, .int .u8 b2, .int .u8 b3, .int .u8 b4, .int .u8 b5, .int .u8 b6, .int .u8 b7] 64)).heap.size := by simp
         generalize wr.alloc _ = w5 at *
         have HK5 := Lib.hid (HK.out.call hb5)
         have HN5 := Lib.hid hn5
         have HB5 := Lib.hid hb5
         have n0 : w5.cell? ⟨wr.heap.size, 0, none⟩ = some (.int .i64 (g : Int)) := by rw [cell_of_row _ _ _ _ _ _ hn5]; rfl
         have n1 : w5.cell? ⟨wr.heap.size, 1, none⟩ = some (.int .i64 (p : Int)) := by rw [cell_of_row _ _ _ _ _ _ hn5]; rfl
         have n2 : w5.cell? ⟨wr.heap.size, 2, none⟩ = some (.int .u64 v) := by rw [cell_of_row _ _ _ _ _ _ hn5]; rfl
         have n3 : w5.cell? ⟨wr.heap.size, 3, none⟩ = some (.int .u8 b0) := by rw [cell_of_row _ _ _ _ _ _ hn5]; rfl
         have n4 : w5.cell? ⟨wr.heap.size, 4, none⟩ = some (.int .u8 b1) := by rw [cell_of_row _ _ _ _ _ _ hn5]; rfl
         have n5 : w5.cell? ⟨wr.heap.size, 5, none⟩ = some (.int .u8 b2) := by rw [cell_of_row _ _ _ _ _ _ hn5]; rfl
         have n6 : w5.cell? ⟨wr.heap.size, 6, none⟩ = some (.int .u8 b3) := by rw [cell_of_row _ _ _ _ _ _ hn5]; rfl
         have n7 : w5.cell? ⟨wr.heap.size, 7, none⟩ = some (.int .u8 b4) := by rw [cell_of_row _ _ _ _ _ _ hn5]; rfl
         have n8 : w5.cell? ⟨wr.heap.size, 8, none⟩ = some (.int .u8 b5) := by rw [cell_of_row _ _ _ _ _ _ hn5]; rfl
         have n9 : w5.cell? ⟨wr.heap.size, 9, none⟩ = some (.int .u8 b6) := by rw [cell_of_row _ _ _ _ _ _ hn5]; rfl
         have n10 : w5.cell? ⟨wr.heap.size, 10, none⟩ = some (.int .u8 b7) := by rw [cell_of_row _ _ _ _ _ _ hn5]; rfl
         have s0 := HK5.out.st.cells.1
         obtain ⟨gb, cg, ua, ub, hlv, k0, k1, kf, hyS⟩ := HK5.out.st.ls.at_ HY.out
         have hAl : Al = some ⟨gb, 0, none⟩ := by injection hlv
         subst hAl
         have hcg : cl = cg := by injection hlv
         subst hcg
         obtain ⟨Ax, cx, Ay, cy, he, hux, huy, hcx, hcy⟩ := hyS.now
         injection he with he
         have e1 : ua = .slice Ax y.vs.length cx := by have := congrArg (fun x => x[0]?) he; simpa using this
         have e2 : ub = .slice Ay y.ss.length cy := by have := congrArg (fun x => x[1]?) he; simpa using this
         subst e1 e2
         obtain ⟨bv, ov, rfl, hbv, kv⟩ := U64S.at_ hux hvp
         have HYS := Lib.hid hyS.now
         clear he hn5 hb5 hlv hyS hux huy hvp x0 x1 x2 x3 x4 x5 x6 x7 x8 x9 x10 rb
         go_upto_region 19 with (fail)
         have hn6 := heap_alloc_new w5 (.cells #[.slice (some ⟨bv, ov, none⟩) y.vs.length cx, .slice Ay y.ss.length cy] 80)
         have hb6 : Below w5.heap.size w5 (w5.alloc (.cells #[.slice (some ⟨bv, ov, none⟩) y.vs.length cx, .slice Ay y.ss.length cy] 80)) := below_laid
         have hz6 : w5.heap.size < (w5.alloc (.cells #[.slice (some ⟨bv, ov, none⟩) y.vs.length cx, .slice Ay y.ss.length cy] 80)).heap.size := by simp
         generalize w5.alloc _ = w6 at *
         have HK6 := Lib.hid (HK5.out.call hb6)
         have HN6 := Lib.hid hn6
         have HN56 := Lib.hid ((hb6.block _ hz5).trans HN5.out)
         have HY6 := Lib.hid (HYS.out.below hb6 (Nat.le_refl _))
         have l0 : w6.cell? ⟨w5.heap.size, 0, none⟩ = some (.slice (some ⟨bv, ov, none⟩) y.vs.length cx) := by rw [cell_of_row _ _ _ _ _ _ hn6]; rfl
         have kv6 : w6.cell? ⟨bv, ov + p, none⟩ = some (.int .u64 (vp : Int)) := (hb6.cell (p := ⟨bv, ov + p, none⟩) hbv).trans kv
         have m0 : w6.cell? ⟨wr.heap.size, 0, none⟩ = some (.int .i64 (g : Int)) := by rw [cell_of_row _ _ _ _ _ _ HN56.out]; rfl
         have m1 : w6.cell? ⟨wr.heap.size, 1, none⟩ = some (.int .i64 (p : Int)) := by rw [cell_of_row _ _ _ _ _ _ HN56.out]; rfl
         have m2 : w6.cell? ⟨wr.heap.size, 2, none⟩ = some (.int .u64 v) := by rw [cell_of_row _ _ _ _ _ _ HN56.out]; rfl
         have m3 : w6.cell? ⟨wr.heap.size, 3, none⟩ = some (.int .u8 b0) := by rw [cell_of_row _ _ _ _ _ _ HN56.out]; rfl
         have m4 : w6.cell? ⟨wr.heap.size, 4, none⟩ = some (.int .u8 b1) := by rw [cell_of_row _ _ _ _ _ _ HN56.out]; rfl
         have m5 : w6.cell? ⟨wr.heap.size, 5, none⟩ = some (.int .u8 b2) := by rw [cell_of_row _ _ _ _ _ _ HN56.out]; rfl
         have m6 : w6.cell? ⟨wr.heap.size, 6, none⟩ = some (.int .u8 b3) := by rw [cell_of_row _ _ _ _ _ _ HN56.out]; rfl
         have m7 : w6.cell? ⟨wr.heap.size, 7, none⟩ = some (.int .u8 b4) := by rw [cell_of_row _ _ _ _ _ _ HN56.out]; rfl
         have m8 : w6.cell? ⟨wr.heap.size, 8, none⟩ = some (.int .u8 b5) := by rw [cell_of_row _ _ _ _ _ _ HN56.out]; rfl
         have m9 : w6.cell? ⟨wr.heap.size, 9, none⟩ = some (.int .u8 b6) := by rw [cell_of_row _ _ _ _ _ _ HN56.out]; rfl
         have m10 : w6.cell? ⟨wr.heap.size, 10, none⟩ = some (.int .u8 b7) := by rw [cell_of_row _ _ _ _ _ _ HN56.out]; rfl
         clear hn6 s0 k0 k1 kf kv n0 n1 n2 n3 n4 n5 n6 n7 n8 n9 n10
         by_cases hlt2 : v < vp
         ·have hltI : (v : Int) < (vp : Int) := by omega
          have HNS : Hid (st = none) := by rw [Hid, HW1.out, if_pos hlt2]
          have HF := Lib.hid (HNO.out HNS.out)
          go_quiet (fail)
          generalize hdr : w6.drewN _ = w7
          have hbx : Below w6.heap.size w6 w7 := by rw [← hdr]; exact below_drewN (Below.refl _ _) _
          have HK7 := Lib.hid (HK6.out.call hbx)
          clear hdr hbx l0 kv6 m0 m1 m2 m3 m4 m5 m6 m7 m8 m9 m10
          obtain ⟨z0, z1, z2⟩ := zero3 HK7.out.res
          have f0 := frozen_blk HK7.out.res 0
          have f1 := frozen_blk HK7.out.res 1
          have f2 := frozen_blk HK7.out.res 2
          have HBF : Hid (Below w.heap.size w _) := ((HK7.out.bel.setCell (p := ⟨w.heap.size + 1 + 1 + 1, 0, none⟩) (by simp; omega) (.slice none 0 0)).setCell (p := ⟨w.heap.size + 1 + 1 + 1, 1, none⟩) (by simp; omega) (.slice none 0 0)).setCell (p := ⟨w.heap.size + 1 + 1 + 1, 2, none⟩) (by simp; omega) (.slice none 0 0)
          have HZ : Hid (∀ V : World, StK E V (.agg #[.slice none 0 0, .slice none 0 0, .slice none 0 0]) St.zero) := fun V => StK.zero E V
          go_wp2
          (try simp only [Exit.inBlock, Exit.then])
          refine bodyPost_ret (v := .tuple #[.agg #[.slice none 0 0, .slice none 0 0, .slice none 0 0], .int .i64 8]) ?_ rfl ⟨⟨_, by rw [HF.out], by rw [HF.out]; exact HZ.out _⟩, HBF.out⟩
          rw [results_cell_tmp rfl]
          go_simp
         ·have hltI : ¬ (v : Int) < (vp : Int) := by omega
          have HSS : Hid (st = some (cur.set g SL)) := by rw [Hid, HW1.out, if_neg hlt2]
          have HT2 : Hid (wsF ls0 (ws.take (k + 1)) = some (cur.set g SL)) := HTK.out.trans HSS.out
          clear HTK HNO HSS HW1
          go_quiet (fail)
          generalize hdr : w6.drewN _ = w7
          have hbx : Below w6.heap.size w6 w7 := by rw [← hdr]; exact below_drewN (Below.refl _ _) _
          have HB7 := Lib.hid (bel_trans (bel_trans HB5.out hb6) hbx)
          have HY7 := Lib.hid (HY6.out.below hbx (Nat.le_of_lt hz6))
          have hz7 : w5.heap.size < w7.heap.size := Nat.lt_of_lt_of_le hz6 hbx.size
          have HN7 := Lib.hid ((hbx.block _ hz6).trans HN6.out)
          have HX7 := Lib.hid ((hbx.block _ (Nat.lt_trans hz5 hz6)).trans HN56.out)
          clear hdr hbx l0 kv6 m0 m1 m2 m3 m4 m5 m6 m7 m8 m9 m10 hb6 HY6 HN6 HN56 HK6 HYS HK5 HN5 hlt2 hltI HB5
          obtain ⟨Ax, hAx⟩ : ∃ Ax, (some ⟨bv, ov, none⟩ : Option Addr) = Ax := ⟨_, rfl⟩
          rw [hAx] at HY7 HN7
          clear hAx
          have HSC : Hid (Calls Tryz.prog 45 #[.agg #[.slice Ax y.vs.length cx, .slice Ay y.ss.length cy], .agg #[.int .i64 (g : Int), .int .i64 (p : Int), .int .u64 v, .int .u8 b0, .int .u8 b1, .int .u8 b2, .int .u8 b3, .int .u8 b4, .int .u8 b5, .int .u8 b6, .int .u8 b7]] w7 fun r w' => (∃ v', r = .returned (.tuple #[v', .int .i64 0]) ∧ LfV w' w'.heap.size v' SL ∧ LfF w7.heap.size v') ∧ Below w7.heap.size w7 w') := by
           have h := set25 g p v ⟨b0, b1, b2, b3, b4, b5, b6, b7⟩ w7 (HY7.out.more (Nat.le_of_lt hz7)) (Nat.le_refl _) HVS.out hpN hvl16 HDX.out hg6
           rw [HSLE.out] at h
           exact h
          have l0 : w7.cell? ⟨w5.heap.size, 0, none⟩ = some (.slice Ax y.vs.length cx) := by rw [cell_of_row _ _ _ _ _ _ HN7.out]; rfl
          have l1 : w7.cell? ⟨w5.heap.size, 1, none⟩ = some (.slice Ay y.ss.length cy) := by rw [cell_of_row _ _ _ _ _ _ HN7.out]; rfl
          have m0 : w7.cell? ⟨wr.heap.size, 0, none⟩ = some (.int .i64 (g : Int)) := by rw [cell_of_row _ _ _ _ _ _ HX7.out]; rfl
          have m1 : w7.cell? ⟨wr.heap.size, 1, none⟩ = some (.int .i64 (p : Int)) := by rw [cell_of_row _ _ _ _ _ _ HX7.out]; rfl
          have m2 : w7.cell? ⟨wr.heap.size, 2, none⟩ = some (.int .u64 v) := by rw [cell_of_row _ _ _ _ _ _ HX7.out]; rfl
          have m3 : w7.cell? ⟨wr.heap.size, 3, none⟩ = some (.int .u8 b0) := by rw [cell_of_row _ _ _ _ _ _ HX7.out]; rfl
          have m4 : w7.cell? ⟨wr.heap.size, 4, none⟩ = some (.int .u8 b1) := by rw [cell_of_row _ _ _ _ _ _ HX7.out]; rfl
          have m5 : w7.cell? ⟨wr.heap.size, 5, none⟩ = some (.int .u8 b2) := by rw [cell_of_row _ _ _ _ _ _ HX7.out]; rfl
          have m6 : w7.cell? ⟨wr.heap.size, 6, none⟩ = some (.int .u8 b3) := by rw [cell_of_row _ _ _ _ _ _ HX7.out]; rfl
          have m7 : w7.cell? ⟨wr.heap.size, 7, none⟩ = some (.int .u8 b4) := by rw [cell_of_row _ _ _ _ _ _ HX7.out]; rfl
          have m8 : w7.cell? ⟨wr.heap.size, 8, none⟩ = some (.int .u8 b5) := by rw [cell_of_row _ _ _ _ _ _ HX7.out]; rfl
          have m9 : w7.cell? ⟨wr.heap.size, 9, none⟩ = some (.int .u8 b6) := by rw [cell_of_row _ _ _ _ _ _ HX7.out]; rfl
          have m10 : w7.cell? ⟨wr.heap.size, 10, none⟩ = some (.int .u8 b7) := by rw [cell_of_row _ _ _ _ _ _ HX7.out]; rfl
          go_wp2_with fail
          refine HSC.out.mono ?_
          rintro e y1 ⟨⟨v', rfl, hvL, hvF⟩, hby⟩
          obtain ⟨A1', n1', c1', A2', n2', c2', rfl⟩ := hvL.slices
          have hzy : w5.heap.size < y1.heap.size := Nat.lt_of_lt_of_le hz7 hby.size
          have HNY := Lib.hid ((hby.block _ hz7).trans HN7.out)
          have HXY := Lib.hid ((hby.block _ (Nat.lt_trans hz5 hz7)).trans HX7.out)
          have hby1 := bel_trans HB7.out hby
          have HLS9 : Hid (Stb (fun k => FX X (apE w E) (.slice (some ⟨gb, 0, none⟩) nl cl) (.slice Ao no co) k ∨ k = w5.heap.size) y1 fun W => LfV W W.heap.size (.agg #[.slice A1' n1' c1', .slice A2' n2' c2']) SL) := LfV.stb (B0 := w7.heap.size) hvL hvF fun k hk => by
           rcases hk with hk | hk
           ·have := HK.out.st.flt HK.out.elt hk
            have := HB7.out.size
            omega
           ·omega
          have y0 : y1.cell? ⟨w5.heap.size, 0, none⟩ = some (.slice Ax y.vs.length cx) := by rw [cell_of_row _ _ _ _ _ _ HNY.out]; rfl
          have y1' : y1.cell? ⟨w5.heap.size, 1, none⟩ = some (.slice Ay y.ss.length cy) := by rw [cell_of_row _ _ _ _ _ _ HNY.out]; rfl
          have yf0 := frozen_blk HNY.out 0
          have yf1 := frozen_blk HNY.out 1
          clear l0 l1 m0 m1 m2 m3 m4 m5 m6 m7 m8 m9 m10 hvL hvF hby HSC
          go_upto_region 22 with (fail)
          have hag : Agr (FX X (apE w E) (.slice (some ⟨gb, 0, none⟩) nl cl) (.slice Ao no co)) wr ((y1.setCell ⟨w5.heap.size, 0, none⟩ (.slice A1' n1' c1')).setCell ⟨w5.heap.size, 1, none⟩ (.slice A2' n2' c2')) := ((Agr.of hby1).set (p := ⟨w5.heap.size, 0, none⟩) (.inr (by show wr.heap.size ≤ w5.heap.size; omega)) _).set (p := ⟨w5.heap.size, 1, none⟩) (.inr (by show wr.heap.size ≤ w5.heap.size; omega)) _
          have hbe : Below wr.heap.size wr ((y1.setCell ⟨w5.heap.size, 0, none⟩ (.slice A1' n1' c1')).setCell ⟨w5.heap.size, 1, none⟩ (.slice A2' n2' c2')) := (hby1.setCell (p := ⟨w5.heap.size, 0, none⟩) (by show wr.heap.size ≤ w5.heap.size; omega) _).setCell (p := ⟨w5.heap.size, 1, none⟩) (by show wr.heap.size ≤ w5.heap.size; omega) _
          have HLS8 := Lib.hid ((HLS9.out.to (((Agr.refl _ y1).set (p := ⟨w5.heap.size, 0, none⟩) (.inr rfl |> fun h => .inl h) (.slice A1' n1' c1')).set (p := ⟨w5.heap.size, 1, none⟩) (.inr rfl |> fun h => .inl h) (.slice A2' n2' c2')) (fun i _ e => .inl e) : Stb (FX X (apE w E) (.slice (some ⟨gb, 0, none⟩) nl cl) (.slice Ao no co)) _ _))
          have HN8 := Lib.hid (heap_setCell_same _ w5.heap.size 1 _ _ (.slice A2' n2' c2') (heap_setCell_same y1 w5.heap.size 0 _ _ (.slice A1' n1' c1') HNY.out))
          have HX8 := Lib.hid ((heap_setCell_other _ ⟨w5.heap.size, 1, none⟩ wr.heap.size (.slice A2' n2' c2') (by show wr.heap.size ≠ w5.heap.size; omega)).trans ((heap_setCell_other y1 ⟨w5.heap.size, 0, none⟩ wr.heap.size (.slice A1' n1' c1') (by show wr.heap.size ≠ w5.heap.size; omega)).trans HXY.out))
          generalize (y1.setCell _ _).setCell _ _ = w8 at *
          clear y0 y1' yf0 yf1 HLS9 hby1 HNY HXY
          have HST8 := Lib.hid (HK.out.st.call hbe)
          have HBE := Lib.hid hbe
          have s8 := HST8.out.cells.1
          have x8 : w8.cell? ⟨wr.heap.size, 0, none⟩ = some (.int .i64 (g : Int)) := by rw [cell_of_row _ _ _ _ _ _ HX8.out]; rfl
          have l80 : w8.cell? ⟨w5.heap.size, 0, none⟩ = some (.slice A1' n1' c1') := by rw [cell_of_row _ _ _ _ _ _ HN8.out]; rfl
          have l81 : w8.cell? ⟨w5.heap.size, 1, none⟩ = some (.slice A2' n2' c2') := by rw [cell_of_row _ _ _ _ _ _ HN8.out]; rfl
          obtain ⟨g1, cg1, ua1, ub1, hlv1, k01, k11, kf1, -⟩ := HST8.out.ls.at_ HY.out
          obtain rfl : gb = g1 := by injection hlv1 with h1; injection h1 with h1; injection h1
          have hkf0 := kf1 (g * 2)
          have hkf1 := kf1 (g * 2 + 1)
          have hgo : w.heap.size + 4 ≤ gb := HK.out.go gb (.inl rfl)
          have HE : Hid (ApK E w ((w8.setCell ⟨gb, g * 2, none⟩ (.slice A1' n1' c1')).setCell ⟨gb, g * 2 + 1, none⟩ (.slice A2' n2' c2')) L A c _ X (.slice (some ⟨gb, 0, none⟩) nl cl) (.slice A2 ms0.length c2) (.slice Ao no co) ⟨cur.set g SL, ms0, nt0⟩) :=
           HK.out.turn (((hbe.mono (by have := HK.out.lt; omega)).setCell (p := ⟨gb, g * 2, none⟩) hgo _).setCell (p := ⟨gb, g * 2 + 1, none⟩) hgo _) (HST8.out.setL (k := g) hgc HLS8.out) HK.out.go
          clear hlv1 kf1 hag hbe
          go_wp2
          go_roundw
          case rel => exact ⟨k + 1, by omega, by go_num, _, HT2.out, HE.out⟩
          case measure => simp [intOf] <;> omega
      case pos =>
       have hkI : (k : Int) < (ms.length : Int) := by omega
       have hk0 : ¬ (k : Int) < 0 := by omega
       have hk00 : (0 : Int) ≤ (k : Int) := by omega
       obtain ⟨x, hxk⟩ : ∃ x, ms[k]? = some x := ⟨_, List.getElem?_eq_getElem hkn⟩
       have hmem := List.mem_of_getElem? hxk
       obtain ⟨g, p, hg, hp⟩ := HRMM.out x hmem
       have hrd := (HRE.out wr HJ.out.bel).2.1
       obtain ⟨b, off, hAA, hbB, hat⟩ := mv_all hrd hxk
       subst hAA
       have HTK : Hid ((ms.take (k + 1)).all km = km x) := by
        have h0 := HAL.out
        unfold Hid
        rw [List.take_add_one, hxk, List.all_append, h0]
        simp
       have HRF : Hid (km x = false → rr = (St.zero, 1)) := fun hf => HRR.out (by rw [HKB.out, List.all_eq_false.2 ⟨x, hmem, by rw [hf]; simp⟩, Bool.and_false])
       have HKX : Hid (km x = (decide (g < ls0.length) && decide (p < wd))) := by
        rw [Hid, HKM2.out x, hg, hp, decide_eq_decide.2 (show ((g : Int) < (ls0.length : Int) ↔ g < ls0.length) by omega), decide_eq_decide.2 (show ((p : Int) < (wd : Int) ↔ p < wd) by omega)]
       obtain ⟨kx, hkx⟩ : ∃ q, km x = q := ⟨_, rfl⟩
       rw [hkx] at HTK HRF HKX
       rw [hg, hp] at hat
       have hJ := HJ.out
       have Q : ∀ d xs, (Sort.grow (redrawn wr d) xs).cell? ⟨w.heap.size, 0, none⟩ = some (.int .i64 L.disks) ∧ (Sort.grow (redrawn wr d) xs).cell? ⟨w.heap.size, 1, none⟩ = some (.slice A L.n c) ∧ (Sort.grow (redrawn wr d) xs).cell? ⟨w.heap.size, 2, none⟩ = some (.int .i64 L.tiles) ∧ (Sort.grow (redrawn wr d) xs).cell? ⟨w.heap.size, 3, none⟩ = some (.int .i64 L.spare) := fun d xs => (hJ.call (below_regrown wr d xs)).lay.cells
       have Y : ∀ d xs, (Sort.grow (redrawn wr d) xs).cell? ⟨w.heap.size + 1, 0, none⟩ = some (.slice A1 ls0.length c1) ∧ (Sort.grow (redrawn wr d) xs).cell? ⟨w.heap.size + 1 + 1, 3, none⟩ = some (.slice (some ⟨b, off, none⟩) ms.length cm) ∧ (Sort.grow (redrawn wr d) xs).cell? ⟨b, off + k * 4, none⟩ = some (.int .i64 (g : Int)) ∧ (Sort.grow (redrawn wr d) xs).cell? ⟨b, off + k * 4 + 1, none⟩ = some (.int .i64 (p : Int)) := fun d xs => by
        have h1 := hJ.call (below_regrown wr d xs)
        have h2 := hat _ (below_regrown wr d xs)
        exact ⟨by rw [cell_of_row _ _ _ _ _ _ h1.sb]; rfl, by rw [cell_of_row _ _ _ _ _ _ h1.rcd]; rfl, h2.1, h2.2⟩
       have KW := Lib.hid (fun d xs => HWI.out (Sort.grow (redrawn wr d) xs) (hJ.call (below_regrown wr d xs)).bel)
       clear hJ hat hxk hmem hg hp hkx hrd HAL
       go_wp2_with fail
       by_cases e1 : g < ls0.length
       ·by_cases e2 : p < wd
        ·obtain ⟨g1, g2⟩ := ge_no e1
         obtain ⟨g3, g4⟩ := ge_no e2
         have HT : Hid ((ms.take (k + 1)).all km = true) := by rw [Hid, HTK.out, HKX.out, decide_eq_true e1, decide_eq_true e2]; rfl
         clear e1 e2 rb
         refine quiet_below (by kernel_rfl) (by kernel_rfl) ?_
         repeat (go_big_quiet_step (first | (go_at_call 41; exact Calls.regrown_of (KW.out _ _))))
         refine wpQuiet_nil ?_
         intro w6 hb6
         have HJ6 := Lib.hid (HJ.out.call hb6)
         clear hb6 Q Y KW
         go_wp2
         go_roundw
         case rel => exact ⟨k + 1, by omega, by go_num, HT.out, HJ6.out⟩
         case measure => simp [intOf] <;> omega
        ·obtain ⟨g1, g2⟩ := ge_no e1
         obtain ⟨g3, g4⟩ := ge_yes (Nat.le_of_not_lt e2)
         have HF : Hid (rr = (St.zero, 1)) := HRF.out (by rw [HKX.out, decide_eq_false e2]; simp)
         clear e1 e2 rb
         refine quiet_below (by kernel_rfl) (by kernel_rfl) ?_
         repeat (go_big_quiet_step (first | (go_at_call 41; exact Calls.regrown_of (KW.out _ _))))
         refine wpQuiet_nil ?_
         intro w6 hb6
         have HJ6 := Lib.hid (HJ.out.call hb6)
         clear hb6 Q Y KW
         obtain ⟨z0, z1, z2⟩ := zero3 HJ6.out.res
         have f0 := frozen_blk HJ6.out.res 0
         have f1 := frozen_blk HJ6.out.res 1
         have f2 := frozen_blk HJ6.out.res 2
         have HBF : Hid (Below w.heap.size w _) := ((HJ6.out.bel.setCell (p := ⟨w.heap.size + 1 + 1 + 1, 0, none⟩) (by simp; omega) (.slice none 0 0)).setCell (p := ⟨w.heap.size + 1 + 1 + 1, 1, none⟩) (by simp; omega) (.slice none 0 0)).setCell (p := ⟨w.heap.size + 1 + 1 + 1, 2, none⟩) (by simp; omega) (.slice none 0 0)
         have HZ : Hid (∀ V : World, StK E V (.agg #[.slice none 0 0, .slice none 0 0, .slice none 0 0]) St.zero) := fun V => StK.zero E V
         go_wp2
         (try simp only [Exit.inBlock, Exit.then])
         refine bodyPost_ret (v := .tuple #[.agg #[.slice none 0 0, .slice none 0 0, .slice none 0 0], .int .i64 1]) ?_ rfl ⟨⟨_, by rw [HF.out], by rw [HF.out]; exact HZ.out _⟩, HBF.out⟩
         rw [results_cell_tmp rfl]
         go_simp
       ·obtain ⟨g1, g2⟩ := ge_yes (Nat.le_of_not_lt e1)
        have HF : Hid (rr = (St.zero, 1)) := HRF.out (by rw [HKX.out, decide_eq_false e1]; rfl)
        clear e1 rb
        refine quiet_below (by kernel_rfl) (by kernel_rfl) ?_
        repeat (go_big_quiet_step (first | (go_at_call 41; exact Calls.regrown_of (KW.out _ _))))
        refine wpQuiet_nil ?_
        intro w6 hb6
        have HJ6 := Lib.hid (HJ.out.call hb6)
        clear hb6 Q Y KW
        obtain ⟨z0, z1, z2⟩ := zero3 HJ6.out.res
        have f0 := frozen_blk HJ6.out.res 0
        have f1 := frozen_blk HJ6.out.res 1
        have f2 := frozen_blk HJ6.out.res 2
        have HBF : Hid (Below w.heap.size w _) := ((HJ6.out.bel.setCell (p := ⟨w.heap.size + 1 + 1 + 1, 0, none⟩) (by simp; omega) (.slice none 0 0)).setCell (p := ⟨w.heap.size + 1 + 1 + 1, 1, none⟩) (by simp; omega) (.slice none 0 0)).setCell (p := ⟨w.heap.size + 1 + 1 + 1, 2, none⟩) (by simp; omega) (.slice none 0 0)
        have HZ : Hid (∀ V : World, StK E V (.agg #[.slice none 0 0, .slice none 0 0, .slice none 0 0]) St.zero) := fun V => StK.zero E V
        go_wp2
        (try simp only [Exit.inBlock, Exit.then])
        refine bodyPost_ret (v := .tuple #[.agg #[.slice none 0 0, .slice none 0 0, .slice none 0 0], .int .i64 1]) ?_ rfl ⟨⟨_, by rw [HF.out], by rw [HF.out]; exact HZ.out _⟩, HBF.out⟩
        rw [results_cell_tmp rfl]
        go_simp
    case pos =>
     have hkI : (k : Int) < (ws.length : Int) := by omega
     have hk0 : ¬ (k : Int) < 0 := by omega
     have hk00 : (0 : Int) ≤ (k : Int) := by omega
     obtain ⟨x, hxk⟩ : ∃ x, ws[k]? = some x := ⟨_, List.getElem?_eq_getElem hkn⟩
     have hmem := List.mem_of_getElem? hxk
     obtain ⟨g, p, hg, hp⟩ := HRWM.out x hmem
     have hrd := (HRE.out wr HJ.out.bel).1
     obtain ⟨b, off, hAA, hbB, hat⟩ := pw_all hrd hxk
     subst hAA
     have HTK : Hid ((ws.take (k + 1)).all kw = kw x) := by
      have h0 := HAL.out
      unfold Hid
      rw [List.take_add_one, hxk, List.all_append, h0]
      simp
     have HRF : Hid (kw x = false → rr = (St.zero, 1)) := fun hf => HRR.out (by rw [HKB.out, List.all_eq_false.2 ⟨x, hmem, by rw [hf]; simp⟩, Bool.false_and])
     have HKX : Hid (kw x = (decide (g < ls0.length) && decide (p < wd))) := by
      rw [Hid, HKW2.out x, hg, hp, decide_eq_decide.2 (show ((g : Int) < (ls0.length : Int) ↔ g < ls0.length) by omega), decide_eq_decide.2 (show ((p : Int) < (wd : Int) ↔ p < wd) by omega)]
     obtain ⟨kx, hkx⟩ : ∃ q, kw x = q := ⟨_, rfl⟩
     rw [hkx] at HTK HRF HKX
     rw [hg, hp] at hat
     have hJ := HJ.out
     have Q : ∀ d xs, (Sort.grow (redrawn wr d) xs).cell? ⟨w.heap.size, 0, none⟩ = some (.int .i64 L.disks) ∧ (Sort.grow (redrawn wr d) xs).cell? ⟨w.heap.size, 1, none⟩ = some (.slice A L.n c) ∧ (Sort.grow (redrawn wr d) xs).cell? ⟨w.heap.size, 2, none⟩ = some (.int .i64 L.tiles) ∧ (Sort.grow (redrawn wr d) xs).cell? ⟨w.heap.size, 3, none⟩ = some (.int .i64 L.spare) := fun d xs => (hJ.call (below_regrown wr d xs)).lay.cells
     have Y : ∀ d xs, (Sort.grow (redrawn wr d) xs).cell? ⟨w.heap.size + 1, 0, none⟩ = some (.slice A1 ls0.length c1) ∧ (Sort.grow (redrawn wr d) xs).cell? ⟨w.heap.size + 1 + 1, 2, none⟩ = some (.slice (some ⟨b, off, none⟩) ws.length cw) ∧ (Sort.grow (redrawn wr d) xs).cell? ⟨b, off + k * 11, none⟩ = some (.int .i64 (g : Int)) ∧ (Sort.grow (redrawn wr d) xs).cell? ⟨b, off + k * 11 + 1, none⟩ = some (.int .i64 (p : Int)) := fun d xs => by
      have h1 := hJ.call (below_regrown wr d xs)
      have h2 := hat _ (below_regrown wr d xs)
      exact ⟨by rw [cell_of_row _ _ _ _ _ _ h1.sb]; rfl, by rw [cell_of_row _ _ _ _ _ _ h1.rcd]; rfl, h2.1, h2.2⟩
     have KW := Lib.hid (fun d xs => HWI.out (Sort.grow (redrawn wr d) xs) (hJ.call (below_regrown wr d xs)).bel)
     clear hJ hat hxk hmem hg hp hkx hrd HAL
     go_wp2_with fail
     by_cases e1 : g < ls0.length
     ·by_cases e2 : p < wd
      ·obtain ⟨g1, g2⟩ := ge_no e1
       obtain ⟨g3, g4⟩ := ge_no e2
       have HT : Hid ((ws.take (k + 1)).all kw = true) := by rw [Hid, HTK.out, HKX.out, decide_eq_true e1, decide_eq_true e2]; rfl
       clear e1 e2 rb
       refine quiet_below (by kernel_rfl) (by kernel_rfl) ?_
       repeat (go_big_quiet_step (first | (go_at_call 41; exact Calls.regrown_of (KW.out _ _))))
       refine wpQuiet_nil ?_
       intro w6 hb6
       have HJ6 := Lib.hid (HJ.out.call hb6)
       clear hb6 Q Y KW
       go_wp2
       go_roundw
       case rel => exact ⟨k + 1, by omega, by go_num, HT.out, HJ6.out⟩
       case measure => simp [intOf] <;> omega
      ·obtain ⟨g1, g2⟩ := ge_no e1
       obtain ⟨g3, g4⟩ := ge_yes (Nat.le_of_not_lt e2)
       have HF : Hid (rr = (St.zero, 1)) := HRF.out (by rw [HKX.out, decide_eq_false e2]; simp)
       clear e1 e2 rb
       refine quiet_below (by kernel_rfl) (by kernel_rfl) ?_
       repeat (go_big_quiet_step (first | (go_at_call 41; exact Calls.regrown_of (KW.out _ _))))
       refine wpQuiet_nil ?_
       intro w6 hb6
       have HJ6 := Lib.hid (HJ.out.call hb6)
       clear hb6 Q Y KW
       obtain ⟨z0, z1, z2⟩ := zero3 HJ6.out.res
       have f0 := frozen_blk HJ6.out.res 0
       have f1 := frozen_blk HJ6.out.res 1
       have f2 := frozen_blk HJ6.out.res 2
       have HBF : Hid (Below w.heap.size w _) := ((HJ6.out.bel.setCell (p := ⟨w.heap.size + 1 + 1 + 1, 0, none⟩) (by simp; omega) (.slice none 0 0)).setCell (p := ⟨w.heap.size + 1 + 1 + 1, 1, none⟩) (by simp; omega) (.slice none 0 0)).setCell (p := ⟨w.heap.size + 1 + 1 + 1, 2, none⟩) (by simp; omega) (.slice none 0 0)
       have HZ : Hid (∀ V : World, StK E V (.agg #[.slice none 0 0, .slice none 0 0, .slice none 0 0]) St.zero) := fun V => StK.zero E V
       go_wp2
       (try simp only [Exit.inBlock, Exit.then])
       refine bodyPost_ret (v := .tuple #[.agg #[.slice none 0 0, .slice none 0 0, .slice none 0 0], .int .i64 1]) ?_ rfl ⟨⟨_, by rw [HF.out], by rw [HF.out]; exact HZ.out _⟩, HBF.out⟩
       rw [results_cell_tmp rfl]
       go_simp
     ·obtain ⟨g1, g2⟩ := ge_yes (Nat.le_of_not_lt e1)
      have HF : Hid (rr = (St.zero, 1)) := HRF.out (by rw [HKX.out, decide_eq_false e1]; rfl)
      clear e1 rb
      refine quiet_below (by kernel_rfl) (by kernel_rfl) ?_
      repeat (go_big_quiet_step (first | (go_at_call 41; exact Calls.regrown_of (KW.out _ _))))
      refine wpQuiet_nil ?_
      intro w6 hb6
      have HJ6 := Lib.hid (HJ.out.call hb6)
      clear hb6 Q Y KW
      obtain ⟨z0, z1, z2⟩ := zero3 HJ6.out.res
      have f0 := frozen_blk HJ6.out.res 0
      have f1 := frozen_blk HJ6.out.res 1
      have f2 := frozen_blk HJ6.out.res 2
      have HBF : Hid (Below w.heap.size w _) := ((HJ6.out.bel.setCell (p := ⟨w.heap.size + 1 + 1 + 1, 0, none⟩) (by simp; omega) (.slice none 0 0)).setCell (p := ⟨w.heap.size + 1 + 1 + 1, 1, none⟩) (by simp; omega) (.slice none 0 0)).setCell (p := ⟨w.heap.size + 1 + 1 + 1, 2, none⟩) (by simp; omega) (.slice none 0 0)
      have HZ : Hid (∀ V : World, StK E V (.agg #[.slice none 0 0, .slice none 0 0, .slice none 0 0]) St.zero) := fun V => StK.zero E V
      go_wp2
      (try simp only [Exit.inBlock, Exit.then])
      refine bodyPost_ret (v := .tuple #[.agg #[.slice none 0 0, .slice none 0 0, .slice none 0 0], .int .i64 1]) ?_ rfl ⟨⟨_, by rw [HF.out], by rw [HF.out]; exact HZ.out _⟩, HBF.out⟩
      rw [results_cell_tmp rfl]
      go_simp
end Go.Proofs.YtjgjofepedcfnaaGreat
