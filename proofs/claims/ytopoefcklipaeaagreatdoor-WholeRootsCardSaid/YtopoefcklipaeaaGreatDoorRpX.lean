/- Walk of replay.apply. -/
import Derived.Test.YtopoefcklipaeaaGreatDoorGRn
namespace Go.Proofs.YtopoefcklipaeaaGreatDoor
open Go.RowKit
structure RcdOk (r : Rcd) : Prop where
 seq : r.seq < 18446744073709551616
 nw : r.ws.length ≤ 9223372036854775807
 nm : r.ms.length ≤ 9223372036854775807
 nn : r.nt.length ≤ 9223372036854775807
 dok : ∀ x ∈ r.ws, x.d.ok
theorem four_laid (w : World) (A C D E : Obj) : ∃ w1, (((w.alloc A).alloc C).alloc D).alloc E = w1 ∧ w1.heap[w.heap.size]? = some A ∧ w1.heap[w.heap.size + 1]? = some C ∧ w1.heap[w.heap.size + 1 + 1]? = some D ∧ w1.heap[w.heap.size + 1 + 1 + 1]? = some E ∧ Below w.heap.size w w1 ∧ w1.heap.size = w.heap.size + 4 := by
 obtain ⟨w1, rfl, h1, h2, h3, hb, hz⟩ := three_laid w A C D
 refine ⟨_, rfl, ?_, ?_, ?_, ?_, hb.alloc (by omega) _, by rw [show ((((w.alloc A).alloc C).alloc D).alloc E).heap.size = (((w.alloc A).alloc C).alloc D).heap.size + 1 by simp, hz]⟩
 ·rw [Below.heap_alloc _ _ _ (by omega)]; exact h1
 ·rw [Below.heap_alloc _ _ _ (by omega)]; exact h2
 ·rw [Below.heap_alloc _ _ _ (by omega)]; exact h3
 ·have := heap_alloc_new (((w.alloc A).alloc C).alloc D) E
  rw [hz] at this
  simpa using this
def apE (w : World) (E : Nat → Prop) (k : Nat) : Prop := k = w.heap.size + 1 + 1 + 1 ∨ E k
structure ApI (w wr : World) (L : LayD) (A : Option Addr) (c : Nat) (rc : Array Value) (lv mv nv : Value) (F E : Nat → Prop) (S : St) : Prop where
 lay : LayB wr w.heap.size L A c
 st : StB wr (w.heap.size + 1) (apE w E) 34 lv mv nv S
 el : ∀ k, E k → k < w.heap.size
 rcd : wr.heap[w.heap.size + 1 + 1]? = some (.cells rc 42 (0, 0))
 res : wr.heap[w.heap.size + 1 + 1 + 1]? = some (.cells #[.slice none 0 0, .slice none 0 0, .slice none 0 0] 34 (0, 0))
 agr : Agr F w wr
section
variable {w wr w' : World} {L : LayD} {A : Option Addr} {c : Nat} {rc : Array Value} {lv mv nv : Value} {F E : Nat → Prop} {S : St}
theorem ApI.lt (h : ApI w wr L A c rc lv mv nv F E S) : w.heap.size + 1 + 1 + 1 < wr.heap.size := (Array.getElem?_eq_some_iff.1 h.res).1
theorem ApI.call (h : ApI w wr L A c rc lv mv nv F E S) (hb : Below wr.heap.size wr w') : ApI w w' L A c rc lv mv nv F E S := by
 have hl := h.lt
 exact ⟨h.lay.below hb (by omega), h.st.call hb, h.el, (hb.block _ (by omega)).trans h.rcd, (hb.block _ hl).trans h.res, h.agr.call hb⟩
theorem ApI.turn (h : ApI w wr L A c rc lv mv nv F E S) {lv' mv' nv' : Value} {S' : St} (hs : StB w' (w.heap.size + 1) (apE w E) 34 lv' mv' nv' S') (ha : Agr F w w') (hk : ∀ k, w.heap.size ≤ k → k < w.heap.size + 4 → k ≠ w.heap.size + 1 → w'.heap[k]? = wr.heap[k]?) : ApI w w' L A c rc lv' mv' nv' F E S' :=
 ⟨(hk _ (by omega) (by omega) (by omega)).trans h.lay, hs, h.el, (hk _ (by omega) (by omega) (by omega)).trans h.rcd, (hk _ (by omega) (by omega) (by omega)).trans h.res, ha⟩
theorem ApI.elt (h : ApI w wr L A c rc lv mv nv F E S) : ∀ k, apE w E k → k < wr.heap.size := fun k hk => by
 have := h.lt
 rcases hk with rfl | hk
 ·exact this
 ·have := h.el k hk; omega
theorem ApI.gs (h : ApI w wr L A c rc lv mv nv F E S) (hgs : Stb F w fun W => GsV W W.heap.size A L.gs) : GsV wr wr.heap.size A L.gs := hgs wr h.agr
theorem ApI.fin (h : ApI w wr L A c rc lv mv nv F E S) : StW (((wr.setCell ⟨w.heap.size + 1 + 1 + 1, 0, none⟩ lv).setCell ⟨w.heap.size + 1 + 1 + 1, 1, none⟩ mv).setCell ⟨w.heap.size + 1 + 1 + 1, 2, none⟩ nv) E lv mv nv S ∧
  Agr F w (((wr.setCell ⟨w.heap.size + 1 + 1 + 1, 0, none⟩ lv).setCell ⟨w.heap.size + 1 + 1 + 1, 1, none⟩ mv).setCell ⟨w.heap.size + 1 + 1 + 1, 2, none⟩ nv) ∧
  (((wr.setCell ⟨w.heap.size + 1 + 1 + 1, 0, none⟩ lv).setCell ⟨w.heap.size + 1 + 1 + 1, 1, none⟩ mv).setCell ⟨w.heap.size + 1 + 1 + 1, 2, none⟩ nv).heap[w.heap.size + 1 + 1 + 1]? = some (.cells #[lv, mv, nv] 34 (0, 0)) := by
 have hn := h.st.not h.res (by decide) (by decide)
 refine ⟨(((h.st.setR (.inl rfl) (by omega) hn 0 lv).setR (.inl rfl) (by omega) hn 1 mv).setR (.inl rfl) (by omega) hn 2 nv).val (fun k hk => .inr hk), ((h.agr.set (.inr (by simp; omega)) _).set (.inr (by simp; omega)) _).set (.inr (by simp; omega)) _, ?_⟩
 exact heap_setCell_same _ _ 2 _ _ nv (heap_setCell_same _ _ 1 _ _ mv (heap_setCell_same wr _ 0 _ _ lv h.res))
end
def AplP (E : Nat → Prop) (L : LayD) (S : St) (r : Rcd) (w : World) (lv nv : Value) (w' : World) (e : Ending) : Prop :=
 ((applyS L S r).2 ≠ 0 → e = .returned (.tuple #[.agg #[.slice none 0 0, .slice none 0 0, .slice none 0 0], .int .i64 (applyS L S r).2])) ∧
 ((applyS L S r).2 = 0 → ∃ mv' nv', e = .returned (.tuple #[.agg #[lv, mv', nv'], .int .i64 0]) ∧ StW w' E lv mv' nv' (applyS L S r).1 ∧ (nv'.ownBlock = nv.ownBlock ∨ ∃ k, nv'.ownBlock = some k ∧ w.heap.size ≤ k))
theorem AplP.bad {E : Nat → Prop} {L : LayD} {S : St} {r : Rcd} {w w' : World} {lv nv : Value} {q : Int} (h : (applyS L S r).2 = q) (h0 : q ≠ 0) : AplP E L S r w lv nv w' (.returned (.tuple #[.agg #[.slice none 0 0, .slice none 0 0, .slice none 0 0], .int .i64 q])) :=
 ⟨fun _ => by rw [h], fun e => absurd (h.symm.trans e) h0⟩
theorem AplP.good {E : Nat → Prop} {L : LayD} {S S' : St} {r : Rcd} {w w' : World} {lv nv mv' nv' : Value} (h : applyS L S r = (S', 0)) (h1 : StW w' E lv mv' nv' S') (h2 : nv'.ownBlock = nv.ownBlock ∨ ∃ k, nv'.ownBlock = some k ∧ w.heap.size ≤ k) : AplP E L S r w lv nv w' (.returned (.tuple #[.agg #[lv, mv', nv'], .int .i64 0])) :=
 ⟨fun e => absurd (by rw [h]) e, fun _ => ⟨_, _, rfl, by rw [h]; exact h1, h2⟩⟩
theorem cn_done2 {w5 y w7 : World} {X : Nat} {E : Nat → Prop} {T : TypeId} {lv mv nv v7 : Value} {S : St} {vs : List (Option Addr × Nat)} {n : List Nat} {An : Option Addr} {cn : Nat} {o : Obj} (h5 : StB w5 X E T lv mv nv S) (hvn : vs.length = S.nt.length)
  (hvl : ∀ (i : Nat) (p : Option Addr × Nat) (g : List Nat), vs[i]? = some p → S.nt[i]? = some g → Stb (FX X E lv nv) w5 fun W => BytS W W.heap.size p.1 g) (hE : ∀ k, E k → k < w5.heap.size)
  (hb : Below w5.heap.size w5 y) (hon : OwS y w5.heap.size 5 1 (.slice An n.length cn) (n.map u8C)) (hg : (y.alloc o).grownBy w7 nv.ownBlock) (ho7 : OwS w7 0 40 1 v7 ((vs.zip S.nt).map ntRow ++ [[.slice An n.length cn]])) (hv : v7.ownBlock = nv.ownBlock ∨ v7.ownBlock = some (y.heap.size + 1)) :
  StB (w7.setCell ⟨X, 2, none⟩ v7) X E T lv mv v7 ⟨S.ls, S.ms, S.nt ++ [n]⟩ ∧ w7.heap[X]? = some (.cells #[lv, mv, nv] T (0, 0)) := by
 have hF : ∀ k, FX X E lv nv k → k < w5.heap.size := fun k hk => h5.flt hE hk
 have hx : Stb (FX X E lv nv) y fun W => BytS W W.heap.size An n := RdS.stb0 (B0 := w5.heap.size) hon.reads (fun a ha => (hon.lt (k := a.block) (by rw [ha]; rfl)).1) hF
 exact (h5.call hb).pushN (A := An) (c := cn) hvn (fun k x L h1 h2 => (hvl k x L h1 h2).step (.of hb)) hx hg ho7 hv
theorem zero3 {w : World} {R : Nat} {T : TypeId} (h : w.heap[R]? = some (.cells #[.slice none 0 0, .slice none 0 0, .slice none 0 0] T (0, 0))) : w.cell? ⟨R, 0, none⟩ = some (.slice none 0 0) ∧ w.cell? ⟨R, 1, none⟩ = some (.slice none 0 0) ∧ w.cell? ⟨R, 2, none⟩ = some (.slice none 0 0) :=
 ⟨by rw [cell_of_row _ _ _ _ _ _ h]; rfl, by rw [cell_of_row _ _ _ _ _ _ h]; rfl, by rw [cell_of_row _ _ _ _ _ _ h]; rfl⟩
theorem ap_err {w wr : World} {L : LayD} {A : Option Addr} {c : Nat} {rc : Array Value} {lv mv nv : Value} {F E : Nat → Prop} {S : St} (h : ApI w wr L A c rc lv mv nv F E S) :
  Agr F w (((wr.setCell ⟨w.heap.size + 1 + 1 + 1, 0, none⟩ (.slice none 0 0)).setCell ⟨w.heap.size + 1 + 1 + 1, 1, none⟩ (.slice none 0 0)).setCell ⟨w.heap.size + 1 + 1 + 1, 2, none⟩ (.slice none 0 0)) ∧ True :=
 ⟨((h.agr.set (.inr (by simp; omega)) _).set (.inr (by simp; omega)) _).set (.inr (by simp; omega)) _, trivial⟩
set_option maxHeartbeats 4000000 in
set_option maxRecDepth 100000 in
theorem rapply (E : Nat → Prop) {L : LayD} {A : Option Addr} {c : Nat} {rv lv mv nv : Value} {S : St} {r : Rcd} (w : World) (hx : LayX L) (hgs : Stb (FsB lv nv) w fun W => GsV W W.heap.size A L.gs) (hr : Stb (FsB lv nv) w fun W => RcdV W W.heap.size rv r)
  (hst : StW w E lv mv nv S) (hE : ∀ k, E k → k < w.heap.size) (hok : stOk L S = true) (hro : RcdOk r) (hG : L.G ≤ 100000) (hw16 : L.w ≤ 16) (hnm : S.ms.length ≤ 9000) (hn00 : S.nt.length ≤ 900000) :
  Calls Tryz.prog 30 #[layAgg L A c, .agg #[lv, mv, nv], rv] w fun e w' => Agr (FsB lv nv) w w' ∧ AplP E L S r w lv nv w' e := by
 obtain ⟨Aw, cw, Am, cm, An, cn, rfl, hw0, hm0, hn0⟩ := hr.now
 obtain ⟨gen, seq, ws, ms, nt⟩ := r
 obtain ⟨hq, nw, nm, nn, dok⟩ := hro
 simp only at hw0 hm0 hn0 hq nw nm nn dok
 simp only at hr ⊢
 have HRE : Hid (∀ W, Agr (FsB lv nv) w W → PwS W W.heap.size Aw ws ∧ MvS W W.heap.size Am ms ∧ BytS W W.heap.size An nt) := fun W hW => by
  obtain ⟨A1, c1, A2, c2, A3, c3, he, h1, h2, h3⟩ := hr W hW
  simp only at he h1 h2 h3
  injection he with he
  have e1 : Value.slice Aw ws.length cw = .slice A1 ws.length c1 := by have := congrArg (fun x => x[2]?) he; simpa using this
  have e2 : Value.slice Am ms.length cm = .slice A2 ms.length c2 := by have := congrArg (fun x => x[3]?) he; simpa using this
  have e3 : Value.slice An nt.length cn = .slice A3 nt.length c3 := by have := congrArg (fun x => x[4]?) he; simpa using this
  cases e1
  cases e2
  cases e3
  exact ⟨h1, h2, h3⟩
 have HRV : Hid (∀ W, Agr (FsB lv nv) w W → Calls Tryz.prog 71 #[.agg #[.int .u64 gen, .int .u64 seq, .slice Aw ws.length cw, .slice Am ms.length cm, .slice An nt.length cn]] W fun e w' => e = .returned (.bool (rcdB ⟨gen, seq, ws, ms, nt⟩)) ∧ Below W.heap.size W w') := fun W hW => rvalid W (hr W hW) (Nat.le_refl _) nw nm nn hq
 have HKN : Hid (rcdB ⟨gen, seq, ws, ms, nt⟩ = true → ∀ W, Agr (FsB lv nv) w W → Calls Tryz.prog 72 #[.agg #[.int .i64 L.disks, .slice A L.n c, .int .i64 L.tiles, .int .i64 L.spare], .agg #[.int .u64 gen, .int .u64 seq, .slice Aw ws.length cw, .slice Am ms.length cm, .slice An nt.length cn]] W fun e w' => e = .returned (.bool (knownB L ⟨gen, seq, ws, ms, nt⟩)) ∧ Below W.heap.size W w') := fun hrt W hW => rknown W hx (hgs W hW) (hr W hW) (Nat.le_refl _) (Nat.le_trans (rcd_len hrt).1 (by decide)) (Nat.le_trans (rcd_len hrt).2.1 (by decide))
 have HGS := Lib.hid hgs
 have HAP : Hid (applyS L S ⟨gen, seq, ws, ms, nt⟩ = if rcdB ⟨gen, seq, ws, ms, nt⟩ && knownB L ⟨gen, seq, ws, ms, nt⟩ then (match wsF S.ls ws with
  | none => (St.zero, 8)
  | some ls => if (msF L S.ms ms).2 = 0 then (⟨ls, (msF L S.ms ms).1, ntF S.nt nt⟩, 0) else (St.zero, (msF L S.ms ms).2)) else (St.zero, 1)) := rfl
 have HRW := Lib.hid (fun (h1 : rcdB ⟨gen, seq, ws, ms, nt⟩ = true) (h2 : knownB L ⟨gen, seq, ws, ms, nt⟩ = true) (x : Pw) (hx : x ∈ ws) => rcd_w (L := L) h1 h2 (x := x) hx)
 have HRM := Lib.hid (fun (h1 : rcdB ⟨gen, seq, ws, ms, nt⟩ = true) (x : Mv) (hx : x ∈ ms) => rcd_m h1 (x := x) hx)
 have HRL := Lib.hid (fun (h1 : rcdB ⟨gen, seq, ws, ms, nt⟩ = true) => rcd_len h1)
 obtain ⟨rb, hrb⟩ : ∃ q, rcdB ⟨gen, seq, ws, ms, nt⟩ = q := ⟨_, rfl⟩
 obtain ⟨kb, hkb⟩ : ∃ q, knownB L ⟨gen, seq, ws, ms, nt⟩ = q := ⟨_, rfl⟩
 rw [hrb] at HRV HKN HAP HRM HRL HRW
 rw [hkb] at HKN HAP HRW
 have HLS := Lib.hid (stOk_ls hok)
 have HMS := Lib.hid (stOk_ms hok)
 have HDK := Lib.hid dok
 have HX := Lib.hid hx
 have HST := Lib.hid hst
 have HEL := Lib.hid hE
 obtain ⟨Al, cl, rfl, -⟩ := hst.1.form
 obtain ⟨Av, cv, rfl, -⟩ := hst.2.1
 obtain ⟨Ao, co, rfl, -⟩ := hst.2.2.form
 obtain ⟨ls0, ms0, nt0⟩ := S
 simp only at HAP HLS HMS HST hnm hn00 ⊢
 have HN0 := Lib.hid hn00
 obtain ⟨F, hFe⟩ : ∃ F, FsB (.slice Al ls0.length cl) (.slice Ao nt0.length co) = F := ⟨_, rfl⟩
 have HFE := Lib.hid hFe
 have HFB : Hid (∀ k, F k → k < w.heap.size) := fun k hk => FsB.lt HST.out.1 HST.out.2.2 (hFe.symm ▸ hk)
 simp only [hFe] at HRE HRV HKN HGS ⊢
 unfold layAgg
 clear hE hrb hkb hr hgs hst hok hx hw0 hm0 hn0 dok hFe
 go_enter Tryz.func30, Tryz.ntmps30
 go_upto_region 1 with (fail)
 obtain ⟨w1, hw1', ha, hb, hc, hd, hbl, hz⟩ := four_laid w (.cells #[.int .i64 L.disks, .slice A L.n c, .int .i64 L.tiles, .int .i64 L.spare] 28) (.cells #[.slice Al ls0.length cl, .slice Av ms0.length cv, .slice Ao nt0.length co] 34) (.cells #[.int .u64 gen, .int .u64 seq, .slice Aw ws.length cw, .slice Am ms.length cm, .slice An nt.length cn] 42) (.cells #[.slice none 0 0, .slice none 0 0, .slice none 0 0] 34)
 rw [hw1']
 have HI : Hid (ApI w w1 L A c #[.int .u64 gen, .int .u64 seq, .slice Aw ws.length cw, .slice Am ms.length cm, .slice An nt.length cn] (.slice Al ls0.length cl) (.slice Av ms0.length cv) (.slice Ao nt0.length co) F E ⟨ls0, ms0, nt0⟩) := ⟨ha, HST.out.box hbl hb (by omega) (fun k hk he => by
  rcases he with e | e
  ·omega
  ·exact e) ⟨by decide, by decide⟩, HEL.out, hc, hd, Agr.of hbl⟩
 obtain ⟨l0, l1, l2, l3⟩ := LayB.cells (L := L) ha
 have r0 : w1.cell? ⟨w.heap.size + 1 + 1, 0, none⟩ = some (.int .u64 gen) := by rw [cell_of_row _ _ _ _ _ _ hc]; rfl
 have r1 : w1.cell? ⟨w.heap.size + 1 + 1, 1, none⟩ = some (.int .u64 seq) := by rw [cell_of_row _ _ _ _ _ _ hc]; rfl
 have r2 : w1.cell? ⟨w.heap.size + 1 + 1, 2, none⟩ = some (.slice Aw ws.length cw) := by rw [cell_of_row _ _ _ _ _ _ hc]; rfl
 have r3 : w1.cell? ⟨w.heap.size + 1 + 1, 3, none⟩ = some (.slice Am ms.length cm) := by rw [cell_of_row _ _ _ _ _ _ hc]; rfl
 have r4 : w1.cell? ⟨w.heap.size + 1 + 1, 4, none⟩ = some (.slice An nt.length cn) := by rw [cell_of_row _ _ _ _ _ _ hc]; rfl
 clear ha hb hc hd hbl hz hw1' HST
 go_wp2_with fail
 refine (HRV.out w1 HI.out.agr).mono ?_
 rintro e w2 ⟨rfl, hb2⟩
 have HI2 := Lib.hid (HI.out.call hb2)
 have hz2 := HI2.out.lt
 obtain ⟨m0, m1, m2, m3⟩ := HI2.out.lay.cells
 have q0 : w2.cell? ⟨w.heap.size + 1 + 1, 0, none⟩ = some (.int .u64 gen) := by rw [cell_of_row _ _ _ _ _ _ HI2.out.rcd]; rfl
 have q1 : w2.cell? ⟨w.heap.size + 1 + 1, 1, none⟩ = some (.int .u64 seq) := by rw [cell_of_row _ _ _ _ _ _ HI2.out.rcd]; rfl
 have q2 : w2.cell? ⟨w.heap.size + 1 + 1, 2, none⟩ = some (.slice Aw ws.length cw) := by rw [cell_of_row _ _ _ _ _ _ HI2.out.rcd]; rfl
 have q3 : w2.cell? ⟨w.heap.size + 1 + 1, 3, none⟩ = some (.slice Am ms.length cm) := by rw [cell_of_row _ _ _ _ _ _ HI2.out.rcd]; rfl
 have q4 : w2.cell? ⟨w.heap.size + 1 + 1, 4, none⟩ = some (.slice An nt.length cn) := by rw [cell_of_row _ _ _ _ _ _ HI2.out.rcd]; rfl
 clear l0 l1 l2 l3 r0 r1 r2 r3 r4 hb2 HI
 cases rb with
 | false =>
  have HE : Hid ((applyS L ⟨ls0, ms0, nt0⟩ ⟨gen, seq, ws, ms, nt⟩).2 = 1) := by rw [Hid, HAP.out]; rfl
  have f0 := frozen_blk HI2.out.res 0
  have f1 := frozen_blk HI2.out.res 1
  have f2 := frozen_blk HI2.out.res 2
  obtain ⟨z0, z1, z2⟩ := zero3 HI2.out.res
  have HEN := Lib.hid (ap_err HI2.out)
  go_wp2
  (try simp only [Exit.inBlock, Exit.then])
  refine bodyPost_ret (v := .tuple #[.agg #[.slice none 0 0, .slice none 0 0, .slice none 0 0], .int .i64 1]) ?_ rfl ⟨HEN.out.1, AplP.bad HE.out (by decide)⟩
  rw [results_cell_tmp rfl]
  go_simp
 | true =>
  go_wp2_with fail
  refine (HKN.out (by trivial) w2 HI2.out.agr).mono ?_
  rintro e w3 ⟨rfl, hb3⟩
  have HI3 := Lib.hid (HI2.out.call hb3)
  have hz3 := HI3.out.lt
  clear m0 m1 m2 m3 q0 q1 q2 q3 q4 hb3 HI2 hz2
  cases kb with
  | false =>
   have HE : Hid ((applyS L ⟨ls0, ms0, nt0⟩ ⟨gen, seq, ws, ms, nt⟩).2 = 1) := by rw [Hid, HAP.out]; rfl
   have f0 := frozen_blk HI3.out.res 0
   have f1 := frozen_blk HI3.out.res 1
   have f2 := frozen_blk HI3.out.res 2
   obtain ⟨z0, z1, z2⟩ := zero3 HI3.out.res
   have HEN := Lib.hid (ap_err HI3.out)
   go_wp2
   (try simp only [Exit.inBlock, Exit.then])
   refine bodyPost_ret (v := .tuple #[.agg #[.slice none 0 0, .slice none 0 0, .slice none 0 0], .int .i64 1]) ?_ rfl ⟨HEN.out.1, AplP.bad HE.out (by decide)⟩
   rw [results_cell_tmp rfl]
   go_simp
  | true =>
   have HAQ : Hid (applyS L ⟨ls0, ms0, nt0⟩ ⟨gen, seq, ws, ms, nt⟩ = (match wsF ls0 ws with
    | none => (St.zero, 8)
    | some ls => if (msF L ms0 ms).2 = 0 then (⟨ls, (msF L ms0 ms).1, ntF nt0 nt⟩, 0) else (St.zero, (msF L ms0 ms).2))) := HAP.out
   have HWK := Lib.hid (HRW.out (by simp) (by simp))
   have HMK := Lib.hid (HRM.out (by simp))
   have hln := HRL.out (by simp)
   (try simp only at hln)
   clear HAP HRW HRM HRL HRV HKN
   have q2 : w3.cell? ⟨w.heap.size + 1 + 1, 2, none⟩ = some (.slice Aw ws.length cw) := by rw [cell_of_row _ _ _ _ _ _ HI3.out.rcd]; rfl
   go_wp2
   go_loopw [9, 27] (fun s9 s27 wr => ∃ k : Nat, k ≤ ws.length ∧ s27 = .int .i64 k ∧ ∃ cur, wsF ls0 (ws.take k) = some cur ∧ ApI w wr L A c #[.int .u64 gen, .int .u64 seq, .slice Aw ws.length cw, .slice Am ms.length cm, .slice An nt.length cn] (.slice Al ls0.length cl) (.slice Av ms0.length cv) (.slice Ao nt0.length co) F E ⟨cur, ms0, nt0⟩) (fun _ s27 _ => ws.length - (intOf s27).toNat)
   case atStart => exact ⟨0, by omega, rfl, ls0, rfl, HI3.out⟩
   case round =>
    obtain ⟨k, hk, rfl, cur, hcur, hI⟩ := hrel
    have HCU := Lib.hid hcur
    have HI := Lib.hid hI
    have hlt := hI.lt
    clear hcur hI HI3 hz3 q2
    by_cases hkn : k < ws.length
    case neg =>
     have hkI : ¬ (k : Int) < (ws.length : Int) := by omega
     obtain rfl : k = ws.length := by omega
     have HCU2 : Hid (wsF ls0 ws = some cur) := by have h0 := HCU.out; rwa [List.take_of_length_le (Nat.le_refl _)] at h0
     have HAR : Hid (applyS L ⟨ls0, ms0, nt0⟩ ⟨gen, seq, ws, ms, nt⟩ = if (msF L ms0 ms).2 = 0 then (⟨cur, (msF L ms0 ms).1, ntF nt0 nt⟩, 0) else (St.zero, (msF L ms0 ms).2)) := by rw [Hid, HAQ.out, HCU2.out]
     have q3 : wr.cell? ⟨w.heap.size + 1 + 1, 3, none⟩ = some (.slice Am ms.length cm) := by rw [cell_of_row _ _ _ _ _ _ HI.out.rcd]; rfl
     clear hkn HAQ HCU HCU2
     go_wp2
     clear hkI q3
     generalize wr = wo at *
     go_loopw [11, 66] (fun s11 s66 wr => ∃ k : Nat, k ≤ ms.length ∧ s66 = .int .i64 k ∧ (msF L ms0 (ms.take k)).2 = 0 ∧ ∃ mv', ApI w wr L A c #[.int .u64 gen, .int .u64 seq, .slice Aw ws.length cw, .slice Am ms.length cm, .slice An nt.length cn] (.slice Al ls0.length cl) mv' (Value.slice Ao nt0.length co) F E ⟨cur, (msF L ms0 (ms.take k)).1, nt0⟩) (fun _ s66 _ => ms.length - (intOf s66).toNat)
     case atStart => exact ⟨0, by omega, rfl, rfl, _, HI.out⟩
     case round =>
      obtain ⟨k, hk2, rfl, hms, mv', hI⟩ := hrel
      have HM0 := Lib.hid hms
      clear HI hlt
      have HI := Lib.hid hI
      have hlt := hI.lt
      obtain ⟨A3, c3, hmv, -⟩ := hI.st.ms
      obtain ⟨n3, hn3⟩ : ∃ n, (msF L ms0 (ms.take k)).1.length = n := ⟨_, rfl⟩
      simp only [hn3] at hmv
      subst hmv
      have HN3 := Lib.hid hn3
      clear hms hI hn3
      by_cases hkn : k < ms.length
      case neg =>
       have hkI : ¬ (k : Int) < (ms.length : Int) := by omega
       obtain rfl : k = ms.length := by omega
       have HMT : Hid ((msF L ms0 ms).2 = 0 ∧ (msF L ms0 (ms.take ms.length)).1 = (msF L ms0 ms).1) := by have h0 := HM0.out; rw [List.take_of_length_le (Nat.le_refl _)] at h0 ⊢; exact ⟨h0, rfl⟩
       have HAT : Hid (applyS L ⟨ls0, ms0, nt0⟩ ⟨gen, seq, ws, ms, nt⟩ = (⟨cur, (msF L ms0 (ms.take ms.length)).1, ntF nt0 nt⟩, 0)) := by rw [Hid, HAR.out, if_pos HMT.out.1, HMT.out.2]
       generalize (msF L ms0 (ms.take ms.length)).1 = mfin at *
       have r4 : wr.cell? ⟨w.heap.size + 1 + 1, 4, none⟩ = some (.slice An nt.length cn) := by rw [cell_of_row _ _ _ _ _ _ HI.out.rcd]; rfl
       clear hkn hkI HAR HM0 HMT
       by_cases hnt : nt.length = 0
       ·have hnI : ¬ (0 : Int) < (nt.length : Int) := by omega
        have hnN : ¬ 0 < nt.length := by omega
        have HAF : Hid (applyS L ⟨ls0, ms0, nt0⟩ ⟨gen, seq, ws, ms, nt⟩ = (⟨cur, mfin, nt0⟩, 0)) := by rw [Hid, HAT.out, ntF, if_pos hnt]
        clear hnt
        obtain ⟨s0, s1, s2, -⟩ := HI.out.st.cells
        have f0 := frozen_blk HI.out.res 0
        have f1 := frozen_blk HI.out.res 1
        have f2 := frozen_blk HI.out.res 2
        obtain ⟨z0, z1, z2⟩ := zero3 HI.out.res
        have HFN := Lib.hid (HI.out.fin)
        go_wp2
        (try simp only [Exit.inBlock, Exit.then])
        refine bodyPost_ret (v := .tuple #[.agg #[.slice Al ls0.length cl, .slice A3 n3 c3, .slice Ao nt0.length co], .int .i64 0]) ?_ rfl ⟨HFN.out.2.1, AplP.good HAF.out HFN.out.1 (.inl rfl)⟩
        rw [results_cell_tmp rfl]
        go_simp
       ·have hnI : (0 : Int) < (nt.length : Int) := by omega
        have hnN : 0 < nt.length := by omega
        have HAF : Hid (applyS L ⟨ls0, ms0, nt0⟩ ⟨gen, seq, ws, ms, nt⟩ = (⟨cur, mfin, nt0 ++ [nt]⟩, 0)) := by rw [Hid, HAT.out, ntF, if_neg hnt]
        have HBY0 := Lib.hid (HRE.out wr HI.out.agr).2.2
        have hn256 : nt.length ≤ 1000000 := by omega
        have HCL : Hid (∀ W, Below wr.heap.size wr W → Calls Tryz.prog 75 #[.slice An nt.length cn] W fun r w' => (∃ v, r = .returned v ∧ OwS w' W.heap.size 5 1 v (nt.map u8C)) ∧ Below W.heap.size W w') := fun W hW => clone_byte W (RdS.below' HBY0.out hW (Nat.le_refl _)) hW.size hn256
        obtain ⟨vs, hvn, how, -, hvl⟩ := HI.out.st.nt
        have HVN := Lib.hid hvn
        have HOW := Lib.hid how
        have HVL := Lib.hid hvl
        have s2 := HI.out.st.cells.2.2.1
        have HVK : Hid (vs.length ≤ 900000) := by rw [Hid, hvn]; exact HN0.out
        clear hnt hvn how hvl
        go_upto_region 19 with (fail)
        go_region_law (first
         | (refine step_ap1 (by rfl) (.tmp 90) (.tmp 94) _ (by rfl) elemNt (by rfl) (HOW.out.below HBY.out) [.slice Ay nt.length cy] _ (by rfl) y.heap.size (by rfl) (by rfl) (by intro u hu; rw [List.mem_singleton] at hu; subst hu; rfl) (by have := HVK.out; simp [maxLen]; omega) (by have := HVK.out; simp; omega) (Nat.zero_le _) ?_; intro v7 w7 hown7 hg7 hv7; obtain ⟨A7, n7, c7, rfl⟩ := hown7.sl; obtain ⟨hd7, hx7⟩ := cn_done2 HI.out.st HVN.out HVL.out HI.out.elt HBY.out HOY.out hg7 hown7 hv7; have x7 : w7.cell? ⟨w.heap.size + 1, 2, none⟩ = some (Value.slice Ao nt0.length co) := (by rw [cell_of_row _ _ _ _ _ _ hx7]; rfl); have z7 := frozen_blk hx7 2; have HD7 := Lib.hid hd7; have HG7 := Lib.hid hg7; have HV7 := Lib.hid hv7)
         | (go_simp; go_wp2_with (first
           | (go_at_call 75; (with_reducible refine (HCL.out _ (Below.refl _ _).drew).mono ?_); rintro r y ⟨⟨vy, rfl, hoy⟩, hby⟩; have HBY := Lib.hid ((Below.refl wr.heap.size wr).drew.trans hby); obtain ⟨Ay, cy, rfl, -⟩ := hoy.form; rw [List.length_map] at hoy; simp only [List.length_map]; have HOY : Hid (OwS y wr.heap.size 5 1 (.slice Ay nt.length cy) (nt.map u8C)) := hoy; have d2 := (HI.out.st.call HBY.out).cells.2.2.1; have e2 : ∀ o, (y.alloc o).cell? ⟨w.heap.size + 1, 2, none⟩ = some (Value.slice Ao nt0.length co) := (fun o => ((HI.out.st.call HBY.out).call below_laid).cells.2.2.1); have d4 : y.cell? ⟨w.heap.size + 1 + 1, 4, none⟩ = some (.slice An nt.length cn) := (by rw [cell_of_row _ _ _ _ _ _ (HI.out.call HBY.out).rcd]; rfl))
           | fail))
         | fail)
        all_goals
         have HOB : Hid ((Value.slice A7 n7 c7).ownBlock = (Value.slice Ao nt0.length co).ownBlock ∨ ∃ k, (Value.slice A7 n7 c7).ownBlock = some k ∧ w.heap.size ≤ k) := by
          rcases HV7.out with e | e
          ·exact .inl e
          ·exact .inr ⟨_, e, by have := HBY.out.size; omega⟩
         have HIY := Lib.hid (HI.out.call HBY.out)
         have HE : Hid (ApI w (w7.setCell ⟨w.heap.size + 1, 2, none⟩ (.slice A7 n7 c7)) L A c #[.int .u64 gen, .int .u64 seq, .slice Aw ws.length cw, .slice Am ms.length cm, .slice An nt.length cn] (.slice Al ls0.length cl) (.slice A3 n3 c3) (.slice A7 n7 c7) F E ⟨cur, mfin, nt0 ++ [nt]⟩) := by
          have hnF : ∀ k, (Value.slice Ao nt0.length co).ownBlock = some k → F k ∧ k < w.heap.size := fun k hk => ⟨HFE.out ▸ (.inr hk), HFB.out k (HFE.out ▸ (.inr hk))⟩
          refine HIY.out.turn HD7.out (((HIY.out.agr.alloc _).grown HG7.out fun k hk => .inl (hnF k hk).1).set (.inr (by simp)) _) fun k h1 h2 h3 => ?_
          have hl := HIY.out.lt
          exact (heap_setCell_other _ _ _ _ h3).trans ((HG7.out.block k (by simp; omega) (fun e => by have := (hnF k e.symm).2; omega)).trans (Below.heap_alloc _ _ _ (by omega)))
         clear HD7 HG7 HV7 hown7 hg7 hv7 hx7 hd7 d2 e2 x7 z7 d4 HIY
         go_upto_region 20 with (fail)
         generalize w7.setCell _ _ = w8 at *
         clear r4 s2
         obtain ⟨s0, s1, s2, -⟩ := HE.out.st.cells
         have f0 := frozen_blk HE.out.res 0
         have f1 := frozen_blk HE.out.res 1
         have f2 := frozen_blk HE.out.res 2
         obtain ⟨z0, z1, z2⟩ := zero3 HE.out.res
         have HFN := Lib.hid (HE.out.fin)
         go_wp2
         (try simp only [Exit.inBlock, Exit.then])
         refine bodyPost_ret (v := .tuple #[.agg #[.slice Al ls0.length cl, .slice A3 n3 c3, .slice A7 n7 c7], .int .i64 0]) ?_ rfl ⟨HFN.out.2.1, AplP.good HAF.out HFN.out.1 (HOB.out)⟩
         rw [results_cell_tmp rfl]
         go_simp
      case pos =>
       have hkI : (k : Int) < (ms.length : Int) := by omega
       have hk0 : ¬ (k : Int) < 0 := by omega
       obtain ⟨x, hxk⟩ : ∃ x, ms[k]? = some x := ⟨_, List.getElem?_eq_getElem hkn⟩
       obtain ⟨-, hmr, -⟩ := HRE.out wr HI.out.agr
       obtain ⟨b, off, rfl, hbB, x0, x1, x2, x3⟩ := MvS.at_ hmr hxk
       have hwm := HMK.out x (List.mem_of_getElem? hxk)
       have hmok := msF_ok _ _ HMS.out HM0.out
       have hml := msF_len (L := L) (ms.take k) ms0
       have hmt : (ms.take k).length ≤ 64 := by rw [List.length_take]; omega
       have HSN := Lib.hid (msF_snoc (L := L) (ms := ms0) hxk HM0.out)
       have HWF := Lib.hid (rp_wf HX.out.ok hmok)
       have HAO := Lib.hid (appR_ok (m := x) hmok)
       have HML : Hid ((msF L ms0 (ms.take k)).1.length ≤ 10000) := by unfold Hid; omega
       generalize (msF L ms0 (ms.take k)).1 = mcur at *
       obtain ⟨out, er, hap⟩ : ∃ out er, applyL L mcur x = (out, er) := ⟨_, _, rfl⟩
       rw [hap] at HSN HAO
       simp only at HSN
       have HWM := Lib.hid hwm
       obtain ⟨mg, mp, ⟨md, mb⟩⟩ := x
       simp only at x0 x1 x2 x3 HWM
       clear hmr hmok hml hmt hap hwm hxk
       go_upto_region 13 with (fail)
       have hn5 := heap_alloc_new wr (.cells #[.int .i64 mg, .int .i64 mp, .int .i64 md, .int .i64 mb] 196)
       have hb5 : Below wr.heap.size wr (wr.alloc (.cells #[.int .i64 mg, .int .i64 mp, .int .i64 md, .int .i64 mb] 196)) := below_laid
       generalize wr.alloc _ = w5 at *
       have HI5 := Lib.hid (HI.out.call hb5)
       obtain ⟨A4, c4, hmv, hmS⟩ := HI5.out.st.ms
       have e3 : A3 = A4 := by injection hmv
       have e4 : c3 = c4 := by injection hmv
       have e5 : n3 = mcur.length := HN3.out.symm
       subst e3 e4 e5
       have HCA : Hid (Calls Tryz.prog 74 #[.agg #[.int .i64 L.disks, .slice A L.n c, .int .i64 L.tiles, .int .i64 L.spare], .slice A3 mcur.length c3, .agg #[.int .i64 mg, .int .i64 mp, .int .i64 md, .int .i64 mb]] w5 fun r w' => (∃ v, r = .returned (.tuple #[v, .int .i64 er]) ∧ OwS w' w5.heap.size 196 4 v (out.map Mv.cells)) ∧ Below w5.heap.size w5 w') := by
        have h := sApply_any (L := L) (A := A) (Am := A3) (B := w5.heap.size) (c := c) (cm := c3) (ms := mcur) ⟨mg, mp, ⟨md, mb⟩⟩ w5 HX.out (HI5.out.gs HGS.out) hmS.now HWF.out HWM.out (Nat.le_refl _) HML.out
        rw [HAO.out] at h
        exact h
       obtain ⟨l0, l1, l2, l3⟩ := HI5.out.lay.cells
       have s1 := HI5.out.st.cells.2.1
       have n0 : w5.cell? ⟨wr.heap.size, 0, none⟩ = some (.int .i64 mg) := by rw [cell_of_row _ _ _ _ _ _ hn5]; rfl
       have n1 : w5.cell? ⟨wr.heap.size, 1, none⟩ = some (.int .i64 mp) := by rw [cell_of_row _ _ _ _ _ _ hn5]; rfl
       have n2 : w5.cell? ⟨wr.heap.size, 2, none⟩ = some (.int .i64 md) := by rw [cell_of_row _ _ _ _ _ _ hn5]; rfl
       have n3 : w5.cell? ⟨wr.heap.size, 3, none⟩ = some (.int .i64 mb) := by rw [cell_of_row _ _ _ _ _ _ hn5]; rfl
       clear hn5 hb5 hmv hmS x0 x1 x2 x3
       go_wp2_with fail
       refine HCA.out.mono ?_
       rintro r w6 ⟨⟨v6, rfl, hown⟩, hb6⟩
       have HI6 := Lib.hid (HI5.out.call hb6)
       have HMV := Lib.hid (MvW.made (F := FX (w.heap.size + 1) (apE w E) (.slice Al ls0.length cl) (Value.slice Ao nt0.length co)) hown fun k hk => HI5.out.st.flt HI5.out.elt hk)
       obtain ⟨A6, n6, c6, rfl⟩ := hown.sl
       clear hown hb6 l0 l1 l2 l3 s1 n0 n1 n2 n3 HCA HI5 HWF HAO
       by_cases her : er = 0
       ·subst her
        have HT : Hid ((msF L ms0 (ms.take (k + 1))).2 = 0 ∧ (msF L ms0 (ms.take (k + 1))).1 = out) := by rw [Hid, HSN.out]; simp
        obtain ⟨-, z1, -, zf⟩ := HI6.out.st.cells
        have f1 := zf 1
        have HE : Hid (ApI w (w6.setCell ⟨w.heap.size + 1, 1, none⟩ (.slice A6 n6 c6)) L A c _ (.slice Al ls0.length cl) (.slice A6 n6 c6) (Value.slice Ao nt0.length co) F E ⟨cur, out, nt0⟩) :=
         HI6.out.turn (HI6.out.st.setM HMV.out) (HI6.out.agr.set (.inr (by simp)) _) fun k h1 h2 h3 => heap_setCell_other _ _ _ _ h3
        clear zf
        go_wp2
        go_roundw
        case rel => exact ⟨k + 1, by omega, by go_num, HT.out.1, _, by rw [HT.out.2]; exact HE.out⟩
        case measure => simp [intOf] <;> omega
       ·have g1 : (er != 0) = true := by simpa using her
        have g2 : (er == 0) = false := by simpa using her
        have HER : Hid (er ≠ 0) := her
        have HE : Hid ((applyS L ⟨ls0, ms0, nt0⟩ ⟨gen, seq, ws, ms, nt⟩).2 = er) := by
         have h1 : (msF L ms0 (ms.take (k + 1))).2 = er := by rw [HSN.out, if_neg her]
         have h2 : (msF L ms0 ms).2 = er := by rw [← h1]; exact msF_stop (by rw [h1]; exact her)
         rw [Hid, HAR.out, h2, if_neg her]
        have f0 := frozen_blk HI6.out.res 0
        have f1 := frozen_blk HI6.out.res 1
        have f2 := frozen_blk HI6.out.res 2
        obtain ⟨z0, z1, z2⟩ := zero3 HI6.out.res
        have HEN := Lib.hid (ap_err HI6.out)
        clear her HSN
        go_wp2
        (try simp only [Exit.inBlock, Exit.then])
        refine bodyPost_ret (v := .tuple #[.agg #[.slice none 0 0, .slice none 0 0, .slice none 0 0], .int .i64 er]) ?_ rfl ⟨HEN.out.1, AplP.bad HE.out HER.out⟩
        rw [results_cell_tmp rfl]
        go_simp
    case pos =>
     have hkI : (k : Int) < (ws.length : Int) := by omega
     have hk0 : ¬ (k : Int) < 0 := by omega
     obtain ⟨x, hxk⟩ : ∃ x, ws[k]? = some x := ⟨_, List.getElem?_eq_getElem hkn⟩
     obtain ⟨hwr, -, -⟩ := HRE.out wr HI.out.agr
     obtain ⟨b, off, rfl, hbB, hcx⟩ := PwS.at_ hwr hxk
     have hmem := List.mem_of_getElem? hxk
     obtain ⟨g, p, hg, hp, hgG, hpw⟩ := HWK.out x hmem
     have hdx := HDK.out x hmem
     have HTK : Hid (wsF ls0 (ws.take (k + 1)) = wstep cur x) := wsF_snoc hxk HCU.out
     have HNO : Hid (wstep cur x = none → (applyS L ⟨ls0, ms0, nt0⟩ ⟨gen, seq, ws, ms, nt⟩).2 = 8) := fun h => by rw [HAQ.out, wsF_none (k := k + 1) (HTK.out.trans h)]
     have HWS : Hid (∀ y, cur[x.g.toNat]? = some y → wstep cur x = if x.v < y.vs.getD x.p.toNat 0 then none else some (cur.set x.g.toNat (setL y x.g.toNat x.p.toNat x.v x.d))) := fun y hy => by unfold wstep; rw [hy]
     generalize wstep cur x = st at *
     obtain ⟨xg, xp, v, d⟩ := x
     simp only at hg hp hdx HWS
     subst hg hp
     simp only [Int.toNat_natCast] at HWS
     have hok := wsF_ok _ _ HLS.out _ HCU.out
     obtain ⟨y, hy⟩ : ∃ y, cur[g]? = some y := ⟨_, List.getElem?_eq_getElem (by rw [hok.1]; exact hgG)⟩
     have hyl := hok.2 y (List.mem_of_getElem? hy)
     have HW1 := Lib.hid (HWS.out y hy)
     obtain ⟨vp, hvp⟩ : ∃ vp, y.vs[p]? = some vp := ⟨_, List.getElem?_eq_getElem (by rw [hyl.1]; exact hpw)⟩
     have hgd : y.vs.getD p 0 = vp := by rw [List.getD_eq_getElem?_getD, hvp]; rfl
     rw [hgd] at HW1
     have HDX := Lib.hid hdx
     have HY := Lib.hid hy
     have HOK := Lib.hid hok
     have hlen0 : cur.length = ls0.length := by rw [hok.1, HLS.out.1]
     obtain ⟨SL, hSL⟩ : ∃ SL, setL y g p v d = SL := ⟨_, rfl⟩
     rw [hSL] at HW1
     have HSLE := Lib.hid hSL
     obtain ⟨b0, b1, b2, b3, b4, b5, b6, b7⟩ := d
     have x0 := hcx 0 _ rfl
     have x1 := hcx 1 _ rfl
     have x2 := hcx 2 _ rfl
     have x3 := hcx 3 _ rfl
     have x4 := hcx 4 _ rfl
     have x5 := hcx 5 _ rfl
     have x6 := hcx 6 _ rfl
     have x7 := hcx 7 _ rfl
     have x8 := hcx 8 _ rfl
     have x9 := hcx 9 _ rfl
     have x10 := hcx 10 _ rfl
     simp only [Nat.add_zero] at x0
     have hgI : (g : Int) < (ls0.length : Int) := by have h9 := HLS.out.1; (try simp only at h9); omega
     have hgN : g < ls0.length := by omega
     have hpI : (p : Int) < (y.vs.length : Int) := by omega
     have hpN : p < y.vs.length := by omega
     have hg0 : ¬ (g : Int) < 0 := by omega
     have hp0 : ¬ (p : Int) < 0 := by omega
     have hg00 : (0 : Int) ≤ (g : Int) := by omega
     have hp00 : (0 : Int) ≤ (p : Int) := by omega
     have hvl16 : y.vs.length ≤ 1000 := by omega
     have HVS : Hid (y.ss.length = y.vs.length) := by unfold Hid; omega
     have HL0 := Lib.hid hlen0
     have hg6 : g < 1000000 := by omega
     clear hwr hcx hxk hmem HWS hy hok hgd hSL hdx hyl hlen0
     go_upto_region 6 with (fail)
     have hn5 := heap_alloc_new wr (.cells #[.int .i64 (g : Int), .int .i64 (p : Int), .int .u64 v, .int .u8 b0, .int .u8 b1, .int .u8 b2, .int .u8 b3, .int .u8 b4, .int .u8 b5, .int .u8 b6, .int .u8 b7] 190)
     have hb5 : Below wr.heap.size wr (wr.alloc (.cells #[.int .i64 (g : Int), .int .i64 (p : Int), .int .u64 v, .int .u8 b0, .int .u8 b1, .int .u8 b2, .int .u8 b3, .int .u8 b4, .int .u8 b5, .int .u8 b6, .int .u8 b7] 190)) := below_laid
     have hz5 : wr.heap.size < (wr.alloc (.cells #[.int .i64 (g : Int), .int .i64 (p : Int), .int .u64 v, .int .u8 b0, .int .u8 b1, .int .u8 b2, .int .u8 b3, .int .u8 b4, .int .u8 b5, .int .u8 b6, .int .u8 b7] 190)).heap.size := by simp
     generalize wr.alloc _ = w5 at *
     have HI5 := Lib.hid (HI.out.call hb5)
     have HN5 := Lib.hid hn5
     have HB5 := Lib.hid hb5
     have n0 : w5.cell? ⟨wr.heap.size, 0, none⟩ = some (.int .i64 (g : Int)) := by rw [cell_of_row _ _ _ _ _ _ hn5]; rfl
     have n1 : w5.cell? ⟨wr.heap.size, 1, none⟩ = some (.int .i64 (p : Int)) := by rw [cell_of_row _ _ _ _ _ _ hn5]; rfl
     have n2 : w5.cell? ⟨wr.heap.size, 2, none⟩ = some (.int .u64 v) := by rw [cell_of_row _ _ _ _ _ _ hn5]; rfl
     have n3 : w5.cell? ⟨wr.heap.size, 3, none⟩ = some (.int .u8 b0) := by rw [cell_of_row _ _ _ _ _ _ hn5]; rfl
     have n4 : w5.cell? ⟨wr.heap.size, 4, none⟩ = some (.int .u8 b1) := by rw [cell_of_row _ _ _ _ _ _ hn5]; rfl
     have n5 : w5.cell? ⟨wr.heap.size, 5, none⟩ = some (.int .u8 b2) := by rw [cell_of_row _ _ _ _ _ _ hn5]; rfl
     have n6 : w5.cell? ⟨wr.heap.size, 6, none⟩ = some (.int .u8 b3) := by rw [cell_of_row _ _ _ _ _ _ hn5]; rfl
     have n7 : w5.cell? ⟨wr.heap.size, 7, none⟩ = some (.int .u8 b4) := by rw [cell_of_row _ _ _ _ _ _ hn5]; rfl
     have n8 : w5.cell? ⟨wr.heap.size, 8, none⟩ = some (.int .u8 b5) := by rw [cell_of_row _ _ _ _ _ _ hn5]; rfl
     have n9 : w5.cell? ⟨wr.heap.size, 9, none⟩ = some (.int .u8 b6) := by rw [cell_of_row _ _ _ _ _ _ hn5]; rfl
     have n10 : w5.cell? ⟨wr.heap.size, 10, none⟩ = some (.int .u8 b7) := by rw [cell_of_row _ _ _ _ _ _ hn5]; rfl
     have s0 := HI5.out.st.cells.1
     obtain ⟨gb, cg, ua, ub, hlv, k0, k1, kf, hyS⟩ := HI5.out.st.ls.at_ HY.out
     have hAl : Al = some ⟨gb, 0, none⟩ := by injection hlv
     subst hAl
     have hcg : cl = cg := by injection hlv
     subst hcg
     obtain ⟨Ax, cx, Ay, cy, he, hux, huy, hcx, hcy⟩ := hyS.now
     injection he with he
     have e1 : ua = .slice Ax y.vs.length cx := by have := congrArg (fun x => x[0]?) he; simpa using this
     have e2 : ub = .slice Ay y.ss.length cy := by have := congrArg (fun x => x[1]?) he; simpa using this
     subst e1 e2
     obtain ⟨bv, ov, rfl, hbv, kv⟩ := U64S.at_ hux hvp
     have HYS := Lib.hid hyS
     clear he hn5 hb5 hlv hyS hux huy hvp x0 x1 x2 x3 x4 x5 x6 x7 x8 x9 x10
     by_cases hlt2 : v < vp
     ·have hltI : (v : Int) < (vp : Int) := by omega
      have HNS : Hid (st = none) := by rw [Hid, HW1.out, if_pos hlt2]
      have HE := Lib.hid (HNO.out HNS.out)
      go_quiet (fail)
      generalize hdr : w5.drewN _ = w6
      have hbx : Below w5.heap.size w5 w6 := by rw [← hdr]; exact below_drewN (Below.refl _ _) _
      have HI6 := Lib.hid (HI5.out.call hbx)
      clear hdr hbx s0 k0 k1 kf kv n0 n1 n2 n3 n4 n5 n6 n7 n8 n9 n10
      have f0 := frozen_blk HI6.out.res 0
      have f1 := frozen_blk HI6.out.res 1
      have f2 := frozen_blk HI6.out.res 2
      obtain ⟨z0, z1, z2⟩ := zero3 HI6.out.res
      have HEN := Lib.hid (ap_err HI6.out)
      go_wp2
      (try simp only [Exit.inBlock, Exit.then])
      refine bodyPost_ret (v := .tuple #[.agg #[.slice none 0 0, .slice none 0 0, .slice none 0 0], .int .i64 8]) ?_ rfl ⟨HEN.out.1, AplP.bad HE.out (by decide)⟩
      rw [results_cell_tmp rfl]
      go_simp
     ·have hltI : ¬ (v : Int) < (vp : Int) := by omega
      have HSS : Hid (st = some (cur.set g SL)) := by rw [Hid, HW1.out, if_neg hlt2]
      have HT2 : Hid (wsF ls0 (ws.take (k + 1)) = some (cur.set g SL)) := HTK.out.trans HSS.out
      clear HTK HNO HSS HW1 HAQ
      go_quiet (fail)
      generalize hdr : w5.drewN _ = w6
      have hbx : Below w5.heap.size w5 w6 := by rw [← hdr]; exact below_drewN (Below.refl _ _) _
      have HI6 := Lib.hid (HI5.out.call hbx)
      have hyS6 := HYS.out.call hbx
      have HN6 := Lib.hid ((hbx.block _ hz5).trans HN5.out)
      have hz6 : wr.heap.size < w6.heap.size := Nat.lt_of_lt_of_le hz5 hbx.size
      obtain ⟨g6, c6, ua6, ub6, hlv6, k06, k16, kf6, -⟩ := HI6.out.st.ls.at_ HY.out
      obtain rfl : gb = g6 := by injection hlv6 with h1; injection h1 with h1; injection h1
      have hgl : gb < w6.heap.size := HI6.out.st.flt HI6.out.elt (FX.l _ rfl)
      rw [← hdr] at k06 k16
      have ek0 : ua6 = .slice (some ⟨bv, ov, none⟩) y.vs.length cx := Option.some.inj (k06.symm.trans k0)
      have ek1 : ub6 = .slice Ay y.ss.length cy := Option.some.inj (k16.symm.trans k1)
      rw [hdr] at k06 k16
      subst ek0 ek1
      obtain ⟨Ax, hAx⟩ : ∃ Ax, (some ⟨bv, ov, none⟩ : Option Addr) = Ax := ⟨_, rfl⟩
      rw [hAx] at k06 hyS6
      have HK0 := Lib.hid k06
      have HK1 := Lib.hid k16
      have HLX := Lib.hid hyS6.now
      clear hdr hbx s0 k0 k1 kf kv n0 n1 n2 n3 n4 n5 n6 n7 n8 n9 n10 hlv6 k06 k16 kf6 hyS6 HI5 HB5 HN5 hz5 hAx hlt2 hltI
      have HSX : Hid (∀ W, Below w6.heap.size w6 W → (W.cell? ⟨w.heap.size + 1, 0, none⟩ = some (.slice (some ⟨gb, 0, none⟩) ls0.length cl) ∧ W.cell? ⟨wr.heap.size, 0, none⟩ = some (.int .i64 (g : Int)) ∧ W.cell? ⟨wr.heap.size, 1, none⟩ = some (.int .i64 (p : Int)) ∧ W.cell? ⟨wr.heap.size, 2, none⟩ = some (.int .u64 v) ∧ W.cell? ⟨wr.heap.size, 3, none⟩ = some (.int .u8 b0) ∧ W.cell? ⟨wr.heap.size, 4, none⟩ = some (.int .u8 b1) ∧ W.cell? ⟨wr.heap.size, 5, none⟩ = some (.int .u8 b2) ∧ W.cell? ⟨wr.heap.size, 6, none⟩ = some (.int .u8 b3) ∧ W.cell? ⟨wr.heap.size, 7, none⟩ = some (.int .u8 b4) ∧ W.cell? ⟨wr.heap.size, 8, none⟩ = some (.int .u8 b5) ∧ W.cell? ⟨wr.heap.size, 9, none⟩ = some (.int .u8 b6) ∧ W.cell? ⟨wr.heap.size, 10, none⟩ = some (.int .u8 b7) ∧ W.cell? ⟨gb, g * 2, none⟩ = some (.slice Ax y.vs.length cx) ∧ W.cell? ⟨gb, g * 2 + 1, none⟩ = some (.slice Ay y.ss.length cy))) := fun W hW => by
       have hn := (hW.block _ hz6).trans HN6.out
       exact ⟨(HI6.out.call hW).st.cells.1, by rw [cell_of_row _ _ _ _ _ _ hn]; rfl, by rw [cell_of_row _ _ _ _ _ _ hn]; rfl, by rw [cell_of_row _ _ _ _ _ _ hn]; rfl, by rw [cell_of_row _ _ _ _ _ _ hn]; rfl, by rw [cell_of_row _ _ _ _ _ _ hn]; rfl, by rw [cell_of_row _ _ _ _ _ _ hn]; rfl, by rw [cell_of_row _ _ _ _ _ _ hn]; rfl, by rw [cell_of_row _ _ _ _ _ _ hn]; rfl, by rw [cell_of_row _ _ _ _ _ _ hn]; rfl, by rw [cell_of_row _ _ _ _ _ _ hn]; rfl, by rw [cell_of_row _ _ _ _ _ _ hn]; rfl, (hW.cell (p := ⟨gb, g * 2, none⟩) hgl).trans HK0.out, (hW.cell (p := ⟨gb, g * 2 + 1, none⟩) hgl).trans HK1.out⟩
      have hS0 := HSX.out w6.drew (Below.refl _ _).drew
      have HSC : Hid (∀ W, Below w6.heap.size w6 W → Calls Tryz.prog 73 #[.agg #[.slice Ax y.vs.length cx, .slice Ay y.ss.length cy], .agg #[.int .i64 (g : Int), .int .i64 (p : Int), .int .u64 v, .int .u8 b0, .int .u8 b1, .int .u8 b2, .int .u8 b3, .int .u8 b4, .int .u8 b5, .int .u8 b6, .int .u8 b7]] W fun r w' => (∃ v', r = .returned (.tuple #[v', .int .i64 0]) ∧ LfV w' w'.heap.size v' SL ∧ LfF W.heap.size v') ∧ Below W.heap.size W w') := fun W hW => by
       have h := pset g p v ⟨b0, b1, b2, b3, b4, b5, b6, b7⟩ W (HLX.out.below hW (Nat.le_refl _)) hW.size HVS.out hpN hvl16 HDX.out hg6
       rw [HSLE.out] at h
       exact h
      go_wp2_with fail
      refine wp_regionT (T := 16) (S := fun W : World => W.cell? ⟨w.heap.size + 1, 0, none⟩ = some (.slice (some ⟨gb, 0, none⟩) ls0.length cl) ∧ W.cell? ⟨wr.heap.size, 0, none⟩ = some (.int .i64 (g : Int)) ∧ W.cell? ⟨wr.heap.size, 1, none⟩ = some (.int .i64 (p : Int)) ∧ W.cell? ⟨wr.heap.size, 2, none⟩ = some (.int .u64 v) ∧ W.cell? ⟨wr.heap.size, 3, none⟩ = some (.int .u8 b0) ∧ W.cell? ⟨wr.heap.size, 4, none⟩ = some (.int .u8 b1) ∧ W.cell? ⟨wr.heap.size, 5, none⟩ = some (.int .u8 b2) ∧ W.cell? ⟨wr.heap.size, 6, none⟩ = some (.int .u8 b3) ∧ W.cell? ⟨wr.heap.size, 7, none⟩ = some (.int .u8 b4) ∧ W.cell? ⟨wr.heap.size, 8, none⟩ = some (.int .u8 b5) ∧ W.cell? ⟨wr.heap.size, 9, none⟩ = some (.int .u8 b6) ∧ W.cell? ⟨wr.heap.size, 10, none⟩ = some (.int .u8 b7) ∧ W.cell? ⟨gb, g * 2, none⟩ = some (.slice Ax y.vs.length cx) ∧ W.cell? ⟨gb, g * 2 + 1, none⟩ = some (.slice Ay y.ss.length cy)) (by kernel_rfl) ?_
      (try change wpAnyT _ _ _ _ _ _ _ _ _ (World.drew _))
      refine wpAnyT_take (i := 0) (v := ?_) 60 rfl (by kernel_rfl) (by kernel_rfl) (by kernel_rfl) (by kernel_rfl) (by kernel_rfl) (fun _ _ _ h => h) (Or.inl ⟨by rfl, ?_⟩) hS0 ?_
      rotate_left
      ·(intro W hW; (try dsimp only at hW); obtain ⟨hW0, hW1, hW2, hW3, hW4, hW5, hW6, hW7, hW8, hW9, hW10, hW11, hW12, hW13⟩ := hW; go_simp; try with_reducible rfl)
      (simp only [List.getElem_toArray, List.getElem_cons_zero, Act.put, List.setIfInBounds_toArray, List.set_cons_zero, List.set_cons_succ])
      refine wpAnyT_take (i := 1) (v := ?_) 60 rfl (by kernel_rfl) (by kernel_rfl) (by kernel_rfl) (by kernel_rfl) (by kernel_rfl) (fun _ _ _ h => h) (Or.inl ⟨by rfl, ?_⟩) hS0 ?_
      rotate_left
      ·(intro W hW; (try dsimp only at hW); obtain ⟨hW0, hW1, hW2, hW3, hW4, hW5, hW6, hW7, hW8, hW9, hW10, hW11, hW12, hW13⟩ := hW; go_simp; try with_reducible rfl)
      (simp only [List.getElem_toArray, List.getElem_cons_zero, List.getElem_cons_succ, Act.put, List.setIfInBounds_toArray, List.set_cons_zero, List.set_cons_succ])
      refine wpAnyT_take (i := 2) (v := ?_) 60 rfl (by kernel_rfl) (by kernel_rfl) (by kernel_rfl) (by kernel_rfl) (by kernel_rfl) (fun _ _ _ h => h) (Or.inl ⟨by rfl, ?_⟩) hS0 ?_
      rotate_left
      ·(intro W hW; (try dsimp only at hW); obtain ⟨hW0, hW1, hW2, hW3, hW4, hW5, hW6, hW7, hW8, hW9, hW10, hW11, hW12, hW13⟩ := hW; go_simp; try with_reducible rfl)
      (simp only [List.getElem_toArray, List.getElem_cons_zero, List.getElem_cons_succ, Act.put, List.setIfInBounds_toArray, List.set_cons_zero, List.set_cons_succ])
      refine wpAnyT_take (i := 3) (v := ?_) 60 rfl (by kernel_rfl) (by kernel_rfl) (by kernel_rfl) (by kernel_rfl) (by kernel_rfl) (fun _ _ _ h => h) (Or.inl ⟨by rfl, ?_⟩) hS0 ?_
      rotate_left
      ·(intro W hW; (try dsimp only at hW); obtain ⟨hW0, hW1, hW2, hW3, hW4, hW5, hW6, hW7, hW8, hW9, hW10, hW11, hW12, hW13⟩ := hW; go_simp; try with_reducible rfl)
      (simp only [List.getElem_toArray, List.getElem_cons_zero, List.getElem_cons_succ, Act.put, List.setIfInBounds_toArray, List.set_cons_zero, List.set_cons_succ])
      refine wpAnyT_take (i := 4) (v := ?_) 60 rfl (by kernel_rfl) (by kernel_rfl) (by kernel_rfl) (by kernel_rfl) (by kernel_rfl) (fun _ _ _ h => h) (Or.inl ⟨by rfl, ?_⟩) hS0 ?_
      rotate_left
      ·(intro W hW; (try dsimp only at hW); obtain ⟨hW0, hW1, hW2, hW3, hW4, hW5, hW6, hW7, hW8, hW9, hW10, hW11, hW12, hW13⟩ := hW; go_simp; try with_reducible rfl)
      (simp only [List.getElem_toArray, List.getElem_cons_zero, List.getElem_cons_succ, Act.put, List.setIfInBounds_toArray, List.set_cons_zero, List.set_cons_succ])
      refine wpAnyT_take (i := 5) (v := ?_) 60 rfl (by kernel_rfl) (by kernel_rfl) (by kernel_rfl) (by kernel_rfl) (by kernel_rfl) (fun _ _ _ h => h) (Or.inl ⟨by rfl, ?_⟩) hS0 ?_
      rotate_left
      ·(intro W hW; (try dsimp only at hW); obtain ⟨hW0, hW1, hW2, hW3, hW4, hW5, hW6, hW7, hW8, hW9, hW10, hW11, hW12, hW13⟩ := hW; go_simp; try with_reducible rfl)
      (simp only [List.getElem_toArray, List.getElem_cons_zero, List.getElem_cons_succ, Act.put, List.setIfInBounds_toArray, List.set_cons_zero, List.set_cons_succ])
      refine wpAnyT_take (i := 6) (v := ?_) 60 rfl (by kernel_rfl) (by kernel_rfl) (by kernel_rfl) (by kernel_rfl) (by kernel_rfl) (fun _ _ _ h => h) (Or.inl ⟨by rfl, ?_⟩) hS0 ?_
      rotate_left
      ·(intro W hW; (try dsimp only at hW); obtain ⟨hW0, hW1, hW2, hW3, hW4, hW5, hW6, hW7, hW8, hW9, hW10, hW11, hW12, hW13⟩ := hW; go_simp; try with_reducible rfl)
      (simp only [List.getElem_toArray, List.getElem_cons_zero, List.getElem_cons_succ, Act.put, List.setIfInBounds_toArray, List.set_cons_zero, List.set_cons_succ])
      refine wpAnyT_take (i := 7) (v := ?_) 60 rfl (by kernel_rfl) (by kernel_rfl) (by kernel_rfl) (by kernel_rfl) (by kernel_rfl) (fun _ _ _ h => h) (Or.inl ⟨by rfl, ?_⟩) hS0 ?_
      rotate_left
      ·(intro W hW; (try dsimp only at hW); obtain ⟨hW0, hW1, hW2, hW3, hW4, hW5, hW6, hW7, hW8, hW9, hW10, hW11, hW12, hW13⟩ := hW; go_simp; try with_reducible rfl)
      (simp only [List.getElem_toArray, List.getElem_cons_zero, List.getElem_cons_succ, Act.put, List.setIfInBounds_toArray, List.set_cons_zero, List.set_cons_succ])
      refine wpAnyT_take (i := 8) (v := ?_) 60 rfl (by kernel_rfl) (by kernel_rfl) (by kernel_rfl) (by kernel_rfl) (by kernel_rfl) (fun _ _ _ h => h) (Or.inl ⟨by rfl, ?_⟩) hS0 ?_
      rotate_left
      ·(intro W hW; (try dsimp only at hW); obtain ⟨hW0, hW1, hW2, hW3, hW4, hW5, hW6, hW7, hW8, hW9, hW10, hW11, hW12, hW13⟩ := hW; go_simp; try with_reducible rfl)
      (simp only [List.getElem_toArray, List.getElem_cons_zero, List.getElem_cons_succ, Act.put, List.setIfInBounds_toArray, List.set_cons_zero, List.set_cons_succ])
      refine wpAnyT_take (i := 9) (v := ?_) 60 rfl (by kernel_rfl) (by kernel_rfl) (by kernel_rfl) (by kernel_rfl) (by kernel_rfl) (fun _ _ _ h => h) (Or.inl ⟨by rfl, ?_⟩) hS0 ?_
      rotate_left
      ·(intro W hW; (try dsimp only at hW); obtain ⟨hW0, hW1, hW2, hW3, hW4, hW5, hW6, hW7, hW8, hW9, hW10, hW11, hW12, hW13⟩ := hW; go_simp; try with_reducible rfl)
      (simp only [List.getElem_toArray, List.getElem_cons_zero, List.getElem_cons_succ, Act.put, List.setIfInBounds_toArray, List.set_cons_zero, List.set_cons_succ])
      refine wpAnyT_take (i := 10) (v := ?_) 60 rfl (by kernel_rfl) (by kernel_rfl) (by kernel_rfl) (by kernel_rfl) (by kernel_rfl) (fun _ _ _ h => h) (Or.inl ⟨by rfl, ?_⟩) hS0 ?_
      rotate_left
      ·(intro W hW; (try dsimp only at hW); obtain ⟨hW0, hW1, hW2, hW3, hW4, hW5, hW6, hW7, hW8, hW9, hW10, hW11, hW12, hW13⟩ := hW; go_simp; try with_reducible rfl)
      (simp only [List.getElem_toArray, List.getElem_cons_zero, List.getElem_cons_succ, Act.put, List.setIfInBounds_toArray, List.set_cons_zero, List.set_cons_succ])
      refine wpAnyT_one (i := 11) (by kernel_rfl) rfl rfl (fun K hK => ?_)
      (go_simp; go_wp2_with (go_at_call 73; ((with_reducible refine (HSC.out _ (Below.refl _ _).drew).mono ?_); rintro e y1 ⟨⟨v', rfl, hvL, hvF⟩, hby⟩)))
      obtain ⟨A1', n1', c1', A2', n2', c2', rfl⟩ := hvL.slices
      have hb61 : Below w6.heap.size w6 y1 := (Below.refl _ _).drew.trans hby
      have hS1 := HSX.out y1 hb61
      obtain ⟨g1, cg1, ua1, ub1, hlv1, k01, k11, kf1, -⟩ := (HI6.out.call hb61).st.ls.at_ HY.out
      obtain rfl : gb = g1 := by injection hlv1 with h1; injection h1 with h1; injection h1
      have hkf0 := kf1 (g * 2)
      have hkf1 := kf1 (g * 2 + 1)
      clear hlv1
      (refine hK _ _ (.inr hS1) ?_)
      (clear hK K)
      (try simp only [List.getElem_toArray, List.getElem_cons_zero, List.getElem_cons_succ, Act.put, List.setIfInBounds_toArray, List.set_cons_zero, List.set_cons_succ])
      refine wpAnyT_take (i := 12) (v := ?_) 60 rfl (by kernel_rfl) (by kernel_rfl) (by kernel_rfl) (by kernel_rfl) (by kernel_rfl) (fun _ _ _ h => h) (Or.inl ⟨by rfl, ?_⟩) hS1 ?_
      rotate_left
      ·(intro W hW; (try dsimp only at hW); obtain ⟨hW0, hW1, hW2, hW3, hW4, hW5, hW6, hW7, hW8, hW9, hW10, hW11, hW12, hW13⟩ := hW; go_simp; try with_reducible rfl)
      (simp only [List.getElem_toArray, List.getElem_cons_zero, List.getElem_cons_succ, Act.put, List.setIfInBounds_toArray, List.set_cons_zero, List.set_cons_succ])
      refine wpAnyT_take (i := 13) (v := ?_) 60 rfl (by kernel_rfl) (by kernel_rfl) (by kernel_rfl) (by kernel_rfl) (by kernel_rfl) (fun _ _ _ h => h) (Or.inl ⟨by rfl, ?_⟩) hS1 ?_
      rotate_left
      ·(intro W hW; (try dsimp only at hW); obtain ⟨hW0, hW1, hW2, hW3, hW4, hW5, hW6, hW7, hW8, hW9, hW10, hW11, hW12, hW13⟩ := hW; go_simp; try with_reducible rfl)
      (simp only [List.getElem_toArray, List.getElem_cons_zero, List.getElem_cons_succ, Act.put, List.setIfInBounds_toArray, List.set_cons_zero, List.set_cons_succ])
      refine wpAnyT_free (i := 14) (v := ?_) rfl (by kernel_rfl) (by kernel_rfl) (by kernel_rfl) (fun _ _ _ h => h) (Or.inl ⟨by rfl, ?_⟩) hS1 ?_
      rotate_left
      ·(intro W hW; clear hW; go_simp; try with_reducible rfl)
      (simp only [List.getElem_toArray, List.getElem_cons_zero, List.getElem_cons_succ, Act.put, List.setIfInBounds_toArray, List.set_cons_zero, List.set_cons_succ])
      refine wpAnyT_take (i := 15) (v := ?_) 60 rfl (by kernel_rfl) (by kernel_rfl) (by kernel_rfl) (by kernel_rfl) (by kernel_rfl) (fun _ _ _ h => h) (Or.inl ⟨by rfl, ?_⟩) hS1 ?_
      rotate_left
      ·(intro W hW; (try dsimp only at hW); obtain ⟨hW0, hW1, hW2, hW3, hW4, hW5, hW6, hW7, hW8, hW9, hW10, hW11, hW12, hW13⟩ := hW; go_simp; try with_reducible rfl)
      (simp only [List.getElem_toArray, List.getElem_cons_zero, List.getElem_cons_succ, Act.put, List.setIfInBounds_toArray, List.set_cons_zero, List.set_cons_succ])
      refine wpAnyT_one (i := 16) (by kernel_rfl) rfl rfl (fun K hK => ?_)
      go_simp
      (refine hK _ _ (.inl (by kernel_rfl)) ?_)
      (clear hK K)
      (try simp only [List.getElem_toArray, List.getElem_cons_zero, List.getElem_cons_succ, Act.put, List.setIfInBounds_toArray, List.set_cons_zero, List.set_cons_succ])
      refine wpAnyT_done (by kernel_rfl) ?_ _
      have hLS : Stb (FX (w.heap.size + 1) (apE w E) (.slice (some ⟨gb, 0, none⟩) ls0.length cl) (.slice Ao nt0.length co)) y1 fun W => LfV W W.heap.size (.agg #[.slice A1' n1' c1', .slice A2' n2' c2']) SL := LfV.stb (B0 := w6.heap.size) hvL hvF fun k hk => HI6.out.st.flt HI6.out.elt hk
      have hI61 := HI6.out.call hb61
      have hst7 := hI61.st.setL (k := g) (by show g < cur.length; rw [HL0.out]; exact hgN) hLS
      have hFgb : F gb := HFE.out ▸ (.inl rfl)
      have hgbl : gb < w.heap.size := by
       have := HI.out.agr
       exact HFB.out gb hFgb
      have HE : Hid (ApI w ((y1.setCell ⟨gb, g * 2, none⟩ (.slice A1' n1' c1')).setCell ⟨gb, g * 2 + 1, none⟩ (.slice A2' n2' c2')) L A c _ (.slice (some ⟨gb, 0, none⟩) ls0.length cl) (.slice Av ms0.length cv) (.slice Ao nt0.length co) F E ⟨cur.set g SL, ms0, nt0⟩) :=
       hI61.turn hst7 ((hI61.agr.set (.inl hFgb) _).set (.inl hFgb) _) fun k h1 h2 h3 => (heap_setCell_other _ _ _ _ (by show k ≠ gb; omega)).trans (heap_setCell_other _ _ _ _ (by show k ≠ gb; omega))
      clear hI61 hst7 hLS hvL hvF hby hb61 hS0 hS1 k01 k11 kf1 hkf0 hkf1
      go_wp2
      go_roundw
      case rel => exact ⟨k + 1, by omega, by go_num, _, HT2.out, HE.out⟩
      case measure => simp [intOf] <;> omega
end Go.Proofs.YtopoefcklipaeaaGreatDoor
