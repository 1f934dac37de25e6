/- Lists of records in memory. No program is walked here.
Two states in boxes while records are applied (the loops of tegulatop.WholeRoots). No program is walked here.
A list of records that comes in, opened. -/
import Derived.Test.YtopoefcklipaeaaGreatDoorGRo
import Derived.Test.YtopoefcklipaeaaGreatDoorGRj
import Derived.Test.YtopoefcklipaeaaGreatDoorGRq
import Derived.Test.YtopoefcklipaeaaGreatDoorGWc
import Derived.Test.YtopoefcklipaeaaGreatDoorGRp
import Derived.Test.YtopoefcklipaeaaGreatDoorGWd
import Derived.Test.YtopoefcklipaeaaGreatDoorGRs
namespace Go.Proofs.YtopoefcklipaeaaGreatDoor
open Go.RowKit Go.Maps
abbrev RAd := (Option Addr × Nat) × (Option Addr × Nat) × (Option Addr × Nat)
def rcRow (p : RAd × Rcd) : List Value := [.int .u64 p.2.gen, .int .u64 p.2.seq, .slice p.1.1.1 p.2.ws.length p.1.1.2, .slice p.1.2.1.1 p.2.ms.length p.1.2.1.2, .slice p.1.2.2.1 p.2.nt.length p.1.2.2.2]
def RcsS (w : World) (B : Nat) (A : Option Addr) (rs : List Rcd) : Prop := ∃ vs : List RAd, vs.length = rs.length ∧ RdS w B 5 A ((vs.zip rs).map rcRow) ∧ ∀ (i : Nat) (p : RAd) (r : Rcd), vs[i]? = some p → rs[i]? = some r → PwS w B p.1.1 r.ws ∧ MvS w B p.2.1.1 r.ms ∧ BytS w B p.2.2.1 r.nt
section
variable {w w' : World} {B C : Nat} {A : Option Addr} {rs : List Rcd}
theorem RcsS.below (h : RcsS w B A rs) (hb : Below C w w') (hC : B ≤ C) : RcsS w' B A rs := by
 obtain ⟨vs, h1, h2, h3⟩ := h
 exact ⟨vs, h1, h2.below' hb hC, fun i p r hp hr => ⟨(h3 i p r hp hr).1.below' hb hC, (h3 i p r hp hr).2.1.below' hb hC, (h3 i p r hp hr).2.2.below' hb hC⟩⟩
theorem RcsS.more (h : RcsS w B A rs) (hC : B ≤ C) : RcsS w C A rs := by
 obtain ⟨vs, h1, h2, h3⟩ := h
 exact ⟨vs, h1, h2.more hC, fun i p r hp hr => ⟨(h3 i p r hp hr).1.more hC, (h3 i p r hp hr).2.1.more hC, (h3 i p r hp hr).2.2.more hC⟩⟩
theorem RcsS.at2 (h : RcsS w B A rs) {k : Nat} {r : Rcd} (hr : rs[k]? = some r) (hB : B ≤ w.heap.size) : ∃ b off Aw cw Am cm An cn, A = some ⟨b, off, none⟩ ∧ b < B ∧ ∀ W, Below w.heap.size w W → W.cell? ⟨b, off + k * 5, none⟩ = some (.int .u64 r.gen) ∧ W.cell? ⟨b, off + k * 5 + 1, none⟩ = some (.int .u64 r.seq) ∧ W.cell? ⟨b, off + k * 5 + 2, none⟩ = some (.slice Aw r.ws.length cw) ∧ W.cell? ⟨b, off + k * 5 + 3, none⟩ = some (.slice Am r.ms.length cm) ∧ W.cell? ⟨b, off + k * 5 + 4, none⟩ = some (.slice An r.nt.length cn) ∧
  RcdV W B (.agg #[.int .u64 r.gen, .int .u64 r.seq, .slice Aw r.ws.length cw, .slice Am r.ms.length cm, .slice An r.nt.length cn]) r ∧ PwS W B Aw r.ws := by
 obtain ⟨vs, h1, h2, h3⟩ := h
 have hk : k < rs.length := (List.getElem?_eq_some_iff.1 hr).1
 have hp : vs[k]? = some vs[k] := List.getElem?_eq_getElem (by omega)
 obtain ⟨b, off, rfl, hb, hc⟩ := h2.2 (by simp; omega)
 have hz : (vs.zip rs)[k]? = some (vs[k], r) := by rw [List.getElem?_zip_eq_some]; exact ⟨hp, hr⟩
 have hrw : ((vs.zip rs).map rcRow)[k]? = some (rcRow (vs[k], r)) := by rw [List.getElem?_map, hz]; rfl
 refine ⟨b, off, vs[k].1.1, vs[k].1.2, vs[k].2.1.1, vs[k].2.1.2, vs[k].2.2.1, vs[k].2.2.2, rfl, hb, fun W hW => ?_⟩
 obtain ⟨g1, g2, g3⟩ := h3 k _ _ hp hr
 have hcl : ∀ j (u : Value), (rcRow (vs[k], r))[j]? = some u → W.cell? ⟨b, off + k * 5 + j, none⟩ = some u := fun j u hu => (hW.cell (p := ⟨b, off + k * 5 + j, none⟩) (by show b < _; omega)).trans (hc k _ hrw j u hu)
 exact ⟨hcl 0 _ rfl, hcl 1 _ rfl, hcl 2 _ rfl, hcl 3 _ rfl, hcl 4 _ rfl, ⟨_, _, _, _, _, _, rfl, g1.below' hW hB, g2.below' hW hB, g3.below' hW hB⟩, g1.below' hW hB⟩
theorem RcsS.nil : RcsS w B A [] := ⟨[], rfl, RdS.nil _ _ _ _, fun i p g h => by simp at h⟩
theorem RcsS.at_ (h : RcsS w B A rs) {k : Nat} {r : Rcd} (hr : rs[k]? = some r) : ∃ b off Aw cw Am cm An cn, A = some ⟨b, off, none⟩ ∧ b < B ∧ w.cell? ⟨b, off + k * 5, none⟩ = some (.int .u64 r.gen) ∧ w.cell? ⟨b, off + k * 5 + 1, none⟩ = some (.int .u64 r.seq) ∧ w.cell? ⟨b, off + k * 5 + 2, none⟩ = some (.slice Aw r.ws.length cw) ∧ w.cell? ⟨b, off + k * 5 + 3, none⟩ = some (.slice Am r.ms.length cm) ∧ w.cell? ⟨b, off + k * 5 + 4, none⟩ = some (.slice An r.nt.length cn) ∧
  RcdV w B (.agg #[.int .u64 r.gen, .int .u64 r.seq, .slice Aw r.ws.length cw, .slice Am r.ms.length cm, .slice An r.nt.length cn]) r := by
 obtain ⟨vs, h1, h2, h3⟩ := h
 have hk : k < rs.length := (List.getElem?_eq_some_iff.1 hr).1
 have hp : vs[k]? = some vs[k] := List.getElem?_eq_getElem (by omega)
 obtain ⟨b, off, rfl, hb, hc⟩ := h2.2 (by simp; omega)
 have hz : (vs.zip rs)[k]? = some (vs[k], r) := by rw [List.getElem?_zip_eq_some]; exact ⟨hp, hr⟩
 have hrw : ((vs.zip rs).map rcRow)[k]? = some (rcRow (vs[k], r)) := by rw [List.getElem?_map, hz]; rfl
 obtain ⟨g1, g2, g3⟩ := h3 k _ _ hp hr
 exact ⟨b, off, vs[k].1.1, vs[k].1.2, vs[k].2.1.1, vs[k].2.1.2, vs[k].2.2.1, vs[k].2.2.2, rfl, hb, by simpa using hc k _ hrw 0 _ rfl, hc k _ hrw 1 _ rfl, hc k _ hrw 2 _ rfl, hc k _ hrw 3 _ rfl, hc k _ hrw 4 _ rfl, ⟨_, _, _, _, _, _, rfl, g1, g2, g3⟩⟩
end
end Go.Proofs.YtopoefcklipaeaaGreatDoor
namespace Go.Proofs.YtopoefcklipaeaaGreatDoor
open Go.RowKit
def newS (L : LayD) : St := ⟨zeroLs L L.G, [], []⟩
theorem zeroL_len (g w : Nat) : (zeroL g w).vs.length = w ∧ (zeroL g w).ss.length = w := by simp [zeroL, sumsZ]
theorem newS_ok (L : LayD) : stOk L (newS L) = true := by
 refine stOk_mk ⟨zeroLs_len L L.G, fun x hx => ?_⟩ (ok_nil L) (fun n hn => by cases hn)
 unfold newS zeroLs at hx
 obtain ⟨g, -, rfl⟩ := List.mem_map.1 hx
 exact zeroL_len g L.w
theorem applyS_ok {L : LayD} {S : St} {r : Rcd} (h : stOk L S = true) (h0 : (applyS L S r).2 = 0) : stOk L (applyS L S r).1 = true ∧ (applyS L S r).1.ms.length ≤ S.ms.length + 64 ∧ (applyS L S r).1.nt.length ≤ S.nt.length + 1 := by
 unfold applyS at h0 ⊢
 by_cases hr : (rcdB r && knownB L r) = true
 ·rw [if_pos hr] at h0 ⊢
  simp only [Bool.and_eq_true] at hr
  have hl := rcd_len hr.1
  rcases hw : wsF S.ls r.ws with _ | l
  ·rw [hw] at h0
   simp only at h0
   exact absurd h0 (by decide)
  ·rw [hw] at h0
   simp only at h0 ⊢
   by_cases h1 : (msF L S.ms r.ms).2 = 0
   ·rw [if_pos h1]
    have hm := msF_len (L := L) r.ms S.ms
    refine ⟨stOk_mk (wsF_ok _ _ (stOk_ls h) _ hw) (msF_ok _ _ (stOk_ms h) h1) ?_, by simp only; omega, ?_⟩
    ·intro n hn
     unfold ntF at hn
     split at hn
     ·exact stOk_nt h n hn
     ·rename_i h2
      rcases List.mem_append.1 hn with hn | hn
      ·exact stOk_nt h n hn
      ·rw [List.mem_singleton] at hn
       subst hn
       unfold noteOk
       simp only [Bool.and_eq_true, decide_eq_true_eq]
       omega
    ·unfold ntF
     simp only
     split <;> simp
   ·rw [if_neg h1] at h0
    exact absurd h0 h1
 ·rw [if_neg hr] at h0
  exact absurd h0 (by decide)
theorem LvS.stv {w : World} {B c : Nat} {A : Option Addr} {L : LayD} (h : LvS w B A (zeroLs L L.G)) : StV w B (.agg #[.slice A L.G c, .slice none 0 0, .slice none 0 0]) (newS L) :=
 ⟨A, c, none, 0, none, 0, by unfold newS; rw [zeroLs_len]; rfl, h, RdS.nil _ _ _ _, NtS.nil⟩
theorem StV.steF {F : Nat → Prop} {B : Nat} {w : World} {v : Value} {S : St} (h : StV w B v S) (hB : B ≤ w.heap.size) (hF : ∀ k, k < w.heap.size → F k → B ≤ k) : StE F w v S :=
 stb_in hB hF fun _ hW => (h.below hW (Nat.le_refl _)).more (Nat.le_trans hB hW.size)
theorem StE.now {F : Nat → Prop} {w : World} {v : Value} {S : St} (h : StE F w v S) : StV w w.heap.size v S := Stb.now h
structure Few (L : LayD) (n : Nat) (S : St) : Prop where
 ok : stOk L S = true
 ms : S.ms.length ≤ 64 * n
 nt : S.nt.length ≤ n
theorem Few.more {L : LayD} {n m : Nat} {S : St} (h : Few L n S) (hm : n ≤ m) : Few L m S := ⟨h.ok, by have := h.ms; omega, by have := h.nt; omega⟩
theorem Few.next {L : LayD} {n : Nat} {S : St} {r : Rcd} (h : Few L n S) (h0 : (applyS L S r).2 = 0) : Few L (n + 1) (applyS L S r).1 := by
 obtain ⟨h1, h2, h3⟩ := applyS_ok h.ok h0
 exact ⟨h1, by have := h.ms; omega, by have := h.nt; omega⟩
theorem Few.new (L : LayD) : Few L 0 (newS L) := ⟨newS_ok L, by simp [newS], by simp [newS]⟩
theorem Few.lv {L : LayD} {n : Nat} {S : St} (h : Few L n S) (hw : L.w ≤ 16) : ∀ x ∈ S.ls, x.vs.length = x.ss.length ∧ x.vs.length ≤ 1000 := fun x hx => by
 have := (stOk_ls h.ok).2 x hx
 omega
theorem Few.len {L : LayD} {n : Nat} {S : St} (h : Few L n S) : S.ls.length = L.G := (stOk_ls h.ok).1
structure TwI (w6 : World) (X Y1 Y2 : Nat) (L : LayD) (A : Option Addr) (c : Nat) (a b d a' b' d' : Value) (S T : St) (wr : World) : Prop where
 agr : Agr (fun k => k = Y1 ∨ k = Y2) w6 wr
 lay : LayB w6 X L A c
 gx : GsV w6 X A L.gs
 xy : X < Y1
 yy : Y1 < Y2
 yl : Y2 < w6.heap.size
 blk : wr.heap[Y1]? = some (.cells #[a, b, d] 34 (0, 0))
 blk' : wr.heap[Y2]? = some (.cells #[a', b', d'] 34 (0, 0))
 st : StE (fun k => k = Y1 ∨ k = Y2) wr (.agg #[a, b, d]) S
 st' : StE (fun k => k = Y1 ∨ k = Y2) wr (.agg #[a', b', d']) T
section
variable {w6 wr w' : World} {X Y1 Y2 c : Nat} {L : LayD} {A : Option Addr} {a b d a' b' d' a1 b1 d1 : Value} {S T S' : St}
theorem LayB.lt2 (h : LayB wr X L A c) : X < wr.heap.size := (Array.getElem?_eq_some_iff.1 h).1
theorem TwI.bel (h : TwI w6 X Y1 Y2 L A c a b d a' b' d' S T wr) : Below Y1 w6 wr := h.agr.below (fun k _ e => by have := h.yy; rcases e with e | e <;> omega) (by have := h.yy; have := h.yl; omega)
theorem TwI.lt (h : TwI w6 X Y1 Y2 L A c a b d a' b' d' S T wr) : X < wr.heap.size ∧ Y1 < wr.heap.size ∧ Y2 < wr.heap.size := by
 have h1 := h.agr.size
 have h2 := h.xy
 have h3 := h.yl
 have h4 := h.yy
 omega
theorem TwI.layr (h : TwI w6 X Y1 Y2 L A c a b d a' b' d' S T wr) : LayB wr X L A c := (h.bel.block _ h.xy).trans h.lay
theorem TwI.gxr (h : TwI w6 X Y1 Y2 L A c a b d a' b' d' S T wr) : GsV wr X A L.gs := h.gx.below h.bel (Nat.le_of_lt h.xy)
theorem TwI.call (h : TwI w6 X Y1 Y2 L A c a b d a' b' d' S T wr) (hb : Below wr.heap.size wr w') : TwI w6 X Y1 Y2 L A c a b d a' b' d' S T w' :=
 ⟨h.agr.call hb, h.lay, h.gx, h.xy, h.yy, h.yl, (hb.block _ h.lt.2.1).trans h.blk, (hb.block _ h.lt.2.2).trans h.blk', h.st.call hb, h.st'.call hb⟩
theorem TwI.cells (h : TwI w6 X Y1 Y2 L A c a b d a' b' d' S T wr) : wr.cell? ⟨Y1, 0, none⟩ = some a ∧ wr.cell? ⟨Y1, 1, none⟩ = some b ∧ wr.cell? ⟨Y1, 2, none⟩ = some d :=
 ⟨by rw [cell_of_row _ _ _ _ _ _ h.blk]; rfl, by rw [cell_of_row _ _ _ _ _ _ h.blk]; rfl, by rw [cell_of_row _ _ _ _ _ _ h.blk]; rfl⟩
theorem TwI.cells' (h : TwI w6 X Y1 Y2 L A c a b d a' b' d' S T wr) : wr.cell? ⟨Y2, 0, none⟩ = some a' ∧ wr.cell? ⟨Y2, 1, none⟩ = some b' ∧ wr.cell? ⟨Y2, 2, none⟩ = some d' :=
 ⟨by rw [cell_of_row _ _ _ _ _ _ h.blk']; rfl, by rw [cell_of_row _ _ _ _ _ _ h.blk']; rfl, by rw [cell_of_row _ _ _ _ _ _ h.blk']; rfl⟩
theorem TwI.frozen (h : TwI w6 X Y1 Y2 L A c a b d a' b' d' S T wr) (j : Nat) : wr.frozen? ⟨Y1, j, none⟩ = false ∧ wr.frozen? ⟨Y2, j, none⟩ = false := ⟨frozen_blk h.blk j, frozen_blk h.blk' j⟩
theorem TwI.snd (h : TwI w6 X Y1 Y2 L A c a b d a' b' d' S T wr) (hs : StE (fun k => k = Y1 ∨ k = Y2) wr (.agg #[a1, b1, d1]) S') :
  TwI w6 X Y1 Y2 L A c a b d a1 b1 d1 S S' (((wr.setCell ⟨Y2, 0, none⟩ a1).setCell ⟨Y2, 1, none⟩ b1).setCell ⟨Y2, 2, none⟩ d1) :=
 have hg := agr_three (E := fun k => k = Y1 ∨ k = Y2) (w := wr) (R := Y2) (.inr rfl) a1 b1 d1
 have hne : Y1 ≠ Y2 := Nat.ne_of_lt h.yy
 ⟨h.agr.trans hg, h.lay, h.gx, h.xy, h.yy, h.yl, ((heap_setCell_other _ _ _ _ hne).trans ((heap_setCell_other _ _ _ _ hne).trans (heap_setCell_other _ _ _ _ hne))).trans h.blk, heap_setCell_same _ _ 2 _ _ _ (heap_setCell_same _ _ 1 _ _ _ (heap_setCell_same _ _ 0 _ _ _ h.blk')), h.st.step hg, hs.step hg⟩
theorem TwI.fst (h : TwI w6 X Y1 Y2 L A c a b d a' b' d' S T wr) (hs : StE (fun k => k = Y1 ∨ k = Y2) wr (.agg #[a1, b1, d1]) S') :
  TwI w6 X Y1 Y2 L A c a1 b1 d1 a' b' d' S' T (((wr.setCell ⟨Y1, 0, none⟩ a1).setCell ⟨Y1, 1, none⟩ b1).setCell ⟨Y1, 2, none⟩ d1) :=
 have hg := agr_three (E := fun k => k = Y1 ∨ k = Y2) (w := wr) (R := Y1) (.inl rfl) a1 b1 d1
 have hne : Y2 ≠ Y1 := fun e => Nat.ne_of_lt h.yy e.symm
 ⟨h.agr.trans hg, h.lay, h.gx, h.xy, h.yy, h.yl, heap_setCell_same _ _ 2 _ _ _ (heap_setCell_same _ _ 1 _ _ _ (heap_setCell_same _ _ 0 _ _ _ h.blk)), ((heap_setCell_other _ _ _ _ hne).trans ((heap_setCell_other _ _ _ _ hne).trans (heap_setCell_other _ _ _ _ hne))).trans h.blk', hs.step hg, h.st'.step hg⟩
theorem TwI.both (h : TwI w6 X Y1 Y2 L A c a b d a' b' d' S T wr) (hs : StE (fun k => k = Y1 ∨ k = Y2) wr (.agg #[a1, b1, d1]) S') :
  TwI w6 X Y1 Y2 L A c a1 b1 d1 a1 b1 d1 S' S' ((((((wr.setCell ⟨Y1, 0, none⟩ a1).setCell ⟨Y1, 1, none⟩ b1).setCell ⟨Y1, 2, none⟩ d1).setCell ⟨Y2, 0, none⟩ a1).setCell ⟨Y2, 1, none⟩ b1).setCell ⟨Y2, 2, none⟩ d1) :=
 (h.fst hs).snd (hs.step (agr_three (E := fun k => k = Y1 ∨ k = Y2) (.inl rfl) _ _ _))
theorem TwI.apply (h : TwI w6 X Y1 Y2 L A c a b d a' b' d' S T wr) (hx : LayX L) {rv : Value} {r : Rcd} {n : Nat} (hok : Few L n S) (hn : n ≤ 100) (hro : RcdOk r) {W : World} (hW : Below wr.heap.size wr W) (hr : RcdV W W.heap.size rv r) :
  Calls Tryz.prog 7 #[.agg #[.int .i64 L.disks, .slice A L.n c, .int .i64 L.tiles, .int .i64 L.spare], .agg #[a, b, d], rv] W fun e w' => (∃ D1 d1 D2 d2 D3 d3, e = .returned (.tuple #[.agg #[.slice D1 (applyS L S r).1.ls.length d1, .slice D2 (applyS L S r).1.ms.length d2, .slice D3 (applyS L S r).1.nt.length d3], .int .i64 (applyS L S r).2]) ∧ StE (fun k => k = Y1 ∨ k = Y2) w' (.agg #[.slice D1 (applyS L S r).1.ls.length d1, .slice D2 (applyS L S r).1.ms.length d2, .slice D3 (applyS L S r).1.nt.length d3]) (applyS L S r).1) ∧ Below W.heap.size W w' := by
 have hG := hx.ok.G
 have h2 := h.call hW
 have h1 := hok.ms
 have h3 := hok.nt
 have g := rApply (c := c) W hx (h2.gxr.more (Nat.le_of_lt h2.lt.1)) h2.st.now hr (Nat.le_refl _) (rp_wf hx.ok (stOk_ms hok.ok)) hro (by rw [hok.len]; omega) (by omega) (by omega)
 have e1 : applyR L S r = applyS L S r := by unfold applyR; rw [if_pos hok.ok]
 rw [e1] at g
 unfold layAgg at g
 refine g.mono fun e w' hh => ?_
 obtain ⟨⟨v', rfl, hs⟩, hb⟩ := hh
 obtain ⟨D1, d1, D2, d2, D3, d3, rfl, -⟩ := hs.now.form
 refine ⟨⟨D1, d1, D2, d2, D3, d3, rfl, Stb.mono hs fun i _ e => ?_⟩, hb⟩
 have := h2.lt
 rcases e with e | e <;> omega
theorem TwI.swap (h : TwI w6 X Y1 Y2 L A c a b d a' b' d' S T wr) (hx : LayX L) {rv : Value} {r : Rcd} {n : Nat} (hok : Few L n T) (hn : n ≤ 100) (hro : RcdOk r) {W : World} (hW : Below wr.heap.size wr W) (hr : RcdV W W.heap.size rv r) :
  Calls Tryz.prog 7 #[.agg #[.int .i64 L.disks, .slice A L.n c, .int .i64 L.tiles, .int .i64 L.spare], .agg #[a', b', d'], rv] W fun e w' => (∃ D1 d1 D2 d2 D3 d3, e = .returned (.tuple #[.agg #[.slice D1 (applyS L T r).1.ls.length d1, .slice D2 (applyS L T r).1.ms.length d2, .slice D3 (applyS L T r).1.nt.length d3], .int .i64 (applyS L T r).2]) ∧ StE (fun k => k = Y1 ∨ k = Y2) w' (.agg #[.slice D1 (applyS L T r).1.ls.length d1, .slice D2 (applyS L T r).1.ms.length d2, .slice D3 (applyS L T r).1.nt.length d3]) (applyS L T r).1) ∧ Below W.heap.size W w' := by
 have hG := hx.ok.G
 have h2 := h.call hW
 have h1 := hok.ms
 have h3 := hok.nt
 have g := rApply (c := c) W hx (h2.gxr.more (Nat.le_of_lt h2.lt.1)) h2.st'.now hr (Nat.le_refl _) (rp_wf hx.ok (stOk_ms hok.ok)) hro (by rw [hok.len]; omega) (by omega) (by omega)
 have e1 : applyR L T r = applyS L T r := by unfold applyR; rw [if_pos hok.ok]
 rw [e1] at g
 unfold layAgg at g
 refine g.mono fun e w' hh => ?_
 obtain ⟨⟨v', rfl, hs⟩, hb⟩ := hh
 obtain ⟨D1, d1, D2, d2, D3, d3, rfl, -⟩ := hs.now.form
 refine ⟨⟨D1, d1, D2, d2, D3, d3, rfl, Stb.mono hs fun i _ e => ?_⟩, hb⟩
 have := h2.lt
 rcases e with e | e <;> omega
end
theorem StV.lvs {w : World} {B n c : Nat} {A : Option Addr} {u v : Value} {S : St} (h : StV w B (.agg #[.slice A n c, u, v]) S) : LvS w B A S.ls := by
 obtain ⟨A1, c1, A2, c2, A3, c3, he, h1, -, -⟩ := h
 injection he with he
 have e0 := congrArg (fun x => x[0]?) he
 simp at e0
 obtain ⟨rfl, -, -⟩ := e0
 exact h1
theorem ints_at {w : World} {B : Nat} {A : Option Addr} {l : List Int} (h : RdS w B 1 A (l.map icell)) {m : Nat} {z : Int} (hz : l[m]? = some z) : ∃ b off, A = some ⟨b, off, none⟩ ∧ b < B ∧ w.cell? ⟨b, off + m, none⟩ = some (.int .i64 z) := by
 have hm := (List.getElem?_eq_some_iff.1 hz).1
 obtain ⟨b, off, rfl, hb, hc⟩ := h.2 (by simp; omega)
 have hr : (l.map icell)[m]? = some (icell z) := by rw [List.getElem?_map, hz]; rfl
 exact ⟨b, off, rfl, hb, by simpa using hc m _ hr 0 _ rfl⟩
/-! ### the law, plain -/
theorem lsL_at {ls : List Leaf} {k : Nat} {x : Leaf} (h : ls[k]? = some x) : (lsL ls)[k]? = some (lfN k x) := by
 have hk := (List.getElem?_eq_some_iff.1 h).1
 unfold lsL
 rw [List.getElem?_map, List.getElem?_range hk]
 simp [List.getD, h]
theorem lsL_lt (ls : List Leaf) : ∀ z ∈ lsL ls, z < 18446744073709551616 := by
 intro z hz
 unfold lsL at hz
 obtain ⟨g, _, rfl⟩ := List.mem_map.1 hz
 exact crcN_lt
def cntW (x y : List Nat) (k : Nat) : Nat := ((List.range k).filter fun g => x[g]? != y[g]?).length
theorem cntW_all (x y : List Nat) : cntW x y x.length = (difW x y).length := rfl
theorem cntW_le (x y : List Nat) (k : Nat) : cntW x y k ≤ k := by
 unfold cntW
 exact Nat.le_trans (List.length_filter_le _ _) (by simp)
theorem cntW_same {x y : List Nat} {k s t : Nat} (hs : x[k]? = some s) (ht : y[k]? = some t) (h : s = t) : cntW x y (k + 1) = cntW x y k := by
 unfold cntW
 rw [filt_succ, hs, ht, h]
 simp
theorem cntW_diff {x y : List Nat} {k s t : Nat} (hs : x[k]? = some s) (ht : y[k]? = some t) (h : ¬ s = t) : cntW x y (k + 1) = cntW x y k + 1 ∧ cntW x y k < cntW x y x.length ∧ (difW x y)[cntW x y k]? = some k := by
 have hk := (List.getElem?_eq_some_iff.1 hs).1
 have hP : (fun g => x[g]? != y[g]?) k = true := by simp [hs, ht, h]
 have h1 : (difW x y)[cntW x y k]? = some k := filt_at (P := fun g => x[g]? != y[g]?) hk hP
 refine ⟨?_, ?_, h1⟩
 ·unfold cntW
  rw [filt_succ, if_pos hP]
 ·rw [cntW_all]
  exact (List.getElem?_eq_some_iff.1 h1).1
theorem ruN_lt (l : List Nat) : ruN l < 18446744073709551616 := crcN_lt
theorem law_diff {x y : List Nat} {d : Nat} (hxy : x.length = y.length) (hn : x.length ≤ 4 ^ d) (hx : ∀ z ∈ x, z < 18446744073709551616) (hy : ∀ z ∈ y, z < 18446744073709551616) (hl1 : (lev x d).length = 1) (hl2 : (lev y d).length = 1) (tx : lev x d = topL x) (ty : lev y d = topL y) (hc : (refD x y d).length = cntW x y x.length) :
  difL x y d 0 = (difW x y).map (fun i => ((i : Nat) : Int)) ∧ ((rtN x = rtN y) ↔ cntW x y x.length = 0) := by
 have h1 := refD_eq hc
 refine ⟨by rw [difL_top hxy hn, h1], fun h => ?_, fun h => ?_⟩
 ·have ht := top_eq hxy hl1 hl2 (lev_lt hx ruN_lt d) (lev_lt hy ruN_lt d) tx ty h
  have := ref_top hn ht
  rw [h1] at this
  rw [cntW_all, this]
  rfl
 ·have hz : difW x y = [] := List.length_eq_zero_iff.1 h
  rw [difW_nil hxy hz]
theorem tall_small {x : List Nat} {d : Nat} (h : (lev x d).length ≤ 1) : x.length ≤ 4 ^ d := by
 rcases Nat.lt_or_ge (4 ^ d) x.length with g | g
 ·have := lev_in g d
  rw [Nat.div_self (Nat.pow_pos (by decide))] at this
  omega
 ·exact g
end Go.Proofs.YtopoefcklipaeaaGreatDoor
namespace Go.Proofs.YtopoefcklipaeaaGreatDoor
open Go.ChangeShapes Go.WideShapes Go.Deep Go.RowKit
theorem long_nat {n : Int} (h : (Lit.int .u64 n).wf = true) : ∃ m : Nat, n = m ∧ m < 18446744073709551616 := by
 rw [Lit.wf_int_iff, IntKind.min_u64, IntKind.max_u64] at h
 exact ⟨n.toNat, by omega, by omega⟩
theorem fiveR {α : Type} {l : List α} (h : l.length = 5) : ∃ a b c d e, l = [a, b, c, d, e] := by
 match l, h with
 | [a, b, c, d, e], _ => exact ⟨a, b, c, d, e, rfl⟩
theorem eightR {α : Type} {l : List α} (h : l.length = 8) : ∃ a b c d e f g i, l = [a, b, c, d, e, f, g, i] := by
 match l, h with
 | [a, b, c, d, e, f, g, i], _ => exact ⟨a, b, c, d, e, f, g, i, rfl⟩
theorem elevenR {α : Type} {l : List α} (h : l.length = 11) : ∃ x y z m, l = x :: y :: z :: m ∧ m.length = 8 := by
 match l, h with
 | x :: y :: z :: m, h => exact ⟨x, y, z, m, rfl, by simpa using h⟩
theorem cells_block : Tryz.prog.cellsOf 116 = 8 := by kernel_rfl
theorem cells_u64R : Tryz.prog.cellsOf 38 = 1 := by kernel_rfl
theorem cells_pw : Tryz.prog.cellsOf 190 = 11 := by kernel_rfl
theorem cells_rcd : Tryz.prog.cellsOf 42 = 5 := by kernel_rfl
theorem cells_pwsR : Tryz.prog.cellsOf 39 = 1 := by kernel_rfl
theorem cells_mvsR : Tryz.prog.cellsOf 31 = 1 := by kernel_rfl
theorem cells_bysR : Tryz.prog.cellsOf 40 = 1 := by kernel_rfl
section
variable {H : Type} {enc : TypeId × Value → H} {w : World} {base : Nat} {spare : Nat → Bool} {held : Bool} {n : Nat} {cs : List Value} {x : DataW H × List MemPlace}
theorem open_rowsR {α : Type} [Inhabited α] {t e : TypeId} {size : Nat} (F : α → List Value) (Q : α → Prop) (ht : Tryz.prog.underlying t = some (.slice e)) (hce : Tryz.prog.cellsOf e = size) (hF : ∀ x, (F x).length = size) (hp : 0 < size)
  (hone : ∀ (n : Nat) (cs : List Value) (x : DataW H × List MemPlace), DataW.trod enc Tryz.prog w base spare held n e cs = some x → ∃ a, cs = F a ∧ Q a)
  (h : DataW.trod enc Tryz.prog w base spare held n t cs = some x) : ∃ (l : List α) (A : Option Addr) (c : Nat), cs = [.slice A l.length c] ∧ RdS w w.heap.size size A (l.map F) ∧ (∀ a ∈ l, Q a) ∧ l.length ≤ c ∧ c ≤ maxLen := by
 rcases open_slice ht h with ⟨hcs, -⟩ | ⟨a, len, cap, m, k, D, Pl, hcs, hb, hl, hm, hmm, hx, hi⟩
 ·exact ⟨[], none, 0, hcs, RdS.nil _ _ _ _, by simp, by simp, by simp⟩
 ·rw [hce] at hi
  have hle : len ≤ m := by rw [hmm]; split <;> omega
  have hE : ∀ i, ∃ e : α, i < len → (∀ j v, (F e)[j]? = some v → w.cell? (a.add (i * size + j)) = some v) ∧ Q e := fun i => by
   by_cases him : i < len
   ·obtain ⟨cs', hc, hti⟩ := hi i (by omega)
    obtain ⟨e, rfl, hw⟩ := hone _ _ _ hti
    obtain ⟨_, hcl, hat⟩ := World.cells?_some hc
    refine ⟨e, fun _ => ⟨fun j v hj => ?_, hw⟩⟩
    have hj6 : j < size := by have := (List.getElem?_eq_some_iff.1 hj).1; rwa [hF] at this
    rw [← Go.Deep.add_add, hat j hj6, hj]
   ·exact ⟨default, fun h => absurd h him⟩
  obtain ⟨f, hf⟩ := Classical.axiomOfChoice hE
  refine ⟨(List.range len).map f, some a, cap, by simpa using hcs, ⟨fun r hr => ?_, fun h0 => ?_⟩, fun e he => ?_, by simpa using hl, hm⟩
  ·obtain ⟨x, -, rfl⟩ := List.mem_map.1 hr
   exact hF x
  ·have h0' : 0 < len := by simpa using h0
   obtain ⟨v0, hv0⟩ : ∃ v0, (F (f 0))[0]? = some v0 := ⟨_, List.getElem?_eq_getElem (by rw [hF]; exact hp)⟩
   have hc0 := (hf 0 h0').1 0 _ hv0
   obtain ⟨b, off, spot⟩ := a
   have hspot : spot = none := by simpa [Addr.add] using World.cell?_spot hc0
   subst hspot
   refine ⟨b, off, rfl, by simpa [Addr.add] using block_lt_of_cell hc0, fun i r hr j v hj => ?_⟩
   have hil : i < len := by
    have := (List.getElem?_eq_some_iff.1 hr).1
    simpa using this
   have hrr : r = F (f i) := by
    rw [List.getElem?_map, List.getElem?_map, List.getElem?_range hil] at hr
    simpa using hr.symm
   subst hrr
   have := (hf i hil).1 j v hj
   rw [show (⟨b, off, none⟩ : Addr).add (i * size + j) = ⟨b, off + (i * size + j), none⟩ from Addr.add_lit _ _ _] at this
   rw [Nat.add_assoc]
   exact this
  ·obtain ⟨i, hi', rfl⟩ := List.mem_map.1 he
   exact (hf i (by simpa using hi')).2
theorem open_bysR (h : DataW.trod enc Tryz.prog w base spare held n 40 cs = some x) : ∃ (l : List Nat) (A : Option Addr) (c : Nat), cs = [.slice A l.length c] ∧ BytS w w.heap.size A l ∧ (∀ b ∈ l, b < 256) ∧ l.length ≤ c ∧ c ≤ maxLen :=
 open_rowsR u8C _ Tryz.underlying40 cells_byteS (fun _ => rfl) (by decide) (fun n cs x h => by
  obtain ⟨b, e, -, hw⟩ := DataW.trod_int Tryz.underlying5 h
  cases e
  obtain ⟨x, rfl, hx⟩ := byte_nat hw
  exact ⟨x, rfl, hx⟩) h
theorem open_mvsR (h : DataW.trod enc Tryz.prog w base spare held n 31 cs = some x) : ∃ (l : List Mv) (A : Option Addr) (c : Nat), cs = [.slice A l.length c] ∧ MvS w w.heap.size A l ∧ (∀ m ∈ l, MvWfS m) ∧ l.length ≤ c ∧ c ≤ maxLen := by
 haveI : Inhabited Mv := ⟨⟨0, 0, ⟨0, 0⟩⟩⟩
 exact open_rowsR Mv.cells _ Tryz.underlying31 cells_move (fun _ => rfl) (by decide) (fun n cs x h => open_move1 h) h
set_option maxRecDepth 100000 in
theorem open_blockR (h : DataW.trod enc Tryz.prog w base spare held n 116 cs = some x) : ∃ d : Blk, cs = d.cells ∧ d.ok := by
 obtain ⟨xs, m, -, -, hcl, hxl, hel⟩ := DataW.trod_array Tryz.underlying116 h
 rw [cells_block] at hcl
 obtain ⟨v0, v1, v2, v3, v4, v5, v6, v7, rfl⟩ := eightR hcl
 obtain ⟨y0, y1, y2, y3, y4, y5, y6, y7, rfl⟩ := eightR (show xs.length = 8 from hxl)
 have one : ∀ (k : Nat) (v : Value) (y : DataW H × List MemPlace), DataW.trod enc Tryz.prog w base spare held m 5 [v] = some y → ∃ b : Nat, v = .int .u8 b ∧ b < 256 := fun k v y hh => by
  obtain ⟨b, e, -, hw⟩ := DataW.trod_int Tryz.underlying5 hh
  cases e
  obtain ⟨x, rfl, hx⟩ := byte_nat hw
  exact ⟨x, rfl, hx⟩
 have h0 : DataW.trod enc Tryz.prog w base spare held m 5 (([v0, v1, v2, v3, v4, v5, v6, v7].drop (0 * Tryz.prog.cellsOf 5)).take (Tryz.prog.cellsOf 5)) = some y0 := hel 0 (by omega)
 have h1 : DataW.trod enc Tryz.prog w base spare held m 5 (([v0, v1, v2, v3, v4, v5, v6, v7].drop (1 * Tryz.prog.cellsOf 5)).take (Tryz.prog.cellsOf 5)) = some y1 := hel 1 (by omega)
 have h2 : DataW.trod enc Tryz.prog w base spare held m 5 (([v0, v1, v2, v3, v4, v5, v6, v7].drop (2 * Tryz.prog.cellsOf 5)).take (Tryz.prog.cellsOf 5)) = some y2 := hel 2 (by omega)
 have h3 : DataW.trod enc Tryz.prog w base spare held m 5 (([v0, v1, v2, v3, v4, v5, v6, v7].drop (3 * Tryz.prog.cellsOf 5)).take (Tryz.prog.cellsOf 5)) = some y3 := hel 3 (by omega)
 have h4 : DataW.trod enc Tryz.prog w base spare held m 5 (([v0, v1, v2, v3, v4, v5, v6, v7].drop (4 * Tryz.prog.cellsOf 5)).take (Tryz.prog.cellsOf 5)) = some y4 := hel 4 (by omega)
 have h5 : DataW.trod enc Tryz.prog w base spare held m 5 (([v0, v1, v2, v3, v4, v5, v6, v7].drop (5 * Tryz.prog.cellsOf 5)).take (Tryz.prog.cellsOf 5)) = some y5 := hel 5 (by omega)
 have h6 : DataW.trod enc Tryz.prog w base spare held m 5 (([v0, v1, v2, v3, v4, v5, v6, v7].drop (6 * Tryz.prog.cellsOf 5)).take (Tryz.prog.cellsOf 5)) = some y6 := hel 6 (by omega)
 have h7 : DataW.trod enc Tryz.prog w base spare held m 5 (([v0, v1, v2, v3, v4, v5, v6, v7].drop (7 * Tryz.prog.cellsOf 5)).take (Tryz.prog.cellsOf 5)) = some y7 := hel 7 (by omega)
 rw [cells_byteS] at h0 h1 h2 h3 h4 h5 h6 h7
 obtain ⟨b0, rfl, g0⟩ := one 0 v0 y0 h0
 obtain ⟨b1, rfl, g1⟩ := one 1 v1 y1 h1
 obtain ⟨b2, rfl, g2⟩ := one 2 v2 y2 h2
 obtain ⟨b3, rfl, g3⟩ := one 3 v3 y3 h3
 obtain ⟨b4, rfl, g4⟩ := one 4 v4 y4 h4
 obtain ⟨b5, rfl, g5⟩ := one 5 v5 y5 h5
 obtain ⟨b6, rfl, g6⟩ := one 6 v6 y6 h6
 obtain ⟨b7, rfl, g7⟩ := one 7 v7 y7 h7
 refine ⟨⟨b0, b1, b2, b3, b4, b5, b6, b7⟩, rfl, fun x hx => ?_⟩
 simp only [Blk.l, List.mem_cons, List.not_mem_nil, or_false] at hx
 rcases hx with rfl | rfl | rfl | rfl | rfl | rfl | rfl | rfl <;> assumption
set_option maxRecDepth 100000 in
theorem open_pwR (h : DataW.trod enc Tryz.prog w base spare held n 190 cs = some x) : ∃ m : Pw, cs = m.cells ∧ m.v < 18446744073709551616 ∧ m.d.ok := by
 obtain ⟨ys, m, -, -, hlen, hyl, hel⟩ := DataW.trod_struct Tryz.underlying190 h
 rw [cells_pw] at hlen
 obtain ⟨v0, v1, v2, vd, rfl, hd⟩ := elevenR hlen
 obtain ⟨y0, y1, y2, y3, rfl⟩ := fourS (show ys.length = 4 from hyl)
 have h0 : DataW.trod enc Tryz.prog w base spare held m 3 (((v0 :: v1 :: v2 :: vd).drop 0).take (Tryz.prog.cellsOf 3)) = some y0 := hel 0 _ rfl
 have h1 : DataW.trod enc Tryz.prog w base spare held m 3 (((v0 :: v1 :: v2 :: vd).drop 1).take (Tryz.prog.cellsOf 3)) = some y1 := hel 1 _ rfl
 have h2 : DataW.trod enc Tryz.prog w base spare held m 38 (((v0 :: v1 :: v2 :: vd).drop 2).take (Tryz.prog.cellsOf 38)) = some y2 := hel 2 _ rfl
 have h3 : DataW.trod enc Tryz.prog w base spare held m 116 (((v0 :: v1 :: v2 :: vd).drop 3).take (Tryz.prog.cellsOf 116)) = some y3 := hel 3 _ rfl
 rw [cells_intS] at h0 h1
 rw [cells_u64R] at h2
 rw [cells_block] at h3
 have e3 : ((v0 :: v1 :: v2 :: vd).drop 3).take 8 = vd := by
  show vd.take 8 = vd
  exact List.take_of_length_le (by omega)
 rw [e3] at h3
 obtain ⟨n0, e0, -, -⟩ := DataW.trod_int Tryz.underlying3 h0
 obtain ⟨n1, e1, -, -⟩ := DataW.trod_int Tryz.underlying3 h1
 obtain ⟨n2, e2, -, w2⟩ := DataW.trod_int Tryz.underlying38 h2
 obtain ⟨d, rfl, hok⟩ := open_blockR h3
 cases e0; cases e1; cases e2
 obtain ⟨v, rfl, hv⟩ := long_nat w2
 exact ⟨⟨n0, n1, v, d⟩, rfl, hv, hok⟩
theorem open_pwsR (h : DataW.trod enc Tryz.prog w base spare held n 39 cs = some x) : ∃ (l : List Pw) (A : Option Addr) (c : Nat), cs = [.slice A l.length c] ∧ PwS w w.heap.size A l ∧ (∀ m ∈ l, m.v < 18446744073709551616 ∧ m.d.ok) ∧ l.length ≤ c ∧ c ≤ maxLen := by
 haveI : Inhabited Pw := ⟨⟨0, 0, 0, ⟨0, 0, 0, 0, 0, 0, 0, 0⟩⟩⟩
 exact open_rowsR Pw.cells _ Tryz.underlying39 cells_pw (fun _ => rfl) (by decide) (fun n cs x h => open_pwR h) h
structure RcdIn (r : Rcd) : Prop where
 gen : r.gen < 18446744073709551616
 seq : r.seq < 18446744073709551616
 ws : ∀ x ∈ r.ws, x.v < 18446744073709551616 ∧ x.d.ok
 nt : ∀ x ∈ r.nt, x < 256
 ms : ∀ m ∈ r.ms, MvWfS m
 lw : r.ws.length ≤ 9223372036854775807
 lm : r.ms.length ≤ 9223372036854775807
 ln : r.nt.length ≤ 9223372036854775807
theorem RcdIn.ok {r : Rcd} (h : RcdIn r) : RcdOk r := ⟨h.seq, h.lw, h.lm, h.ln, fun x hx => (h.ws x hx).2⟩
set_option maxRecDepth 100000 in
theorem open_rcdC (h : DataW.trod enc Tryz.prog w base spare held n 42 cs = some x) : ∃ q : RAd × Rcd, cs = rcRow q ∧ PwS w w.heap.size q.1.1.1 q.2.ws ∧ MvS w w.heap.size q.1.2.1.1 q.2.ms ∧ BytS w w.heap.size q.1.2.2.1 q.2.nt ∧ RcdIn q.2 := by
 obtain ⟨ys, m, -, -, hlen, hyl, hel⟩ := DataW.trod_struct Tryz.underlying42 h
 rw [cells_rcd] at hlen
 obtain ⟨v0, v1, v2, v3, v4, rfl⟩ := fiveR hlen
 obtain ⟨y0, y1, y2, y3, y4, rfl⟩ := fiveR (show ys.length = 5 from hyl)
 have h0 : DataW.trod enc Tryz.prog w base spare held m 38 (([v0, v1, v2, v3, v4].drop 0).take (Tryz.prog.cellsOf 38)) = some y0 := hel 0 _ rfl
 have h1 : DataW.trod enc Tryz.prog w base spare held m 38 (([v0, v1, v2, v3, v4].drop 1).take (Tryz.prog.cellsOf 38)) = some y1 := hel 1 _ rfl
 have h2 : DataW.trod enc Tryz.prog w base spare held m 39 (([v0, v1, v2, v3, v4].drop 2).take (Tryz.prog.cellsOf 39)) = some y2 := hel 2 _ rfl
 have h3 : DataW.trod enc Tryz.prog w base spare held m 31 (([v0, v1, v2, v3, v4].drop 3).take (Tryz.prog.cellsOf 31)) = some y3 := hel 3 _ rfl
 have h4 : DataW.trod enc Tryz.prog w base spare held m 40 (([v0, v1, v2, v3, v4].drop 4).take (Tryz.prog.cellsOf 40)) = some y4 := hel 4 _ rfl
 rw [cells_u64R] at h0 h1
 rw [cells_pwsR] at h2
 rw [cells_mvsR] at h3
 rw [cells_bysR] at h4
 obtain ⟨n0, e0, -, w0⟩ := DataW.trod_int Tryz.underlying38 h0
 obtain ⟨n1, e1, -, w1⟩ := DataW.trod_int Tryz.underlying38 h1
 obtain ⟨ws, Aw, cw, e2, g2, k2, u2, z2⟩ := open_pwsR (cs := [v2]) h2
 obtain ⟨ms, Am, cm, e3, g3, k3, u3, z3⟩ := open_mvsR (cs := [v3]) h3
 obtain ⟨nt, An, cn, e4, g4, k4, u4, z4⟩ := open_bysR (cs := [v4]) h4
 cases e0; cases e1; cases e2; cases e3; cases e4
 obtain ⟨gen, rfl, hg⟩ := long_nat w0
 obtain ⟨seq, rfl, hs⟩ := long_nat w1
 exact ⟨(((Aw, cw), (Am, cm), (An, cn)), ⟨gen, seq, ws, ms, nt⟩), rfl, g2, g3, g4, ⟨hg, hs, k2, k4, k3, Nat.le_trans u2 (Nat.le_trans z2 (by decide)), Nat.le_trans u3 (Nat.le_trans z3 (by decide)), Nat.le_trans u4 (Nat.le_trans z4 (by decide))⟩⟩
theorem open_rcdsR (h : DataW.trod enc Tryz.prog w base spare held n 22 cs = some x) : ∃ (l : List Rcd) (A : Option Addr) (c : Nat), cs = [.slice A l.length c] ∧ RcsS w w.heap.size A l ∧ (∀ r ∈ l, RcdIn r) ∧ l.length ≤ c ∧ c ≤ maxLen := by
 haveI : Inhabited (RAd × Rcd) := ⟨(((none, 0), (none, 0), (none, 0)), ⟨0, 0, [], [], []⟩)⟩
 obtain ⟨l, A, c, h1, h2, h3, h4, h5⟩ := open_rowsR rcRow (fun q => PwS w w.heap.size q.1.1.1 q.2.ws ∧ MvS w w.heap.size q.1.2.1.1 q.2.ms ∧ BytS w w.heap.size q.1.2.2.1 q.2.nt ∧ RcdIn q.2) Tryz.underlying22 cells_rcd (fun _ => rfl) (by decide) (fun n cs x h => open_rcdC h) h
 have hz : (l.map Prod.fst).zip (l.map Prod.snd) = l := by
  clear h1 h2 h3 h4
  induction l with
  | nil => rfl
  | cons a l ih => simp only [List.map_cons, List.zip_cons_cons, ih]
 refine ⟨l.map Prod.snd, A, c, by rw [List.length_map]; exact h1, ⟨l.map Prod.fst, by simp, by rw [hz]; exact h2, fun i p r hp hr => ?_⟩, fun r hr => ?_, by rw [List.length_map]; exact h4, h5⟩
 ·rw [List.getElem?_map] at hp hr
  rcases hq : l[i]? with _ | q
  ·rw [hq] at hp; cases hp
  ·rw [hq] at hp hr
   cases hp
   cases hr
   have := h3 q (List.mem_of_getElem? hq)
   exact ⟨this.1, this.2.1, this.2.2.1⟩
 ·obtain ⟨q, hq, rfl⟩ := List.mem_map.1 hr
  exact (h3 q hq).2.2.2
end
end Go.Proofs.YtopoefcklipaeaaGreatDoor
