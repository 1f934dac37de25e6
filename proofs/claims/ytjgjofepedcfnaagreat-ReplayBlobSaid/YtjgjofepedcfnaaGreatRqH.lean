/- Lists of records in memory; replay.All under way; what all records make of a state. No program is walked here. -/
import Derived.Test.YtjgjofepedcfnaaGreatGRk
import Derived.Test.YtjgjofepedcfnaaGreatGRo
import Derived.Test.YtjgjofepedcfnaaGreatRqB
namespace Go.Proofs.YtjgjofepedcfnaaGreat
open Go.RowKit Go.Maps
abbrev RAd := (Option Addr × Nat) × (Option Addr × Nat) × (Option Addr × Nat)
def rcRow (p : RAd × Rcd) : List Value := [.int .u64 p.2.gen, .int .u64 p.2.seq, .slice p.1.1.1 p.2.ws.length p.1.1.2, .slice p.1.2.1.1 p.2.ms.length p.1.2.1.2, .slice p.1.2.2.1 p.2.nt.length p.1.2.2.2]
def RcsS (w : World) (B : Nat) (A : Option Addr) (rs : List Rcd) : Prop := ∃ vs : List RAd, vs.length = rs.length ∧ RdS w B 5 A ((vs.zip rs).map rcRow) ∧ ∀ (i : Nat) (p : RAd) (r : Rcd), vs[i]? = some p → rs[i]? = some r → PwS w B p.1.1 r.ws ∧ MvS w B p.2.1.1 r.ms ∧ BytS w B p.2.2.1 r.nt
section
variable {w w' : World} {B C : Nat} {A : Option Addr} {rs : List Rcd}
theorem RcsS.below (h : RcsS w B A rs) (hb : Below C w w') (hC : B ≤ C) : RcsS w' B A rs := by
 obtain ⟨vs, h1, h2, h3⟩ := h
 exact ⟨vs, h1, h2.below' hb hC, fun i p r hp hr => ⟨(h3 i p r hp hr).1.below' hb hC, (h3 i p r hp hr).2.1.below' hb hC, (h3 i p r hp hr).2.2.below' hb hC⟩⟩
theorem RcsS.at2 (h : RcsS w B A rs) {k : Nat} {r : Rcd} (hr : rs[k]? = some r) (hB : B ≤ w.heap.size) : ∃ b off Aw cw Am cm An cn, A = some ⟨b, off, none⟩ ∧ b < B ∧ ∀ W, Below w.heap.size w W → W.cell? ⟨b, off + k * 5, none⟩ = some (.int .u64 r.gen) ∧ W.cell? ⟨b, off + k * 5 + 1, none⟩ = some (.int .u64 r.seq) ∧ W.cell? ⟨b, off + k * 5 + 2, none⟩ = some (.slice Aw r.ws.length cw) ∧ W.cell? ⟨b, off + k * 5 + 3, none⟩ = some (.slice Am r.ms.length cm) ∧ W.cell? ⟨b, off + k * 5 + 4, none⟩ = some (.slice An r.nt.length cn) ∧
  RcdV W B (.agg #[.int .u64 r.gen, .int .u64 r.seq, .slice Aw r.ws.length cw, .slice Am r.ms.length cm, .slice An r.nt.length cn]) r ∧ PwS W B Aw r.ws := by
 obtain ⟨vs, h1, h2, h3⟩ := h
 have hk : k < rs.length := (List.getElem?_eq_some_iff.1 hr).1
 have hp : vs[k]? = some vs[k] := List.getElem?_eq_getElem (by omega)
 obtain ⟨b, off, rfl, hb, hc⟩ := h2.2 (by simp; omega)
 have hz : (vs.zip rs)[k]? = some (vs[k], r) := by rw [List.getElem?_zip_eq_some]; exact ⟨hp, hr⟩
 have hrw : ((vs.zip rs).map rcRow)[k]? = some (rcRow (vs[k], r)) := by rw [List.getElem?_map, hz]; rfl
 refine ⟨b, off, vs[k].1.1, vs[k].1.2, vs[k].2.1.1, vs[k].2.1.2, vs[k].2.2.1, vs[k].2.2.2, rfl, hb, fun W hW => ?_⟩
 obtain ⟨g1, g2, g3⟩ := h3 k _ _ hp hr
 have hcl : ∀ j (u : Value), (rcRow (vs[k], r))[j]? = some u → W.cell? ⟨b, off + k * 5 + j, none⟩ = some u := fun j u hu => (hW.cell (p := ⟨b, off + k * 5 + j, none⟩) (by show b < _; omega)).trans (hc k _ hrw j u hu)
 exact ⟨hcl 0 _ rfl, hcl 1 _ rfl, hcl 2 _ rfl, hcl 3 _ rfl, hcl 4 _ rfl, ⟨_, _, _, _, _, _, rfl, g1.below' hW hB, g2.below' hW hB, g3.below' hW hB⟩, g1.below' hW hB⟩
end
/-! ### plain -/
def allF (L : LayD) : St → List Rcd → St × Int
 | S, [] => (S, 0)
 | S, r :: rs => if (applyS L S r).2 = 0 then allF L (applyS L S r).1 rs else (St.zero, (applyS L S r).2)
def allR (L : LayD) (S : St) (rs : List Rcd) : St × Int := if stOk L S then allF L S rs else (St.zero, 1)
def allW (rs : List Rcd) : List Pw := rs.flatMap Rcd.ws
section
variable {L : LayD} {S : St}
theorem allF_app : ∀ (a b : List Rcd) (S : St), allF L S (a ++ b) = if (allF L S a).2 = 0 then allF L (allF L S a).1 b else (St.zero, (allF L S a).2)
 | [], b, S => rfl
 | x :: a, b, S => by
  by_cases h : (applyS L S x).2 = 0
  ·have e1 : allF L S (x :: a) = allF L (applyS L S x).1 a := by simp only [allF, if_pos h]
   have e2 : allF L S (x :: (a ++ b)) = allF L (applyS L S x).1 (a ++ b) := by simp only [allF, if_pos h]
   rw [List.cons_append, e1, e2]
   exact allF_app a b _
  ·have e1 : allF L S (x :: a) = (St.zero, (applyS L S x).2) := by simp only [allF, if_neg h]
   have e2 : allF L S (x :: (a ++ b)) = (St.zero, (applyS L S x).2) := by simp only [allF, if_neg h]
   rw [List.cons_append, e1, e2, if_neg h]
theorem allF_snoc {xs : List Rcd} {k : Nat} {x : Rcd} (hx : xs[k]? = some x) (h : (allF L S (xs.take k)).2 = 0) : allF L S (xs.take (k + 1)) = if (applyS L (allF L S (xs.take k)).1 x).2 = 0 then ((applyS L (allF L S (xs.take k)).1 x).1, 0) else (St.zero, (applyS L (allF L S (xs.take k)).1 x).2) := by
 rw [List.take_add_one, hx, show (some x).toList = [x] from rfl, allF_app, if_pos h]
 simp only [allF]
theorem allF_stop {xs : List Rcd} {k : Nat} (h : (allF L S (xs.take k)).2 ≠ 0) : allF L S xs = (St.zero, (allF L S (xs.take k)).2) := by
 have := allF_app (L := L) (xs.take k) (xs.drop k) S
 rwa [List.take_append_drop, if_neg h] at this
theorem applyS_ok {r : Rcd} (h : stOk L S = true) (h0 : (applyS L S r).2 = 0) : stOk L (applyS L S r).1 = true ∧ (applyS L S r).1.ms.length ≤ S.ms.length + 64 ∧ (applyS L S r).1.nt.length ≤ S.nt.length + 1 := by
 unfold applyS at h0 ⊢
 by_cases hr : (rcdB r && knownB L r) = true
 ·rw [if_pos hr] at h0 ⊢
  simp only [Bool.and_eq_true] at hr
  have hl := rcd_len hr.1
  rcases hw : wsF S.ls r.ws with _ | l
  ·rw [hw] at h0
   simp only at h0
   exact absurd h0 (by decide)
  ·rw [hw] at h0
   simp only at h0 ⊢
   by_cases h1 : (msF L S.ms r.ms).2 = 0
   ·rw [if_pos h1]
    have hm := msF_len (L := L) r.ms S.ms
    refine ⟨stOk_mk (wsF_ok _ _ (stOk_ls h) _ hw) (msF_ok _ _ (stOk_ms h) h1) ?_, by simp only; omega, ?_⟩
    ·intro n hn
     unfold ntF at hn
     split at hn
     ·exact stOk_nt h n hn
     ·rename_i h2
      rcases List.mem_append.1 hn with hn | hn
      ·exact stOk_nt h n hn
      ·rw [List.mem_singleton] at hn
       subst hn
       unfold noteOk
       simp only [Bool.and_eq_true, decide_eq_true_eq]
       omega
    ·unfold ntF
     simp only
     split <;> simp
   ·rw [if_neg h1] at h0
    exact absurd h0 h1
 ·rw [if_neg hr] at h0
  exact absurd h0 (by decide)
theorem allF_ok : ∀ (xs : List Rcd) (S : St), stOk L S = true → (allF L S xs).2 = 0 → stOk L (allF L S xs).1 = true ∧ (allF L S xs).1.ms.length ≤ S.ms.length + 64 * xs.length ∧ (allF L S xs).1.nt.length ≤ S.nt.length + xs.length
 | [], S, h, _ => ⟨h, by simp [allF], by simp [allF]⟩
 | x :: xs, S, h, he => by
  unfold allF at he ⊢
  by_cases h0 : (applyS L S x).2 = 0
  ·rw [if_pos h0] at he ⊢
   obtain ⟨h1, h2, h3⟩ := applyS_ok h h0
   obtain ⟨g1, g2, g3⟩ := allF_ok xs _ h1 he
   simp only [List.length_cons]
   exact ⟨g1, by omega, by omega⟩
  ·rw [if_neg h0] at he
   exact absurd he h0
theorem allW_succ {rs : List Rcd} {k : Nat} {r : Rcd} (h : rs[k]? = some r) : allW (rs.take (k + 1)) = allW (rs.take k) ++ r.ws := by
 unfold allW
 rw [List.take_add_one, h, List.flatMap_append]
 simp
theorem allW_wf {rs : List Rcd} (h : ∀ r ∈ rs, rcdB r = true) : ∀ x ∈ allW rs, pwWf x := by
 intro x hx
 unfold allW at hx
 obtain ⟨r, hr, hx⟩ := List.mem_flatMap.1 hx
 have h1 := h r hr
 unfold rcdB at h1
 simp only [Bool.and_eq_true, List.all_eq_true] at h1
 have h2 := h1.1.2 x hx
 unfold wrB pieceB inB at h2
 simp only [Bool.and_eq_true, decide_eq_true_eq] at h2
 have key : ∀ y : Int, 0 ≤ y → y ≤ 99999 → (Lit.int .i64 y).wf = true := by
  intro y h0 h1
  obtain ⟨z, hz⟩ : ∃ z : Nat, y = (z : Int) := ⟨y.toNat, by omega⟩
  subst hz
  exact small_wf z (by omega)
 exact ⟨key _ (by omega) (by omega), key _ (by omega) (by omega)⟩
theorem applyS_rcd {r : Rcd} (h0 : (applyS L S r).2 = 0) : rcdB r = true := by
 unfold applyS at h0
 by_cases hr : (rcdB r && knownB L r) = true
 ·simp only [Bool.and_eq_true] at hr; exact hr.1
 ·rw [if_neg hr] at h0
  exact absurd h0 (by decide)
theorem allF_rcd : ∀ (xs : List Rcd) (S : St), (allF L S xs).2 = 0 → ∀ r ∈ xs, rcdB r = true
 | [], _, _, r, hr => by cases hr
 | x :: xs, S, he, r, hr => by
  unfold allF at he
  by_cases h0 : (applyS L S x).2 = 0
  ·rw [if_pos h0] at he
   rcases List.mem_cons.1 hr with rfl | hr
   ·exact applyS_rcd h0
   ·exact allF_rcd xs _ he r hr
  ·rw [if_neg h0] at he
   exact absurd he h0
theorem allWs_len {rs : List Rcd} (h : ∀ r ∈ rs, rcdB r = true) : (allW rs).length ≤ 64 * rs.length := by
 unfold allW
 induction rs with
 | nil => simp
 | cons x xs ih =>
  rw [List.flatMap_cons, List.length_append, List.length_cons]
  have h1 := ih fun r hr => h r (List.mem_cons_of_mem _ hr)
  have h2 := (rcd_len (h x List.mem_cons_self)).1
  omega
end
/-! ### All under way -/
def alE (n0 M k : Nat) : Prop := k < n0 ∨ k = M
structure AlI (w wr : World) (L : LayD) (A : Option Addr) (c n0 M : Nat) (lv mv nv : Value) (S : St) (ws : List Pw) : Prop where
 lay : LayB wr w.heap.size L A c
 box : wr.heap[w.heap.size + 1]? = some (.cells #[lv, mv, nv] 41 (0, 0))
 res : wr.heap[w.heap.size + 1 + 1]? = some (.cells #[.slice none 0 0, .slice none 0 0, .slice none 0 0] 41 (0, 0))
 st : StW wr (alE n0 M) lv mv nv S
 fs : ∀ k, FS lv nv k → n0 ≤ k ∧ k ≠ M
 hn : w.heap.size + 3 ≤ n0
 hM : n0 ≤ M
 map : MapW wr M ws
 bel : Below w.heap.size w wr
section
variable {w wr w' : World} {L : LayD} {A : Option Addr} {c n0 M : Nat} {lv mv nv lv' mv' nv' : Value} {S S' : St} {ws ws' : List Pw}
theorem AlI.lt (h : AlI w wr L A c n0 M lv mv nv S ws) : w.heap.size + 3 < wr.heap.size ∧ M < wr.heap.size := by
 have h1 := h.map.lt
 have h2 := h.hn
 have h3 := h.hM
 omega
theorem AlI.call (h : AlI w wr L A c n0 M lv mv nv S ws) (hb : Below wr.heap.size wr w') : AlI w w' L A c n0 M lv mv nv S ws := by
 have hl := h.lt
 exact ⟨h.lay.below hb (by omega), (hb.block _ (by omega)).trans h.box, (hb.block _ (by omega)).trans h.res, h.st.call hb, h.fs, h.hn, h.hM, h.map.below hb, h.bel.trans (hb.mono (by omega))⟩
theorem AlI.put (h : AlI w wr L A c n0 M lv mv nv S ws) (hg : wr.grownBy w' (some M)) (hm : MapW w' M ws') : AlI w w' L A c n0 M lv mv nv S ws' := by
 have hl := h.lt
 have h0 := h.hn
 have h1 := h.hM
 have hk : ∀ k, k < wr.heap.size → k ≠ M → w'.heap[k]? = wr.heap[k]? := fun k hk hn => hg.block k hk fun e => hn (by injection e)
 refine ⟨(hk _ (by omega) (by omega)).trans h.lay, (hk _ (by omega) (by omega)).trans h.box, (hk _ (by omega) (by omega)).trans h.res, h.st.turn ((Agr.refl _ _).grown hg fun k e => by cases e; exact .inl (.inl (.inr rfl))) fun k e => hk k (FS.lt h.st.1 h.st.2.2 e) (h.fs k e).2, h.fs, h.hn, h.hM, hm, h.bel.grown hg h.bel.size fun k e => by cases e; omega⟩
theorem AlI.agr (h : AlI w wr L A c n0 M lv mv nv S ws) (ha : Agr (FS lv nv) wr w') : Below w.heap.size w w' ∧ LayB w' w.heap.size L A c ∧ w'.heap[w.heap.size + 1]? = some (.cells #[lv, mv, nv] 41 (0, 0)) ∧ w'.heap[w.heap.size + 1 + 1]? = some (.cells #[.slice none 0 0, .slice none 0 0, .slice none 0 0] 41 (0, 0)) ∧ MapW w' M ws ∧ wr.heap.size ≤ w'.heap.size := by
 have hl := h.lt
 have h0 := h.hn
 have h1 := h.hM
 have hk : ∀ k, k < n0 ∨ k = M → w'.heap[k]? = wr.heap[k]? := fun k hk => ha.block k (by omega) fun e => by have := h.fs k e; omega
 exact ⟨h.bel.trans (ha.below (fun k _ e => by have := h.fs k e; omega) h.bel.size), (hk _ (.inl (by omega))).trans h.lay, (hk _ (.inl (by omega))).trans h.box, (hk _ (.inl (by omega))).trans h.res, h.map.block (hk _ (.inr rfl)), ha.size⟩
theorem AlI.next (h : AlI w wr L A c n0 M lv mv nv S ws) (ha : Agr (FS lv nv) wr w') (hs : StW w' (alE n0 M) lv mv' nv' S') (hn : nv'.ownBlock = nv.ownBlock ∨ ∃ k, nv'.ownBlock = some k ∧ wr.heap.size ≤ k) :
  AlI w (((w'.setCell ⟨w.heap.size + 1, 0, none⟩ lv).setCell ⟨w.heap.size + 1, 1, none⟩ mv').setCell ⟨w.heap.size + 1, 2, none⟩ nv') L A c n0 M lv mv' nv' S' ws := by
 have hl := h.lt
 have h0 := h.hn
 have h1 := h.hM
 obtain ⟨g1, g2, g3, g4, g5, g6⟩ := h.agr ha
 have hfs : ∀ k, FS lv nv' k → n0 ≤ k ∧ k ≠ M := fun k hk => by
  rcases hk with e | e
  ·exact h.fs k (.inl e)
  ·rcases hn with e2 | ⟨j, e2, hj⟩
   ·exact h.fs k (.inr (e2 ▸ e))
   ·rw [e2] at e; injection e with e; subst e; omega
 have hk : ∀ k, k ≠ w.heap.size + 1 → (((w'.setCell ⟨w.heap.size + 1, 0, none⟩ lv).setCell ⟨w.heap.size + 1, 1, none⟩ mv').setCell ⟨w.heap.size + 1, 2, none⟩ nv').heap[k]? = w'.heap[k]? := fun k hk =>
  ((heap_setCell_other _ _ _ _ hk).trans (heap_setCell_other _ _ _ _ hk)).trans (heap_setCell_other _ _ _ _ hk)
 have hX : FE (alE n0 M) lv nv' (w.heap.size + 1) := .inl (.inl (by omega))
 refine ⟨(hk _ (by omega)).trans g2, heap_setCell_same _ _ 2 _ _ nv' (heap_setCell_same _ _ 1 _ _ mv' (heap_setCell_same _ _ 0 _ _ lv g3)), (hk _ (by omega)).trans g4, hs.turn ((((Agr.refl _ _).set (.inl hX) _).set (.inl hX) _).set (.inl hX) _) fun k e => hk k (by have := hfs k e; omega), hfs, h.hn, h.hM, g5.block (hk _ (by omega)), ((g1.setCell (by simp) _).setCell (by simp) _).setCell (by simp) _⟩
theorem AlI.cells (h : AlI w wr L A c n0 M lv mv nv S ws) : wr.cell? ⟨w.heap.size + 1, 0, none⟩ = some lv ∧ wr.cell? ⟨w.heap.size + 1, 1, none⟩ = some mv ∧ wr.cell? ⟨w.heap.size + 1, 2, none⟩ = some nv ∧ ∀ j, wr.frozen? ⟨w.heap.size + 1, j, none⟩ = false :=
 ⟨by rw [cell_of_row _ _ _ _ _ _ h.box]; rfl, by rw [cell_of_row _ _ _ _ _ _ h.box]; rfl, by rw [cell_of_row _ _ _ _ _ _ h.box]; rfl, fun j => frozen_blk h.box j⟩
end
theorem al_start {w w2 w3 w4 : World} {L : LayD} {A : Option Addr} {c : Nat} {a1 a2 a3 lv mv nv : Value} {S : St} (hA : LayB w2 w.heap.size L A c) (hS : w2.heap[w.heap.size + 1]? = some (.cells #[a1, a2, a3] 41 (0, 0)))
  (hR : w2.heap[w.heap.size + 1 + 1]? = some (.cells #[.slice none 0 0, .slice none 0 0, .slice none 0 0] 41 (0, 0))) (hB : Below w.heap.size w w2) (hz : w.heap.size + 3 ≤ w2.heap.size) (hb : Below w2.heap.size w2 w3) (hst : StW w3 (fun k => k < w2.heap.size) lv mv nv S) (hfs : ∀ k, FS lv nv k → w2.heap.size ≤ k)
  (h4 : ((w3.setCell ⟨w.heap.size + 1, 0, none⟩ lv).setCell ⟨w.heap.size + 1, 1, none⟩ mv).setCell ⟨w.heap.size + 1, 2, none⟩ nv = w4) :
  AlI w (w4.alloc (.map #[] 0)) L A c w2.heap.size w4.heap.size lv mv nv S [] := by
 have hs3 := hb.size
 have hX : FE (fun k => k < w2.heap.size) lv nv (w.heap.size + 1) := .inl (by show _ < _; omega)
 have hk : ∀ k, k ≠ w.heap.size + 1 → w4.heap[k]? = w3.heap[k]? := fun k hk => by
  rw [← h4]
  exact ((heap_setCell_other _ _ _ _ hk).trans (heap_setCell_other _ _ _ _ hk)).trans (heap_setCell_other _ _ _ _ hk)
 have hz4 : w4.heap.size = w3.heap.size := by rw [← h4]; simp
 have hst4 : StW w4 (fun k => k < w2.heap.size) lv mv nv S := by
  refine hst.turn ?_ fun k e => hk k (by have := hfs k e; omega)
  rw [← h4]
  exact (((Agr.refl _ _).set (.inl hX) _).set (.inl hX) _).set (.inl hX) _
 have hbox : w4.heap[w.heap.size + 1]? = some (.cells #[lv, mv, nv] 41 (0, 0)) := by
  rw [← h4]
  exact heap_setCell_same _ _ 2 _ _ nv (heap_setCell_same _ _ 1 _ _ mv (heap_setCell_same _ _ 0 _ _ lv ((hb.block _ (by omega)).trans hS)))
 have hb4 : Below w.heap.size w w4 := by
  rw [← h4]
  exact (((hB.trans (hb.mono (by omega))).setCell (by simp) _).setCell (by simp) _).setCell (by simp) _
 have hbl : Below w4.heap.size w4 (w4.alloc (.map #[] 0)) := below_laid
 refine ⟨(hbl.block _ (by omega)).trans ((hk _ (by omega)).trans ((hb.block _ (by omega)).trans hA)), (hbl.block _ (by omega)).trans hbox, (hbl.block _ (by omega)).trans ((hk _ (by omega)).trans ((hb.block _ (by omega)).trans hR)), (hst4.less fun k h1 h2 => ?_).call hbl, fun k e => ⟨hfs k e, ?_⟩, hz, by omega, MapW.made w4, hb4.alloc hb4.size _⟩
 ·rcases h2 with h2 | h2
  ·exact h2
  ·omega
 ·have := FS.lt hst4.1 hst4.2.2 e
  omega
theorem AlI.fin {w wr : World} {L : LayD} {A : Option Addr} {c n0 M : Nat} {lv mv nv : Value} {S : St} {ws : List Pw} (h : AlI w wr L A c n0 M lv mv nv S ws) {B0 : Nat} {At : Option Addr} {n ct : Nat} {ts : List Pw} (ho : OwS wr B0 64 11 (.slice At n ct) (ts.map Pw.cells)) (hB0 : w.heap.size + 3 ≤ B0) {W : World}
  (hW : ((wr.setCell ⟨w.heap.size + 1 + 1, 0, none⟩ lv).setCell ⟨w.heap.size + 1 + 1, 1, none⟩ mv).setCell ⟨w.heap.size + 1 + 1, 2, none⟩ nv = W) :
  Below w.heap.size w W ∧ StE (fun k => k < w.heap.size) W (.agg #[lv, mv, nv]) S ∧ Stb (fun k => k < w.heap.size) W fun V => PwS V V.heap.size At ts := by
 have h0 := h.hn
 have hX : FE (alE n0 M) lv nv (w.heap.size + 1 + 1) := .inl (.inl (by omega))
 have hk : ∀ k, k ≠ w.heap.size + 1 + 1 → W.heap[k]? = wr.heap[k]? := fun k hk => by
  rw [← hW]
  exact ((heap_setCell_other _ _ _ _ hk).trans (heap_setCell_other _ _ _ _ hk)).trans (heap_setCell_other _ _ _ _ hk)
 have ha : Agr (fun k => k = w.heap.size + 1 + 1) wr W := by
  rw [← hW]
  exact agr_three (by rfl) _ _ _
 refine ⟨?_, fun V hV => ?_, fun V hV => ?_⟩
 ·rw [← hW]
  exact ((h.bel.setCell (by simp; omega) _).setCell (by simp; omega) _).setCell (by simp; omega) _
 ·have ha2 : Agr (FE (alE n0 M) lv nv) wr V := (ha.mono fun k _ e => by rw [e]; exact hX).trans' hV fun k _ e => .inl (.inl (by omega))
  refine (h.st.turn ha2 fun k e => ?_).reads
  have h1 := h.fs k e
  have h2 := FS.lt h.st.1 h.st.2.2 e
  exact (hV.block k (Nat.lt_of_lt_of_le h2 ha.size) (fun e2 => by omega)).trans (hk k (by omega))
 ·have ha2 : Agr (fun k => k < w.heap.size + 3) wr V := (ha.mono fun k _ e => by omega).trans' hV fun k _ e => by omega
  exact RdS.stb (F := fun k => k < w.heap.size + 3) ho.reads (fun a hA e => by
   have h1 := (ho.lt (k := a.block) (by rw [hA]; rfl)).1
   omega) V ha2
def AllP (E : Nat → Prop) (L : LayD) (S : St) (rs : List Rcd) (w' : World) (e : Ending) : Prop := ∃ v' A ts c, e = .returned (.tuple #[v', .slice A ts.length c, .int .i64 (allR L S rs).2]) ∧ StE E w' v' (allR L S rs).1 ∧ (Stb E w' fun V => PwS V V.heap.size A ts) ∧ ((allR L S rs).2 = 0 → SrtW (allW rs) ts) ∧ ((allR L S rs).2 ≠ 0 → ts = [])
theorem AllP.bad {E : Nat → Prop} {L : LayD} {S : St} {rs : List Rcd} {w' : World} {q : Int} (h : allR L S rs = (St.zero, q)) (h0 : q ≠ 0) : AllP E L S rs w' (.returned (.tuple #[.agg #[.slice none 0 0, .slice none 0 0, .slice none 0 0], .slice none 0 0, .int .i64 q])) :=
 ⟨_, none, [], 0, by rw [h]; rfl, by rw [h]; exact StE.zero _ _, fun V _ => RdS.nil _ _ _ _, fun e => absurd (by rw [h] at e; exact e) h0, fun _ => rfl⟩
theorem AllP.less {E E' : Nat → Prop} {L : LayD} {S : St} {rs : List Rcd} {w' : World} {e : Ending} (h : AllP E L S rs w' e) (hE : ∀ k, E' k → E k) : AllP E' L S rs w' e := by
 obtain ⟨v', A, ts, c, he, h1, h2, h3⟩ := h
 exact ⟨v', A, ts, c, he, Stb.mono h1 fun k _ => hE k, Stb.mono h2 fun k _ => hE k, h3⟩
end Go.Proofs.YtjgjofepedcfnaaGreat
