/- What a decoder keeps while it runs: a state in a box beside the reader's box (DcI); a leaf under way (LfW); two lists that a region lets grow in any order (TwW); moves under way (MvI). No program is walked here. -/
import Derived.Test.YtjgjofepedcfnaaGreatRsG
import Derived.Test.YtjgjofepedcfnaaGreatGRo
namespace Go.Proofs.YtjgjofepedcfnaaGreat
open Go.RowKit
theorem Agr.grownBy {p : Nat} {w w' : World} (h : Agr (fun k => k = p) w w') : w.grownBy w' (some p) := ⟨h.os, h.tape, h.output, h.size, fun k hk hn => h.block k hk fun e => hn (by rw [e])⟩
theorem rdU_le (s : Rst) : (rdL (rdU s).2.2).length ≤ (rdL s).length := by
 rcases h : (rdU s).2.2 with _ | l
 ·simp [rdL]
 ·obtain ⟨-, l0, rfl, hl⟩ := rdU_some h
  simp only [rdL, Option.getD]
  omega
theorem prS_le (b : Rst) : ∀ k, (rdL (prS b k).2.2).length ≤ (rdL b).length
 | 0 => Nat.le_refl _
 | k + 1 => Nat.le_trans (rdU_le _) (Nat.le_trans (rdU_le _) (prS_le b k))
theorem lsS_le (w : Nat) (b : Rst) : ∀ k, (rdL (lsS w b k).2).length ≤ (rdL b).length
 | 0 => Nat.le_refl _
 | k + 1 => Nat.le_trans (prS_le _ w) (lsS_le w b k)
theorem wpAnyT_two {P : Program} {ops : Array Oper} {Q : Exit → Act → World → Prop} {md : Region.Mode} {S : World → Prop} {T i k : Nat} {o ok : Oper} {fuel : Nat} {listed : Array Bool} {a : Act} {w : World} (hr : Region.ready md ops listed = [i, k]) (hi : ops[i]? = some o) (hg : o.guard = none) (hk : ops[k]? = some ok) (hgk : ok.guard = none)
  (h : ∀ K : Act → World → Prop, (∀ a' w', ((listed.setIfInBounds i true).getD T false = true ∨ S w') → wpAnyT P md ops Q T S fuel (listed.setIfInBounds i true) a' w' → K a' w') → Oper.wp P o a w K Q)
  (h2 : ∀ K : Act → World → Prop, (∀ a' w', ((listed.setIfInBounds k true).getD T false = true ∨ S w') → wpAnyT P md ops Q T S fuel (listed.setIfInBounds k true) a' w' → K a' w') → Oper.wp P ok a w K Q) : wpAnyT P md ops Q T S (fuel + 1) listed a w := by
 have hw : ∀ x : Oper, x.guard = none → Region.wanted x (yielded ops a.tmps) = true := fun x hx => by simp [Region.wanted, hx]
 refine ⟨fun h0 => ?_, fun j hj => ?_⟩
 ·rw [hr] at h0
  cases h0
 ·rw [hr] at hj
  rcases List.mem_cons.1 hj with rfl | hj
  ·have h1 := h (fun a' w' => ((listed.setIfInBounds j true).getD T false = true ∨ S w') ∧ wpAnyT P md ops Q T S fuel (listed.setIfInBounds j true) a' w') (fun a' w' h1 h2 => ⟨h1, h2⟩)
   unfold wpOp
   simp only [hi]
   rw [if_pos (hw o hg)]
   exact .inl h1
  ·rw [List.mem_singleton] at hj
   subst hj
   have h1 := h2 (fun a' w' => ((listed.setIfInBounds j true).getD T false = true ∨ S w') ∧ wpAnyT P md ops Q T S fuel (listed.setIfInBounds j true) a' w') (fun a' w' h1 h2 => ⟨h1, h2⟩)
   unfold wpOp
   simp only [hk]
   rw [if_pos (hw ok hgk)]
   exact .inl h1
structure LfW (X : Nat) (va vb : Value) (vs ss : List Nat) (W : World) : Prop where
 blk : W.heap[X]? = some (.cells #[va, vb] 80 (0, 0))
 a : OwS W (X + 1) 23 1 va (vs.map u64C)
 b : OwS W (X + 1) 23 1 vb (ss.map u64C)
 ne : va.ownBlock = none ∨ va.ownBlock ≠ vb.ownBlock
section
variable {X p : Nat} {va vb : Value} {vs ss : List Nat} {W W' : World}
theorem LfW.lt (h : LfW X va vb vs ss W) : X < W.heap.size := (Array.getElem?_eq_some_iff.1 h.blk).1
theorem LfW.call (h : LfW X va vb vs ss W) (hb : Below W.heap.size W W') : LfW X va vb vs ss W' := ⟨(hb.block _ h.lt).trans h.blk, h.a.below hb, h.b.below hb, h.ne⟩
theorem LfW.turn (h : LfW X va vb vs ss W) (ha : Agr (fun k => k = p) W W') (hp : p < X) : LfW X va vb vs ss W' :=
 ⟨(ha.block _ h.lt (by omega)).trans h.blk, h.a.kept ha.grownBy (.inr fun e => by have := (h.a.lt e).1; omega), h.b.kept ha.grownBy (.inr fun e => by have := (h.b.lt e).1; omega), h.ne⟩
end
structure TwW (w9 : World) (X : Nat) (c0 c1 va vb : Value) (ra rb : List Nat) (gs : List (Nat × Nat)) (W : World) : Prop where
 bel : Below X w9 W
 blk : W.heap[X]? = some (.cells #[c0, c1] 80 (0, 0))
 a : OwS W (X + 1) 23 1 va (ra.map u64C)
 b : OwS W (X + 1) 23 1 vb (rb.map u64C)
 ne : va.ownBlock = none ∨ va.ownBlock ≠ vb.ownBlock
 fr : ∀ g ∈ gs, W.heap[g.1]? = some (.cells #[.int .u64 (g.2 : Int)] 23 (0, 0)) ∧ va.ownBlock ≠ some g.1 ∧ vb.ownBlock ≠ some g.1 ∧ X + 1 ≤ g.1
section
variable {w9 W W' : World} {X x : Nat} {c0 c1 va vb va' vb' : Value} {ra rb : List Nat} {gs : List (Nat × Nat)}
theorem TwW.sz (h : TwW w9 X c0 c1 va vb ra rb gs W) : X + 1 ≤ W.heap.size := (Array.getElem?_eq_some_iff.1 h.blk).1
theorem TwW.cells (h : TwW w9 X c0 c1 va vb ra rb gs W) : W.cell? ⟨X, 0, none⟩ = some c0 ∧ W.cell? ⟨X, 1, none⟩ = some c1 := ⟨by rw [cell_of_row _ _ _ _ _ _ h.blk]; rfl, by rw [cell_of_row _ _ _ _ _ _ h.blk]; rfl⟩
theorem TwW.lay (h : TwW w9 X c0 c1 va vb ra rb gs W) (x : Nat) : TwW w9 X c0 c1 va vb ra rb ((W.heap.size, x) :: gs) (W.alloc (.cells #[.int .u64 (x : Int)] 23)) := by
 have hz := h.sz
 refine ⟨h.bel.alloc (by omega) _, (below_laid.block _ (by omega)).trans h.blk, h.a.alloc _, h.b.alloc _, h.ne, fun g hg => ?_⟩
 rcases List.mem_cons.1 hg with rfl | hg
 ·exact ⟨heap_alloc_new W _, fun e => by have := (h.a.lt e).2; omega, fun e => by have := (h.b.lt e).2; omega, hz⟩
 ·obtain ⟨h1, h2, h3, h4⟩ := h.fr g hg
  have hl := (Array.getElem?_eq_some_iff.1 h1).1
  exact ⟨(below_laid.block _ hl).trans h1, h2, h3, h4⟩
theorem TwW.swap (h : TwW w9 X c0 c1 va vb ra rb gs W) : TwW w9 X c0 c1 vb va rb ra gs W :=
 ⟨h.bel, h.blk, h.b, h.a, h.ne.elim (fun e => by
  rcases hb : vb.ownBlock with _ | k
  ·exact .inl rfl
  ·exact .inr (by rw [e]; simp)) fun e => .inr (Ne.symm e), fun g hg => by obtain ⟨h1, h2, h3, h4⟩ := h.fr g hg; exact ⟨h1, h3, h2, h4⟩⟩
theorem TwW.appA (h : TwW w9 X c0 c1 va vb ra rb gs W) (ho : OwS W' (X + 1) 23 1 va' ((ra ++ [x]).map u64C)) (hg : W.grownBy W' va.ownBlock) (hv : va'.ownBlock = va.ownBlock ∨ va'.ownBlock = some W.heap.size) : TwW w9 X c0 c1 va' vb (ra ++ [x]) rb gs W' := by
 have hz := h.sz
 refine ⟨h.bel.grown hg (by omega) (fun k hk => by have := (h.a.lt hk).1; omega), (hg.block _ (by omega) (fun e => by have := (h.a.lt e.symm).1; omega)).trans h.blk, ho, h.b.kept hg (h.swap.ne), ?_, fun g hgs => ?_⟩
 ·rcases hv with hv | hv
  ·rw [hv]; exact h.ne
  ·exact .inr fun e => by rw [hv] at e; have := (h.b.lt e.symm).2; omega
 ·obtain ⟨h1, h2, h3, h4⟩ := h.fr g hgs
  have hl := (Array.getElem?_eq_some_iff.1 h1).1
  refine ⟨(hg.block _ hl (Ne.symm h2)).trans h1, ?_, h3, h4⟩
  rcases hv with hv | hv
  ·rw [hv]; exact h2
  ·rw [hv]; intro e; injection e with e; omega
theorem TwW.put (h : TwW w9 X c0 c1 va vb ra rb gs W) (j : Nat) (v : Value) {d0 d1 : Value} (hd : (#[c0, c1] : Array Value).setIfInBounds j v = #[d0, d1]) : TwW w9 X d0 d1 va vb ra rb gs (W.setCell ⟨X, j, none⟩ v) := by
 have na : va.ownBlock ≠ some X := fun e => by have := (h.a.lt e).1; omega
 have nb : vb.ownBlock ≠ some X := fun e => by have := (h.b.lt e).1; omega
 refine ⟨h.bel.setCell (p := ⟨X, j, none⟩) (Nat.le_refl _) _, ?_, h.a.far (p := ⟨X, j, none⟩) na _, h.b.far (p := ⟨X, j, none⟩) nb _, h.ne, fun g hg => ?_⟩
 ·rw [← hd]
  exact heap_setCell_same _ _ j _ _ v h.blk
 ·obtain ⟨h1, h2, h3, h4⟩ := h.fr g hg
  exact ⟨(heap_setCell_other _ _ _ _ (by show g.1 ≠ X; omega)).trans h1, h2, h3, h4⟩
theorem TwW.one (h : TwW w9 X c0 c1 va vb ra rb gs W) {g : Nat × Nat} (hg : g ∈ gs) : RdS W W.heap.size 1 (some ⟨g.1, 0, none⟩) [u64C g.2] := by
 obtain ⟨h1, -, -, -⟩ := h.fr g hg
 have hl := (Array.getElem?_eq_some_iff.1 h1).1
 refine ⟨by simp [u64C], fun _ => ⟨g.1, 0, rfl, hl, fun i r hr j v hv => ?_⟩⟩
 match i, hr with
 | 0, hr =>
  simp at hr
  subst hr
  match j, hv with
  | 0, hv =>
   simp [u64C] at hv
   subst hv
   rw [cell_of_row _ _ _ _ _ _ h1]
   rfl
end
theorem wpAnyT_freeT {P : Program} {ops : Array Oper} {Q : Exit → Act → World → Prop} {md : Region.Mode} {S : World → Prop} {T : Nat} {i : Nat} {oi : Oper} {v : Value} {fuel : Nat} {listed : Array Bool} {a : Act} {w : World} (hi : ops[i]? = some oi)
  (hs : Region.noSelect ops = true) (hf : Region.free md ops listed i = true) (hr : (Region.ready md ops listed).contains i = true)
  (hQ : ∀ c a w, Q (.panic c) (a.put oi.dst v) w → Q (.panic c) a w) (hy : YieldsIf P ops (fun _ => True) oi v a) (hT : listed.getD T false = true)
  (h : wpAnyT P md ops Q T S fuel (listed.setIfInBounds i true) (a.put oi.dst v) w) (hiT : (i == T) = false := by rfl) : wpAnyT P md ops Q T S (fuel + 1) listed a w :=
 wpAnyT_free1 hi (Region.noSelect_spec hs) hQ (by simpa using hiT) fuel listed a w (Region.free_spec hi hf) (by simpa using hr) hy (.inl hT) h
def DecR (w : World) (T : St × List Nat × Nat) (e : Ending) (w' : World) : Prop := ∃ v Au cu, e = .returned (.tuple #[v, .slice Au T.2.1.length cu, .int .i64 (T.2.2 : Int)]) ∧ StE (fun k => k < w.heap.size) w' v T.1 ∧ Stb (fun k => k < w.heap.size) w' fun V => BytS V V.heap.size Au T.2.1
def EDc (m p k : Nat) : Prop := k < m ∨ k = p
theorem RdX.keep {p q : Nat} {T : TypeId} {s : Rst} {W W' : World} (h : RdX p q T s W) (hz : W.heap.size ≤ W'.heap.size) (hk : ∀ k, q ≤ k → k ≤ p → W'.heap[k]? = W.heap[k]?) : RdX p q T s W' := by
 obtain ⟨A, c, h1, h2, h3, h4⟩ := h
 exact ⟨A, c, (hk p h3.1 (Nat.le_refl _)).trans h1, (RdS.keepBlk h2 fun a ha => hk _ (h3.2 a ha).1 (Nat.le_of_lt (h3.2 a ha).2)).more hz, h3, h4⟩
structure DcI (w1 : World) (m S p q : Nat) (R T : TypeId) (lv mv nv : Value) (Z : St) (s : Rst) (W : World) : Prop where
 bel : Below m w1 W
 rd : RdX p q R s W
 st : StB W S (EDc m p) T lv mv nv Z
 own : ∀ k, (k = S ∨ FS lv nv k) → m ≤ k ∧ (k < q ∨ p < k)
 mq : m ≤ q
section
variable {w1 W W' : World} {m S p q : Nat} {R T : TypeId} {lv mv nv lv' nv' mv' : Value} {Z : St} {s s' : Rst}
theorem DcI.sp (h : DcI w1 m S p q R T lv mv nv Z s W) : S ≠ p ∧ m ≤ S ∧ m ≤ p ∧ S < W.heap.size ∧ p < W.heap.size ∧ m ≤ W.heap.size := by
 have h1 := h.own S (.inl rfl)
 have h2 := h.rd.qp
 have h3 := h.mq
 have h4 := h.rd.lt
 have h5 := h.st.lt
 omega
theorem DcI.flt (h : DcI w1 m S p q R T lv mv nv Z s W) {k : Nat} (hk : FX S (EDc m p) lv nv k) : k < W.heap.size := by
 obtain ⟨-, -, -, h4, h5, h6⟩ := h.sp
 refine h.st.flt (fun k hk => ?_) hk
 rcases hk with hk | hk <;> omega
theorem DcI.turn (h : DcI w1 m S p q R T lv mv nv Z s W) (ha : Agr (fun k => k = p) W W') (hr : RdX p q R s' W') : DcI w1 m S p q R T lv mv nv Z s' W' := by
 obtain ⟨h1, h2, h3, h4, h5, h6⟩ := h.sp
 have hq := h.rd.qp
 refine ⟨h.bel.trans (ha.below (fun k _ e => by omega) h6), hr, h.st.other (ha.mono fun k _ e => .inr (.inl (.inr e))) (ha.block _ h4 h1) fun k hk => ha.block _ (FS.lt h.st.ls h.st.nt hk) fun e => ?_, h.own, h.mq⟩
 have := (h.own k (.inr hk)).2
 omega
theorem DcI.call (h : DcI w1 m S p q R T lv mv nv Z s W) (hb : Below W.heap.size W W') : DcI w1 m S p q R T lv mv nv Z s W' := h.turn (.of hb) (h.rd.call hb)
theorem DcI.cells (h : DcI w1 m S p q R T lv mv nv Z s W) : W.cell? ⟨S, 0, none⟩ = some lv ∧ W.cell? ⟨S, 1, none⟩ = some mv ∧ W.cell? ⟨S, 2, none⟩ = some nv ∧ ∀ j, W.frozen? ⟨S, j, none⟩ = false := h.st.cells
end
theorem DcI.pushL {w1 w w' : World} {m S p q : Nat} {R T : TypeId} {lv mv nv lv' ua ub : Value} {Z : St} {s : Rst} {L : Leaf} {o : Obj} {rows : List (Value × Value)} (h : DcI w1 m S p q R T lv mv nv Z s w) (hn : rows.length = Z.ls.length) (ho : OwS w 0 80 2 lv (rows.map fun x => [x.1, x.2]))
  (hl : ∀ (k : Nat) (x : Value × Value) (L : Leaf), rows[k]? = some x → Z.ls[k]? = some L → Stb (FX S (EDc m p) lv nv) w fun W => LfV W W.heap.size (.agg #[x.1, x.2]) L)
  (hL : Stb (FX S (EDc m p) lv nv) w fun W => LfV W W.heap.size (.agg #[ua, ub]) L) (hg : (w.alloc o).grownBy w' lv.ownBlock) (ho' : OwS w' 0 80 2 lv' (rows.map (fun x => [x.1, x.2]) ++ [[ua, ub]])) (hv : lv'.ownBlock = lv.ownBlock ∨ lv'.ownBlock = some (w.heap.size + 1)) :
  DcI w1 m S p q R T lv' mv nv ⟨Z.ls ++ [L], Z.ms, Z.nt⟩ s (w'.setCell ⟨S, 0, none⟩ lv') ∧ w'.heap[S]? = some (.cells #[lv, mv, nv] T (0, 0)) := by
 obtain ⟨h1, h2, h3, h4, h5, h6⟩ := h.sp
 have hq := h.rd.qp
 obtain ⟨g1, g2⟩ := h.st.pushL hn ho hl hL hg ho' hv
 have hz : w.heap.size ≤ w'.heap.size := Nat.le_trans (by simp) hg.size
 have hk : ∀ k, k < w.heap.size → k ≠ S → lv.ownBlock ≠ some k → (w'.setCell ⟨S, 0, none⟩ lv').heap[k]? = w.heap[k]? := fun k hk hS hlv => (heap_setCell_other _ _ _ _ hS).trans ((hg.block k (by simp; omega) (fun e => hlv e.symm)).trans (Below.heap_alloc _ _ _ hk))
 refine ⟨⟨?_, h.rd.keep (by simpa using hz) fun k k1 k2 => hk k (by omega) (fun e => ?_) (fun e => ?_), g1, fun k hk => ?_, h.mq⟩, g2⟩
 ·refine ((h.bel.alloc h6 o).grown hg (by simp; omega) (fun k e => ?_)).setCell (by show m ≤ S; omega) _
  exact (h.own k (.inr (.inl e))).1
 ·have := (h.own k (.inl e)).2
  omega
 ·have := (h.own k (.inr (.inl e))).2
  omega
 ·rcases hk with hk | hk | hk
  ·exact h.own k (.inl hk)
  ·rcases hv with e | e
   ·exact h.own k (.inr (.inl (e ▸ hk)))
   ·rw [e] at hk
    injection hk with hk
    omega
  ·exact h.own k (.inr (.inr hk))
theorem DcI.pushN {w1 w w' : World} {m S p q : Nat} {R T : TypeId} {lv mv nv nv' : Value} {Z : St} {s : Rst} {x : List Nat} {A : Option Addr} {c : Nat} {o : Obj} {vs : List (Option Addr × Nat)} (h : DcI w1 m S p q R T lv mv nv Z s w) (hn : vs.length = Z.nt.length)
  (_ho : OwS w 0 26 1 nv ((vs.zip Z.nt).map ntRow)) (hl : ∀ (i : Nat) (p' : Option Addr × Nat) (g : List Nat), vs[i]? = some p' → Z.nt[i]? = some g → Stb (FX S (EDc m p) lv nv) w fun W => BytS W W.heap.size p'.1 g)
  (hx : Stb (FX S (EDc m p) lv nv) w fun W => BytS W W.heap.size A x) (hg : (w.alloc o).grownBy w' nv.ownBlock) (ho' : OwS w' 0 26 1 nv' ((vs.zip Z.nt).map ntRow ++ [[.slice A x.length c]])) (hv : nv'.ownBlock = nv.ownBlock ∨ nv'.ownBlock = some (w.heap.size + 1)) :
  DcI w1 m S p q R T lv mv nv' ⟨Z.ls, Z.ms, Z.nt ++ [x]⟩ s (w'.setCell ⟨S, 2, none⟩ nv') ∧ w'.heap[S]? = some (.cells #[lv, mv, nv] T (0, 0)) := by
 obtain ⟨h1, h2, h3, h4, h5, h6⟩ := h.sp
 have hq := h.rd.qp
 obtain ⟨g1, g2⟩ := h.st.pushN hn hl hx hg ho' hv
 have hz : w.heap.size ≤ w'.heap.size := Nat.le_trans (by simp) hg.size
 have hk : ∀ k, k < w.heap.size → k ≠ S → nv.ownBlock ≠ some k → (w'.setCell ⟨S, 2, none⟩ nv').heap[k]? = w.heap[k]? := fun k hk hS hlv => (heap_setCell_other _ _ _ _ hS).trans ((hg.block k (by simp; omega) (fun e => hlv e.symm)).trans (Below.heap_alloc _ _ _ hk))
 refine ⟨⟨?_, h.rd.keep (by simpa using hz) fun k k1 k2 => hk k (by omega) (fun e => ?_) (fun e => ?_), g1, fun k hk => ?_, h.mq⟩, g2⟩
 ·refine ((h.bel.alloc h6 o).grown hg (by simp; omega) (fun k e => ?_)).setCell (by show m ≤ S; omega) _
  exact (h.own k (.inr (.inr e))).1
 ·have := (h.own k (.inl e)).2
  omega
 ·have := (h.own k (.inr (.inr e))).2
  omega
 ·rcases hk with hk | hk | hk
  ·exact h.own k (.inl hk)
  ·exact h.own k (.inr (.inl hk))
  ·rcases hv with e | e
   ·exact h.own k (.inr (.inr (e ▸ hk)))
   ·rw [e] at hk
    injection hk with hk
    omega
structure MvI (wB : World) (S p q : Nat) (R T : TypeId) (lv mv nv : Value) (ms : List Mv) (s : Rst) (W : World) : Prop where
 agr : Agr (fun k => k = S ∨ k = p) wB W
 box : W.heap[S]? = some (.cells #[lv, mv, nv] T (0, 0))
 own : OwS W wB.heap.size 89 4 mv (ms.map Mv.cells)
 rd : RdX p q R s W
 lt : S < wB.heap.size ∧ p < wB.heap.size ∧ (S < q ∨ p < S)
section
variable {w1 wB W W' : World} {m S p q : Nat} {R T : TypeId} {lv mv nv lv' nv' mv' : Value} {Z : St} {s s' : Rst} {ms : List Mv}
theorem DcI.moves (h : DcI w1 m S p q R T lv mv nv Z s W) (hm : mv = .slice none 0 0) : MvI W S p q R T lv mv nv [] s W := by
 obtain ⟨h1, h2, h3, h4, h5, h6⟩ := h.sp
 have := (h.own S (.inl rfl)).2
 exact ⟨Agr.refl _ _, h.st.box, hm ▸ OwS.nil _ _ _ _, h.rd, h4, h5, this⟩
theorem MvI.turn (h : MvI wB S p q R T lv mv nv ms s W) (ha : Agr (fun k => k = p) W W') (hr : RdX p q R s' W') : MvI wB S p q R T lv mv nv ms s' W' := by
 obtain ⟨h1, h2, h3⟩ := h.lt
 have hq := h.rd.qp
 have hz := h.agr.size
 exact ⟨h.agr.trans' ha fun k _ e => .inr e, (ha.block _ (by omega) (by omega)).trans h.box, h.own.same fun k hk => ha.block _ (h.own.lt hk).2 (by have := (h.own.lt hk).1; omega), hr, h.lt⟩
theorem MvI.cells (h : MvI wB S p q R T lv mv nv ms s W) : W.cell? ⟨S, 0, none⟩ = some lv ∧ W.cell? ⟨S, 1, none⟩ = some mv ∧ W.cell? ⟨S, 2, none⟩ = some nv ∧ ∀ j, W.frozen? ⟨S, j, none⟩ = false :=
 ⟨by rw [cell_of_row _ _ _ _ _ _ h.box]; rfl, by rw [cell_of_row _ _ _ _ _ _ h.box]; rfl, by rw [cell_of_row _ _ _ _ _ _ h.box]; rfl, fun j => frozen_blk h.box j⟩
theorem MvI.push {o : Obj} {x : Mv} (h : MvI wB S p q R T lv mv nv ms s W) (hg : (W.alloc o).grownBy W' mv.ownBlock) (ho : OwS W' wB.heap.size 89 4 mv' ((ms ++ [x]).map Mv.cells)) :
  MvI wB S p q R T lv mv' nv (ms ++ [x]) s (W'.setCell ⟨S, 1, none⟩ mv') ∧ W'.heap[S]? = some (.cells #[lv, mv, nv] T (0, 0)) := by
 obtain ⟨h1, h2, h3⟩ := h.lt
 have hq := h.rd.qp
 have hz := h.agr.size
 have hz2 : W.heap.size ≤ W'.heap.size := Nat.le_trans (by simp) hg.size
 have hb : ∀ k, k < wB.heap.size → W'.heap[k]? = W.heap[k]? := fun k hk => (hg.block k (by simp; omega) (fun e => by have := (h.own.lt e.symm).1; omega)).trans (Below.heap_alloc _ _ _ (by omega))
 have hag : Agr (fun k => k = S ∨ k = p) wB W' := (h.agr.alloc o).grown hg fun k hk => .inr (h.own.lt hk).1
 refine ⟨⟨hag.set (p := ⟨S, 1, none⟩) (.inl (.inl rfl)) _, heap_setCell_same _ _ 1 _ _ _ ((hb S h1).trans h.box), ho.far (p := ⟨S, 1, none⟩) (fun e => by have h0 : wB.heap.size ≤ S := (ho.lt e).1; omega) _, h.rd.keep (by simpa using hz2) fun k k1 k2 => (heap_setCell_other _ _ _ _ (by omega : k ≠ S)).trans (hb k (by omega)), h.lt⟩, (hb S h1).trans h.box⟩
theorem MvI.done (h : MvI wB S p q R T lv mv nv ms s W) (hd : DcI w1 m S p q R T lv mv' nv Z s' wB) : DcI w1 m S p q R T lv mv nv ⟨Z.ls, ms, Z.nt⟩ s W := by
 obtain ⟨h1, h2, h3, h4, h5, h6⟩ := hd.sp
 have ha : Agr (FX S (EDc m p) lv nv) wB W := h.agr.mono fun k _ e => by
  rcases e with e | e
  ·exact .inl e
  ·exact .inr (.inl (.inr e))
 have hq := h.rd.qp
 have hk : ∀ k, FS lv nv k → W.heap[k]? = wB.heap[k]? := fun k hk => h.agr.block k (FS.lt hd.st.ls hd.st.nt hk) fun e => by
  rcases e with e | e
  ·subst e
   exact hd.st.not hd.st.box hd.st.tl hd.st.tn hk
  ·have := (hd.own k (.inr hk)).2
   omega
 refine ⟨hd.bel.trans (h.agr.below (fun k _ e => by omega) h6), h.rd, ⟨h.box, hd.st.ls.step ha fun k e => hk k (.inl e), MvW.made h.own fun k hk => hd.flt hk, hd.st.nt.step ha fun k e => hk k (.inr e), hd.st.tl, hd.st.tn⟩, hd.own, hd.mq⟩
end
theorem LfW.stb {F : Nat → Prop} {X : Nat} {va vb : Value} {vs ss : List Nat} {W : World} (h : LfW X va vb vs ss W) (hF : ∀ k, F k → k < X + 1) : Stb F W fun V => LfV V V.heap.size (.agg #[va, vb]) ⟨vs, ss⟩ :=
 LfV.stb (LfV.mk h.a h.b) (LfF.mk h.a h.b (Nat.le_refl _) (Nat.le_refl _)) hF
structure LfI (wo : World) (p q : Nat) (R : TypeId) (X : Nat) (va vb : Value) (vs ss : List Nat) (s : Rst) (W : World) : Prop where
 agr : Agr (fun k => k = p) wo W
 rd : RdX p q R s W
 lf : LfW X va vb vs ss W
 lt : p < X
 wx : wo.heap.size ≤ X
section
variable {wo w1 w9 W W' : World} {m S p q X : Nat} {R T : TypeId} {va vb va' vb' lv mv nv : Value} {vs ss ra rb : List Nat} {gs : List (Nat × Nat)} {s s' : Rst} {Z : St}
theorem LfI.read (h : LfI wo p q R X va vb vs ss s W) (hr : RdP p q R s' W W') : LfI wo p q R X va vb vs ss s' W' := ⟨h.agr.trans hr.2, hr.1, h.lf.turn hr.2 h.lt, h.lt, h.wx⟩
theorem LfI.call (h : LfI wo p q R X va vb vs ss s W) (hb : Below W.heap.size W W') : LfI wo p q R X va vb vs ss s W' := ⟨h.agr.call hb, h.rd.call hb, h.lf.call hb, h.lt, h.wx⟩
theorem LfI.bel (h : LfI wo p q R X va vb vs ss s W) (hd : DcI w1 m S p q R T lv mv nv Z s' wo) : Below m w1 W := by
 obtain ⟨h1, h2, h3, h4, h5, h6⟩ := hd.sp
 exact hd.bel.trans (h.agr.below (fun k _ e => by omega) h6)
theorem LfI.done (h : LfI wo p q R X va vb vs ss s W) (hd : DcI w1 m S p q R T lv mv nv Z s' wo) : DcI w1 m S p q R T lv mv nv Z s W := hd.turn h.agr h.rd
theorem LfI.cells (h : LfI wo p q R X va vb vs ss s W) : W.cell? ⟨X, 0, none⟩ = some va ∧ W.cell? ⟨X, 1, none⟩ = some vb ∧ ∀ j, W.frozen? ⟨X, j, none⟩ = false :=
 ⟨by rw [cell_of_row _ _ _ _ _ _ h.lf.blk]; rfl, by rw [cell_of_row _ _ _ _ _ _ h.lf.blk]; rfl, fun j => frozen_blk h.lf.blk j⟩
theorem LfI.stb (h : LfI wo p q R X va vb vs ss s W) (hd : DcI w1 m S p q R T lv mv nv Z s' wo) : Stb (FX S (EDc m p) lv nv) W fun V => LfV V V.heap.size (.agg #[va, vb]) ⟨vs, ss⟩ :=
 h.lf.stb fun k hk => by have := hd.flt hk; have := h.wx; omega
theorem TwW.fin (h : TwW w9 X va' vb' va' vb' ra rb gs W) (hi : LfI wo p q R X va vb vs ss s w9) : LfI wo p q R X va' vb' ra rb s W := by
 have hb := h.bel
 have hx := hi.wx
 have hp := hi.lt
 exact ⟨⟨hb.os.trans hi.agr.os, hb.tape.trans hi.agr.tape, hb.output.trans hi.agr.output, Nat.le_trans hi.agr.size hb.size, fun k hk hn => (hb.block k (by omega)).trans (hi.agr.block k hk hn)⟩, hi.rd.keep hb.size fun k k1 k2 => hb.block k (by omega), ⟨h.blk, h.a, h.b, h.ne⟩, hp, hx⟩
end
structure MvT (wo : World) (p q : Nat) (R Tm : TypeId) (M : Nat) (cs : Array Value) (s : Rst) (W : World) : Prop where
 agr : Agr (fun k => k = p) wo W
 rd : RdX p q R s W
 blk : W.heap[M]? = some (.cells cs Tm (0, 0))
 lt : p < M
 wx : wo.heap.size ≤ M
section
variable {wo wB w1 W W' : World} {m S p q M : Nat} {R Tm T : TypeId} {cs : Array Value} {s s' : Rst} {lv mv nv : Value} {ms : List Mv}
theorem MvT.start (hp : p < wo.heap.size) (hr : RdX p q R s wo) (cs : Array Value) (Tm : TypeId) : MvT wo p q R Tm wo.heap.size cs s (wo.alloc (.cells cs Tm)) := ⟨(Agr.refl _ _).alloc _, hr.call below_laid, heap_alloc_new wo _, hp, Nat.le_refl _⟩
theorem MvT.read (h : MvT wo p q R Tm M cs s W) (hr : RdP p q R s' W W') : MvT wo p q R Tm M cs s' W' :=
 ⟨h.agr.trans hr.2, hr.1, (hr.2.block _ (Array.getElem?_eq_some_iff.1 h.blk).1 (by have := h.lt; omega)).trans h.blk, h.lt, h.wx⟩
theorem MvT.set (h : MvT wo p q R Tm M cs s W) (j : Nat) (v : Value) : MvT wo p q R Tm M (cs.setIfInBounds j v) s (W.setCell ⟨M, j, none⟩ v) := by
 have hx := h.wx
 have hp := h.lt
 exact ⟨h.agr.set (p := ⟨M, j, none⟩) (.inr hx) _, h.rd.keep (by simp) fun k k1 k2 => heap_setCell_other _ _ _ _ (by omega : k ≠ M), heap_setCell_same W M j cs Tm v h.blk, hp, hx⟩
theorem MvT.frozen (h : MvT wo p q R Tm M cs s W) (j : Nat) : W.frozen? ⟨M, j, none⟩ = false := frozen_blk h.blk j
theorem MvT.done (h : MvT wo p q R Tm M cs s W) (hm : MvI wB S p q R T lv mv nv ms s' wo) : MvI wB S p q R T lv mv nv ms s W := hm.turn h.agr h.rd
end
end Go.Proofs.YtjgjofepedcfnaaGreat
