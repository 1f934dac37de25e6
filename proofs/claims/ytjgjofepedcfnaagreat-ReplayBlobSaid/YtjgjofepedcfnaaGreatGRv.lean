/- What the laws of layer 50 keep in memory: layouts and states in boxes; what All leaves, behind its drawn region. No program is walked here.
Records applied in turn to a state in a box (the loops of the laws of layer 50). No program is walked here. -/
import Derived.Test.YtjgjofepedcfnaaGreatRqT
namespace Go.Proofs.YtjgjofepedcfnaaGreat
open Go.RowKit
structure LxI (w : World) (X : Nat) (L : LayD) (A : Option Addr) (c : Nat) (wr : World) : Prop where
 bel : Below w.heap.size w wr
 lay : LayB wr X L A c
 gx : GsV wr X A L.gs
structure Bx (w : World) (X : Nat) (T : TypeId) (a b c : Value) (S : St) : Prop where
 blk : w.heap[X]? = some (.cells #[a, b, c] T (0, 0))
 st : StV w w.heap.size (.agg #[a, b, c]) S
section
variable {w wr w' : World} {X c : Nat} {L : LayD} {A : Option Addr} {T : TypeId} {a b d : Value} {S : St}
theorem LayB.lt2 (h : LayB w X L A c) : X < w.heap.size := (Array.getElem?_eq_some_iff.1 h).1
theorem LxI.below (h : LxI w X L A c wr) (hb : Below wr.heap.size wr w') : LxI w X L A c w' :=
 ⟨h.bel.trans (hb.mono h.bel.size), h.lay.below hb h.lay.lt2, h.gx.below hb (Nat.le_of_lt h.lay.lt2)⟩
theorem LxI.gs (h : LxI w X L A c wr) : GsV wr wr.heap.size A L.gs := h.gx.more (Nat.le_of_lt h.lay.lt2)
theorem Bx.lt (h : Bx w X T a b d S) : X < w.heap.size := (Array.getElem?_eq_some_iff.1 h.blk).1
theorem Bx.below (h : Bx w X T a b d S) (hb : Below w.heap.size w w') : Bx w' X T a b d S :=
 ⟨(hb.block _ h.lt).trans h.blk, (h.st.below hb (Nat.le_refl _)).more hb.size⟩
theorem Bx.cells (h : Bx w X T a b d S) : w.cell? ⟨X, 0, none⟩ = some a ∧ w.cell? ⟨X, 1, none⟩ = some b ∧ w.cell? ⟨X, 2, none⟩ = some d :=
 ⟨by rw [cell_of_row _ _ _ _ _ _ h.blk]; rfl, by rw [cell_of_row _ _ _ _ _ _ h.blk]; rfl, by rw [cell_of_row _ _ _ _ _ _ h.blk]; rfl⟩
theorem Bx.made (h : StV w w.heap.size (.agg #[a, b, d]) S) (T : TypeId) : Bx (w.alloc (.cells #[a, b, d] T)) w.heap.size T a b d S :=
 ⟨heap_alloc_new w _, (h.below below_laid (Nat.le_refl _)).more (by simp)⟩
end
section
variable {w wB : World} {T : TypeId} {S : St} {er : Int} {ws : List Pw} {D1 D2 D3 At : Option Addr} {d1 d2 d3 ct n : Nat} {ts : List Pw}
end
theorem few_ok {rs : List Rcd} (h : fewB rs = true) (hin : ∀ r ∈ rs, r.seq < 18446744073709551616 ∧ ∀ x ∈ r.ws, x.d.ok) : rs.length ≤ 10 ∧ ∀ r ∈ rs, RcdOk r := by
 unfold fewB at h
 simp only [Bool.and_eq_true, decide_eq_true_eq, List.all_eq_true] at h
 refine ⟨h.2, fun r hr => ?_⟩
 have h1 := h.1 r hr
 unfold shortB at h1
 simp only [Bool.and_eq_true, decide_eq_true_eq] at h1
 exact ⟨(hin r hr).1, by omega, by omega, by omega, (hin r hr).2⟩
theorem ok_few {L : LayD} {S : St} (h : stOk L S = true) (hw : L.w ≤ 16) : lvFew S.ls := fun x hx => by
 have h := (stOk_ls h).2 x hx
 omega
structure StF (S : St) : Prop where
 lv : lvFew S.ls
 n1 : S.ls.length ≤ 100000
 n2 : S.ms.length ≤ 8000
 n3 : S.nt.length ≤ 90000
end Go.Proofs.YtjgjofepedcfnaaGreat
namespace Go.Proofs.YtjgjofepedcfnaaGreat
open Go.RowKit
def stepS (L : LayD) (S : St) (r : Rcd) : St := if (applyS L S r).2 = 0 then (applyS L S r).1 else S
def runS (L : LayD) (S : St) (rs : List Rcd) : St := rs.foldl (stepS L) S
section
variable {L : LayD} {S : St}
theorem runS_succ {rs : List Rcd} {k : Nat} {r : Rcd} (h : rs[k]? = some r) : runS L S (rs.take (k + 1)) = stepS L (runS L S (rs.take k)) r := by
 unfold runS
 rw [List.take_add_one, h, show (some r).toList = [r] from rfl, List.foldl_append]
 rfl
theorem stepS_ok {r : Rcd} (h : stOk L S = true) : stOk L (stepS L S r) = true ∧ (stepS L S r).ms.length ≤ S.ms.length + 64 ∧ (stepS L S r).nt.length ≤ S.nt.length + 1 := by
 unfold stepS
 by_cases h0 : (applyS L S r).2 = 0
 ·rw [if_pos h0]
  exact applyS_ok h h0
 ·rw [if_neg h0]
  exact ⟨h, by omega, by omega⟩
theorem runS_ok : ∀ (rs : List Rcd) (S : St), stOk L S = true → stOk L (runS L S rs) = true ∧ (runS L S rs).ms.length ≤ S.ms.length + 64 * rs.length ∧ (runS L S rs).nt.length ≤ S.nt.length + rs.length
 | [], S, h => ⟨h, by simp [runS], by simp [runS]⟩
 | r :: rs, S, h => by
  obtain ⟨h1, h2, h3⟩ := stepS_ok (r := r) h
  obtain ⟨g1, g2, g3⟩ := runS_ok rs _ h1
  simp only [List.length_cons]
  exact ⟨g1, by show (runS L (stepS L S r) rs).ms.length ≤ _; omega, by show (runS L (stepS L S r) rs).nt.length ≤ _; omega⟩
theorem runS_few {rs : List Rcd} {k : Nat} (hn : rs.length ≤ 10) : stOk L (runS L (newS L) (rs.take k)) = true ∧ (runS L (newS L) (rs.take k)).ms.length ≤ 640 ∧ (runS L (newS L) (rs.take k)).nt.length ≤ 10 := by
 obtain ⟨h1, h2, h3⟩ := runS_ok (rs.take k) (newS L) (newS_ok L)
 have h4 : (rs.take k).length ≤ rs.length := by rw [List.length_take]; omega
 have h5 : (newS L).ms.length = 0 := rfl
 have h6 : (newS L).nt.length = 0 := rfl
 exact ⟨h1, by omega, by omega⟩
theorem ok_f (h : stOk L S = true) (hw : L.w ≤ 16) (hG : L.G ≤ 100000) (h1 : S.ms.length ≤ 8000) (h2 : S.nt.length ≤ 90000) : StF S := ⟨ok_few h hw, by rw [(stOk_ls h).1]; exact hG, h1, h2⟩
end
structure RunI (F : Nat → Prop) (w6 : World) (X Y : Nat) (L : LayD) (A : Option Addr) (c : Nat) (a b d : Value) (S : St) (wr : World) : Prop where
 agr : Agr (fun k => k = Y) w6 wr
 lay : LayB w6 X L A c
 gx : GsV w6 X A L.gs
 xy : X < Y
 yl : Y < w6.heap.size
 blk : wr.heap[Y]? = some (.cells #[a, b, d] 45 (0, 0))
 fy : F Y
 st : StK F wr (.agg #[a, b, d]) S
section
variable {F : Nat → Prop} {w6 wr w' : World} {X Y c : Nat} {L : LayD} {A : Option Addr} {a b d a1 b1 d1 : Value} {S S' : St}
theorem RunI.bel (h : RunI F w6 X Y L A c a b d S wr) : Below Y w6 wr := h.agr.below (fun k _ e => by omega) (Nat.le_of_lt h.yl)
theorem RunI.lt (h : RunI F w6 X Y L A c a b d S wr) : X < wr.heap.size ∧ Y < wr.heap.size := by
 have h1 := h.agr.size
 have h2 := h.xy
 have h3 := h.yl
 omega
theorem RunI.layr (h : RunI F w6 X Y L A c a b d S wr) : LayB wr X L A c := (h.bel.block _ h.xy).trans h.lay
theorem RunI.gxr (h : RunI F w6 X Y L A c a b d S wr) : GsV wr X A L.gs := h.gx.below h.bel (Nat.le_of_lt h.xy)
theorem RunI.call (h : RunI F w6 X Y L A c a b d S wr) (hb : Below wr.heap.size wr w') : RunI F w6 X Y L A c a b d S w' :=
 ⟨h.agr.call hb, h.lay, h.gx, h.xy, h.yl, (hb.block _ h.lt.2).trans h.blk, h.fy, h.st.call hb⟩
theorem RunI.cells (h : RunI F w6 X Y L A c a b d S wr) : wr.cell? ⟨Y, 0, none⟩ = some a ∧ wr.cell? ⟨Y, 1, none⟩ = some b ∧ wr.cell? ⟨Y, 2, none⟩ = some d :=
 ⟨by rw [cell_of_row _ _ _ _ _ _ h.blk]; rfl, by rw [cell_of_row _ _ _ _ _ _ h.blk]; rfl, by rw [cell_of_row _ _ _ _ _ _ h.blk]; rfl⟩
theorem RunI.next (h : RunI F w6 X Y L A c a b d S wr) (hb : Below wr.heap.size wr w') (hs : StK F w' (.agg #[a1, b1, d1]) S') :
  RunI F w6 X Y L A c a1 b1 d1 S' (((w'.setCell ⟨Y, 0, none⟩ a1).setCell ⟨Y, 1, none⟩ b1).setCell ⟨Y, 2, none⟩ d1) :=
 ⟨(h.agr.call hb).trans (agr_three (E := fun k => k = Y) rfl _ _ _), h.lay, h.gx, h.xy, h.yl, heap_setCell_same _ _ 2 _ _ _ (heap_setCell_same _ _ 1 _ _ _ (heap_setCell_same _ _ 0 _ _ _ ((hb.block _ h.lt.2).trans h.blk))), h.fy, hs.step (agr_three h.fy _ _ _)⟩
theorem RunI.apply (h : RunI F w6 X Y L A c a b d S wr) (hx : LayX L) {rv : Value} {r : Rcd} (hok : stOk L S = true) (h1 : S.ms.length ≤ 8000) (h2 : S.nt.length ≤ 90000) (hro : RcdOk r) (hr : RcdV wr wr.heap.size rv r) {W : World} (hW : Below wr.heap.size wr W) :
  Calls Tryz.prog 18 #[.agg #[.int .i64 L.disks, .slice A L.n c, .int .i64 L.tiles, .int .i64 L.spare], .agg #[a, b, d], rv] W fun e w' => (∃ v', e = .returned (.tuple #[v', .int .i64 (applyS L S r).2]) ∧ StK (fun k => (F k ∨ k = wr.heap.size) ∧ k < W.heap.size) w' v' (applyS L S r).1) ∧ Below W.heap.size W w' ∧ Below wr.heap.size wr w' := by
 have hG := hx.ok.G
 have hl := h.lt
 have g := r50apply (c := c) (fun k => (F k ∨ k = wr.heap.size) ∧ k < W.heap.size) W hx ((h.gxr.more (Nat.le_of_lt hl.1)).below hW (Nat.le_refl _)) (h.st.to (.of hW) fun i hi e => by
  rcases e.1 with e | e
  ·exact e
  ·omega) (fun k hk => hk.2) (hr.below hW (Nat.le_refl _)) hW.size hro (by rw [(stOk_ls hok).1]; omega) (by omega) (by omega)
 have e1 : applyR L S r = applyS L S r := by unfold applyR; rw [if_pos hok]
 rw [e1] at g
 unfold layAgg at g
 exact g.mono fun e w' hh => ⟨hh.1, hh.2, hW.trans (hh.2.mono hW.size)⟩
def RuQ (F : Nat → Prop) (wr : World) (S : St) (er : Int) (s13 s14 : Value) (wx : World) : Prop := ∃ D D1 d1 D2 d2 D3 d3, s13 = .pointer (some ⟨D, 0, none⟩) ∧ s14 = .int .i64 er ∧ wr.heap.size ≤ D ∧ wx.heap[D]? = some (.cells #[.slice D1 S.ls.length d1, .slice D2 S.ms.length d2, .slice D3 S.nt.length d3] 45 (0, 0)) ∧ StK F wx (.agg #[.slice D1 S.ls.length d1, .slice D2 S.ms.length d2, .slice D3 S.nt.length d3]) S ∧ Below wr.heap.size wr wx
variable {wB : World} {D1 D2 D3 : Option Addr} {e1 e2 e3 n : Nat} {er : Int}
theorem RuQ.early {z0 z1 z2 : Value} (hs : StK (fun k => (F k ∨ k = wr.heap.size) ∧ k < n) wB (.agg #[.slice D1 S.ls.length e1, .slice D2 S.ms.length e2, .slice D3 S.nt.length e3]) S) (hn : wr.heap.size < n) (hF : ∀ k, F k → k < wr.heap.size) (hb : Below wr.heap.size wr wB) (hz : wB.heap[wr.heap.size]? = some (.cells #[z0, z1, z2] 45 (0, 0))) :
  RuQ F wr S er (.pointer (some ⟨wr.heap.size, 0, none⟩)) (.int .i64 er) (((wB.setCell ⟨wr.heap.size, 0, none⟩ (.slice D1 S.ls.length e1)).setCell ⟨wr.heap.size, 1, none⟩ (.slice D2 S.ms.length e2)).setCell ⟨wr.heap.size, 2, none⟩ (.slice D3 S.nt.length e3)) :=
 ⟨_, D1, e1, D2, e2, D3, e3, rfl, rfl, Nat.le_refl _, heap_setCell_same _ _ 2 _ _ _ (heap_setCell_same _ _ 1 _ _ _ (heap_setCell_same _ _ 0 _ _ _ hz)), (hs.step (agr_three ⟨.inr rfl, hn⟩ _ _ _)).less fun k _ e => ⟨.inl e, by have := hF k e; omega⟩, ((hb.setCell (Nat.le_refl _) _).setCell (Nat.le_refl _) _).setCell (Nat.le_refl _) _⟩
theorem RuQ.late (hs : StK (fun k => (F k ∨ k = wr.heap.size) ∧ k < n) wB (.agg #[.slice D1 S.ls.length e1, .slice D2 S.ms.length e2, .slice D3 S.nt.length e3]) S) (hn : wr.heap.size ≤ n) (hF : ∀ k, F k → k < wr.heap.size) (hb : Below wr.heap.size wr wB) :
  RuQ F wr S er (.pointer (some ⟨wB.heap.size, 0, none⟩)) (.int .i64 er) (wB.alloc (.cells #[.slice D1 S.ls.length e1, .slice D2 S.ms.length e2, .slice D3 S.nt.length e3] 45)) :=
 ⟨_, D1, e1, D2, e2, D3, e3, rfl, rfl, hb.size, heap_alloc_new wB _, (hs.call below_laid).less fun k _ e => ⟨.inl e, by have := hF k e; omega⟩, hb.alloc hb.size _⟩
end
section
variable {w wB : World} {T : TypeId} {S : St} {er : Int} {D1 D2 D3 : Option Addr} {d1 d2 d3 n : Nat}
end
end Go.Proofs.YtjgjofepedcfnaaGreat
