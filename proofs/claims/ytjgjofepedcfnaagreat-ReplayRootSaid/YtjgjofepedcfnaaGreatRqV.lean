/- What the laws of layer 50 keep in memory: layouts and states in boxes; what All leaves, behind its drawn region. No program is walked here. -/
import Derived.Test.YtjgjofepedcfnaaGreatRqT
namespace Go.Proofs.YtjgjofepedcfnaaGreat
open Go.RowKit
structure LxI (w : World) (X : Nat) (L : LayD) (A : Option Addr) (c : Nat) (wr : World) : Prop where
 bel : Below w.heap.size w wr
 lay : LayB wr X L A c
 gx : GsV wr X A L.gs
structure Bx (w : World) (X : Nat) (T : TypeId) (a b c : Value) (S : St) : Prop where
 blk : w.heap[X]? = some (.cells #[a, b, c] T (0, 0))
 st : StV w w.heap.size (.agg #[a, b, c]) S
section
variable {w wr w' : World} {X c : Nat} {L : LayD} {A : Option Addr} {T : TypeId} {a b d : Value} {S : St}
theorem LayB.lt2 (h : LayB w X L A c) : X < w.heap.size := (Array.getElem?_eq_some_iff.1 h).1
theorem LxI.below (h : LxI w X L A c wr) (hb : Below wr.heap.size wr w') : LxI w X L A c w' :=
 ⟨h.bel.trans (hb.mono h.bel.size), h.lay.below hb h.lay.lt2, h.gx.below hb (Nat.le_of_lt h.lay.lt2)⟩
theorem LxI.gs (h : LxI w X L A c wr) : GsV wr wr.heap.size A L.gs := h.gx.more (Nat.le_of_lt h.lay.lt2)
theorem Bx.lt (h : Bx w X T a b d S) : X < w.heap.size := (Array.getElem?_eq_some_iff.1 h.blk).1
theorem Bx.below (h : Bx w X T a b d S) (hb : Below w.heap.size w w') : Bx w' X T a b d S :=
 ⟨(hb.block _ h.lt).trans h.blk, (h.st.below hb (Nat.le_refl _)).more hb.size⟩
theorem Bx.cells (h : Bx w X T a b d S) : w.cell? ⟨X, 0, none⟩ = some a ∧ w.cell? ⟨X, 1, none⟩ = some b ∧ w.cell? ⟨X, 2, none⟩ = some d :=
 ⟨by rw [cell_of_row _ _ _ _ _ _ h.blk]; rfl, by rw [cell_of_row _ _ _ _ _ _ h.blk]; rfl, by rw [cell_of_row _ _ _ _ _ _ h.blk]; rfl⟩
theorem Bx.made (h : StV w w.heap.size (.agg #[a, b, d]) S) (T : TypeId) : Bx (w.alloc (.cells #[a, b, d] T)) w.heap.size T a b d S :=
 ⟨heap_alloc_new w _, (h.below below_laid (Nat.le_refl _)).more (by simp)⟩
theorem pws_keep {l : List Pw} (h : PwS w w.heap.size A l) (hb : Below w.heap.size w w') : PwS w' w'.heap.size A l := RdS.more (RdS.below' h hb (Nat.le_refl _)) hb.size
theorem RcsS.keep {rs : List Rcd} (h : RcsS w w.heap.size A rs) (hb : Below w.heap.size w w') : RcsS w' w'.heap.size A rs := (h.below hb (Nat.le_refl _)).more hb.size
end
def AllV (E : Nat → Prop) (S : St) (er : Int) (ws : List Pw) (w' : World) (e : Ending) : Prop := ∃ v' A ts c, e = .returned (.tuple #[v', .slice A ts.length c, .int .i64 er]) ∧ StE E w' v' S ∧ (Stb E w' fun V => PwS V V.heap.size A ts) ∧ (er = 0 → SrtW ws ts) ∧ (er ≠ 0 → ts = [])
theorem AllP.v {E : Nat → Prop} {L : LayD} {S : St} {rs : List Rcd} {w' : World} {e : Ending} (h : AllP E L S rs w' e) : AllV E (allR L S rs).1 (allR L S rs).2 (allW rs) w' e := h
def AlQ (w : World) (T : TypeId) (S : St) (er : Int) (ws : List Pw) (s8 s9 s10 : Value) (wx : World) : Prop := ∃ D D1 d1 D2 d2 D3 d3 At ts ct, s8 = .pointer (some ⟨D, 0, none⟩) ∧ s9 = .slice At ts.length ct ∧ s10 = .int .i64 er ∧ Bx wx D T (.slice D1 S.ls.length d1) (.slice D2 S.ms.length d2) (.slice D3 S.nt.length d3) S ∧ PwS wx wx.heap.size At ts ∧ (er = 0 → SrtW ws ts) ∧ (er ≠ 0 → ts = []) ∧ Below w.heap.size w wx
section
variable {w wB : World} {T : TypeId} {S : St} {er : Int} {ws : List Pw} {D1 D2 D3 At : Option Addr} {d1 d2 d3 ct n : Nat} {ts : List Pw}
theorem AlQ.early {D : Nat} (hse : StE (fun k => k < n) wB (.agg #[.slice D1 S.ls.length d1, .slice D2 S.ms.length d2, .slice D3 S.nt.length d3]) S) (hpw : Stb (fun k => k < n) wB fun V => PwS V V.heap.size At ts) (hs1 : er = 0 → SrtW ws ts) (hs0 : er ≠ 0 → ts = []) (hb : Below w.heap.size w wB) {z0 z1 z2 : Value} (hz : wB.heap[D]? = some (.cells #[z0, z1, z2] T (0, 0))) (hD : D < n) (hD2 : w.heap.size ≤ D) :
  AlQ w T S er ws (.pointer (some ⟨D, 0, none⟩)) (.slice At ts.length ct) (.int .i64 er) (((wB.setCell ⟨D, 0, none⟩ (.slice D1 S.ls.length d1)).setCell ⟨D, 1, none⟩ (.slice D2 S.ms.length d2)).setCell ⟨D, 2, none⟩ (.slice D3 S.nt.length d3)) :=
 have ha : Agr (fun k => k < n) wB (((wB.setCell ⟨D, 0, none⟩ (.slice D1 S.ls.length d1)).setCell ⟨D, 1, none⟩ (.slice D2 S.ms.length d2)).setCell ⟨D, 2, none⟩ (.slice D3 S.nt.length d3)) := agr_three (E := fun k => k < n) hD _ _ _
 ⟨D, D1, d1, D2, d2, D3, d3, At, ts, ct, rfl, rfl, rfl, ⟨heap_setCell_same _ _ 2 _ _ _ (heap_setCell_same _ _ 1 _ _ _ (heap_setCell_same _ _ 0 _ _ _ hz)), hse _ ha⟩, hpw _ ha, hs1, hs0, ((hb.setCell hD2 _).setCell hD2 _).setCell hD2 _⟩
theorem AlQ.late (hse : StE (fun k => k < n) wB (.agg #[.slice D1 S.ls.length d1, .slice D2 S.ms.length d2, .slice D3 S.nt.length d3]) S) (hpw : Stb (fun k => k < n) wB fun V => PwS V V.heap.size At ts) (hs1 : er = 0 → SrtW ws ts) (hs0 : er ≠ 0 → ts = []) (hb : Below w.heap.size w wB) :
  AlQ w T S er ws (.pointer (some ⟨wB.heap.size, 0, none⟩)) (.slice At ts.length ct) (.int .i64 er) (wB.alloc (.cells #[.slice D1 S.ls.length d1, .slice D2 S.ms.length d2, .slice D3 S.nt.length d3] T)) :=
 ⟨wB.heap.size, D1, d1, D2, d2, D3, d3, At, ts, ct, rfl, rfl, rfl, ⟨heap_alloc_new wB _, hse _ (Agr.of below_laid)⟩, hpw _ (Agr.of below_laid), hs1, hs0, hb.alloc hb.size _⟩
end
theorem few_ok {rs : List Rcd} (h : fewB rs = true) (hin : ∀ r ∈ rs, r.seq < 18446744073709551616 ∧ ∀ x ∈ r.ws, x.d.ok) : rs.length ≤ 10 ∧ ∀ r ∈ rs, RcdOk r := by
 unfold fewB at h
 simp only [Bool.and_eq_true, decide_eq_true_eq, List.all_eq_true] at h
 refine ⟨h.2, fun r hr => ?_⟩
 have h1 := h.1 r hr
 unfold shortB at h1
 simp only [Bool.and_eq_true, decide_eq_true_eq] at h1
 exact ⟨(hin r hr).1, by omega, by omega, by omega, (hin r hr).2⟩
theorem new_lv (L : LayD) (hw : L.w ≤ 16) : lvFew (newS L).ls := fun x hx => by
 have h := (stOk_ls (newS_ok L)).2 x hx
 omega
theorem ok_few {L : LayD} {S : St} (h : stOk L S = true) (hw : L.w ≤ 16) : lvFew S.ls := fun x hx => by
 have h := (stOk_ls h).2 x hx
 omega
structure StF (S : St) : Prop where
 lv : lvFew S.ls
 n1 : S.ls.length ≤ 100000
 n2 : S.ms.length ≤ 8000
 n3 : S.nt.length ≤ 90000
theorem StF.zero : StF St.zero := ⟨(fun x hx => by cases hx), by decide, by decide, by decide⟩
theorem allR_few {L : LayD} {S : St} {rs : List Rcd} (hw : L.w ≤ 16) (hG : L.G ≤ 100000) (hn : rs.length ≤ 10) (h1 : S.ms.length ≤ 7000) (h2 : S.nt.length ≤ 80000) : StF (allR L S rs).1 := by
 unfold allR
 by_cases h : stOk L S = true
 ·rw [if_pos h]
  by_cases h0 : (allF L S rs).2 = 0
  ·obtain ⟨g1, g2, g3⟩ := allF_ok rs S h h0
   exact ⟨ok_few g1 hw, by rw [(stOk_ls g1).1]; exact hG, by omega, by omega⟩
  ·rw [allF_zero h0]
   exact StF.zero
 ·rw [if_neg h]
  exact StF.zero
theorem newS_f {L : LayD} (hw : L.w ≤ 16) (hG : L.G ≤ 100000) : StF (newS L) := ⟨new_lv L hw, by show (zeroLs L L.G).length ≤ _; rw [zeroLs_len]; exact hG, by simp [newS], by simp [newS]⟩
theorem allW_big {rs : List Rcd} (h : ∀ r ∈ rs, RcdOk r) : (allW rs).length ≤ 1000000 * rs.length := by
 unfold allW
 induction rs with
 | nil => simp
 | cons x xs ih =>
  rw [List.flatMap_cons, List.length_append, List.length_cons]
  have h1 := ih fun r hr => h r (List.mem_cons_of_mem _ hr)
  have h2 := (h x List.mem_cons_self).nw
  omega
theorem ts_big {rs : List Rcd} {er : Int} {ts : List Pw} (h : ∀ r ∈ rs, RcdOk r) (hn : rs.length ≤ 10) (h1 : er = 0 → SrtW (allW rs) ts) (h0 : er ≠ 0 → ts = []) : ts.length ≤ 10000000 := by
 by_cases he : er = 0
 ·have := srtW_len (h1 he)
  have := allW_big h
  omega
 ·rw [h0 he]
  simp
end Go.Proofs.YtjgjofepedcfnaaGreat
