/- What the laws of layer 50 keep in memory: layouts and states in boxes; what All leaves, behind its drawn region. No program is walked here. -/
import Derived.Test.YtjgjofepedcfnaaGreatRqT
namespace Go.Proofs.YtjgjofepedcfnaaGreat
open Go.RowKit
structure LxI (w : World) (X : Nat) (L : LayD) (A : Option Addr) (c : Nat) (wr : World) : Prop where
 bel : Below w.heap.size w wr
 lay : LayB wr X L A c
 gx : GsV wr X A L.gs
structure Bx (w : World) (X : Nat) (T : TypeId) (a b c : Value) (S : St) : Prop where
 blk : w.heap[X]? = some (.cells #[a, b, c] T (0, 0))
 st : StV w w.heap.size (.agg #[a, b, c]) S
section
variable {w wr w' : World} {X c : Nat} {L : LayD} {A : Option Addr} {T : TypeId} {a b d : Value} {S : St}
theorem LayB.lt2 (h : LayB w X L A c) : X < w.heap.size := (Array.getElem?_eq_some_iff.1 h).1
theorem LxI.below (h : LxI w X L A c wr) (hb : Below wr.heap.size wr w') : LxI w X L A c w' :=
 ⟨h.bel.trans (hb.mono h.bel.size), h.lay.below hb h.lay.lt2, h.gx.below hb (Nat.le_of_lt h.lay.lt2)⟩
theorem LxI.gs (h : LxI w X L A c wr) : GsV wr wr.heap.size A L.gs := h.gx.more (Nat.le_of_lt h.lay.lt2)
theorem Bx.lt (h : Bx w X T a b d S) : X < w.heap.size := (Array.getElem?_eq_some_iff.1 h.blk).1
theorem Bx.below (h : Bx w X T a b d S) (hb : Below w.heap.size w w') : Bx w' X T a b d S :=
 ⟨(hb.block _ h.lt).trans h.blk, (h.st.below hb (Nat.le_refl _)).more hb.size⟩
theorem Bx.cells (h : Bx w X T a b d S) : w.cell? ⟨X, 0, none⟩ = some a ∧ w.cell? ⟨X, 1, none⟩ = some b ∧ w.cell? ⟨X, 2, none⟩ = some d :=
 ⟨by rw [cell_of_row _ _ _ _ _ _ h.blk]; rfl, by rw [cell_of_row _ _ _ _ _ _ h.blk]; rfl, by rw [cell_of_row _ _ _ _ _ _ h.blk]; rfl⟩
theorem Bx.made (h : StV w w.heap.size (.agg #[a, b, d]) S) (T : TypeId) : Bx (w.alloc (.cells #[a, b, d] T)) w.heap.size T a b d S :=
 ⟨heap_alloc_new w _, (h.below below_laid (Nat.le_refl _)).more (by simp)⟩
theorem RcsS.keep {rs : List Rcd} (h : RcsS w w.heap.size A rs) (hb : Below w.heap.size w w') : RcsS w' w'.heap.size A rs := (h.below hb (Nat.le_refl _)).more hb.size
end
def AllV (E : Nat → Prop) (S : St) (er : Int) (ws : List Pw) (w' : World) (e : Ending) : Prop := ∃ v' A ts c, e = .returned (.tuple #[v', .slice A ts.length c, .int .i64 er]) ∧ StE E w' v' S ∧ (Stb E w' fun V => PwS V V.heap.size A ts) ∧ (er = 0 → SrtW ws ts) ∧ (er ≠ 0 → ts = [])
theorem AllP.v {E : Nat → Prop} {L : LayD} {S : St} {rs : List Rcd} {w' : World} {e : Ending} (h : AllP E L S rs w' e) : AllV E (allR L S rs).1 (allR L S rs).2 (allW rs) w' e := h
section
variable {w wB : World} {T : TypeId} {S : St} {er : Int} {ws : List Pw} {D1 D2 D3 At : Option Addr} {d1 d2 d3 ct n : Nat} {ts : List Pw}
end
theorem ok_few {L : LayD} {S : St} (h : stOk L S = true) (hw : L.w ≤ 16) : lvFew S.ls := fun x hx => by
 have h := (stOk_ls h).2 x hx
 omega
structure StF (S : St) : Prop where
 lv : lvFew S.ls
 n1 : S.ls.length ≤ 100000
 n2 : S.ms.length ≤ 8000
 n3 : S.nt.length ≤ 90000
theorem StF.zero : StF St.zero := ⟨(fun x hx => by cases hx), by decide, by decide, by decide⟩
end Go.Proofs.YtjgjofepedcfnaaGreat
