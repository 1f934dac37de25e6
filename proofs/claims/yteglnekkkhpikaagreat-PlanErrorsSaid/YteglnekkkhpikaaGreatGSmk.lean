/- Walk of tegulalaw22.copied.
Walks of the laws' own small functions: tegulalaw22.marks, tegularef02.SameInts.
Arguments of the laws of layer 22, opened: a number of 16 bits, a list of bytes, two ints, a request, a move, a list of moves.
Walk of tegulalaw22.awake: the document's examples.
What the walks of the laws of layer 22 share. -/
import Derived.Test.YteglnekkkhpikaaGreatTwW
import Derived.Test.YteglnekkkhpikaaGreatTwE
import Derived.Test.YteglnekkkhpikaaGreatTwX
import Derived.Test.YteglnekkkhpikaaGreatSmB
import Derived.Test.YteglnekkkhpikaaGreatSmD
import Derived.BigQuiet
import Derived.Deep.Slices
import Derived.Deep.Fields
import Derived.ChangeSame
import Derived.OpenShut
import Derived.WideShapes
namespace Go.Proofs.YteglnekkkhpikaaGreat
open Go.RowKit

end Go.Proofs.YteglnekkkhpikaaGreat
namespace Go.Proofs.YteglnekkkhpikaaGreat
open Go.RowKit

theorem testBit_mod (x d : Nat) : x.testBit d = decide (x / 2 ^ d % 2 = 1) := Nat.testBit_eq_decide_div_mod_eq
theorem marks_one {d which : Nat} (hD : d < 16) (h1 : which / 2 ^ d % 2 = 1) (h2 : (marksTo which d).2 < 3) : marksTo which (d + 1) = ((marksTo which d).1 ++ [true], (marksTo which d).2 + 1) := by
  rw [marksTo]
  simp only
  rw [if_pos ⟨hD, by rw [testBit_mod]; simpa using h1, h2⟩]
theorem marks_not {d which : Nat} (h : ¬ (which / 2 ^ d % 2 = 1 ∧ (marksTo which d).2 < 3)) : marksTo which (d + 1) = ((marksTo which d).1 ++ [false], (marksTo which d).2) := by
  rw [marksTo]
  simp only
  rw [if_neg (fun h' => h ⟨by have := h'.2.1; rw [testBit_mod] at this; simpa using this, h'.2.2⟩)]
theorem marks_le (which d : Nat) : (marksTo which d).2 ≤ 3 := by
  induction d with
  | zero => simp [marksTo]
  | succ d ih =>
    rw [marksTo]
    simp only
    split
    · rename_i h; exact h.2.2
    · exact ih
theorem and_one16 (q : Nat) (hq : q < 65536) : bits .and .u16 (q : Int) 1 = ((q % 2 : Nat) : Int) := by
  have e : (BitVec.ofInt 16 (q : Int) &&& BitVec.ofInt 16 1).toNat = q % 2 := by
    rw [BitVec.toNat_and]
    have h1 : (BitVec.ofInt 16 (q : Int)).toNat = q := by rw [BitVec.toNat_ofInt]; omega
    have h2 : (BitVec.ofInt 16 1).toNat = 1 := by decide
    rw [h1, h2]
    exact Nat.and_one_is_mod q
  unfold bits
  show IntKind.u16.wrap (((BitVec.ofInt 16 (q : Int) &&& BitVec.ofInt 16 1).toNat : Nat) : Int) = _
  rw [e]
  simp [IntKind.wrap, IntKind.bits, IntKind.signed]
  omega
def Mrk1 (D which : Nat) (w : World) (s6 s7 : Value) (wr : World) : Prop := ∃ d : Nat, d ≤ D ∧ s7 = .int .i64 d ∧ s6 = .int .i64 ((marksTo which d).2 : Int) ∧
  OwS wr w.heap.size 4 1 (.slice (some ⟨w.heap.size, 0, none⟩) D D) (rowsB ((marksTo which d).1 ++ List.replicate (D - d) false)) ∧ Below w.heap.size w wr
theorem rows_set {l : List Bool} {D d : Nat} (hl : l.length = d) (hd : d < D) : (rowsB (l ++ List.replicate (D - d) false)).set d [.bool true] = rowsB ((l ++ [true]) ++ List.replicate (D - (d + 1)) false) := by
  obtain ⟨k, hk⟩ : ∃ k, D - d = k + 1 := ⟨D - d - 1, by omega⟩
  rw [hk, show D - (d + 1) = k by omega, List.replicate_succ, List.append_assoc]
  unfold rowsB
  simp [List.map_append, hl]
theorem rows_no {l : List Bool} {D d : Nat} (hd : d < D) : rowsB (l ++ List.replicate (D - d) false) = rowsB ((l ++ [false]) ++ List.replicate (D - (d + 1)) false) := by
  obtain ⟨k, hk⟩ : ∃ k, D - d = k + 1 := ⟨D - d - 1, by omega⟩
  rw [hk, show D - (d + 1) = k by omega, List.replicate_succ, List.append_assoc]
  rfl
end Go.Proofs.YteglnekkkhpikaaGreat
namespace Go.Proofs.YteglnekkkhpikaaGreat
open Go.ChangeShapes Go.WideShapes Go.Deep Go.RowKit

theorem word_nat {n : Int} (h : (Lit.int .u16 n).wf = true) : ∃ m : Nat, n = m ∧ m < 65536 := by
  rw [Lit.wf_int_iff, IntKind.min_u16, IntKind.max_u16] at h
  exact ⟨n.toNat, by omega, by omega⟩
/-- a place of two ints of 64 bits -/
def PlWfS (t : Plc) : Prop := (Lit.int .i64 t.disk).wf = true ∧ (Lit.int .i64 t.block).wf = true
def MvWfS (m : Mv) : Prop := (Lit.int .i64 m.g).wf = true ∧ (Lit.int .i64 m.p).wf = true ∧ PlWfS m.to
theorem cells_byteS : Tryz.prog.cellsOf 5 = 1 := by kernel_rfl
theorem cells_intS : Tryz.prog.cellsOf 3 = 1 := by kernel_rfl
theorem cells_wordS : Tryz.prog.cellsOf 22 = 1 := by kernel_rfl
theorem cells_pair : Tryz.prog.cellsOf 57 = 2 := by kernel_rfl
theorem cells_place : Tryz.prog.cellsOf 50 = 2 := by kernel_rfl
theorem cells_move : Tryz.prog.cellsOf 62 = 4 := by kernel_rfl
theorem twoS {α : Type} {l : List α} (h : l.length = 2) : ∃ a b, l = [a, b] := by
  match l, h with
  | [a, b], _ => exact ⟨a, b, rfl⟩
theorem threeS {α : Type} {l : List α} (h : l.length = 3) : ∃ a b c, l = [a, b, c] := by
  match l, h with
  | [a, b, c], _ => exact ⟨a, b, c, rfl⟩
theorem fourS {α : Type} {l : List α} (h : l.length = 4) : ∃ a b c d, l = [a, b, c, d] := by
  match l, h with
  | [a, b, c, d], _ => exact ⟨a, b, c, d, rfl⟩
/-- a list of bytes -/
theorem open_bytesS {H : Type} {enc : TypeId × Value → H} {w : World} {base : Nat} {spare : Nat → Bool} {held : Bool} {n : Nat} {cs : List Value} {x : DataW H × List MemPlace}
    (h : DataW.trod enc Tryz.prog w base spare held n 23 cs = some x) : ∃ (l : List Nat) (A : Option Addr) (c : Nat), cs = [.slice A l.length c] ∧ BytR w w.heap.size A l ∧ ∀ x ∈ l, x < 256 := by
  rcases open_slice Tryz.underlying23 h with ⟨hcs, -⟩ | ⟨a, len, cap, m, k, D, Pl, hcs, hb, hl, hm, hmm, hx, hi⟩
  · exact ⟨[], none, 0, hcs, RdS.nil _ _ _ _, by simp⟩
  · rw [cells_byteS] at hi
    have hle : len ≤ m := by rw [hmm]; split <;> omega
    have hE : ∀ i, ∃ e : Nat, i < len → (∀ j v, (bytC e)[j]? = some v → w.cell? (a.add (i * 1 + j)) = some v) ∧ e < 256 := fun i => by
      by_cases him : i < len
      · obtain ⟨cs', hc, ht⟩ := hi i (by omega)
        obtain ⟨n0, e0, -, w0⟩ := DataW.trod_int Tryz.underlying5 ht
        obtain ⟨x, rfl, hx⟩ := byte_nat w0
        subst e0
        obtain ⟨_, hcl, hat⟩ := World.cells?_some hc
        refine ⟨x, fun _ => ⟨fun j v hj => ?_, hx⟩⟩
        have hj6 : j < 1 := (List.getElem?_eq_some_iff.1 hj).1
        rw [← Go.Deep.add_add, hat j hj6, ← hj]
        rfl
      · exact ⟨0, fun h => absurd h him⟩
    obtain ⟨f, hf⟩ := Classical.axiomOfChoice hE
    refine ⟨(List.range len).map f, some a, cap, by simpa using hcs, ⟨by simp [bytC], fun h0 => ?_⟩, fun e he => ?_⟩
    · have h0' : 0 < len := by simpa using h0
      have hc0 := (hf 0 h0').1 0 _ rfl
      obtain ⟨b, off, spot⟩ := a
      have hspot : spot = none := by simpa [Addr.add] using World.cell?_spot hc0
      subst hspot
      refine ⟨b, off, rfl, by simpa [Addr.add] using block_lt_of_cell hc0, fun i r hr j v hj => ?_⟩
      have hil : i < len := by
        have := (List.getElem?_eq_some_iff.1 hr).1
        simpa using this
      have hrr : r = bytC (f i) := by
        rw [List.getElem?_map, List.getElem?_map, List.getElem?_range hil] at hr
        simpa using hr.symm
      subst hrr
      have := (hf i hil).1 j v hj
      rw [show (⟨b, off, none⟩ : Addr).add (i * 1 + j) = ⟨b, off + (i * 1 + j), none⟩ from Addr.add_lit _ _ _] at this
      rw [Nat.add_assoc]
      exact this
    · obtain ⟨i, hi', rfl⟩ := List.mem_map.1 he
      exact (hf i (List.mem_range.1 hi')).2
set_option maxRecDepth 100000 in
theorem okWide_arrayS {P : Program} {w : World} {r : Reach} {base : Nat} {t e : TypeId} {m : Nat} {v : Value} (ht : P.underlying t = some (.array m e)) (h : Value.okWide P w r base t v) : ∃ cs, v = .agg cs ∧ cs.size = P.cellsOf t := by
  simp only [Value.okWide, ht] at h
  obtain ⟨cs, h1, h2, _⟩ := h
  exact ⟨cs, h1, h2⟩
set_option maxRecDepth 100000 in
/-- two ints -/
theorem open_pairS {H : Type} {enc : TypeId × Value → H} {w : World} {r : Reach} {base b0 : Nat} {spare : Nat → Bool} {held : Bool} {v : Value} {d : DataW H} {p : List MemPlace}
    (hv : Value.okWide Tryz.prog w r b0 57 v) (h : DataW.Trod enc Tryz.prog w base spare held 57 v d p) : ∃ x y : Int, v = .agg #[.int .i64 x, .int .i64 y] ∧ (Lit.int .i64 x).wf = true ∧ (Lit.int .i64 y).wf = true := by
  obtain ⟨cs, rfl, hsz⟩ := okWide_arrayS Tryz.underlying57 hv
  rw [cells_pair] at hsz
  obtain ⟨fuel, hf⟩ := h
  obtain ⟨xs, m, -, -, -, hxl, hel⟩ := DataW.trod_array Tryz.underlying57 hf
  obtain ⟨cl⟩ := cs
  obtain ⟨v0, v1, rfl⟩ := twoS (show cl.length = 2 from hsz)
  obtain ⟨y0, y1, rfl⟩ := twoS (show xs.length = 2 from hxl)
  have h0 : DataW.trod enc Tryz.prog w base spare held m 3 (([v0, v1].drop (0 * Tryz.prog.cellsOf 3)).take (Tryz.prog.cellsOf 3)) = some y0 := hel 0 (by omega)
  have h1 : DataW.trod enc Tryz.prog w base spare held m 3 (([v0, v1].drop (1 * Tryz.prog.cellsOf 3)).take (Tryz.prog.cellsOf 3)) = some y1 := hel 1 (by omega)
  rw [cells_intS] at h0 h1
  obtain ⟨n0, e0, -, w0⟩ := DataW.trod_int Tryz.underlying3 h0
  obtain ⟨n1, e1, -, w1⟩ := DataW.trod_int Tryz.underlying3 h1
  cases e0; cases e1
  exact ⟨n0, n1, rfl, w0, w1⟩
set_option maxRecDepth 100000 in
theorem okWide_structS {P : Program} {w : World} {r : Reach} {base : Nat} {t : TypeId} {fs : Array Field} {v : Value} (ht : P.underlying t = some (.struct fs)) (h : Value.okWide P w r base t v) : ∃ cs, v = .agg cs ∧ cs.size = P.cellsOf t := by
  simp only [Value.okWide, ht] at h
  obtain ⟨cs, h1, h2, _⟩ := h
  exact ⟨cs, h1, h2⟩
theorem open_place1 {H : Type} {enc : TypeId × Value → H} {w : World} {base : Nat} {spare : Nat → Bool} {held : Bool} {n : Nat} {cs : List Value} {x : DataW H × List MemPlace}
    (h : DataW.trod enc Tryz.prog w base spare held n 50 cs = some x) : ∃ t : Plc, cs = [.int .i64 t.disk, .int .i64 t.block] ∧ PlWfS t := by
  obtain ⟨ys, m, -, -, hlen, hyl, hel⟩ := DataW.trod_struct Tryz.underlying50 h
  rw [cells_place] at hlen
  obtain ⟨v0, v1, rfl⟩ := twoS hlen
  obtain ⟨y0, y1, rfl⟩ := twoS (show ys.length = 2 from hyl)
  have h0 : DataW.trod enc Tryz.prog w base spare held m 3 (([v0, v1].drop 0).take (Tryz.prog.cellsOf 3)) = some y0 := hel 0 _ rfl
  have h1 : DataW.trod enc Tryz.prog w base spare held m 3 (([v0, v1].drop 1).take (Tryz.prog.cellsOf 3)) = some y1 := hel 1 _ rfl
  rw [cells_intS] at h0 h1
  obtain ⟨n0, e0, -, w0⟩ := DataW.trod_int Tryz.underlying3 h0
  obtain ⟨n1, e1, -, w1⟩ := DataW.trod_int Tryz.underlying3 h1
  cases e0; cases e1
  exact ⟨⟨n0, n1⟩, rfl, w0, w1⟩
theorem open_move1 {H : Type} {enc : TypeId × Value → H} {w : World} {base : Nat} {spare : Nat → Bool} {held : Bool} {n : Nat} {cs : List Value} {x : DataW H × List MemPlace}
    (h : DataW.trod enc Tryz.prog w base spare held n 62 cs = some x) : ∃ m : Mv, cs = m.cells ∧ MvWfS m := by
  obtain ⟨ys, m, -, -, hlen, hyl, hel⟩ := DataW.trod_struct Tryz.underlying62 h
  rw [cells_move] at hlen
  obtain ⟨v0, v1, v2, v3, rfl⟩ := fourS hlen
  obtain ⟨y0, y1, y2, rfl⟩ := threeS (show ys.length = 3 from hyl)
  have h0 : DataW.trod enc Tryz.prog w base spare held m 3 (([v0, v1, v2, v3].drop 0).take (Tryz.prog.cellsOf 3)) = some y0 := hel 0 _ rfl
  have h1 : DataW.trod enc Tryz.prog w base spare held m 3 (([v0, v1, v2, v3].drop 1).take (Tryz.prog.cellsOf 3)) = some y1 := hel 1 _ rfl
  rw [cells_intS] at h0 h1
  have h2 : DataW.trod enc Tryz.prog w base spare held m 50 (([v0, v1, v2, v3].drop 2).take (Tryz.prog.cellsOf 50)) = some y2 := hel 2 _ rfl
  rw [cells_place] at h2
  obtain ⟨n0, e0, -, w0⟩ := DataW.trod_int Tryz.underlying3 h0
  obtain ⟨n1, e1, -, w1⟩ := DataW.trod_int Tryz.underlying3 h1
  obtain ⟨t, e2, wt⟩ := open_place1 h2
  cases e0; cases e1; cases e2
  exact ⟨⟨n0, n1, t⟩, rfl, w0, w1, wt⟩
set_option maxRecDepth 100000 in
/-- a move -/
theorem open_moveS {H : Type} {enc : TypeId × Value → H} {w : World} {r : Reach} {base b0 : Nat} {spare : Nat → Bool} {held : Bool} {v : Value} {d : DataW H} {p : List MemPlace}
    (hv : Value.okWide Tryz.prog w r b0 62 v) (h : DataW.Trod enc Tryz.prog w base spare held 62 v d p) : ∃ m : Mv, v = m.agg ∧ MvWfS m := by
  obtain ⟨cs, rfl, hsz⟩ := okWide_structS Tryz.underlying62 hv
  obtain ⟨fuel, hf⟩ := h
  obtain ⟨cl⟩ := cs
  obtain ⟨m, rfl, hm⟩ := open_move1 (cs := cl) hf
  exact ⟨m, rfl, hm⟩
/-- a list of moves -/
theorem open_movesS {H : Type} {enc : TypeId × Value → H} {w : World} {base : Nat} {spare : Nat → Bool} {held : Bool} {n : Nat} {cs : List Value} {x : DataW H × List MemPlace}
    (h : DataW.trod enc Tryz.prog w base spare held n 33 cs = some x) : ∃ (l : List Mv) (A : Option Addr) (c : Nat), cs = [.slice A l.length c] ∧ MvS w w.heap.size A l ∧ ∀ m ∈ l, MvWfS m := by
  rcases open_slice Tryz.underlying33 h with ⟨hcs, -⟩ | ⟨a, len, cap, m, k, D, Pl, hcs, hb, hl, hm, hmm, hx, hi⟩
  · exact ⟨[], none, 0, hcs, RdS.nil _ _ _ _, by simp⟩
  · rw [cells_move] at hi
    have hle : len ≤ m := by rw [hmm]; split <;> omega
    have hE : ∀ i, ∃ e : Mv, i < len → (∀ j v, e.cells[j]? = some v → w.cell? (a.add (i * 4 + j)) = some v) ∧ MvWfS e := fun i => by
      by_cases him : i < len
      · obtain ⟨cs', hc, ht⟩ := hi i (by omega)
        obtain ⟨e, rfl, hw⟩ := open_move1 ht
        obtain ⟨_, hcl, hat⟩ := World.cells?_some hc
        refine ⟨e, fun _ => ⟨fun j v hj => ?_, hw⟩⟩
        have hj6 : j < 4 := (List.getElem?_eq_some_iff.1 hj).1
        rw [← Go.Deep.add_add, hat j hj6, hj]
      · exact ⟨⟨0, 0, ⟨0, 0⟩⟩, fun h => absurd h him⟩
    obtain ⟨f, hf⟩ := Classical.axiomOfChoice hE
    refine ⟨(List.range len).map f, some a, cap, by simpa using hcs, ⟨by simp [Mv.cells], fun h0 => ?_⟩, fun e he => ?_⟩
    · have h0' : 0 < len := by simpa using h0
      have hc0 := (hf 0 h0').1 0 _ rfl
      obtain ⟨b, off, spot⟩ := a
      have hspot : spot = none := by simpa [Addr.add] using World.cell?_spot hc0
      subst hspot
      refine ⟨b, off, rfl, by simpa [Addr.add] using block_lt_of_cell hc0, fun i r hr j v hj => ?_⟩
      have hil : i < len := by
        have := (List.getElem?_eq_some_iff.1 hr).1
        simpa using this
      have hrr : r = (f i).cells := by
        rw [List.getElem?_map, List.getElem?_map, List.getElem?_range hil] at hr
        simpa using hr.symm
      subst hrr
      have := (hf i hil).1 j v hj
      rw [show (⟨b, off, none⟩ : Addr).add (i * 4 + j) = ⟨b, off + (i * 4 + j), none⟩ from Addr.add_lit _ _ _] at this
      rw [Nat.add_assoc]
      exact this
    · obtain ⟨i, hi', rfl⟩ := List.mem_map.1 he
      exact (hf i (List.mem_range.1 hi')).2
end Go.Proofs.YteglnekkkhpikaaGreat
namespace Go.Proofs.YteglnekkkhpikaaGreat
open Go.RowKit

/-- the layout of the examples -/
def LA : LayD := ⟨5, compL 5 4, 1, 2⟩
theorem la_small : smallL 160 = LA := by
  have h : smallDes 160 = (5, compL 5 4) := by decide +kernel
  unfold smallL
  rw [h]
  rfl
theorem la_ok : LayX LA := by rw [← la_small]; exact small_layX 160
def mA : Mv := ⟨0, 2, ⟨4, 4⟩⟩
theorem aw1 : choR LA [] 0 [true, false, false, false, false] = (⟨4, 4⟩, 0) := by decide +kernel
theorem aw2 : choR LA [] 0 [false, false, false, false, true] = (⟨0, 0⟩, 11) := by decide +kernel
theorem aw3 : appR LA [] mA = ([mA], 0) := by decide +kernel
theorem aw4 : validM LA [mA] = true := by decide +kernel
theorem aw5 : usedL LA [mA] 4 = [4] := by decide +kernel
theorem aw6 : choR LA [mA] 1 [true, false, false, false, false] = (⟨3, 4⟩, 0) := by decide +kernel
theorem lit_bools (W : World) (l : List Bool) (hl : l.length ≤ 1000) : BoolS (W.alloc (.cells (l.map Value.bool).toArray 4)) (W.alloc (.cells (l.map Value.bool).toArray 4)).heap.size (some ⟨W.heap.size, 0, none⟩) l := by
  have h : OwS (W.alloc (.cells (l.map Value.bool).toArray 4)) W.heap.size 4 1 (.slice (some ⟨W.heap.size, 0, none⟩) l.length l.length) (l.map fun b => [.bool b]) := by
    refine OwS.lit (fun r hr => by obtain ⟨b, -, rfl⟩ := List.mem_map.1 hr; rfl) (heap_alloc_new W _) ?_ (by simp) (by simp [maxLen]; omega) (Nat.le_refl _)
    clear hl
    induction l with
    | nil => rfl
    | cons b l ih => simpa using ih
  have h2 := h.reads
  exact h2
theorem ch_call {W : World} {A Am : Option Addr} {c cm : Nat} (ms : List Mv) (g : Int) (l : List Bool) (hv : GsV W W.heap.size A LA.gs) (hM : MvS W W.heap.size Am ms) (hwf : ∀ m ∈ ms, PlWf m.to) (hn : ms.length ≤ 1000) (hl : l.length ≤ 1000) :
    Calls Tryz.prog 64 #[layAgg LA A c, .slice Am ms.length cm, .int .i64 g, .slice (some ⟨W.heap.size, 0, none⟩) l.length l.length] (W.alloc (.cells (l.map Value.bool).toArray 4)) fun r w' => r = .returned (.tuple #[(choR LA ms g l).1.agg, .int .i64 (choR LA ms g l).2]) ∧ Below W.heap.size W w' := by
  have hb : Below W.heap.size W (W.alloc (.cells (l.map Value.bool).toArray 4)) := below_laid
  refine (sChoose_any (L := LA) (A := A) (Am := Am) (B := (W.alloc (.cells (l.map Value.bool).toArray 4)).heap.size) (c := c) (cm := cm) (ms := ms) (dead := l) (cd := l.length) g _ la_ok ((hv.below hb (Nat.le_refl _)).more hb.size) ((RdS.below' hM hb (Nat.le_refl _)).more hb.size) hwf (lit_bools W l hl) (by omega) (Nat.le_refl _) (by omega)).mono ?_
  rintro r w' ⟨h1, h2⟩
  exact ⟨h1, hb.trans (h2.mono hb.size)⟩
/-- what awake keeps: the layout's box, the groups -/
structure AwS (w : World) (X : Nat) (A : Option Addr) (c : Nat) (wr : World) : Prop where
  bel : Below w.heap.size w wr
  lay : LayB wr X LA A c
  gs : GsV wr wr.heap.size A LA.gs
theorem AwS.below {w wr w' : World} {X c : Nat} {A : Option Addr} (h : AwS w X A c wr) (hb : Below wr.heap.size wr w') : AwS w X A c w' :=
  ⟨h.bel.trans (hb.mono h.bel.size), h.lay.below hb h.lay.lt, (h.gs.below hb (Nat.le_refl _)).more hb.size⟩
end Go.Proofs.YteglnekkkhpikaaGreat
namespace Go.Proofs.YteglnekkkhpikaaGreat
open Go.RowKit

theorem wf_small {x : Int} (h0 : 0 ≤ x) (h1 : x < 1000000) : (Lit.int .i64 x).wf = true := by
  rw [Lit.wf_int_iff, IntKind.min_i64, IntKind.max_i64]
  omega
theorem PlWf.ok {L : LayD} (ok : LayOk L) {t : Plc} (h : toOk L t = true) : PlWf t := by
  unfold toOk at h
  simp only [Bool.and_eq_true, decide_eq_true_eq] at h
  have h1 := ok.disks
  have h2 := ok.blocks
  exact ⟨wf_small (by omega) (by omega), wf_small (by omega) (by omega)⟩
theorem wf_moves {L : LayD} {ms : List Mv} (ok : LayOk L) (h : MvOk L ms) : ∀ m ∈ ms, PlWf m.to := fun m hm => PlWf.ok ok (h.to m hm)
/-- a law's world with its layout -/
structure LwI (w : World) (X : Nat) (L : LayD) (A : Option Addr) (c : Nat) (wr : World) : Prop where
  bel : Below w.heap.size w wr
  lay : LayB wr X L A c
  gs : GsV wr wr.heap.size A L.gs
/-- .. and with its moves -/
structure LwJ (w : World) (X : Nat) (L : LayD) (A : Option Addr) (c : Nat) (Am : Option Addr) (ms : List Mv) (wr : World) : Prop extends LwI w X L A c wr where
  mv : MvS wr wr.heap.size Am ms
section
variable {w wr w' : World} {X c : Nat} {L : LayD} {A Am : Option Addr} {ms : List Mv}
theorem LwI.below (h : LwI w X L A c wr) (hb : Below wr.heap.size wr w') : LwI w X L A c w' :=
  ⟨h.bel.trans (hb.mono h.bel.size), h.lay.below hb h.lay.lt, (h.gs.below hb (Nat.le_refl _)).more hb.size⟩
theorem LwJ.below (h : LwJ w X L A c Am ms wr) (hb : Below wr.heap.size wr w') : LwJ w X L A c Am ms w' :=
  ⟨h.toLwI.below hb, (RdS.below' h.mv hb (Nat.le_refl _)).more hb.size⟩
theorem LwI.size (h : LwI w X L A c wr) : w.heap.size ≤ wr.heap.size := h.bel.size
/-- what came in reads as it did -/
theorem LwI.rd (h : LwI w X L A c wr) {size : Nat} {Ar : Option Addr} {rows : List (List Value)} (hR : RdS w w.heap.size size Ar rows) : RdS wr wr.heap.size size Ar rows := (RdS.below' hR h.bel (Nat.le_refl _)).more h.size
end
/-- Small answers, and its layout is laid in a box -/
theorem small_laid {n : Nat} {w w1 w2 : World} {r : Ending} (hb : Below w.heap.size w w1) (h : SmlP n w1 r w2) : ∃ A c, r = .returned (layAgg (smallL n) A c) ∧ Below w.heap.size w w2 ∧ LwI w w2.heap.size (smallL n) A c (w2.alloc (.cells #[.int .i64 ((smallL n).disks : Int), .slice A (smallL n).n c, .int .i64 ((smallL n).tiles : Int), .int .i64 ((smallL n).spare : Int)] 31)) := by
  obtain ⟨A, c, h1, h2, h3⟩ := h
  have hb2 := hb.trans (h3.mono hb.size)
  exact ⟨A, c, h1, hb2, ⟨hb2.trans (below_laid.mono hb2.size), LayB.made w2 _ A c, (h2.below below_laid (Nat.le_refl _)).more (by simp)⟩⟩
/-- Moves of a law -/
theorem moves_call {L : LayD} {w wr : World} {X c cr : Nat} {A Ar : Option Addr} {raw : List Nat} (hx : LayX L) (h : LwI w X L A c wr) (hR : BytR w w.heap.size Ar raw) (h256 : ∀ x ∈ raw, x < 256) (hlen : raw.length ≤ 20) :
    Calls Tryz.prog 10 #[layAgg L A c, .slice Ar raw.length cr] wr fun r w' => ∃ Am cm, r = .returned (.slice Am (movesL L raw).length cm) ∧ LwJ w X L A c Am (movesL L raw) w' := by
  refine (r22moves (L := L) (A := A) (Ar := Ar) (B := wr.heap.size) (c := c) (cr := cr) wr hx h.gs (h.rd hR) h256 (Nat.le_refl _) (by omega)).mono ?_
  rintro r w' ⟨⟨v, rfl, hown⟩, hb⟩
  obtain ⟨A8, c8, rfl, -, -⟩ := hown.form
  rw [List.length_map] at hown ⊢
  exact ⟨A8, c8, rfl, h.below hb, hown.reads⟩
theorem apply_len (L : LayD) (ms : List Mv) (m : Mv) : (applyL L ms m).1.length ≤ ms.length + 1 := by
  have h := withM_len ms m
  unfold applyL
  split
  · exact Nat.zero_le _
  · split
    · exact Nat.zero_le _
    · split
      · exact h
      · exact Nat.zero_le _
theorem small_d13 (n : Nat) : (smallL n).disks ≤ 13 := by
  obtain ⟨w, r, lam, h1, h2, h3, h4, -, -, h5, h6, h7⟩ := small_des n
  exact h7
end Go.Proofs.YteglnekkkhpikaaGreat
