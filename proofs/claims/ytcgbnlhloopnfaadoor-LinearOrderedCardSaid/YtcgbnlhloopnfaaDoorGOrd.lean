/- The histories of LinearOrdered: two overlapping writes, two reads one after the other; decided. Plain: no program is walked here.
Walk of tegulalaw46's ordered. -/
import Derived.Test.YtcgbnlhloopnfaaDoorFrcA
import Derived.Test.YtcgbnlhloopnfaaDoorGRef
import Derived.RegionTactic
import Derived.BigRegion
import Derived.Deep.RegionHeld3
namespace Go.Proofs.YtcgbnlhloopnfaaDoor

def ev4 (a b : Int) : List Ev := [⟨1, 0, true, 0, a, false⟩, ⟨1, 1, true, 0, b, false⟩, ⟨2, 0, true, 0, a, false⟩, ⟨2, 1, true, 0, b, false⟩]
def ordL (a b x y : Int) : List Ev := ev4 a b ++ r46 2 x ++ r46 3 y
theorem ord_lin : ∀ a ∈ [(1 : Int), 2, 3], ∀ b ∈ [(1 : Int), 2, 3], ∀ x ∈ [(0 : Int), 1, 2, 3, 4], ∀ y ∈ [(0 : Int), 1, 2, 3, 4],
    oneL (ordL a b x y) = true ∧ anyBig (rawOps (ordL a b x y)) (cutsL (ordL a b x y)) = false ∧ validL (ordL a b x y) = true ∧ linB (ordL a b x y) = (x == y && (x == a || x == b)) := by decide +kernel
theorem in_three {a : Int} (h0 : 1 ≤ a) (h1 : a ≤ 3) : a ∈ [(1 : Int), 2, 3] := by
  have : a = 1 ∨ a = 2 ∨ a = 3 := by omega
  simpa using this
theorem in_five {a : Int} (h0 : 0 ≤ a) (h1 : a ≤ 4) : a ∈ [(0 : Int), 1, 2, 3, 4] := by
  have : a = 0 ∨ a = 1 ∨ a = 2 ∨ a = 3 ∨ a = 4 := by omega
  simpa using this
theorem ord_ok {a b x y : Int} (ha : 1 ≤ a) (ha' : a ≤ 3) (hb : 1 ≤ b) (hb' : b ≤ 3) (hx : 0 ≤ x) (hx' : x ≤ 4) (hy : 0 ≤ y) (hy' : y ≤ 4) :
    FindOk (ordL a b x y) ∧ anyBig (rawOps (ordL a b x y)) (cutsL (ordL a b x y)) = false ∧ validL (ordL a b x y) = true ∧ (ExpL (ordL a b x y) ↔ (x == y && (x == a || x == b)) = true) := by
  obtain ⟨h1, h2, h3, h4⟩ := ord_lin a (in_three ha ha') b (in_three hb hb') x (in_five hx hx') y (in_five hy hy')
  have hsm : ∀ e ∈ ordL a b x y, SmE e := by
    intro e he
    simp only [ordL, ev4, r46, List.cons_append, List.nil_append, List.mem_cons, List.not_mem_nil, or_false] at he
    rcases he with rfl | rfl | rfl | rfl | rfl | rfl | rfl | rfl <;> (unfold SmE; simp; try omega)
  obtain ⟨w1, w2, w3⟩ := smL_wf hsm
  refine ⟨⟨h1, by simp [ordL, ev4, r46], w1, w2, w3⟩, h2, h3, ?_⟩
  unfold ExpL
  rw [← linB_iff h3, h4]
end Go.Proofs.YtcgbnlhloopnfaaDoor
namespace Go.Proofs.YtcgbnlhloopnfaaDoor
open Go.RowKit

/-- an event that lies in a block of its own -/
def EvBox (w : World) (g : Nat) (e : Ev) : Prop := w.heap[g]? = some (.cells e.cells.toArray 45)
theorem EvBox.cells {w : World} {g : Nat} {e : Ev} (h : EvBox w g e) : w.cell? ⟨g, 0, none⟩ = some (.int .i64 e.kind) ∧ w.cell? ⟨g, 1, none⟩ = some (.int .i64 e.op) ∧ w.cell? ⟨g, 2, none⟩ = some (.bool e.write) ∧ w.cell? ⟨g, 3, none⟩ = some (.int .i64 e.reg) ∧ w.cell? ⟨g, 4, none⟩ = some (.int .i64 e.val) ∧ w.cell? ⟨g, 5, none⟩ = some (.bool e.barrier) := by
  unfold EvBox at h
  exact ⟨by rw [cell_of_row _ _ _ _ _ _ h]; rfl, by rw [cell_of_row _ _ _ _ _ _ h]; rfl, by rw [cell_of_row _ _ _ _ _ _ h]; rfl, by rw [cell_of_row _ _ _ _ _ _ h]; rfl, by rw [cell_of_row _ _ _ _ _ _ h]; rfl, by rw [cell_of_row _ _ _ _ _ _ h]; rfl⟩
theorem EvBox.below {w w' : World} {g B : Nat} {e : Ev} (h : EvBox w g e) (hb : Below B w w') (hg : g < B) : EvBox w' g e := (hb.block g hg).trans h
theorem EvBox.frozen {w : World} {g : Nat} {e : Ev} (h : EvBox w g e) (j : Nat) : w.frozen? ⟨g, j, none⟩ = false := by
  unfold EvBox at h
  simp [World.frozen?, h]
theorem EvBox.fin {w : World} {g : Nat} {e : Ev} (h : EvBox w g e) (k : Int) : EvBox (w.setCell ⟨g, 0, none⟩ (.int .i64 k)) g { e with kind := k } := by
  unfold EvBox at h ⊢
  rw [heap_setCell_same _ _ _ _ _ _ h]
  rfl
theorem EvBox.far {w : World} {g g' : Nat} {e : Ev} (h : EvBox w g e) (hne : g ≠ g') (i : Nat) (u : Value) : EvBox (w.setCell ⟨g', i, none⟩ u) g e := (heap_setCell_other w ⟨g', i, none⟩ g u hne).trans h
theorem boxes_two (W : World) (o1 o2 : Obj) : (((W.alloc o1).alloc o2).drew).heap[W.heap.size]? = some o1 ∧ (((W.alloc o1).alloc o2).drew).heap[W.heap.size + 1]? = some o2 ∧ Below W.heap.size W ((W.alloc o1).alloc o2).drew :=
  ⟨(Below.heap_alloc (W.alloc o1) o2 W.heap.size (by simp)).trans (heap_new_at _ _ rfl), heap_new_at (W.alloc o1) o2 (by simp), (below_two W o1 o2).drew⟩
theorem EvBox.lt {w : World} {g : Nat} {e : Ev} (h : EvBox w g e) : g < w.heap.size := (Array.getElem?_eq_some_iff.1 h).1
def cells4 (a b : Int) : Array Value := ((ev4 a b).map Ev.cells).flatten.toArray
theorem ow4 (W : World) (a b : Int) : OwS (W.alloc (.cells (cells4 a b) 45)) W.heap.size 45 6 (.slice (some ⟨W.heap.size, 0, none⟩) 4 4) ((ev4 a b).map Ev.cells) :=
  OwS.lit (by simp [ev4, Ev.cells]) (heap_alloc_new W _) (by rfl) rfl (by decide) (Nat.le_refl _)
theorem ow4d (W : World) (a b : Int) : OwS (W.drew.alloc (.cells (cells4 a b) 45)) W.heap.size 45 6 (.slice (some ⟨W.heap.size, 0, none⟩) 4 4) ((ev4 a b).map Ev.cells) := ow4 W a b
set_option maxHeartbeats 4000000 in
set_option maxRecDepth 100000 in
theorem ordered_any (a b x y : Int) (ha : 1 ≤ a) (ha' : a ≤ 3) (hb : 1 ≤ b) (hb' : b ≤ 3) (hx : 0 ≤ x) (hx' : x ≤ 4) (hy : 0 ≤ y) (hy' : y ≤ 4) (w : World) :
    Calls Tryd.prog 23 #[.int .i64 a, .int .i64 b, .int .i64 x, .int .i64 y] w fun e w' => e = .returned (.bool true) ∧ Below w.heap.size w w' := by
  go_enter Tryd.func23, Tryd.ntmps23
  go_upto_region 3 with (fail)
  generalize hW : (w.alloc _).alloc _ = W2
  have HB2 : Hid (Below w.heap.size w W2) := by rw [← hW]; exact below_two _ _ _
  have HX1 : Hid (EvBox W2 w.heap.size ⟨1, 0, true, 0, a, false⟩) := by
    unfold Hid EvBox
    rw [← hW, Below.heap_alloc _ _ _ (by simp)]
    exact heap_new_at _ _ rfl
  have HX2 : Hid (EvBox W2 (w.heap.size + 1) ⟨1, 1, true, 0, b, false⟩) := by
    unfold Hid EvBox
    rw [← hW]
    exact heap_new_at _ _ (by simp)
  clear hW
  have hs2 : w.heap.size + 1 < W2.heap.size := HX2.out.lt
  have hs1 : w.heap.size < W2.heap.size := by omega
  obtain ⟨g1, hg1⟩ : ∃ g, g = w.heap.size := ⟨_, rfl⟩
  obtain ⟨g2, hg2⟩ : ∃ g, g = w.heap.size + 1 := ⟨_, rfl⟩
  rw [← hg1] at HX1 hs1
  rw [← hg2] at HX2 hs2
  rw [← hg2, ← hg1]
  have HG1 := Lib.hid hg1
  have HG2 := Lib.hid hg2
  clear hg1 hg2
  have hs1' : g1 < W2.heap.size + 1 := by omega
  have hs2' : g2 < W2.heap.size + 1 := by omega
  obtain ⟨p0, p1, p2, p3, p4, p5⟩ := HX1.out.cells
  obtain ⟨q0, q1, q2, q3, q4, q5⟩ := HX2.out.cells
  simp only at p0 p1 p2 p3 p4 p5 q0 q1 q2 q3 q4 q5
  go_cut [9, 10, 11, 12] (fun s9 s10 s11 s12 wx => s9 = .pointer (some ⟨g1, 0, none⟩) ∧ s10 = .pointer (some ⟨g2, 0, none⟩) ∧ ∃ g3 g4, s11 = .pointer (some ⟨g3, 0, none⟩) ∧ s12 = .pointer (some ⟨g4, 0, none⟩) ∧ g3 ≠ g4 ∧ W2.heap.size ≤ g3 ∧ W2.heap.size ≤ g4 ∧
    EvBox wx g3 ⟨1, 0, true, 0, a, false⟩ ∧ EvBox wx g4 ⟨1, 1, true, 0, b, false⟩ ∧ Below W2.heap.size W2 wx)
  case first =>
    go_region
    all_goals
      go_wp2_with fail
      go_meet
      first
        | exact ⟨rfl, rfl, _, _, rfl, rfl, by omega, by omega, by omega, (boxes_two W2 _ _).1, (boxes_two W2 _ _).2.1, (boxes_two W2 _ _).2.2⟩
        | exact ⟨rfl, rfl, _, _, rfl, rfl, by omega, by omega, by omega, (boxes_two W2 _ _).2.1, (boxes_two W2 _ _).1, (boxes_two W2 _ _).2.2⟩
  obtain ⟨rfl, rfl, g3, g4, rfl, rfl, hne, hg3, hg4, hx3, hx4, hbc⟩ := hcut
  have HX1c := Lib.hid (HX1.out.below hbc hs1)
  have HX2c := Lib.hid (HX2.out.below hbc hs2)
  have hk3 := hx3.cells.1
  have hk4 := hx4.cells.1
  simp only at hk3 hk4
  have hf3 := hx3.frozen 0
  have hf4 := hx4.frozen 0
  have hne' : ¬ g4 = g3 := fun h => hne h.symm
  have HX3 := Lib.hid hx3
  have HX4 := Lib.hid hx4
  have HBC := Lib.hid hbc
  clear p0 p1 p2 p3 p4 p5 q0 q1 q2 q3 q4 q5 hx3 hx4 hbc
  go_upto_region 5 with (fail)
  have hb5 : Below W2.heap.size W2 ((wc.setCell ⟨g3, 0, none⟩ (.int .i64 2)).setCell ⟨g4, 0, none⟩ (.int .i64 2)) := (HBC.out.setCell (p := ⟨g3, 0, none⟩) hg3 _).setCell (p := ⟨g4, 0, none⟩) hg4 _
  have hx1 : EvBox ((wc.setCell ⟨g3, 0, none⟩ (.int .i64 2)).setCell ⟨g4, 0, none⟩ (.int .i64 2)) g1 ⟨1, 0, true, 0, a, false⟩ := (HX1c.out.far (by omega) _ _).far (by omega) _ _
  have hx2 : EvBox ((wc.setCell ⟨g3, 0, none⟩ (.int .i64 2)).setCell ⟨g4, 0, none⟩ (.int .i64 2)) g2 ⟨1, 1, true, 0, b, false⟩ := (HX2c.out.far (by omega) _ _).far (by omega) _ _
  have hx3 : EvBox ((wc.setCell ⟨g3, 0, none⟩ (.int .i64 2)).setCell ⟨g4, 0, none⟩ (.int .i64 2)) g3 ⟨2, 0, true, 0, a, false⟩ := (HX3.out.fin 2).far hne _ _
  have hx4 : EvBox ((wc.setCell ⟨g3, 0, none⟩ (.int .i64 2)).setCell ⟨g4, 0, none⟩ (.int .i64 2)) g4 ⟨2, 1, true, 0, b, false⟩ := (HX4.out.far (Ne.symm hne) _ _).fin 2
  generalize (wc.setCell ⟨g3, 0, none⟩ (.int .i64 2)).setCell ⟨g4, 0, none⟩ (.int .i64 2) = W5 at *
  have HB5 := Lib.hid (HB2.out.trans (hb5.mono HB2.out.size))
  have HSK : Hid (∀ W, Below W5.heap.size W5 W → W.cell? ⟨g1, 0, none⟩ = some (.int .i64 1) ∧ W.cell? ⟨g1, 1, none⟩ = some (.int .i64 0) ∧ W.cell? ⟨g1, 2, none⟩ = some (.bool true) ∧ W.cell? ⟨g1, 3, none⟩ = some (.int .i64 0) ∧ W.cell? ⟨g1, 4, none⟩ = some (.int .i64 a) ∧ W.cell? ⟨g1, 5, none⟩ = some (.bool false) ∧ W.cell? ⟨g2, 0, none⟩ = some (.int .i64 1) ∧ W.cell? ⟨g2, 1, none⟩ = some (.int .i64 1) ∧ W.cell? ⟨g2, 2, none⟩ = some (.bool true) ∧ W.cell? ⟨g2, 3, none⟩ = some (.int .i64 0) ∧ W.cell? ⟨g2, 4, none⟩ = some (.int .i64 b) ∧ W.cell? ⟨g2, 5, none⟩ = some (.bool false) ∧ W.cell? ⟨g3, 0, none⟩ = some (.int .i64 2) ∧ W.cell? ⟨g3, 1, none⟩ = some (.int .i64 0) ∧ W.cell? ⟨g3, 2, none⟩ = some (.bool true) ∧ W.cell? ⟨g3, 3, none⟩ = some (.int .i64 0) ∧ W.cell? ⟨g3, 4, none⟩ = some (.int .i64 a) ∧ W.cell? ⟨g3, 5, none⟩ = some (.bool false) ∧ W.cell? ⟨g4, 0, none⟩ = some (.int .i64 2) ∧ W.cell? ⟨g4, 1, none⟩ = some (.int .i64 1) ∧ W.cell? ⟨g4, 2, none⟩ = some (.bool true) ∧ W.cell? ⟨g4, 3, none⟩ = some (.int .i64 0) ∧ W.cell? ⟨g4, 4, none⟩ = some (.int .i64 b) ∧ W.cell? ⟨g4, 5, none⟩ = some (.bool false)) := fun W hW => by
    obtain ⟨a0, a1, a2, a3, a4, a5⟩ := (hx1.below hW hx1.lt).cells
    obtain ⟨b0, b1, b2, b3, b4, b5⟩ := (hx2.below hW hx2.lt).cells
    obtain ⟨c0, c1, c2, c3, c4, c5⟩ := (hx3.below hW hx3.lt).cells
    obtain ⟨d0, d1, d2, d3, d4, d5⟩ := (hx4.below hW hx4.lt).cells
    exact ⟨a0, a1, a2, a3, a4, a5, b0, b1, b2, b3, b4, b5, c0, c1, c2, c3, c4, c5, d0, d1, d2, d3, d4, d5⟩
  have HR2 := Lib.hid (fun W => read46_any 2 x W)
  have HR3 := Lib.hid (fun W => read46_any 3 y W)
  have hs5 := Lib.hid (HSK.out _ (Below.refl W5.heap.size W5).drew)
  have HB0 : Hid (Below W5.heap.size W5 W5.drew) := (Below.refl _ _).drew
  clear hb5 hx1 hx2 hx3 hx4 HX1c HX2c HX3 HX4 hk3 hk4 hf3 hf4 hne hne' hg3 hg4 hs1 hs2 hs1' hs2' HBC HX1 HX2 HB2 HG1 HG2
  go_cut [13] (fun s13 wx => OwS wx W5.heap.size 45 6 s13 ((ev4 a b ++ r46 2 x).map Ev.cells) ∧ Below W5.heap.size W5 wx)
  case first =>
    go_region_held3 (fun w' => w'.cell? ⟨g1, 0, none⟩ = some (.int .i64 1) ∧ w'.cell? ⟨g1, 1, none⟩ = some (.int .i64 0) ∧ w'.cell? ⟨g1, 2, none⟩ = some (.bool true) ∧ w'.cell? ⟨g1, 3, none⟩ = some (.int .i64 0) ∧ w'.cell? ⟨g1, 4, none⟩ = some (.int .i64 a) ∧ w'.cell? ⟨g1, 5, none⟩ = some (.bool false) ∧ w'.cell? ⟨g2, 0, none⟩ = some (.int .i64 1) ∧ w'.cell? ⟨g2, 1, none⟩ = some (.int .i64 1) ∧ w'.cell? ⟨g2, 2, none⟩ = some (.bool true) ∧ w'.cell? ⟨g2, 3, none⟩ = some (.int .i64 0) ∧ w'.cell? ⟨g2, 4, none⟩ = some (.int .i64 b) ∧ w'.cell? ⟨g2, 5, none⟩ = some (.bool false) ∧ w'.cell? ⟨g3, 0, none⟩ = some (.int .i64 2) ∧ w'.cell? ⟨g3, 1, none⟩ = some (.int .i64 0) ∧ w'.cell? ⟨g3, 2, none⟩ = some (.bool true) ∧ w'.cell? ⟨g3, 3, none⟩ = some (.int .i64 0) ∧ w'.cell? ⟨g3, 4, none⟩ = some (.int .i64 a) ∧ w'.cell? ⟨g3, 5, none⟩ = some (.bool false) ∧ w'.cell? ⟨g4, 0, none⟩ = some (.int .i64 2) ∧ w'.cell? ⟨g4, 1, none⟩ = some (.int .i64 1) ∧ w'.cell? ⟨g4, 2, none⟩ = some (.bool true) ∧ w'.cell? ⟨g4, 3, none⟩ = some (.int .i64 0) ∧ w'.cell? ⟨g4, 4, none⟩ = some (.int .i64 b) ∧ w'.cell? ⟨g4, 5, none⟩ = some (.bool false)) (first | exact hs5.out | exact hs1.out | exact hs3.out | exact HSK.out _ (((Below.refl W5.heap.size W5).alloc (Nat.le_refl _) _).drew) | exact HSK.out _ (hbw1.alloc hz1 _) | go_keep)
      (first
        | (go_at_call 22; (with_reducible refine (HR2.out _).mono ?_); rintro r y1 ⟨v1, rfl, hown1, hb1⟩; have ho29 := (ow4d W5 a b).below hb1; have hbw1 : Below W5.heap.size W5 y1 := (al46 W5 _).trans (hb1.mono (by simp)); have hs1 := Lib.hid (HSK.out _ hbw1); have hz1 := hbw1.size; obtain ⟨A1, c1, rfl, -, -⟩ := hown1.form; have hr1 := hown1.reads; clear hown1 hb1)
        | (go_at_call 22; (with_reducible refine (HR2.out _).mono ?_); rintro r y1 ⟨v1, rfl, hown1, hb1⟩; have hbw1 : Below W5.heap.size W5 y1 := HB0.out.trans hb1; have hs1 := Lib.hid (HSK.out _ hbw1); have hz1 := hbw1.size; obtain ⟨A1, c1, rfl, -, -⟩ := hown1.form; have hr1 := hown1.reads; clear hown1 hb1)
        | ((refine step_apS (by rfl) (.tmp 29) (.tmp 31) _ (by rfl) elemEv (by rfl) ho29 y1.heap.size A1 _ c1 ((r46 2 x).map Ev.cells) (by rfl) hr1 (by rfl) OwS.oneEv (by simp [ev4, r46, maxLen]) (by simp [ev4, r46]) hz1 ?_; intro v3 y3 hown3 hg3 _; have hbw3 : Below W5.heap.size W5 y3 := hbw1.grown hg3 hz1 (fun g hg => (ho29.lt hg).1); have hs3 := Lib.hid (HSK.out _ hbw3); clear hg3))
        | ((refine step_apS (by rfl) (.tmp 29) (.tmp 31) _ (by rfl) elemEv (by rfl) ((ow4 y1 a b).mono hz1) y1.heap.size A1 _ c1 ((r46 2 x).map Ev.cells) (by rfl) (hr1.below ((Below.refl _ _).alloc (Nat.le_refl _) _)) (by rfl) OwS.oneEv (by simp [ev4, r46, maxLen]) (by simp [ev4, r46]) (Nat.le_trans hz1 (by simp)) ?_; intro v3 y3 hown3 hg3 _; have hbw3 : Below W5.heap.size W5 y3 := (hbw1.alloc hz1 _).grown hg3 (Nat.le_trans hz1 (by simp)) (fun g hg => Nat.le_trans hz1 ((ow4 y1 a b).lt hg).1); have hs3 := Lib.hid (HSK.out _ hbw3); clear hg3))
        | fail)
    all_goals
      go_wp2_with fail
      go_meet
      exact ⟨by simpa using hown3, hbw3⟩
  obtain ⟨hown, hbx⟩ := hcut
  clear hs5 HSK HB0 HR2
  have hzx := hbx.size
  obtain ⟨h1, h2, h3, h4⟩ := ord_ok ha ha' hb hb' hx hx' hy hy'
  obtain ⟨rb, hrb⟩ : ∃ rb, (x == y && (x == a || x == b)) = rb := ⟨_, rfl⟩
  rw [hrb] at h4
  have HF := Lib.hid (fun A c W (h : EvS W W.heap.size A (ordL a b x y)) => find_dec h1 h2 rb h4 A c W.heap.size W h (Nat.le_refl _))
  have HVA := Lib.hid (fun A c B W (h : EvS W B A (ordL a b x y)) (hB : B ≤ W.heap.size) => h3 ▸ refvalid_any (ordL a b x y) A c B W h hB (by simp [ordL, ev4, r46]))
  have HRB := Lib.hid hrb
  clear h1 h2 h3 h4 hrb
  go_wp2_with fail
  refine (HR3.out _).mono ?_
  rintro r w6 ⟨v6, rfl, hown6, hb6⟩
  have hown := hown.below hb6
  have hb56 := hbx.trans (hb6.mono hzx)
  have hz6 := hb56.size
  obtain ⟨A6, c6, rfl, -, -⟩ := hown6.form
  have hr6 := hown6.reads
  clear hown6 hb6
  go_wp2_with (at_builtin; refine wpList_apS rfl (.tmp 33) (.tmp 35) _ rfl elemEv rfl hown w6.heap.size A6 _ c6 ((r46 3 y).map Ev.cells) rfl hr6 rfl OwS.oneEv (by simp [ev4, r46, maxLen]) (by simp [ev4, r46]) hz6 ?_)
  intro v7 w7 hown7 hg7 _
  have hb7 : Below W5.heap.size W5 w7 := hb56.grown hg7 hz6 (fun g hg => (hown.lt hg).1)
  have hz7 := hb7.size
  have hown7 : OwS w7 W5.heap.size 45 6 v7 ((ordL a b x y).map Ev.cells) := by simpa [ordL] using hown7
  clear hg7 hown hr6 hb56
  obtain ⟨A7, k7, rfl, -, -⟩ := hown7.form
  rw [List.length_map]
  have hr7 : EvS w7 w7.heap.size A7 (ordL a b x y) := hown7.reads
  have HR7 := Lib.hid hr7
  clear hown7 hr7
  have HFF := Lib.hid (HF.out A7 k7 w7 HR7.out)
  have HVV : Hid (∀ W, Below w7.heap.size w7 W → Calls Tryd.prog 24 #[.slice A7 (ordL a b x y).length k7] W fun r w' => r = .returned (.bool true) ∧ Below W.heap.size W w') := fun W hW => HVA.out A7 k7 w7.heap.size W (HR7.out.below' hW (Nat.le_refl _)) hW.size
  clear HR7
  generalize (ordL a b x y).length = ln at *
  go_wp2_with fail
  refine HFF.out.mono ?_
  rintro r w8 ⟨⟨A8, n8, k8, rfl⟩, hb8⟩
  have HB8 := Lib.hid (HB5.out.trans ((hb7.trans (hb8.mono hz7)).mono HB5.out.size))
  have HVW := Lib.hid (HVV.out _ hb8)
  clear hb8
  have hfin : (x = y ∧ x = a ∧ rb = true) ∨ (x = y ∧ x ≠ a ∧ x = b ∧ rb = true) ∨ (x = y ∧ x ≠ a ∧ x ≠ b ∧ rb = false) ∨ (x ≠ y ∧ rb = false) := by
    have := HRB.out
    by_cases e1 : x = y
    · by_cases e2 : x = a
      · exact .inl ⟨e1, e2, by rw [← this]; simp [e1, ← e2]⟩
      · by_cases e3 : x = b
        · exact .inr (.inl ⟨e1, e2, e3, by rw [← this]; simp [e1, ← e3]⟩)
        · exact .inr (.inr (.inl ⟨e1, e2, e3, by rw [← this]; simp [e2, e3]⟩))
    · exact .inr (.inr (.inr ⟨e1, by rw [← this]; simp [e1]⟩))
  clear HRB ha ha' hb hb' hx hx' hy hy'
  rcases hfin with ⟨e1, e2, rfl⟩ | ⟨e1, e2, e3, rfl⟩ | ⟨e1, e2, e3, rfl⟩ | ⟨e1, rfl⟩
  · have e1' : (x == y) = true := by simpa using e1
    have e2' : (x == a) = true := by simpa using e2
    clear e1 e2
    go_wp2_with fail
    refine HVW.out.mono ?_
    rintro r w9 ⟨rfl, hb9⟩
    go_wp2
    go_ret
    exact ⟨rfl, HB8.out.trans (hb9.mono HB8.out.size)⟩
  · have e1' : (x == y) = true := by simpa using e1
    have e2' : (x == a) = false := by simpa using e2
    have e3' : (x == b) = true := by simpa using e3
    clear e1 e2 e3
    go_wp2_with fail
    refine HVW.out.mono ?_
    rintro r w9 ⟨rfl, hb9⟩
    go_wp2
    go_ret
    exact ⟨rfl, HB8.out.trans (hb9.mono HB8.out.size)⟩
  · have e1' : (x == y) = true := by simpa using e1
    have e2' : (x == a) = false := by simpa using e2
    have e3' : (x == b) = false := by simpa using e3
    clear e1 e2 e3
    go_wp2_with fail
    refine HVW.out.mono ?_
    rintro r w9 ⟨rfl, hb9⟩
    go_wp2
    go_ret
    exact ⟨rfl, HB8.out.trans (hb9.mono HB8.out.size)⟩
  · have e1' : (x == y) = false := by simpa using e1
    clear e1
    go_wp2_with fail
    refine HVW.out.mono ?_
    rintro r w9 ⟨rfl, hb9⟩
    go_wp2
    go_ret
    exact ⟨rfl, HB8.out.trans (hb9.mono HB8.out.size)⟩

set_option maxHeartbeats 4000000 in
set_option maxRecDepth 100000 in
theorem linearordered_any (w0 w1 r0 r1 : Nat) (h0 : w0 < 256) (h1 : w1 < 256) (h2 : r0 < 256) (h3 : r1 < 256) (w : World) (hc : CutG w) :
    Calls Tryd.prog 11 #[.agg #[.int .u8 w0, .int .u8 w1], .agg #[.int .u8 r0, .int .u8 r1]] w fun e w' => e = .returned (.bool true) ∧ Below w.heap.size w w' := by
  have HA : Hid (∀ W, Below w.heap.size w W → Calls Tryd.prog 12 #[] W fun e w' => e = .returned (.bool true) ∧ Below W.heap.size W w') := fun W hW => awake46_any W (hc.below hW hc.pos)
  have HO := Lib.hid (fun W => ordered_any (1 + (w0 : Int) % 3) (1 + (w1 : Int) % 3) ((r0 : Int) % 5) ((r1 : Int) % 5) (by omega) (by omega) (by omega) (by omega) (by omega) (by omega) (by omega) (by omega) W)
  have kc0 := fun W => conv_u8 ((w0 : Int) % 3) (by omega) (by omega) W
  have kc1 := fun W => conv_u8 ((w1 : Int) % 3) (by omega) (by omega) W
  have kc2 := fun W => conv_u8 ((r0 : Int) % 5) (by omega) (by omega) W
  have kc3 := fun W => conv_u8 ((r1 : Int) % 5) (by omega) (by omega) W
  have s0 : IntKind.i64.wrap (1 + (w0 : Int) % 3) = 1 + (w0 : Int) % 3 := IntWalk.i64_in _ (by omega)
  have s1 : IntKind.i64.wrap (1 + (w1 : Int) % 3) = 1 + (w1 : Int) % 3 := IntWalk.i64_in _ (by omega)
  clear hc
  go_enter Tryd.func11, Tryd.ntmps11
  go_upto_region 1 with (fail)
  generalize hW : (w.alloc _).alloc _ = W2
  have hb2 : Below w.heap.size w W2 := by rw [← hW]; exact below_two _ _ _
  have hx0 : W2.heap[w.heap.size]? = some (.cells #[.int .u8 w0, .int .u8 w1] 55) := by
    rw [← hW, Below.heap_alloc _ _ _ (by simp)]
    exact heap_new_at _ _ rfl
  have hx1 : W2.heap[w.heap.size + 1]? = some (.cells #[.int .u8 r0, .int .u8 r1] 55) := by
    rw [← hW]
    exact heap_new_at _ _ (by simp)
  clear hW
  have hl0 := (Array.getElem?_eq_some_iff.1 hx0).1
  have hl1 := (Array.getElem?_eq_some_iff.1 hx1).1
  have HC : Hid (∀ W, Below W2.heap.size W2 W → W.cell? ⟨w.heap.size, 0, none⟩ = some (.int .u8 w0) ∧ W.cell? ⟨w.heap.size, 1, none⟩ = some (.int .u8 w1) ∧ W.cell? ⟨w.heap.size + 1, 0, none⟩ = some (.int .u8 r0) ∧ W.cell? ⟨w.heap.size + 1, 1, none⟩ = some (.int .u8 r1)) := fun W hW => by
    have e0 := (hW.block _ hl0).trans hx0
    have e1 := (hW.block _ hl1).trans hx1
    exact ⟨by rw [cell_of_row _ _ _ _ _ _ e0]; rfl, by rw [cell_of_row _ _ _ _ _ _ e0]; rfl, by rw [cell_of_row _ _ _ _ _ _ e1]; rfl, by rw [cell_of_row _ _ _ _ _ _ e1]; rfl⟩
  have HAW := Lib.hid (HA.out W2 hb2)
  have HB2 := Lib.hid hb2
  clear hx0 hx1 hl0 hl1 hb2
  go_wp2_with fail
  refine HAW.out.mono ?_
  rintro r w3 ⟨rfl, hb3⟩
  obtain ⟨c0, c1, c2, c3⟩ := HC.out w3 hb3
  have HB3 := Lib.hid (HB2.out.trans (hb3.mono HB2.out.size))
  clear hb3
  go_wp2_with fail
  refine (HO.out _).mono ?_
  rintro r w4 ⟨rfl, hb4⟩
  go_wp2
  go_ret
  exact ⟨rfl, HB3.out.trans (hb4.mono HB3.out.size)⟩
end Go.Proofs.YtcgbnlhloopnfaaDoor
