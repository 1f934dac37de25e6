/- Walk of the recorder's call. -/
import Derived.Test.YtcgbnlhloopnfaaRecA
namespace Go.Proofs.Ytcgbnlhloopnfaa
open Go.RowKit

/-- the block of the event that is recorded -/
def EvBlk (w : World) (g : Nat) (e : Ev) : Prop := w.heap[g]? = some (.cells e.cells.toArray 56 (0, 0))
theorem EvBlk.mk {w : World} (k o : Int) (wr : Bool) (r v : Int) (b : Bool) : EvBlk (w.alloc (.cells #[.int .i64 k, .int .i64 o, .bool wr, .int .i64 r, .int .i64 v, .bool b] 56)) w.heap.size ⟨k, o, wr, r, v, b⟩ := heap_alloc_new w _
theorem EvBlk.cells {w : World} {g : Nat} {e : Ev} (h : EvBlk w g e) : w.cell? ⟨g, 0, none⟩ = some (.int .i64 e.kind) ∧ w.cell? ⟨g, 1, none⟩ = some (.int .i64 e.op) ∧ w.cell? ⟨g, 2, none⟩ = some (.bool e.write) ∧ w.cell? ⟨g, 3, none⟩ = some (.int .i64 e.reg) ∧ w.cell? ⟨g, 4, none⟩ = some (.int .i64 e.val) ∧ w.cell? ⟨g, 5, none⟩ = some (.bool e.barrier) := by
  refine ⟨?_, ?_, ?_, ?_, ?_, ?_⟩ <;> rw [cell_of_row _ _ _ _ _ _ h] <;> rfl
theorem EvBlk.lt {w : World} {g : Nat} {e : Ev} (h : EvBlk w g e) : g < w.heap.size := (Array.getElem?_eq_some_iff.1 h).1

theorem EvBlk.kept {w w3 : World} {g : Nat} {e : Ev} (h : EvBlk w g e) {row : Option Nat} (hg : w.grownBy w3 row) (hne : ∀ k, row = some k → k < g) {rb i : Nat} (hr : rb ≠ g) (u : Value) : EvBlk (w3.setCell ⟨rb, i, none⟩ u) g e := by
  unfold EvBlk
  rw [heap_setCell_other _ _ _ _ (fun e => hr e.symm)]
  exact (hg.block g h.lt (fun e => by have := hne g e.symm; omega)).trans h
theorem below_put {B rb : Nat} {w0 w w3 : World} {row : Option Nat} (h : BelR B rb w0 w) (hg : w.grownBy w3 row) (hB : B ≤ w.heap.size) (hr : ∀ k, row = some k → B ≤ k) {i : Nat} (u : Value) : BelR B rb w0 (w3.setCell ⟨rb, i, none⟩ u) :=
  (h.grown hg hB hr).setCell (.inr rfl) u

set_option maxHeartbeats 4000000 in
set_option maxRecDepth 100000 in
theorem hcall_yes (e : Ev) (base rb : Nat) (r : Rcd) (w : World) (h : RecOk w base rb r) (hB : base ≤ w.heap.size) (hn : r.evs.length ≤ 100000) (hc : r.calls.length ≤ 100000) (ho : r.opn.length ≤ 100000) (h3 : 0 ≤ e.reg) (h4 : 0 ≤ e.val) :
    Calls Try.prog 59 #[.pointer (some ⟨rb, 0, none⟩), e.agg] w fun s w' => s = .returned (.int .i64 r.calls.length) ∧ RecOk w' base rb (recCall r e) ∧ BelR base rb w w' := by
  obtain ⟨ve, vc, vo, h⟩ := h
  have hlt := h.lt
  obtain ⟨c0, c1, c2, z0, z1, z2⟩ := h.cells
  obtain ⟨Ac, cc, hvc, -, -⟩ := h.calls.form
  rw [List.length_map] at hvc
  subst hvc
  have H := Lib.hid h
  clear h
  obtain ⟨ek, eo, ew, er, ev, eb⟩ := e
  simp only at h3 h4
  unfold Ev.agg
  have hne : rb ≠ w.heap.size := by omega
  go_enter Try.func59, Try.ntmps59
  go_upto_region 3 with (fail)
  go_cut [4] (fun s4 wx => s4 = .int .i64 0 ∧ RecV wx base rb r ve (.slice Ac r.calls.length cc) vo ∧ EvBlk wx w.heap.size ⟨1, r.calls.length, ew, er, ev, eb⟩ ∧ BelR base rb w wx)
  case first =>
    go_region
    all_goals
      go_wp2_with fail
      go_meet
      exact ⟨rfl, H.out.below ((Below.refl _ _).alloc (Nat.le_refl _) _).drew, EvBlk.mk _ _ _ _ _ _, ((BelR.refl _ _ _).alloc hB _).drew⟩
  case rest =>
    obtain ⟨rfl, H1, hE1, hb1⟩ := hcut
    have hsz1 := hE1.lt
    obtain ⟨c0, c1, c2, z0, z1, z2⟩ := H1.cells
    obtain ⟨e0, e1, e2, e3, e4, e5⟩ := hE1.cells
    simp only at e0 e1 e2 e3 e4 e5
    have HB1 := hb1.size
    have HB0 : base ≤ wc.heap.size := by omega
    have hlt1 := H1.lt
    go_upto_region 4 with (fail)
    go_cut [4] (fun s4 wx => s4 = .int .i64 0 ∧ (∃ A n c, RecV wx base rb ⟨r.evs ++ [⟨1, r.calls.length, ew, er, ev, eb⟩], r.calls, r.opn⟩ (.slice A n c) (.slice Ac r.calls.length cc) vo) ∧ EvBlk wx w.heap.size ⟨1, r.calls.length, ew, er, ev, eb⟩ ∧ BelR base rb w wx)
    case first =>
      go_region_law (refine step_ap1 (by rfl) (.tmp 28) (.tmp 30) _ (by rfl) elemEv (by rfl) (H1.evs.drewN 1) (Ev.cells ⟨1, (r.calls.length : Int), ew, er, ev, eb⟩) _ (by rfl) wc.heap.size (by rfl) (by simp) (Ev.one _) (by simp [maxLen]; omega) (by simp; omega) (by simp; omega) ?_; intro v3 w3 hown3 hg3 hv3; obtain ⟨A3, n3, c3, rfl⟩ := hown3.isSlice; have hg3' := grow_drewN (grow_alloc hg3); have hb3 := H1.blk0 hg3'; have d0 := (cell_of_row w3 rb 0 _ _ _ hb3).trans (show _ = some ve from rfl); have y0 := frozen_of_row w3 rb 0 _ _ hb3)
      all_goals
        go_wp2_with fail
        go_meet
        exact ⟨rfl, ⟨A3, n3, c3, H1.put0 hg3' (by simpa using hown3) (hv3.imp id fun h => ⟨_, h, by simp⟩)⟩, hE1.kept hg3' (fun k h => (H.out.evs.lt h).2) hne _, below_put hb1 hg3' HB0 (fun k h => (H1.evs.lt h).1) _⟩
    case rest =>
      obtain ⟨rfl, ⟨A1, n1, k1, H2⟩, hE2, hb2⟩ := hcut
      have hsz2 := hE2.lt
      obtain ⟨c0, c1, c2, z0, z1, z2⟩ := H2.cells
      obtain ⟨e0, e1, e2, e3, e4, e5⟩ := hE2.cells
      simp only at e0 e1 e2 e3 e4 e5
      have HB2 : base ≤ wc.heap.size := by omega
      have hlt2 := H2.lt
      clear H1 hE1 hb1 HB0 HB1 hlt1 hsz1
      go_upto_region 5 with (fail)
      go_cut [4] (fun s4 wx => s4 = .int .i64 0 ∧ (∃ A n c, RecV wx base rb ⟨r.evs ++ [⟨1, r.calls.length, ew, er, ev, eb⟩], r.calls ++ [⟨1, r.calls.length, ew, er, ev, eb⟩], r.opn⟩ (.slice A1 n1 k1) (.slice A n c) vo) ∧ EvBlk wx w.heap.size ⟨1, r.calls.length, ew, er, ev, eb⟩ ∧ BelR base rb w wx)
      case first =>
        go_region_law (refine step_ap1 (by rfl) (.tmp 38) (.tmp 40) _ (by rfl) elemEv (by rfl) (H2.calls.drewN 1) (Ev.cells ⟨1, (r.calls.length : Int), ew, er, ev, eb⟩) _ (by rfl) wc.heap.size (by rfl) (by simp) (Ev.one _) (by simp [maxLen]; omega) (by simp; omega) (by simp; omega) ?_; intro v3 w3 hown3 hg3 hv3; obtain ⟨A3, n3, c3, rfl⟩ := hown3.isSlice; have hg3' := grow_drewN (grow_alloc hg3); have hb3 := H2.blk1 hg3'; have d0 := (cell_of_row w3 rb 1 _ _ _ hb3).trans (show _ = some (.slice Ac r.calls.length cc) from rfl); have y0 := frozen_of_row w3 rb 1 _ _ hb3)
        all_goals
          go_wp2_with fail
          go_meet
          exact ⟨rfl, ⟨A3, n3, c3, H2.put1 hg3' (by simpa using hown3) (hv3.imp id fun h => ⟨_, h, by simp⟩)⟩, hE2.kept hg3' (fun k h => (H.out.calls.lt h).2) hne _, below_put hb2 hg3' HB2 (fun k h => (H2.calls.lt h).1) _⟩
      case rest =>
        obtain ⟨rfl, ⟨A2, n2, k2, H3⟩, hE3, hb3⟩ := hcut
        have hsz3 := hE3.lt
        obtain ⟨c0, c1, c2, z0, z1, z2⟩ := H3.cells
        have HB3 : base ≤ wc.heap.size := by omega
        have hlt3 := H3.lt
        clear H2 hE2 hb2 HB2 hlt2 hsz2
        go_wp2_with (at_builtin; refine wpList_ap1 rfl (.tmp 48) (.tmp 49) _ rfl elemBool rfl H3.opn (flCell true) _ rfl _ rfl (by simp) (flCell_one _) (by simp [maxLen]; omega) (by simp; omega) HB3 ?_)
        intro v3 w3 hown3 hg3 hv3
        obtain ⟨A3, n3, c3, rfl⟩ := hown3.isSlice
        have hg3' := grow_alloc hg3
        have hbk := H3.blk2 hg3'
        have d2 := (cell_of_row w3 rb 2 _ _ _ hbk).trans (show _ = some vo from rfl)
        have y2 := frozen_of_row w3 rb 2 _ _ hbk
        have HF := Lib.hid (H3.put2 hg3' (show OwS w3 base 4 1 _ ((r.opn ++ [true]).map flCell) by simpa using hown3))
        have HBF := Lib.hid (below_put (i := 2) (rb := rb) hb3 hg3' HB3 (fun k h => (H3.opn.lt h).1) (.slice A3 n3 c3))
        have g1 : w3.cell? ⟨w.heap.size, 1, none⟩ = some (.int .i64 r.calls.length) := by
          have hx : w3.heap[w.heap.size]? = wc.heap[w.heap.size]? := hg3'.block _ hsz3 (fun e => H3.opn.blk_ne hE3 (by decide) e.symm)
          rw [cell_of_row _ _ _ _ _ _ (hx.trans hE3)]
          rfl
        clear hown3 hg3 hg3' hbk hv3
        go_wp2
        go_ret
        exact ⟨rfl, ⟨_, _, _, HF.out⟩, HBF.out⟩

set_option maxHeartbeats 1000000 in
theorem hcall_no (e : Ev) (rb : Nat) (w : World) (h : e.reg < 0 ∨ e.val < 0) :
    Calls Try.prog 59 #[.pointer (some ⟨rb, 0, none⟩), e.agg] w fun s w' => s = .returned (.int .i64 (-1)) ∧ Below w.heap.size w w' := by
  obtain ⟨ek, eo, ew, er, ev, eb⟩ := e
  simp only at h
  unfold Ev.agg
  by_cases h1 : er < 0
  · go_enter Try.func59, Try.ntmps59
    go_wp2
    go_ret
    exact ⟨rfl, (Below.refl _ _).alloc (Nat.le_refl _) _⟩
  · have h2 : ev < 0 := by omega
    go_enter Try.func59, Try.ntmps59
    go_wp2
    go_ret
    exact ⟨rfl, (Below.refl _ _).alloc (Nat.le_refl _) _⟩
set_option maxHeartbeats 1000000 in
theorem hcall_nil (e : Ev) (w : World) :
    Calls Try.prog 59 #[.pointer none, e.agg] w fun s w' => s = .returned (.int .i64 (-1)) ∧ Below w.heap.size w w' := by
  obtain ⟨ek, eo, ew, er, ev, eb⟩ := e
  unfold Ev.agg
  go_enter Try.func59, Try.ntmps59
  go_wp2
  go_ret
  exact ⟨rfl, (Below.refl _ _).alloc (Nat.le_refl _) _⟩
end Go.Proofs.Ytcgbnlhloopnfaa
