/- Walk of the recorder's Done. -/
import Derived.Test.YtcgbnlhloopnfaaRecC
namespace Go.Proofs.Ytcgbnlhloopnfaa
open Go.RowKit

def doneEv (c : Ev) (val : Int) : Ev := { c with kind := 2, val := if !c.write && !c.barrier then val else c.val }
def recDone (r : Rcd) (op val : Int) : Int × Rcd :=
  if op < 0 ∨ (r.calls.length : Int) ≤ op then (9, r)
  else match r.opn[op.toNat]?, r.calls[op.toNat]? with
    | some true, some c => (0, ⟨r.evs ++ [doneEv c val], r.calls, r.opn.set op.toNat false⟩)
    | _, _ => (8, r)
theorem doneEv_read {k o rg v val : Int} : doneEv ⟨k, o, false, rg, v, false⟩ val = ⟨2, o, false, rg, val, false⟩ := rfl
theorem doneEv_write {k o rg v val : Int} {b : Bool} : doneEv ⟨k, o, true, rg, v, b⟩ val = ⟨2, o, true, rg, v, b⟩ := rfl
theorem doneEv_flush {k o rg v val : Int} : doneEv ⟨k, o, false, rg, v, true⟩ val = ⟨2, o, false, rg, v, true⟩ := rfl

set_option maxHeartbeats 1000000 in
set_option maxRecDepth 100000 in
theorem hdone_none (op val : Int) (base rb : Nat) (r : Rcd) (w : World) (h : RecOk w base rb r) (ho : op < 0 ∨ (r.calls.length : Int) ≤ op) :
    Calls Try.prog 29 #[.pointer (some ⟨rb, 0, none⟩), .int .i64 op, .int .i64 val] w (RecPost base rb w (recDone r op val)) := by
  have HR : Hid (recDone r op val = (9, r)) := by unfold Hid recDone; rw [if_pos ho]
  obtain ⟨ve, vc, vo, h⟩ := h
  have hlt := h.lt
  obtain ⟨c0, c1, c2, z0, z1, z2⟩ := h.cells
  obtain ⟨Ac, cc, hvc, -, -⟩ := h.calls.form
  rw [List.length_map] at hvc
  subst hvc
  have H := Lib.hid h
  clear h
  by_cases h0 : op < 0
  · have h0' : decide (op < 0) = true := by simpa using h0
    clear ho
    go_enter Try.func29, Try.ntmps29
    go_wp2
    go_ret
    unfold RecPost
    rw [HR.out]
    exact ⟨rfl, ⟨_, _, _, H.out⟩, BelR.refl _ _ _⟩
  · have h1 : (r.calls.length : Int) ≤ op := by omega
    have h1' : decide (op ≥ (r.calls.length : Int)) = true := by simpa using h1
    have h0' : decide (op < 0) = false := by simpa using h0
    clear ho h0
    go_enter Try.func29, Try.ntmps29
    go_wp2
    go_ret
    unfold RecPost
    rw [HR.out]
    exact ⟨rfl, ⟨_, _, _, H.out⟩, BelR.refl _ _ _⟩

set_option maxHeartbeats 1000000 in
set_option maxRecDepth 100000 in
theorem hdone_state (k : Nat) (val : Int) (base rb : Nat) (r : Rcd) (w : World) (h : RecOk w base rb r) (hn : RcdLe r 100000) (hk : k < r.calls.length) (hopen : r.opn[k]? = some false) :
    Calls Try.prog 29 #[.pointer (some ⟨rb, 0, none⟩), .int .i64 (k : Int), .int .i64 val] w (RecPost base rb w (recDone r k val)) := by
  have HR : Hid (recDone r k val = (8, r)) := by unfold Hid recDone; rw [if_neg (by omega), Int.toNat_natCast, hopen]
  obtain ⟨ve, vc, vo, h⟩ := h
  have hlt := h.lt
  obtain ⟨c0, c1, c2, z0, z1, z2⟩ := h.cells
  obtain ⟨Ac, cc, hvc, -, -⟩ := h.calls.form
  rw [List.length_map] at hvc
  subst hvc
  have hko : k < r.opn.length := by rw [hn.2.2]; exact hk
  obtain ⟨g, c, rfl, hg, hgl, gc, gz, hgr⟩ := h.opn_cell hko
  rw [show r.opn[k] = false by rw [List.getElem?_eq_getElem hko] at hopen; exact Option.some.inj hopen] at gc
  have H := Lib.hid h
  have h0 : (0 : Int) ≤ (k : Int) := by omega
  have h1 : (k : Int) < (r.calls.length : Int) := by omega
  have h2 : (k : Int) < (r.opn.length : Int) := by omega
  have h0' : decide ((k : Int) < 0) = false := by simp
  have h1' : decide ((k : Int) ≥ (r.calls.length : Int)) = false := by simpa using h1
  clear h hn hk hko hopen
  go_enter Try.func29, Try.ntmps29
  go_wp2
  go_ret
  unfold RecPost
  rw [HR.out]
  exact ⟨rfl, ⟨_, _, _, H.out⟩, BelR.refl _ _ _⟩

set_option maxHeartbeats 4000000 in
set_option maxRecDepth 100000 in
theorem hdone_ok (k : Nat) (val : Int) (ce : Ev) (base rb : Nat) (r : Rcd) (w : World) (h : RecOk w base rb r) (hB : base ≤ w.heap.size) (hn : RcdLe r 100000) (hk : r.calls[k]? = some ce) (hopen : r.opn[k]? = some true) :
    Calls Try.prog 29 #[.pointer (some ⟨rb, 0, none⟩), .int .i64 (k : Int), .int .i64 val] w (RecPost base rb w (recDone r k val)) := by
  have hkl : k < r.calls.length := (List.getElem?_eq_some_iff.1 hk).1
  have HR : Hid (recDone r k val = (0, ⟨r.evs ++ [doneEv ce val], r.calls, r.opn.set k false⟩)) := by unfold Hid recDone; rw [if_neg (by omega), Int.toNat_natCast, hopen, hk]
  obtain ⟨ve, vc, vo, h⟩ := h
  have hlt := h.lt
  have hen := hn.1
  obtain ⟨c0, c1, c2, z0, z1, z2⟩ := h.cells
  have hrow : (r.calls.map Ev.cells)[k]? = some ce.cells := by rw [List.getElem?_map, hk]; rfl
  obtain ⟨gc, cc, hvc, -, hgcl⟩ := h.calls.pos (by rw [List.length_map]; omega)
  rw [List.length_map] at hvc
  subst hvc
  have k0 := h.calls.cell hrow (j := 0) rfl
  have k1 := h.calls.cell hrow (j := 1) rfl
  have k2 := h.calls.cell hrow (j := 2) rfl
  have k3 := h.calls.cell hrow (j := 3) rfl
  have k4 := h.calls.cell hrow (j := 4) rfl
  have k5 := h.calls.cell hrow (j := 5) rfl
  rw [Nat.add_zero] at k0
  have hko : k < r.opn.length := by rw [hn.2.2]; exact hkl
  obtain ⟨g, c, rfl, hg, hgl, gce, gz, hgr⟩ := h.opn_cell hko
  rw [show r.opn[k] = true by rw [List.getElem?_eq_getElem hko] at hopen; exact Option.some.inj hopen] at gce
  have HFL := Lib.hid (h.flip hko false)
  have H := Lib.hid h
  have h0 : (0 : Int) ≤ (k : Int) := by omega
  have h1 : (k : Int) < (r.calls.length : Int) := by omega
  have h2 : (k : Int) < (r.opn.length : Int) := by omega
  have h0' : decide ((k : Int) < 0) = false := by simp
  have h1' : decide ((k : Int) ≥ (r.calls.length : Int)) = false := by simpa using h1
  have hne : rb ≠ w.heap.size := by omega
  have hgs : g ≠ w.heap.size := by omega
  clear h hn hkl hko hopen hk hrow
  obtain ⟨ek, eo, ew, er, ev, eb⟩ := ce
  simp only at k0 k1 k2 k3 k4 k5
  cases ew <;> cases eb
  · rw [doneEv_read] at HR
    go_enter Try.func29, Try.ntmps29
    go_upto_region 11 with (fail)
    go_cut [6] (fun s6 wx => s6 = .int .i64 0 ∧ RecV wx base rb ⟨r.evs, r.calls, r.opn.set k false⟩ ve (.slice (some ⟨gc, 0, none⟩) r.calls.length cc) (.slice (some ⟨g, 0, none⟩) r.opn.length c) ∧ EvBlk wx w.heap.size ⟨2, eo, false, er, val, false⟩ ∧ BelR base rb w wx)
    case first =>
      go_wp2_with fail
      go_meet
      exact ⟨rfl, HFL.out.below below_laid, by rw [← World.size_setCell w ⟨g, k, none⟩ (.bool false)]; exact EvBlk.mk _ _ _ _ _ _, (((BelR.refl base rb w).setCell (.inl hg) _).alloc (by simp; omega) _)⟩
    case rest =>
      obtain ⟨rfl, H1, hE1, hb1⟩ := hcut
      have hsz1 := hE1.lt
      obtain ⟨c0, -, -, z0, -, -⟩ := H1.cells
      obtain ⟨e0, e1, e2, e3, e4, e5⟩ := hE1.cells
      simp only at e0 e1 e2 e3 e4 e5
      have HB1 : base ≤ wc.heap.size := by omega
      have hlt1 := H1.lt
      clear c1 c2 gce gz k0 k1 k2 k3 k4 k5
      go_wp2_with fail
      go_region_law (refine step_ap1 (by rfl) (.tmp 60) (.tmp 62) _ (by rfl) elemEv (by rfl) (H1.evs.drewN 1) (Ev.cells ⟨2, eo, false, er, val, false⟩) _ (by rfl) wc.heap.size (by rfl) (by simp) (Ev.one _) (by simp [maxLen]; omega) (by simp; omega) (by simp; omega) ?_; intro v3 w3 hown3 hg3 hv3; obtain ⟨A3, n3, c3, rfl⟩ := hown3.isSlice; have hg3' := grow_drewN (grow_alloc hg3); have hb3 := H1.blk0 hg3'; have d0 := (cell_of_row w3 rb 0 _ _ _ hb3).trans (show _ = some ve from rfl); have y0 := frozen_of_row w3 rb 0 _ _ hb3)
      all_goals
        have HF := Lib.hid (H1.put0 hg3' (show OwS w3 base 56 6 _ ((r.evs ++ [(⟨2, eo, false, er, val, false⟩ : Ev)]).map Ev.cells) by simpa using hown3) (hv3.imp id fun h => ⟨_, h, by simp⟩))
        have HBF := Lib.hid (below_put (i := 0) (rb := rb) hb1 hg3' HB1 (fun k h => (H1.evs.lt h).1) (.slice A3 n3 c3))
        clear hown3 hg3 hg3' hb3 hv3
        go_wp2
        go_ret
        unfold RecPost
        rw [HR.out]
        exact ⟨rfl, ⟨_, _, _, HF.out⟩, HBF.out⟩
  · rw [doneEv_flush] at HR
    go_enter Try.func29, Try.ntmps29
    go_upto_region 11 with (fail)
    go_cut [6] (fun s6 wx => s6 = .int .i64 0 ∧ RecV wx base rb ⟨r.evs, r.calls, r.opn.set k false⟩ ve (.slice (some ⟨gc, 0, none⟩) r.calls.length cc) (.slice (some ⟨g, 0, none⟩) r.opn.length c) ∧ EvBlk wx w.heap.size ⟨2, eo, false, er, ev, true⟩ ∧ BelR base rb w wx)
    case first =>
      go_wp2_with fail
      go_meet
      exact ⟨rfl, HFL.out.below below_laid, by rw [← World.size_setCell w ⟨g, k, none⟩ (.bool false)]; exact EvBlk.mk _ _ _ _ _ _, (((BelR.refl base rb w).setCell (.inl hg) _).alloc (by simp; omega) _)⟩
    case rest =>
      obtain ⟨rfl, H1, hE1, hb1⟩ := hcut
      have hsz1 := hE1.lt
      obtain ⟨c0, -, -, z0, -, -⟩ := H1.cells
      obtain ⟨e0, e1, e2, e3, e4, e5⟩ := hE1.cells
      simp only at e0 e1 e2 e3 e4 e5
      have HB1 : base ≤ wc.heap.size := by omega
      have hlt1 := H1.lt
      clear c1 c2 gce gz k0 k1 k2 k3 k4 k5
      go_wp2_with fail
      go_region_law (refine step_ap1 (by rfl) (.tmp 60) (.tmp 62) _ (by rfl) elemEv (by rfl) (H1.evs.drewN 1) (Ev.cells ⟨2, eo, false, er, ev, true⟩) _ (by rfl) wc.heap.size (by rfl) (by simp) (Ev.one _) (by simp [maxLen]; omega) (by simp; omega) (by simp; omega) ?_; intro v3 w3 hown3 hg3 hv3; obtain ⟨A3, n3, c3, rfl⟩ := hown3.isSlice; have hg3' := grow_drewN (grow_alloc hg3); have hb3 := H1.blk0 hg3'; have d0 := (cell_of_row w3 rb 0 _ _ _ hb3).trans (show _ = some ve from rfl); have y0 := frozen_of_row w3 rb 0 _ _ hb3)
      all_goals
        have HF := Lib.hid (H1.put0 hg3' (show OwS w3 base 56 6 _ ((r.evs ++ [(⟨2, eo, false, er, ev, true⟩ : Ev)]).map Ev.cells) by simpa using hown3) (hv3.imp id fun h => ⟨_, h, by simp⟩))
        have HBF := Lib.hid (below_put (i := 0) (rb := rb) hb1 hg3' HB1 (fun k h => (H1.evs.lt h).1) (.slice A3 n3 c3))
        clear hown3 hg3 hg3' hb3 hv3
        go_wp2
        go_ret
        unfold RecPost
        rw [HR.out]
        exact ⟨rfl, ⟨_, _, _, HF.out⟩, HBF.out⟩
  · rw [doneEv_write] at HR
    go_enter Try.func29, Try.ntmps29
    go_upto_region 11 with (fail)
    go_cut [6] (fun s6 wx => s6 = .int .i64 0 ∧ RecV wx base rb ⟨r.evs, r.calls, r.opn.set k false⟩ ve (.slice (some ⟨gc, 0, none⟩) r.calls.length cc) (.slice (some ⟨g, 0, none⟩) r.opn.length c) ∧ EvBlk wx w.heap.size ⟨2, eo, true, er, ev, false⟩ ∧ BelR base rb w wx)
    case first =>
      go_wp2_with fail
      go_meet
      exact ⟨rfl, HFL.out.below below_laid, by rw [← World.size_setCell w ⟨g, k, none⟩ (.bool false)]; exact EvBlk.mk _ _ _ _ _ _, (((BelR.refl base rb w).setCell (.inl hg) _).alloc (by simp; omega) _)⟩
    case rest =>
      obtain ⟨rfl, H1, hE1, hb1⟩ := hcut
      have hsz1 := hE1.lt
      obtain ⟨c0, -, -, z0, -, -⟩ := H1.cells
      obtain ⟨e0, e1, e2, e3, e4, e5⟩ := hE1.cells
      simp only at e0 e1 e2 e3 e4 e5
      have HB1 : base ≤ wc.heap.size := by omega
      have hlt1 := H1.lt
      clear c1 c2 gce gz k0 k1 k2 k3 k4 k5
      go_wp2_with fail
      go_region_law (refine step_ap1 (by rfl) (.tmp 60) (.tmp 62) _ (by rfl) elemEv (by rfl) (H1.evs.drewN 1) (Ev.cells ⟨2, eo, true, er, ev, false⟩) _ (by rfl) wc.heap.size (by rfl) (by simp) (Ev.one _) (by simp [maxLen]; omega) (by simp; omega) (by simp; omega) ?_; intro v3 w3 hown3 hg3 hv3; obtain ⟨A3, n3, c3, rfl⟩ := hown3.isSlice; have hg3' := grow_drewN (grow_alloc hg3); have hb3 := H1.blk0 hg3'; have d0 := (cell_of_row w3 rb 0 _ _ _ hb3).trans (show _ = some ve from rfl); have y0 := frozen_of_row w3 rb 0 _ _ hb3)
      all_goals
        have HF := Lib.hid (H1.put0 hg3' (show OwS w3 base 56 6 _ ((r.evs ++ [(⟨2, eo, true, er, ev, false⟩ : Ev)]).map Ev.cells) by simpa using hown3) (hv3.imp id fun h => ⟨_, h, by simp⟩))
        have HBF := Lib.hid (below_put (i := 0) (rb := rb) hb1 hg3' HB1 (fun k h => (H1.evs.lt h).1) (.slice A3 n3 c3))
        clear hown3 hg3 hg3' hb3 hv3
        go_wp2
        go_ret
        unfold RecPost
        rw [HR.out]
        exact ⟨rfl, ⟨_, _, _, HF.out⟩, HBF.out⟩
  · rw [doneEv_write] at HR
    go_enter Try.func29, Try.ntmps29
    go_upto_region 11 with (fail)
    go_cut [6] (fun s6 wx => s6 = .int .i64 0 ∧ RecV wx base rb ⟨r.evs, r.calls, r.opn.set k false⟩ ve (.slice (some ⟨gc, 0, none⟩) r.calls.length cc) (.slice (some ⟨g, 0, none⟩) r.opn.length c) ∧ EvBlk wx w.heap.size ⟨2, eo, true, er, ev, true⟩ ∧ BelR base rb w wx)
    case first =>
      go_wp2_with fail
      go_meet
      exact ⟨rfl, HFL.out.below below_laid, by rw [← World.size_setCell w ⟨g, k, none⟩ (.bool false)]; exact EvBlk.mk _ _ _ _ _ _, (((BelR.refl base rb w).setCell (.inl hg) _).alloc (by simp; omega) _)⟩
    case rest =>
      obtain ⟨rfl, H1, hE1, hb1⟩ := hcut
      have hsz1 := hE1.lt
      obtain ⟨c0, -, -, z0, -, -⟩ := H1.cells
      obtain ⟨e0, e1, e2, e3, e4, e5⟩ := hE1.cells
      simp only at e0 e1 e2 e3 e4 e5
      have HB1 : base ≤ wc.heap.size := by omega
      have hlt1 := H1.lt
      clear c1 c2 gce gz k0 k1 k2 k3 k4 k5
      go_wp2_with fail
      go_region_law (refine step_ap1 (by rfl) (.tmp 60) (.tmp 62) _ (by rfl) elemEv (by rfl) (H1.evs.drewN 1) (Ev.cells ⟨2, eo, true, er, ev, true⟩) _ (by rfl) wc.heap.size (by rfl) (by simp) (Ev.one _) (by simp [maxLen]; omega) (by simp; omega) (by simp; omega) ?_; intro v3 w3 hown3 hg3 hv3; obtain ⟨A3, n3, c3, rfl⟩ := hown3.isSlice; have hg3' := grow_drewN (grow_alloc hg3); have hb3 := H1.blk0 hg3'; have d0 := (cell_of_row w3 rb 0 _ _ _ hb3).trans (show _ = some ve from rfl); have y0 := frozen_of_row w3 rb 0 _ _ hb3)
      all_goals
        have HF := Lib.hid (H1.put0 hg3' (show OwS w3 base 56 6 _ ((r.evs ++ [(⟨2, eo, true, er, ev, true⟩ : Ev)]).map Ev.cells) by simpa using hown3) (hv3.imp id fun h => ⟨_, h, by simp⟩))
        have HBF := Lib.hid (below_put (i := 0) (rb := rb) hb1 hg3' HB1 (fun k h => (H1.evs.lt h).1) (.slice A3 n3 c3))
        clear hown3 hg3 hg3' hb3 hv3
        go_wp2
        go_ret
        unfold RecPost
        rw [HR.out]
        exact ⟨rfl, ⟨_, _, _, HF.out⟩, HBF.out⟩

theorem hdone_any (op val : Int) (base rb : Nat) (r : Rcd) (w : World) (h : RecOk w base rb r) (hB : base ≤ w.heap.size) (hn : RcdLe r 100000) :
    Calls Try.prog 29 #[.pointer (some ⟨rb, 0, none⟩), .int .i64 op, .int .i64 val] w (RecPost base rb w (recDone r op val)) := by
  by_cases ho : op < 0 ∨ (r.calls.length : Int) ≤ op
  · exact hdone_none op val base rb r w h ho
  · obtain ⟨k, rfl⟩ : ∃ k : Nat, op = k := ⟨op.toNat, by omega⟩
    have hk : k < r.calls.length := by omega
    have hko : k < r.opn.length := by rw [hn.2.2]; exact hk
    rcases hb : r.opn[k] with _ | _
    · exact hdone_state k val base rb r w h hn hk (by rw [List.getElem?_eq_getElem hko, hb])
    · exact hdone_ok k val _ base rb r w h hB hn (List.getElem?_eq_getElem hk) (by rw [List.getElem?_eq_getElem hko, hb])
end Go.Proofs.Ytcgbnlhloopnfaa
