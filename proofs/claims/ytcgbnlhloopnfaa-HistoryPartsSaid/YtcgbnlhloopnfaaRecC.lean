/- Walks of the recorder's Read, Write, Flush, Done, Cut, Events. -/
import Derived.Test.YtcgbnlhloopnfaaRecB
import Derived.Test.YtcgbnlhloopnfaaLay
namespace Go.Proofs.Ytcgbnlhloopnfaa
open Go.RowKit

/-- what a call answers and leaves -/
def recCallN (r : Rcd) (e : Ev) : Int × Rcd := if e.reg < 0 ∨ e.val < 0 then (-1, r) else ((r.calls.length : Int), recCall r e)
def RecPost (base rb : Nat) (w : World) (p : Int × Rcd) (s : Ending) (w' : World) : Prop := s = .returned (.int .i64 p.1) ∧ RecOk w' base rb p.2 ∧ BelR base rb w w'
def RcdLe (r : Rcd) (n : Nat) : Prop := r.evs.length ≤ n ∧ r.calls.length ≤ n ∧ r.opn.length = r.calls.length

theorem hcall_any (e : Ev) (base rb : Nat) (r : Rcd) (w : World) (h : RecOk w base rb r) (hB : base ≤ w.heap.size) (hn : RcdLe r 100000) :
    Calls Try.prog 59 #[.pointer (some ⟨rb, 0, none⟩), e.agg] w (RecPost base rb w (recCallN r e)) := by
  by_cases h0 : e.reg < 0 ∨ e.val < 0
  · refine (hcall_no e rb w h0).mono ?_
    rintro s w' ⟨rfl, hb⟩
    unfold RecPost recCallN
    rw [if_pos h0]
    exact ⟨rfl, h.below hb, BelR.of hb hB⟩
  · refine (hcall_yes e base rb r w h hB hn.1 hn.2.1 (by rw [hn.2.2]; exact hn.2.1) (by omega) (by omega)).mono ?_
    rintro s w' ⟨rfl, hr, hb⟩
    unfold RecPost recCallN
    rw [if_neg h0]
    exact ⟨rfl, hr, hb⟩

set_option maxHeartbeats 1000000 in
theorem hread_any (reg : Int) (base rb : Nat) (r : Rcd) (w : World) (h : RecOk w base rb r) (hB : base ≤ w.heap.size) (hn : RcdLe r 100000) :
    Calls Try.prog 28 #[.pointer (some ⟨rb, 0, none⟩), .int .i64 reg] w (RecPost base rb w (recCallN r ⟨0, 0, false, reg, 0, false⟩)) := by
  have HC := Lib.hid (hcall_any ⟨0, 0, false, reg, 0, false⟩ base rb r w h hB hn)
  clear h
  go_enter Try.func28, Try.ntmps28
  go_wp2_with fail
  refine HC.out.mono ?_
  rintro s w1 ⟨rfl, hr, hb1⟩
  go_wp2
  go_ret
  exact ⟨rfl, hr, hb1⟩
set_option maxHeartbeats 1000000 in
theorem hwrite_any (reg val : Int) (force : Bool) (base rb : Nat) (r : Rcd) (w : World) (h : RecOk w base rb r) (hB : base ≤ w.heap.size) (hn : RcdLe r 100000) :
    Calls Try.prog 27 #[.pointer (some ⟨rb, 0, none⟩), .int .i64 reg, .int .i64 val, .bool force] w (RecPost base rb w (recCallN r ⟨0, 0, true, reg, val, force⟩)) := by
  have HC := Lib.hid (hcall_any ⟨0, 0, true, reg, val, force⟩ base rb r w h hB hn)
  clear h
  go_enter Try.func27, Try.ntmps27
  go_wp2_with fail
  refine HC.out.mono ?_
  rintro s w1 ⟨rfl, hr, hb1⟩
  go_wp2
  go_ret
  exact ⟨rfl, hr, hb1⟩
set_option maxHeartbeats 1000000 in
theorem hflush_any (base rb : Nat) (r : Rcd) (w : World) (h : RecOk w base rb r) (hB : base ≤ w.heap.size) (hn : RcdLe r 100000) :
    Calls Try.prog 30 #[.pointer (some ⟨rb, 0, none⟩)] w (RecPost base rb w (recCallN r ⟨0, 0, false, 0, 0, true⟩)) := by
  have HC := Lib.hid (hcall_any ⟨0, 0, false, 0, 0, true⟩ base rb r w h hB hn)
  clear h
  go_enter Try.func30, Try.ntmps30
  go_wp2_with fail
  refine HC.out.mono ?_
  rintro s w1 ⟨rfl, hr, hb1⟩
  go_wp2
  go_ret
  exact ⟨rfl, hr, hb1⟩

/-- the methods of a nil recorder -/
def NilPost (w : World) (x : Int) (s : Ending) (w' : World) : Prop := s = .returned (.int .i64 x) ∧ Below w.heap.size w w'
set_option maxHeartbeats 1000000 in
theorem hread_nil (reg : Int) (w : World) : Calls Try.prog 28 #[.pointer none, .int .i64 reg] w (NilPost w (-1)) := by
  have HC := Lib.hid (hcall_nil ⟨0, 0, false, reg, 0, false⟩ w)
  go_enter Try.func28, Try.ntmps28
  go_wp2_with fail
  refine HC.out.mono ?_
  rintro s w1 ⟨rfl, hb1⟩
  go_wp2
  go_ret
  exact ⟨rfl, hb1⟩
set_option maxHeartbeats 1000000 in
theorem hwrite_nil (reg val : Int) (force : Bool) (w : World) : Calls Try.prog 27 #[.pointer none, .int .i64 reg, .int .i64 val, .bool force] w (NilPost w (-1)) := by
  have HC := Lib.hid (hcall_nil ⟨0, 0, true, reg, val, force⟩ w)
  go_enter Try.func27, Try.ntmps27
  go_wp2_with fail
  refine HC.out.mono ?_
  rintro s w1 ⟨rfl, hb1⟩
  go_wp2
  go_ret
  exact ⟨rfl, hb1⟩
set_option maxHeartbeats 1000000 in
theorem hflush_nil (w : World) : Calls Try.prog 30 #[.pointer none] w (NilPost w (-1)) := by
  have HC := Lib.hid (hcall_nil ⟨0, 0, false, 0, 0, true⟩ w)
  go_enter Try.func30, Try.ntmps30
  go_wp2_with fail
  refine HC.out.mono ?_
  rintro s w1 ⟨rfl, hb1⟩
  go_wp2
  go_ret
  exact ⟨rfl, hb1⟩
set_option maxHeartbeats 1000000 in
theorem hdone_nil (op val : Int) (w : World) : Calls Try.prog 29 #[.pointer none, .int .i64 op, .int .i64 val] w (NilPost w 8) := by
  go_enter Try.func29, Try.ntmps29
  go_wp2
  go_ret
  exact ⟨rfl, Below.refl _ _⟩
set_option maxHeartbeats 1000000 in
theorem hcut_nil (w : World) : Calls Try.prog 31 #[.pointer none] w fun s w' => s = .returned (.tuple #[]) ∧ Below w.heap.size w w' := by
  go_enter Try.func31, Try.ntmps31
  go_wp2
  exact bodyPost_ret (results_none rfl _ _ _) rfl ⟨rfl, Below.refl _ _⟩
set_option maxHeartbeats 1000000 in
theorem hevents_nil (w : World) : Calls Try.prog 32 #[.pointer none] w fun s w' => s = .returned (.slice none 0 0) ∧ Below w.heap.size w w' := by
  go_enter Try.func32, Try.ntmps32
  go_wp2
  go_ret
  exact ⟨rfl, Below.refl _ _⟩

/-- Clone, Events -/
theorem OwS.cases {w : World} {base size : Nat} {e : TypeId} {v : Value} {rows : List (List Value)} (h : OwS w base e size v rows) : (v = .slice none 0 0 ∧ rows = []) ∨ ∃ g c, v = .slice (some ⟨g, 0, none⟩) rows.length c ∧ base ≤ g ∧ g < w.heap.size := by
  rcases h.2.2 with ⟨hv, h0⟩ | ⟨g, cap, cur, hv, hb, hh, _⟩
  · exact .inl ⟨hv, List.eq_nil_of_length_eq_zero h0⟩
  · exact .inr ⟨g, cap, hv, hb, (Array.getElem?_eq_some_iff.1 hh).1⟩
set_option maxHeartbeats 1000000 in
set_option maxRecDepth 100000 in
theorem clone_any (l : List Ev) (v : Value) (base : Nat) (w : World) (h : OwS w base 56 6 v (l.map Ev.cells)) (hn : l.length ≤ 100000) :
    Calls Try.prog 34 #[v] w (LayE w l) := by
  rcases h.cases with ⟨rfl, h0⟩ | ⟨g, c, rfl, hg, hgl⟩
  · have hl : l = [] := by cases l with | nil => rfl | cons => simp at h0
    subst hl
    clear h h0
    have he : ∀ w : World, (binOp .eql 22 (.slice none 0 0) (.slice none 0 0)).run Try.prog w = .ok (.bool true) w := fun _ => rfl
    go_enter Try.func34, Try.ntmps34
    go_wp2
    go_ret
    exact ⟨_, rfl, OwS.nil _ _ _ _, Below.refl _ _⟩
  · have H := Lib.hid h.reads
    rw [List.length_map]
    clear h
    have he : ∀ w : World, (binOp .eql 22 (.slice (some ⟨g, 0, none⟩) l.length c) (.slice none 0 0)).run Try.prog w = .ok (.bool false) w := fun _ => rfl
    go_enter Try.func34, Try.ntmps34
    have hz : OwS (w.alloc (.cells #[] 56)) w.heap.size 56 6 (.slice (some ⟨w.heap.size, 0, none⟩) 0 0) [] := OwS.lit (by simp) (heap_alloc_new w _) rfl rfl (by decide) (Nat.le_refl _)
    have hrr : EvS (w.alloc (.cells #[] 56)) w.heap.size (some ⟨g, 0, none⟩) l := H.out.below below_laid
    go_wp2_with (at_builtin; refine wpList_apS rfl (.tmp 5) (.tmp 6) _ rfl elemEv rfl hz w.heap.size _ _ c (l.map Ev.cells) rfl hrr (by simp) OwS.oneEv (by simp [maxLen]; omega) (by simp; omega) (by simp) ?_)
    intro v3 w3 hown3 hg3 _
    have hb3 : Below w.heap.size w w3 := ((Below.refl w.heap.size w).alloc (Nat.le_refl _) _).grown hg3 (by simp) (fun k h => (hz.lt h).1)
    clear hg3 hz
    go_wp2
    go_ret
    exact ⟨_, rfl, by simpa using hown3, hb3⟩

set_option maxHeartbeats 1000000 in
theorem hevents_any (base rb : Nat) (r : Rcd) (w : World) (h : RecOk w base rb r) (hn : r.evs.length ≤ 100000) :
    Calls Try.prog 32 #[.pointer (some ⟨rb, 0, none⟩)] w (LayE w r.evs) := by
  obtain ⟨ve, vc, vo, h⟩ := h
  have hlt := h.lt
  obtain ⟨c0, -, -, -, -, -⟩ := h.cells
  have HC := Lib.hid (clone_any r.evs ve base w h.evs hn)
  clear h
  go_enter Try.func32, Try.ntmps32
  go_wp2_with fail
  refine HC.out.mono ?_
  rintro s w1 ⟨v, rfl, hown, hb⟩
  go_wp2
  go_ret
  exact ⟨_, rfl, hown, hb⟩

/-- a cut -/
def recCut (r : Rcd) : Rcd := ⟨r.evs ++ [Ev.cut], r.calls, r.opn.map fun _ => false⟩
def offTo (l : List Bool) (k : Nat) : List Bool := (l.take k).map (fun _ => false) ++ l.drop k
theorem offTo_len (l : List Bool) (k : Nat) : (offTo l k).length = l.length := by simp [offTo]; omega
theorem offTo_zero (l : List Bool) : offTo l 0 = l := by simp [offTo]
theorem offTo_all (l : List Bool) : offTo l l.length = l.map fun _ => false := by simp [offTo]
theorem offTo_succ {l : List Bool} {k : Nat} (h : k < l.length) : offTo l (k + 1) = (offTo l k).set k false := by
  unfold offTo
  rw [List.set_append_right _ _ (by simp; omega)]
  rw [List.take_add_one, List.getElem?_eq_getElem h, List.drop_eq_getElem_cons h, List.length_map, List.length_take, Nat.min_eq_left (Nat.le_of_lt h), Nat.sub_self, List.set_cons_zero, Option.toList_some, List.map_append, List.append_assoc]
  rfl
theorem RecV.flip {w : World} {base rb g n c : Nat} {r : Rcd} {ve vc : Value} (h : RecV w base rb r ve vc (.slice (some ⟨g, 0, none⟩) n c)) {k : Nat} (hk : k < r.opn.length) (b : Bool) :
    RecV (w.setCell ⟨g, k, none⟩ (.bool b)) base rb ⟨r.evs, r.calls, r.opn.set k b⟩ ve vc (.slice (some ⟨g, 0, none⟩) n c) := by
  have hr : (r.opn.map flCell)[k]? = some (flCell r.opn[k]) := by rw [List.getElem?_map, List.getElem?_eq_getElem hk]; rfl
  have hs := (h.opn.set hr (j := 0) (by decide) (.bool b)).1
  have e : (r.opn.map flCell).set k ((flCell r.opn[k]).set 0 (.bool b)) = (r.opn.set k b).map flCell := by rw [List.map_set]; rfl
  rw [e, Nat.mul_one, Nat.add_zero] at hs
  have hgr : g ≠ rb := fun e => h.opn.blk_ne h.blk (by decide) (by rw [e]; rfl)
  refine ⟨?_, h.evs.far ?_ _, h.calls.far ?_ _, hs, h.apart⟩
  · rw [heap_setCell_other _ _ _ _ (fun e => hgr e.symm)]; exact h.blk
  · rcases h.evs.ne h.opn (by decide) with h1 | h1
    · rw [h1]; simp
    · exact h1
  · rcases h.calls.ne h.opn (by decide) with h1 | h1
    · rw [h1]; simp
    · exact h1
theorem RecV.opn_cell {w : World} {base rb : Nat} {r : Rcd} {ve vc vo : Value} (h : RecV w base rb r ve vc vo) {k : Nat} (hk : k < r.opn.length) :
    ∃ g c, vo = .slice (some ⟨g, 0, none⟩) r.opn.length c ∧ base ≤ g ∧ g < w.heap.size ∧ w.cell? ⟨g, k, none⟩ = some (.bool r.opn[k]) ∧ w.frozen? ⟨g, k, none⟩ = false ∧ g ≠ rb := by
  obtain ⟨g, c, hv, hg, hgl⟩ := h.opn.pos (by rw [List.length_map]; omega)
  rw [List.length_map] at hv
  subst hv
  have hr : (r.opn.map flCell)[k]? = some (flCell r.opn[k]) := by rw [List.getElem?_map, List.getElem?_eq_getElem hk]; rfl
  have h1 := h.opn.cell hr (j := 0) rfl
  rw [Nat.mul_one, Nat.add_zero] at h1
  exact ⟨g, c, rfl, hg, hgl, h1, h.opn.frozen k, fun e => h.opn.blk_ne h.blk (by decide) (by rw [e]; rfl)⟩

set_option maxHeartbeats 2000000 in
set_option maxRecDepth 100000 in
theorem hcut_any (base rb : Nat) (r : Rcd) (w : World) (h : RecOk w base rb r) (hB : base ≤ w.heap.size) (hn : RcdLe r 100000) :
    Calls Try.prog 31 #[.pointer (some ⟨rb, 0, none⟩)] w fun s w' => s = .returned (.tuple #[]) ∧ RecOk w' base rb (recCut r) ∧ BelR base rb w w' := by
  obtain ⟨ve, vc, vo, h⟩ := h
  have hlt := h.lt
  obtain ⟨c0, c1, c2, z0, z1, z2⟩ := h.cells
  obtain ⟨Ao, co, hvo, -, -⟩ := h.opn.form
  rw [List.length_map] at hvo
  subst hvo
  have H := Lib.hid h
  have hon : r.opn.length ≤ 100000 := by have := hn.2.1; have := hn.2.2; omega
  have hen := hn.1
  clear h hn
  go_enter Try.func31, Try.ntmps31
  go_wp2_with (at_builtin; refine wpList_ap1 rfl (.tmp 9) (.tmp 11) _ rfl elemEv rfl H.out.evs Ev.cut.cells _ rfl _ rfl (by simp) (Ev.one _) (by simp [maxLen]; omega) (by simp; omega) hB ?_)
  intro v3 w3 hown3 hg3 hv3
  obtain ⟨A3, n3, c3, rfl⟩ := hown3.isSlice
  have hg3' := grow_alloc hg3
  have hbk := H.out.blk0 hg3'
  have d0 := (cell_of_row w3 rb 0 _ _ _ hbk).trans (show _ = some ve from rfl)
  have d2 := (cell_of_row w3 rb 2 _ _ _ hbk).trans (show _ = some (.slice Ao r.opn.length co) from rfl)
  have y0 := frozen_of_row w3 rb 0 _ _ hbk
  have HF := Lib.hid (H.out.put0 hg3' (show OwS w3 base 56 6 _ ((r.evs ++ [Ev.cut]).map Ev.cells) by simpa using hown3) (hv3.imp id fun h => ⟨_, h, by simp⟩))
  have HBF := Lib.hid (below_put (i := 0) (rb := rb) (BelR.refl base rb w) hg3' hB (fun k h => (H.out.evs.lt h).1) (.slice A3 n3 c3))
  clear hown3 hg3 hg3' hbk hv3
  go_wp2
  go_loopw [20] (fun i wr => ∃ k : Nat, k ≤ r.opn.length ∧ i = .int .i64 k ∧ RecV wr base rb ⟨r.evs ++ [Ev.cut], r.calls, offTo r.opn k⟩ (.slice A3 n3 c3) vc (.slice Ao r.opn.length co) ∧ BelR base rb w wr) (fun i _ => r.opn.length - (intOf i).toNat)
  case atStart => exact ⟨0, by omega, rfl, by rw [offTo_zero]; exact HF.out, HBF.out⟩
  case round =>
    obtain ⟨k, hk, rfl, hr, hb⟩ := hrel
    by_cases hk2 : k < r.opn.length
    · have HOL := Lib.hid (offTo_len r.opn k)
      obtain ⟨g, c, hv, hg, hgl, gc, gz, hgr⟩ := hr.opn_cell (k := k) (by simp only; rw [HOL.out]; exact hk2)
      injection hv with hv1 hv2 hv3
      subst hv1
      clear hv2 hv3
      have hrl := hr.lt
      obtain ⟨-, -, d2, -, -, -⟩ := hr.cells
      have HN := Lib.hid (hr.flip (k := k) (by simp only; rw [HOL.out]; exact hk2) false)
      have HS := Lib.hid (offTo_succ hk2)
      have hki : (k : Int) < (r.opn.length : Int) := by omega
      have hki0 : (0 : Int) ≤ (k : Int) := by omega
      clear hr
      go_wp2
      go_roundw
      case rel => exact ⟨k + 1, by omega, by go_num, by rw [HS.out]; exact HN.out, hb.setCell (.inl (show base ≤ g from hg)) _⟩
      case measure => simp [intOf]; omega
    · obtain rfl : k = r.opn.length := by omega
      rw [offTo_all] at hr
      go_wp2
      go_end0
      exact ⟨rfl, ⟨_, _, _, hr⟩, hb⟩
end Go.Proofs.Ytcgbnlhloopnfaa
