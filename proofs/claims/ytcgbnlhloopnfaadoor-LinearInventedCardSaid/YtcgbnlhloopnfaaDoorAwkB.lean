/- Walk of tegulalaw46's awake: the document's examples hold. -/
import Derived.Test.YtcgbnlhloopnfaaDoorGFnX
import Derived.Test.YtcgbnlhloopnfaaDoorLinG
namespace Go.Proofs.YtcgbnlhloopnfaaDoor
open Go.RowKit

/-- the package variable 'cut' -/
def CutG (w : World) : Prop := w.cell? ⟨0, 0, none⟩ = some (.int .i64 3) ∧ w.cell? ⟨0, 1, none⟩ = some (.int .i64 0) ∧ w.cell? ⟨0, 2, none⟩ = some (.bool false) ∧ w.cell? ⟨0, 3, none⟩ = some (.int .i64 0) ∧ w.cell? ⟨0, 4, none⟩ = some (.int .i64 0) ∧ w.cell? ⟨0, 5, none⟩ = some (.bool false)
theorem CutG.below {w w' : World} {B : Nat} (h : CutG w) (hb : Below B w w') (hB : 0 < B) : CutG w' := by
  obtain ⟨h0, h1, h2, h3, h4, h5⟩ := h
  exact ⟨(hb.cell (by show 0 < B; omega)).trans h0, (hb.cell (by show 0 < B; omega)).trans h1, (hb.cell (by show 0 < B; omega)).trans h2, (hb.cell (by show 0 < B; omega)).trans h3, (hb.cell (by show 0 < B; omega)).trans h4, (hb.cell (by show 0 < B; omega)).trans h5⟩
theorem CutG.pos {w : World} (h : CutG w) : 0 < w.heap.size := block_lt_of_cell h.1
def ExpL (l : List Ev) : Prop := ExpO (rawOps l) (cutsL l) 0 0
def AccL (l : List Ev) (wl : List (List Int × Int)) : Prop := wl.length = cutsL l + 1 ∧ accI (rawOps l) (cutsL l) 0 0 wl = true
/-- what may be given to Find -/
def FindOk (l : List Ev) : Prop := oneL l = true ∧ l.length ≤ 100000 ∧ WfOp l ∧ WfReg l ∧ ∀ e ∈ l, (Lit.int .i64 e.val).wf = true
theorem find_yes {l : List Ev} (ho : FindOk l) (hb : anyBig (rawOps l) (cutsL l) = false) (hl : ExpL l) (A : Option Addr) (c B : Nat) (w : World) (h : EvS w B A l) (hB : B ≤ w.heap.size) :
    Calls Tryd.prog 15 #[.slice A l.length c] w fun r w' => (∃ ov wl, r = .returned (.tuple #[ov, .bool true, .int .i64 0]) ∧ AccL l wl ∧ @OutS ⟨w.heap.size⟩ w' ov wl) ∧ Below w.heap.size w w' := by
  obtain ⟨h1, h2, h3, h4, h5⟩ := ho
  refine (lfind_any l A c B w h hB h2 h3 h4 h5).mono ?_
  intro r w' ⟨hbl, hr⟩
  rw [h1, hb] at hr
  simp only [if_true, Bool.false_eq_true, if_false] at hr
  obtain ⟨b, ov, wl, rfl, g1, g2⟩ := hr
  cases b
  · exact absurd hl (g2 rfl).2
  · obtain ⟨e1, e2, e3⟩ := g1 rfl
    exact ⟨⟨ov, wl, rfl, ⟨e1, e2⟩, e3⟩, hbl⟩
theorem find_no {l : List Ev} (ho : FindOk l) (hb : anyBig (rawOps l) (cutsL l) = false) (hl : ¬ ExpL l) (A : Option Addr) (c B : Nat) (w : World) (h : EvS w B A l) (hB : B ≤ w.heap.size) :
    Calls Tryd.prog 15 #[.slice A l.length c] w fun r w' => r = .returned (.tuple #[.slice none 0 0, .bool false, .int .i64 0]) ∧ Below w.heap.size w w' := by
  obtain ⟨h1, h2, h3, h4, h5⟩ := ho
  refine (lfind_any l A c B w h hB h2 h3 h4 h5).mono ?_
  intro r w' ⟨hbl, hr⟩
  rw [h1, hb] at hr
  simp only [if_true, Bool.false_eq_true, if_false] at hr
  obtain ⟨b, ov, wl, rfl, g1, g2⟩ := hr
  cases b
  · rw [(g2 rfl).1]; exact ⟨rfl, hbl⟩
  · obtain ⟨e1, e2, -⟩ := g1 rfl
    exact absurd ⟨wl, by omega, e2⟩ hl
theorem ex46_ok (force : Bool) : FindOk (ex46 force) := ⟨(ex46_one force).1, by cases force <;> decide, (ex46_wf force).1, (ex46_wf force).2.1, (ex46_wf force).2.2⟩
theorem ex46_yes : ExpL (ex46 false) := (linB_iff (ex46_one false).2.2).1 (ex46_lin false)
theorem ex46_no : ¬ ExpL (ex46 true) := linB_not (ex46_one true).2.2 (ex46_lin true)
theorem OutS.isSlice {w : World} {b : Nat} {ov : Value} {wl : List (List Int × Int)} (h : @OutS ⟨b⟩ w ov wl) : ∃ A c, ov = .slice A wl.length c := by
  obtain ⟨es, h1, h2, -⟩ := h
  obtain ⟨A, c, h3, -, -⟩ := h2.form
  exact ⟨A, c, by rw [h3, ← h1]; simp⟩
theorem lenOf {n m : Nat} {x : Int} (h : n = m) (hx : x = m) : (n : Int) = x := by rw [h, hx]

def wl46 : List (List Int × Int) := [([0], 0), ([1], 1)]
def w3of (w : World) : World := ((w.alloc (Obj.cells #[Value.int IntKind.i64 0] 3)).alloc (Obj.cells #[Value.int IntKind.i64 1] 3)).alloc (Obj.cells #[Value.slice (some ⟨w.heap.size, 0, none⟩) 1 1, Value.int IntKind.i64 0, Value.slice (some ⟨w.heap.size + 1, 0, none⟩) 1 1, Value.int IntKind.i64 1] 37)
theorem bel46 (w : World) : Below w.heap.size w (w3of w) := (below_laid.alloc (by simp) _).alloc (by simp; omega) _
theorem win46 (w : World) : WinS (w3of w) (w3of w).heap.size (some ⟨w.heap.size + 1 + 1, 0, none⟩) wl46 := by
  have g2 : (w3of w).heap[w.heap.size + 1 + 1]? = some (Obj.cells #[Value.slice (some ⟨w.heap.size, 0, none⟩) 1 1, Value.int IntKind.i64 0, Value.slice (some ⟨w.heap.size + 1, 0, none⟩) 1 1, Value.int IntKind.i64 1] 37) := heap_third _ _ _ _
  have g1 : (w3of w).heap[w.heap.size + 1]? = some (Obj.cells #[Value.int IntKind.i64 1] 3) := by
    unfold w3of
    rw [Below.heap_alloc _ _ _ (by simp)]
    exact heap_new_at _ _ (by simp)
  have g0 : (w3of w).heap[w.heap.size]? = some (Obj.cells #[Value.int IntKind.i64 0] 3) := by
    unfold w3of
    rw [Below.heap_alloc _ _ _ (by simp; omega), Below.heap_alloc _ _ _ (by simp)]
    exact heap_new_at _ _ rfl
  refine ⟨[(some ⟨w.heap.size, 0, none⟩, 1), (some ⟨w.heap.size + 1, 0, none⟩, 1)], rfl, ?_, fun i p x hp hx => ?_⟩
  · exact (OwS.lit (base := 0) (size := 2) (n := 2) (by simp [wl46]) g2 rfl rfl (by decide) (Nat.zero_le _)).reads
  · match i, hp, hx with
    | 0, hp, hx =>
      simp [wl46] at hp hx
      subst hp hx
      exact (OwS.lit (base := 0) (size := 1) (n := 1) (by simp [icell]) g0 rfl rfl (by decide) (Nat.zero_le _)).reads
    | 1, hp, hx =>
      simp [wl46] at hp hx
      subst hp hx
      exact (OwS.lit (base := 0) (size := 1) (n := 1) (by simp [icell]) g1 rfl rfl (by decide) (Nat.zero_le _)).reads
    | n + 2, hp, _ => simp at hp
theorem acc46 (A : Option Addr) (c B : Nat) (w : World) (h : EvS w B A (ex46 false)) (hB : B ≤ w.heap.size) :
    Calls Tryd.prog 19 #[.slice A (ex46 false).length c, .slice (some ⟨w.heap.size + 1 + 1, 0, none⟩) 2 2] (w3of w) fun r w' => r = .returned (.tuple #[.bool true, .int .i64 0]) ∧ Below w.heap.size w w' := by
  refine (accepts_any (ex46 false) wl46 A (some ⟨w.heap.size + 1 + 1, 0, none⟩) c 2 (w3of w).heap.size (w3of w) ((h.below' (bel46 w) hB).more (Nat.le_trans hB (bel46 w).size)) (win46 w) (Nat.le_refl _) (ex46_ok false).2.1 (by decide) (by decide) (ex46_ok false).2.2.1 (ex46_ok false).2.2.2.1).mono ?_
  rintro r w' ⟨hb, hr⟩
  rw [(ex46_ok false).1] at hr
  simp only [if_true] at hr
  rw [show accI (rawOps (ex46 false)) (cutsL (ex46 false)) 0 0 wl46 = true from ex46_acc] at hr
  exact ⟨hr, (bel46 w).trans (hb.mono (bel46 w).size)⟩

theorem one46 {w : World} {g : Nat} {T : TypeId} (h : w.heap[g]? = some (.cells Ev.cut.cells.toArray T)) : EvS w w.heap.size (some ⟨g, 0, none⟩) [Ev.cut] := by
  refine ⟨by simp [Ev.cells], fun _ => ⟨g, 0, rfl, (Array.getElem?_eq_some_iff.1 h).1, fun i r hi j v hj => ?_⟩⟩
  match i, hi with
  | 0, hi =>
    simp at hi
    subst hi
    rw [cell_of_row _ _ _ _ _ _ h]
    simpa using hj
theorem new46 (w : World) (o : Obj) : (w.drew.alloc o).heap[w.heap.size]? = some o := heap_alloc_new w.drew o
theorem al46 (w : World) (o : Obj) : Below w.heap.size w (w.drew.alloc o) := (Below.refl _ _).drew.alloc (Nat.le_refl _) o

set_option maxHeartbeats 4000000 in
set_option maxRecDepth 100000 in
theorem awake46_any (w : World) (hg : CutG w) : Calls Tryd.prog 12 #[] w fun e w' => e = .returned (.bool true) ∧ Below w.heap.size w w' := by
  have hgp := hg.pos
  have HAC := Lib.hid (fun A c B W (h : EvS W B A (ex46 false)) (hB : B ≤ W.heap.size) => acc46 A c B W h hB)
  have HG : Hid (∀ W, Below w.heap.size w W → CutG W) := fun W hW => hg.below hW hgp
  have HWA := Lib.hid (fun W => write46_any 0 5 false W)
  have HWB := Lib.hid (fun W => write46_any 0 5 true W)
  have HR := Lib.hid (fun W => read46_any 1 0 W)
  have HFA := Lib.hid (fun A c W (h : EvS W W.heap.size A (ex46 false)) => find_yes (ex46_ok false) (ex46_one false).2.1 ex46_yes A c W.heap.size W h (Nat.le_refl _))
  have HFB := Lib.hid (fun A c W (h : EvS W W.heap.size A (ex46 true)) => find_no (ex46_ok true) (ex46_one true).2.1 ex46_no A c W.heap.size W h (Nat.le_refl _))
  obtain ⟨c0, c1, c2, c3, c4, c5⟩ := hg
  go_enter Tryd.func12, Tryd.ntmps12
  go_wp2_with fail
  have HGQ := HG
  have HGQ := HG
  have HGQ := HG
  have HGQ := HG
  go_cut [1] (fun s1 wx => OwS wx w.heap.size 45 6 s1 ((ex46 false).map Ev.cells) ∧ Below w.heap.size w wx)
  case first =>
    go_region_held3 (fun w' => w'.cell? ⟨0, 0, none⟩ = some (.int .i64 3) ∧ w'.cell? ⟨0, 1, none⟩ = some (.int .i64 0) ∧ w'.cell? ⟨0, 2, none⟩ = some (.bool false) ∧ w'.cell? ⟨0, 3, none⟩ = some (.int .i64 0) ∧ w'.cell? ⟨0, 4, none⟩ = some (.int .i64 0) ∧ w'.cell? ⟨0, 5, none⟩ = some (.bool false)) (first | go_keep | exact hs1.out | exact hs3.out | exact hs4.out | exact hs5.out)
      (first
        | (go_at_call 21; (with_reducible refine (HWA.out _).mono ?_); rintro r y1 ⟨v1, rfl, hown1, hb1⟩; have hbe1 := Lib.hid (one46 (w := y1) (g := w.heap.size) (T := 45) ((hb1.block w.heap.size (by simp)).trans (new46 w _))); have hbw1 : Below w.heap.size w y1 := (al46 w _).trans (hb1.mono (by simp)); have hs1 := Lib.hid (HGQ.out _ hbw1); have hz1 := hbw1.size; have hown1 := hown1.mono (show w.heap.size ≤ _ by simp); clear hb1)
        | (go_at_call 21; (with_reducible refine (HWA.out _).mono ?_); rintro r y1 ⟨v1, rfl, hown1, hb1⟩; have hbw1 : Below w.heap.size w y1 := (Below.refl _ _).drew.trans hb1; have hs1 := Lib.hid (HGQ.out _ hbw1); have hz1 := hbw1.size; have hown1 := hown1.mono (show w.heap.size ≤ _ by simp); clear hb1)
        | (go_at_call 22; ((with_reducible refine (HR.out _).mono ?_); rintro r y4 ⟨v4, rfl, hown4, hb4'⟩); have hown3 := hown3.below hb4'; have hbw4 := hbw3.trans (hb4'.mono hz3); have hs4 := Lib.hid (HGQ.out _ hbw4); have hz4 := hbw4.size; obtain ⟨A4, c4', rfl, -, -⟩ := hown4.form; have hr4 := hown4.reads; clear hown4 hb4')
        | ((refine step_apS (by rfl) (.tmp 11) (.tmp 13) _ (by rfl) elemEv (by rfl) hown1 y1.heap.size _ _ _ ([Ev.cut].map Ev.cells) (by rfl) hbe1.out (by rfl) OwS.oneEv (by simp [w46, maxLen]) (by simp [w46]) hz1 ?_; intro v3 y3 hown3 hg3 _; have hbw3 : Below w.heap.size w y3 := hbw1.grown hg3 hz1 (fun g hg => (hown1.lt hg).1); have hz3 := hbw3.size; have hs3 := Lib.hid (HGQ.out _ hbw3); clear hg3))
        | ((refine step_ap1 (by rfl) (.tmp 11) (.tmp 13) _ (by rfl) elemEv (by rfl) hown1 Ev.cut.cells _ (by rfl) y1.heap.size (by rfl) (by rfl) (Ev.one _) (by simp [w46, maxLen]) (by simp [w46]) hz1 ?_; intro v3 y3 hown3 hg3 _; have hbw3 : Below w.heap.size w y3 := (hbw1.alloc hz1 _).grown hg3 (by simp; omega) (fun g hg => (hown1.lt hg).1); have hz3 := hbw3.size; have hs3 := Lib.hid (HGQ.out _ hbw3); clear hg3))
        | ((refine step_apS (by rfl) (.tmp 14) (.tmp 15) _ (by rfl) elemEv (by rfl) hown3 y4.heap.size A4 _ c4' ((r46 1 0).map Ev.cells) (by rfl) hr4 (by rfl) OwS.oneEv (by simp [w46, r46, maxLen]) (by simp [w46, r46]) hz4 ?_; intro v5 y5 hown5 hg5 _; have hbw5 : Below w.heap.size w y5 := hbw4.grown hg5 hz4 (fun g hg => (hown3.lt hg).1); have hs5 := Lib.hid (HGQ.out _ hbw5); clear hg5))
        | fail)
    all_goals
      go_wp2_with fail
      go_meet
      exact ⟨by simpa [ex46] using hown5, hbw5⟩
  obtain ⟨hown, hbx⟩ := hcut
  clear HGQ
  have hz1 := hbx.size
  obtain ⟨A1, k1, rfl, -, -⟩ := hown.form
  rw [List.length_map]
  have hr1 : EvS wc wc.heap.size A1 (ex46 false) := hown.reads
  clear hown c0 c1 c2 c3 c4 c5
  go_wp2_with fail
  refine (HFA.out _ _ _ hr1).mono ?_
  rintro r w2 ⟨⟨ov, wl, rfl, ⟨hl2, -⟩, hout⟩, hb2⟩
  have hr2 : EvS w2 wc.heap.size A1 (ex46 false) := hr1.below' hb2 (Nat.le_refl _)
  have hq2 := hb2.size
  have hbw2 := hbx.trans (hb2.mono hz1)
  have hz2 := hbw2.size
  obtain ⟨A2, k2, rfl⟩ := hout.isSlice
  clear hout hr1 hb2 hbx
  have hl2' : wl.length = 2 := hl2
  clear hl2
  generalize wl.length = n2 at *
  subst hl2'
  go_wp2_with fail
  refine (HAC.out _ _ _ _ hr2 hq2).mono ?_
  rintro r w4 ⟨rfl, hb4⟩
  have hbw4 := hbw2.trans (hb4.mono hz2)
  have hz4 := hbw4.size
  have HGQ : Hid (∀ W, Below w4.heap.size w4 W → CutG W) := fun W hW => HG.out W (hbw4.trans (hW.mono hz4))
  obtain ⟨c0, c1, c2, c3, c4, c5⟩ := HG.out _ hbw4
  clear hr2 hq2 hbw2 hz2 hb4
  go_wp2_with fail
  go_cut [7] (fun s7 wx => OwS wx w4.heap.size 45 6 s7 ((ex46 true).map Ev.cells) ∧ Below w4.heap.size w4 wx)
  case first =>
    go_region_held3 (fun w' => w'.cell? ⟨0, 0, none⟩ = some (.int .i64 3) ∧ w'.cell? ⟨0, 1, none⟩ = some (.int .i64 0) ∧ w'.cell? ⟨0, 2, none⟩ = some (.bool false) ∧ w'.cell? ⟨0, 3, none⟩ = some (.int .i64 0) ∧ w'.cell? ⟨0, 4, none⟩ = some (.int .i64 0) ∧ w'.cell? ⟨0, 5, none⟩ = some (.bool false)) (first | go_keep | exact hs1.out | exact hs3.out | exact hs4.out | exact hs5.out)
      (first
        | (go_at_call 21; (with_reducible refine (HWB.out _).mono ?_); rintro r y1 ⟨v1, rfl, hown1, hb1⟩; have hbe1 := Lib.hid (one46 (w := y1) (g := w4.heap.size) (T := 45) ((hb1.block w4.heap.size (by simp)).trans (new46 w4 _))); have hbw1 : Below w4.heap.size w4 y1 := (al46 w4 _).trans (hb1.mono (by simp)); have hs1 := Lib.hid (HGQ.out _ hbw1); have hz1 := hbw1.size; have hown1 := hown1.mono (show w4.heap.size ≤ _ by simp); clear hb1)
        | (go_at_call 21; (with_reducible refine (HWB.out _).mono ?_); rintro r y1 ⟨v1, rfl, hown1, hb1⟩; have hbw1 : Below w4.heap.size w4 y1 := (Below.refl _ _).drew.trans hb1; have hs1 := Lib.hid (HGQ.out _ hbw1); have hz1 := hbw1.size; have hown1 := hown1.mono (show w4.heap.size ≤ _ by simp); clear hb1)
        | (go_at_call 22; ((with_reducible refine (HR.out _).mono ?_); rintro r y4 ⟨v4, rfl, hown4, hb4'⟩); have hown3 := hown3.below hb4'; have hbw4 := hbw3.trans (hb4'.mono hz3); have hs4 := Lib.hid (HGQ.out _ hbw4); have hz4 := hbw4.size; obtain ⟨A4, c4', rfl, -, -⟩ := hown4.form; have hr4 := hown4.reads; clear hown4 hb4')
        | ((refine step_apS (by rfl) (.tmp 33) (.tmp 35) _ (by rfl) elemEv (by rfl) hown1 y1.heap.size _ _ _ ([Ev.cut].map Ev.cells) (by rfl) hbe1.out (by rfl) OwS.oneEv (by simp [w46, maxLen]) (by simp [w46]) hz1 ?_; intro v3 y3 hown3 hg3 _; have hbw3 : Below w4.heap.size w4 y3 := hbw1.grown hg3 hz1 (fun g hg => (hown1.lt hg).1); have hz3 := hbw3.size; have hs3 := Lib.hid (HGQ.out _ hbw3); clear hg3))
        | ((refine step_ap1 (by rfl) (.tmp 33) (.tmp 35) _ (by rfl) elemEv (by rfl) hown1 Ev.cut.cells _ (by rfl) y1.heap.size (by rfl) (by rfl) (Ev.one _) (by simp [w46, maxLen]) (by simp [w46]) hz1 ?_; intro v3 y3 hown3 hg3 _; have hbw3 : Below w4.heap.size w4 y3 := (hbw1.alloc hz1 _).grown hg3 (by simp; omega) (fun g hg => (hown1.lt hg).1); have hz3 := hbw3.size; have hs3 := Lib.hid (HGQ.out _ hbw3); clear hg3))
        | ((refine step_apS (by rfl) (.tmp 36) (.tmp 37) _ (by rfl) elemEv (by rfl) hown3 y4.heap.size A4 _ c4' ((r46 1 0).map Ev.cells) (by rfl) hr4 (by rfl) OwS.oneEv (by simp [w46, r46, maxLen]) (by simp [w46, r46]) hz4 ?_; intro v5 y5 hown5 hg5 _; have hbw5 : Below w4.heap.size w4 y5 := hbw4.grown hg5 hz4 (fun g hg => (hown3.lt hg).1); have hs5 := Lib.hid (HGQ.out _ hbw5); clear hg5))
        | fail)
    all_goals
      go_wp2_with fail
      go_meet
      exact ⟨by simpa [ex46] using hown5, hbw5⟩
  obtain ⟨hown, hbx⟩ := hcut
  clear HGQ c0 c1 c2 c3 c4 c5
  have hzx := hbx.size
  have hbw5 := hbw4.trans (hbx.mono hz4)
  have hz5 := hbw5.size
  obtain ⟨A5, k5, rfl, -, -⟩ := hown.form
  rw [List.length_map]
  have hr5 : EvS wc wc.heap.size A5 (ex46 true) := hown.reads
  clear hown
  go_wp2_with fail
  refine (HFB.out _ _ _ hr5).mono ?_
  rintro r w6 ⟨rfl, hb6⟩
  have hbw6 := hbw5.trans (hb6.mono hz5)
  clear hb6
  go_wp2
  go_ret
  exact ⟨rfl, hbw6⟩
end Go.Proofs.YtcgbnlhloopnfaaDoor
