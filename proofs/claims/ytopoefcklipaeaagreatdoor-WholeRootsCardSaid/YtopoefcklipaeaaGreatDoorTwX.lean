/- Walk of spare.Apply. -/
import Derived.Test.YtopoefcklipaeaaGreatDoorTwW
namespace Go.Proofs.YtopoefcklipaeaaGreatDoor
open Go.RowKit
def appR (L : LayD) (ms : List Mv) (m : Mv) : List Mv × Int := if validM L ms = false then ([], 1) else applyL L ms m
theorem apply_no {L : LayD} {ms : List Mv} {m : Mv} (h : isP L m.g m.p = false) : applyL L ms m = ([], 2) := by unfold applyL; rw [if_pos h]
theorem apply_none {L : LayD} {ms : List Mv} {m : Mv} (hs : ms.Pairwise ltM) (h : isP L m.g m.p = true) (hd : m.to.disk = -1) (hf : hasM ms m.g m.p = false) : applyL L ms m = ([], 9) := by
 unfold applyL
 rw [if_neg (by rw [h]; decide), if_pos]
 refine ⟨hd, ?_⟩
 have e : withM ms m = ms := by
  unfold withM
  rw [hd]
  exact withL_true_no fun x hx hk => by
   have := (hasM_iff (g := m.g) (p := m.p) hs).2 ⟨x, hx, hk⟩
   rw [hf] at this
   cases this
 rw [e]
theorem with_1 {ms : List Mv} {m : Mv} (hs : ms.Pairwise ltM) (hd : m.to.disk = -1) (hf : hasM ms m.g m.p = true) : withM ms m = ms.take (posM ms m.g m.p) ++ ms.drop (posM ms m.g m.p + 1) := by
 unfold withM
 rw [hd]
 exact with_del hs ((hasM_iff hs).1 hf)
theorem with_2 {ms : List Mv} {m : Mv} (hs : ms.Pairwise ltM) (hd : m.to.disk ≠ -1) (hf : hasM ms m.g m.p = true) : withM ms m = ms.set (posM ms m.g m.p) m := by
 have e : (m.to.disk == -1) = false := by simpa using hd
 unfold withM
 rw [e]
 exact with_set hs ((hasM_iff hs).1 hf)
theorem with_3 {ms : List Mv} {m : Mv} (hs : ms.Pairwise ltM) (hd : m.to.disk ≠ -1) (hf : hasM ms m.g m.p = false) : withM ms m = ms.take (posM ms m.g m.p) ++ m :: ms.drop (posM ms m.g m.p) := by
 have e : (m.to.disk == -1) = false := by simpa using hd
 unfold withM
 rw [e]
 exact with_insert hs fun x hx hk => by
  have := (hasM_iff (g := m.g) (p := m.p) hs).2 ⟨x, hx, hk⟩
  rw [hf] at this
  cases this
theorem has_lt {ms : List Mv} {g p : Int} (h : hasM ms g p = true) : posM ms g p < ms.length := by
 unfold hasM at h
 rcases hq : ms[posM ms g p]? with _ | x
 ·rw [hq] at h; cases h
 ·exact (List.getElem?_eq_some_iff.1 hq).1
theorem apply_go {L : LayD} {ms : List Mv} {m : Mv} (hs : ms.Pairwise ltM) (h : isP L m.g m.p = true) (hn : ¬ (m.to.disk = -1 ∧ hasM ms m.g m.p = false)) : applyL L ms m = if validM L (withM ms m) then (withM ms m, 0) else ([], 1) := by
 unfold applyL
 rw [if_neg (by rw [h]; decide), if_neg]
 rintro ⟨h1, h2⟩
 rcases hf : hasM ms m.g m.p with _ | _
 ·exact hn ⟨h1, hf⟩
 ·rw [with_1 hs h1 hf] at h2
  have := has_lt hf
  simp at h2
  omega
theorem with_mem {ms : List Mv} {m x : Mv} (h : x ∈ withM ms m) : x ∈ ms ∨ (x = m ∧ m.to.disk ≠ -1) := by
 unfold withM at h
 rcases (withL_mem m ms _ x).1 h with h | ⟨h1, h2⟩
 ·exact .inl h.1
 ·exact .inr ⟨h2, by simpa using h1⟩
theorem MvB.made' (w : World) (m : Mv) : MvB (w.alloc (.cells #[.int .i64 m.g, .int .i64 m.p, .int .i64 m.to.disk, .int .i64 m.to.block] 196)) w.heap.size m := heap_alloc_new w _
theorem OwS.setMv {w : World} {base n cap g : Nat} {t : TypeId} {rows : List (List Value)} (h : OwS w base t 4 (.slice (some ⟨g, 0, none⟩) n cap) rows) {k : Nat} (hk : k < rows.length) (m : Mv) :
  OwS ((((w.setCell ⟨g, k * 4, none⟩ (.int .i64 m.g)).setCell ⟨g, k * 4 + 1, none⟩ (.int .i64 m.p)).setCell ⟨g, k * 4 + 2, none⟩ (.int .i64 m.to.disk)).setCell ⟨g, k * 4 + 3, none⟩ (.int .i64 m.to.block)) base t 4 (.slice (some ⟨g, 0, none⟩) n cap) (rows.set k m.cells) := by
 obtain ⟨r, hr⟩ : ∃ r, rows[k]? = some r := ⟨_, List.getElem?_eq_getElem hk⟩
 have hl := h.1 r (List.mem_of_getElem? hr)
 obtain ⟨v0, v1, v2, v3, rfl⟩ : ∃ a b c d, r = [a, b, c, d] := by
  match r, hl with
  | [a, b, c, d], _ => exact ⟨a, b, c, d, rfl⟩
 have hs : ∀ x, (rows.set k x)[k]? = some x := fun x => by rw [List.getElem?_set_self hk]
 obtain ⟨h0, -⟩ := h.set hr (j := 0) (by omega) (.int .i64 m.g)
 obtain ⟨h1, -⟩ := h0.set (hs _) (j := 1) (by omega) (.int .i64 m.p)
 obtain ⟨h2, -⟩ := h1.set (by rw [List.getElem?_set_self (by simpa using hk)]) (j := 2) (by omega) (.int .i64 m.to.disk)
 obtain ⟨h3, -⟩ := h2.set (by rw [List.getElem?_set_self (by simpa using hk)]) (j := 3) (by omega) (.int .i64 m.to.block)
 simp only [List.set_set] at h3
 exact h3
theorem staZ_cells {w : World} {X : Nat} (h : w.heap[X]? = some (.cells #[.int .i64 0, .slice none 0 0, .int .i64 0, .int .i64 0, .slice none 0 0, .int .i64 0, .int .i64 0] 299)) : w.cell? ⟨X, 0, none⟩ = some (.int .i64 0) ∧ w.cell? ⟨X, 1, none⟩ = some (.slice none 0 0) ∧ w.cell? ⟨X, 2, none⟩ = some (.int .i64 0) ∧ w.cell? ⟨X, 3, none⟩ = some (.int .i64 0) ∧ w.cell? ⟨X, 4, none⟩ = some (.slice none 0 0) ∧ w.cell? ⟨X, 5, none⟩ = some (.int .i64 0) ∧ w.cell? ⟨X, 6, none⟩ = some (.int .i64 0) ∧ ∀ j, w.frozen? ⟨X, j, none⟩ = false :=
 ⟨by rw [cell_of_row _ _ _ _ _ _ h]; rfl, by rw [cell_of_row _ _ _ _ _ _ h]; rfl, by rw [cell_of_row _ _ _ _ _ _ h]; rfl, by rw [cell_of_row _ _ _ _ _ _ h]; rfl, by rw [cell_of_row _ _ _ _ _ _ h]; rfl, by rw [cell_of_row _ _ _ _ _ _ h]; rfl, by rw [cell_of_row _ _ _ _ _ _ h]; rfl, fun j => frozen_of_row _ _ j _ _ h⟩
theorem StaB.store {w : World} {X : Nat} (h : w.heap[X]? = some (.cells #[.int .i64 0, .slice none 0 0, .int .i64 0, .int .i64 0, .slice none 0 0, .int .i64 0, .int .i64 0] 299)) (L : LayD) (A : Option Addr) (c : Nat) (Am : Option Addr) (nm cm : Nat) :
  StaB (w.setCells X 0 (staC L A c Am nm cm).toList) X L A c Am nm cm := heap_setCells (staC L A c Am nm cm).toList w 0 _ h (by unfold staC; simp)
def StaP (b : Nat) (w4 wx : World) (L : LayD) (A : Option Addr) (c : Nat) (Am : Option Addr) (n cm : Nat) (rows : List (List Value)) (X : Nat) : Prop := StaB wx X L A c Am n cm ∧ OwS wx b 196 4 (.slice Am n cm) rows ∧ Below b w4 wx
theorem sta_made {b n cm c : Nat} {w4 wB : World} {L : LayD} {A Am : Option Addr} {rows : List (List Value)} (ho : OwS wB b 196 4 (.slice Am n cm) rows) (hb : Below b w4 wB) (hs : b ≤ wB.heap.size) :
  StaP b w4 (wB.alloc (.cells #[.int .i64 L.disks, .slice A L.n c, .int .i64 L.tiles, .int .i64 L.spare, .slice Am n cm, .int .i64 L.homes, .int .i64 L.blocks] 299)) L A c Am n cm rows wB.heap.size :=
 ⟨StaB.made wB L A c Am n cm, ho.alloc _, hb.alloc hs _⟩
theorem sta_stored {b n cm c X : Nat} {w4 wB : World} {L : LayD} {A Am : Option Addr} {rows : List (List Value)} (ho : OwS wB b 196 4 (.slice Am n cm) rows) (hb : Below b w4 wB) (hs : b ≤ wB.heap.size) (hX : b ≤ X)
  (hz : wB.heap[X]? = some (.cells #[.int .i64 0, .slice none 0 0, .int .i64 0, .int .i64 0, .slice none 0 0, .int .i64 0, .int .i64 0] 299)) :
  StaP b w4 (((((((wB.setCell ⟨X, 0, none⟩ (.int .i64 (L.disks : Int))).setCell ⟨X, 1, none⟩ (.slice A L.n c)).setCell ⟨X, 2, none⟩ (.int .i64 (L.tiles : Int))).setCell ⟨X, 3, none⟩ (.int .i64 (L.spare : Int))).setCell ⟨X, 4, none⟩ (.slice Am n cm)).setCell ⟨X, 5, none⟩ (.int .i64 (L.homes : Int))).setCell ⟨X, 6, none⟩ (.int .i64 (L.blocks : Int))) L A c Am n cm rows X := by
 show StaP b w4 (wB.setCells X 0 (staC L A c Am n cm).toList) L A c Am n cm rows X
 exact ⟨StaB.store hz L A c Am n cm, ho.kept (grownBy_setCells X _ wB 0) (.inr (ho.blk_ne hz (by decide))), hb.grown (grownBy_setCells X _ wB 0) hs (fun k hk => by cases hk; exact hX)⟩
structure AppS (w : World) (L : LayD) (A : Option Addr) (c : Nat) (m : Mv) (wr : World) : Prop where
 bel : Below w.heap.size w wr
 lay : LayB wr w.heap.size L A c
 mov : MvB wr (w.heap.size + 1) m
theorem AppS.below {w wr w' : World} {L : LayD} {A : Option Addr} {c C : Nat} {m : Mv} (h : AppS w L A c m wr) (hb : Below C wr w') (hC : w.heap.size + 2 ≤ C) : AppS w L A c m w' :=
 ⟨h.bel.trans (hb.mono (by omega)), h.lay.below hb (by omega), h.mov.below hb (by omega)⟩
theorem AppS.lt {w wr : World} {L : LayD} {A : Option Addr} {c : Nat} {m : Mv} (h : AppS w L A c m wr) : w.heap.size + 2 ≤ wr.heap.size := h.mov.lt
set_option maxHeartbeats 8000000 in
set_option maxRecDepth 100000 in
theorem sApply_any {L : LayD} {A Am : Option Addr} {B c cm : Nat} {ms : List Mv} (m : Mv) (w : World) (hx : LayX L) (hv : GsV w B A L.gs) (hM : MvS w B Am ms) (hwf : ∀ x ∈ ms, PlWf x.to) (hwm : PlWf m.to) (hB : B ≤ w.heap.size) (hlen : ms.length ≤ 10000) :
  Calls Tryz.prog 74 #[layAgg L A c, .slice Am ms.length cm, m.agg] w fun r w' => (∃ v, r = .returned (.tuple #[v, .int .i64 (appR L ms m).2]) ∧ OwS w' w.heap.size 196 4 v ((appR L ms m).1.map Mv.cells)) ∧ Below w.heap.size w w' := by
 have HV := Lib.hid hv
 have HM := Lib.hid hM
 have HX := Lib.hid hx
 have HC := Lib.hid (fun W hv hM hB => svalid_any (L := L) (A := A) (Am := Am) (B := B) (c := c) (cm := cm) (ms := ms) W hx hv hM hwf hB (by omega))
 have HH := Lib.hid (fun W hv hB => lhome2_any (L := L) (A := A) (B := B) (c := c) m.g m.p W hx hv hB)
 have HCL := Lib.hid (fun W hM hB => clone_mv (A := Am) (B := B) (c := cm) (ms := ms) W hM hB (by omega))
 have HPV : Hid (validM L ms = true → MvOk L ms) := fun h => valid_ok h
 have HX1 : Hid (validM L ms = false → appR L ms m = ([], 1)) := fun h => by unfold appR; rw [if_pos h]
 have HX2 : Hid (validM L ms = true → isP L m.g m.p = false → appR L ms m = ([], 2)) := fun h1 h2 => by unfold appR; rw [if_neg (by rw [h1]; decide), apply_no h2]
 have HX3 : Hid (validM L ms = true → isP L m.g m.p = true → m.to.disk = -1 → hasM ms m.g m.p = false → appR L ms m = ([], 9)) := fun h1 h2 h3 h4 => by unfold appR; rw [if_neg (by rw [h1]; decide), apply_none (valid_ok h1).ord h2 h3 h4]
 have HX4 : Hid (validM L ms = true → isP L m.g m.p = true → ¬ (m.to.disk = -1 ∧ hasM ms m.g m.p = false) → appR L ms m = if validM L (withM ms m) then (withM ms m, 0) else ([], 1)) := fun h1 h2 h3 => by unfold appR; rw [if_neg (by rw [h1]; decide), apply_go (valid_ok h1).ord h2 h3]
 have HWF : Hid (∀ x ∈ withM ms m, PlWf x.to) := fun x hx => by
  rcases with_mem hx with h | ⟨rfl, -⟩
  ·exact hwf x h
  ·exact hwm
 have HWL : Hid ((withM ms m).length ≤ ms.length + 1) := withM_len ms m
 have HPN : Hid (isP L m.g m.p = true → ∃ a : Nat, m.g = a ∧ a < L.G) := fun h => by
  obtain ⟨a, b, h1, -, h2, -⟩ := isP_nat h
  exact ⟨a, h1, h2⟩
 unfold layAgg at *
 unfold Mv.agg
 clear hv hM hwf hwm
 obtain ⟨res, hres⟩ : ∃ res, validM L ms = res := ⟨_, rfl⟩
 obtain ⟨ip, hip⟩ : ∃ ip, isP L m.g m.p = ip := ⟨_, rfl⟩
 obtain ⟨xr, hxr⟩ : ∃ xr, appR L ms m = xr := ⟨_, rfl⟩
 rw [hres] at HC HPV
 rw [hip] at HH
 simp only [hres, hip, hxr] at HX1 HX2 HX3 HX4 HPN
 rw [hxr]
 clear hres hip hxr hx
 go_enter Tryz.func74, Tryz.ntmps74
 go_wp2_with fail
 generalize hW0 : w.alloc _ = w0
 have hl0 : LayB w0 w.heap.size L A c := by rw [← hW0]; exact LayB.made w L _ c
 have hb0 : Below w.heap.size w w0 := by rw [← hW0]; exact below_laid
 have hz0 : w0.heap.size = w.heap.size + 1 := by rw [← hW0]; simp
 generalize hW1 : w0.alloc _ = w1
 have hs1 : AppS w L A c m w1 := by
  rw [← hW1]
  exact ⟨hb0.trans (below_laid.mono hb0.size), hl0.below below_laid hl0.lt, by rw [← hz0]; exact MvB.made' w0 m⟩
 clear hW0 hW1 hl0 hb0 hz0
 refine (HC.out w1 (HV.out.below hs1.bel hB) (HM.out.below' hs1.bel hB) (Nat.le_trans hB hs1.bel.size)).mono ?_
 rintro r w2 ⟨rfl, hb2⟩
 have HS2 := Lib.hid (hs1.below hb2 hs1.lt)
 clear hs1 hb2 HC
 cases res
 ·obtain rfl := HX1.out rfl
  go_wp2
  go_ret2
  exact ⟨⟨_, rfl, OwS.nil _ _ _ _⟩, HS2.out.bel⟩
 ·obtain ⟨l0, l1, l2, l3⟩ := HS2.out.lay.cells
  obtain ⟨m0, m1, m2, m3⟩ := HS2.out.mov.cells
  go_wp2_with fail
  refine (HH.out w2 (HV.out.below HS2.out.bel hB) (Nat.le_trans hB HS2.out.bel.size)).mono ?_
  rintro r w3 ⟨hr, hb3⟩
  have hs3 := HS2.out.below hb3 HS2.out.lt
  have HS3 := Lib.hid hs3
  clear hb3 l0 l1 l2 l3 m0 m1 m2 m3 HS2
  cases ip
  ·obtain rfl := hr.2 rfl
   obtain rfl := HX2.out (by simp) rfl
   unfold Plc.agg
   have HB4 := Lib.hid (hs3.bel.trans ((below_laid (w := w3) (o := .cells #[.int .i64 0, .int .i64 0] 194)).mono hs3.bel.size))
   clear hs3 hr
   go_wp2
   go_ret2
   exact ⟨⟨_, rfl, OwS.nil _ _ _ _⟩, HB4.out⟩
  ·obtain rfl := hr.1 rfl
   generalize homeL L m.g.toNat m.p.toNat = th at *
   unfold Plc.agg
   have HS4 := Lib.hid (hs3.below (below_laid (w := w3) (o := .cells #[.int .i64 th.disk, .int .i64 th.block] 194)) hs3.lt)
   clear hs3 HS3 hr
   go_upto_region 6 with (fail)
   generalize w3.alloc _ = w4 at *
   go_wp2_with fail
   refine (HCL.out w4 (HM.out.below' HS4.out.bel hB) (Nat.le_trans hB HS4.out.bel.size)).mono ?_
   rintro r w5 ⟨⟨v, rfl, hown⟩, hb5⟩
   obtain ⟨A5, c5, rfl, -, -⟩ := hown.form
   rw [List.length_map] at hown ⊢
   have HO5 := Lib.hid hown
   have HS5 := Lib.hid (HS4.out.below hb5 HS4.out.lt)
   have HD4 := Lib.hid HS4.out.lt
   have HB5 := Lib.hid hb5
   have hbs := bsearch_any (Am := A5) (B := w5.heap.size) (cm := c5) (ms := ms) m.g m.p w5 hown.reads (Nat.le_refl _) (by omega) (HPV.out (by simp)).ord
   unfold memAgg at hbs
   have HBS := Lib.hid hbs
   obtain ⟨m0, m1, m2, m3⟩ := HS5.out.mov.cells
   clear hown hb5 hbs
   go_wp2_with fail
   refine HBS.out.mono ?_
   rintro r w6 ⟨rfl, hb6⟩
   have HO6 := Lib.hid (HO5.out.below hb6)
   have HS6 := Lib.hid (HS5.out.below hb6 HS5.out.lt)
   have HB6 := Lib.hid (HB5.out.trans (hb6.mono HB5.out.size))
   have HW1 : Hid (m.to.disk = -1 → hasM ms m.g m.p = true → withM ms m = ms.take (posM ms m.g m.p) ++ ms.drop (posM ms m.g m.p + 1)) := fun h1 h2 => with_1 (HPV.out (by simp)).ord h1 h2
   have HW2 : Hid (m.to.disk ≠ -1 → hasM ms m.g m.p = true → withM ms m = ms.set (posM ms m.g m.p) m) := fun h1 h2 => with_2 (HPV.out (by simp)).ord h1 h2
   have HW3 : Hid (m.to.disk ≠ -1 → hasM ms m.g m.p = false → withM ms m = ms.take (posM ms m.g m.p) ++ m :: ms.drop (posM ms m.g m.p)) := fun h1 h2 => with_3 (HPV.out (by simp)).ord h1 h2
   have HPL : Hid (hasM ms m.g m.p = true → posM ms m.g m.p < ms.length) := fun h => has_lt h
   have HPE := Lib.hid (pos_le ms m.g m.p)
   obtain ⟨pos, hpos⟩ : ∃ pos, posM ms m.g m.p = pos := ⟨_, rfl⟩
   obtain ⟨fo, hfo⟩ : ∃ fo, hasM ms m.g m.p = fo := ⟨_, rfl⟩
   simp only [hpos, hfo] at HW1 HW2 HW3 HPL HPE HX3 HX4 ⊢
   clear hpos hfo hb6 HO5 HS5 HB5 HBS m0 m1 m2 m3
   obtain ⟨m0, m1, m2, m3⟩ := HS6.out.mov.cells
   by_cases e1 : m.to.disk = -1
   case' pos =>
    have f1 : (m.to.disk == -1) = true := by simpa using e1
    cases fo
    case' false =>
     obtain rfl := HX3.out (by simp) (by simp) e1 (by simp)
     clear e1
     go_wp2
     go_ret2
     exact ⟨⟨_, rfl, OwS.nil _ _ _ _⟩, HS6.out.bel⟩
    case' true =>
     have hdl := del_mv (i := pos) w6 HO6.out (HPL.out (by simp)) (by omega)
     have HDL := Lib.hid hdl
     have HWE := Lib.hid (HW1.out e1 (by simp))
     have HX5 := Lib.hid (HX4.out (by simp) (by simp) (by rintro ⟨-, h⟩; cases h))
     have wp1 : IntKind.i64.wrap ((pos : Int) + 1) = (pos : Int) + 1 := IntWalk.i64_in _ (by have := HPE.out; omega)
     clear e1 hdl
     go_wp2_with fail
     refine HDL.out.mono ?_
     rintro r w7 ⟨⟨v7, rfl, hown7⟩, hb7⟩
     rw [← HWE.out] at hown7
     obtain ⟨A7, c7, rfl, -, -⟩ := hown7.form
     rw [List.length_map] at hown7 ⊢
     have HO7 := Lib.hid hown7
     have HB7 := Lib.hid (HB6.out.trans hb7)
     clear hown7 hb7 HDL HWE wp1
     go_upto_region 15 with (fail)
   case' neg =>
    have f1 : (m.to.disk == -1) = false := by simpa using e1
    have HX5 := Lib.hid (HX4.out (by simp) (by simp) (fun h => e1 h.1))
    cases fo
    case' false =>
     have HWE := Lib.hid (HW3.out e1 (by simp))
     have hin : Calls Tryz.prog 161 #[.slice A5 ms.length c5, .int .i64 (pos : Int), .slice (some ⟨w6.heap.size, 0, none⟩) 1 1] (w6.alloc (.cells #[.int .i64 m.g, .int .i64 m.p, .int .i64 m.to.disk, .int .i64 m.to.block] 196)) fun r w' => (∃ v', r = .returned v' ∧ OwS w' w4.heap.size 196 4 v' ((ms.take pos ++ m :: ms.drop pos).map Mv.cells)) ∧ Below w4.heap.size w6 w' :=
      ins_mv w6 HO6.out HPE.out (by omega) HB6.out.size
     have HIN := Lib.hid hin
     clear e1 hin
     go_wp2_with fail
     refine HIN.out.mono ?_
     rintro r w7 ⟨⟨v7, rfl, hown7⟩, hb7⟩
     rw [← HWE.out] at hown7
     obtain ⟨A7, c7, rfl, -, -⟩ := hown7.form
     rw [List.length_map] at hown7 ⊢
     have HO7 := Lib.hid hown7
     have HB7 := Lib.hid (HB6.out.trans hb7)
     clear hown7 hb7 HIN HWE
     go_upto_region 15 with (fail)
    case' true =>
     have hpl := HPL.out (by simp)
     have HWE := Lib.hid (HW2.out e1 (by simp))
     obtain ⟨g5, hg5⟩ : ∃ g5, A5 = some ⟨g5, 0, none⟩ := by
      rcases HO6.out.2.2 with ⟨h, _⟩ | ⟨g', cap, cur, h, -⟩
      ·injection h with h1 h2 h3
       omega
      ·injection h with h1 h2 h3
       exact ⟨g', h1⟩
     subst hg5
     obtain ⟨cur, -, hg7, -⟩ := HO6.out.blk
     obtain ⟨x, hx⟩ := at_some hpl
     obtain ⟨b1, o1, ee, -, x0, x1, x2, x3⟩ := MvS.at_ HO6.out.reads hx
     injection ee with ee
     injection ee with ee1 ee2 ee3
     subst ee1 ee2
     simp only [Nat.zero_add] at x0 x1 x2 x3
     have ff := fun j => HO6.out.frozen j
     have ho7 := HO6.out.setMv (k := pos) (by rw [List.length_map]; exact hpl) m
     rw [← List.map_set, ← HWE.out] at ho7
     have hb7 := (((HB6.out.setCell (p := ⟨g5, pos * 4, none⟩) (by exact hg7) (.int .i64 m.g)).setCell (p := ⟨g5, pos * 4 + 1, none⟩) (by exact hg7) (.int .i64 m.p)).setCell (p := ⟨g5, pos * 4 + 2, none⟩) (by exact hg7) (.int .i64 m.to.disk)).setCell (p := ⟨g5, pos * 4 + 3, none⟩) (by exact hg7) (.int .i64 m.to.block)
     have HO7 := Lib.hid ho7
     have HB7 := Lib.hid hb7
     have hpI : (pos : Int) < (ms.length : Int) := by omega
     clear ho7 hb7 hx ee3 e1
     go_upto_region 15 with (fail)
     generalize (((w6.setCell ⟨g5, pos * 4, none⟩ (.int .i64 m.g)).setCell ⟨g5, pos * 4 + 1, none⟩ (.int .i64 m.p)).setCell ⟨g5, pos * 4 + 2, none⟩ (.int .i64 m.to.disk)).setCell ⟨g5, pos * 4 + 3, none⟩ (.int .i64 m.to.block) = w7 at *
     clear x0 x1 x2 x3 ff hg7 hpI hpl HWE
   all_goals
    clear HW1 HW2 HW3 HPL HPE HX3 HX4 m0 m1 m2 m3 f1
    have HS7 : Hid (AppS w L A c m w7) := ⟨HS4.out.bel.trans (HB7.out.mono HS4.out.bel.size), HS4.out.lay.below HB7.out (by have := HD4.out; omega), HS4.out.mov.below HB7.out (by have := HD4.out; omega)⟩
    have HBK : Hid (∀ W, Below w7.heap.size w7 W → Calls Tryz.prog 162 #[.agg #[.int .i64 (L.disks : Int), .slice A L.n c, .int .i64 (L.tiles : Int), .int .i64 (L.spare : Int)]] W fun r w' => r = .returned (.int .i64 (L.blocks : Int)) ∧ Below W.heap.size W w' ∧ Below w7.heap.size w7 w') := fun W hW =>
     (lblocks_any W HX.out ((HV.out.below HS7.out.bel hB).below hW (Nat.le_trans hB HS7.out.bel.size)) (Nat.le_trans hB (Nat.le_trans HS7.out.bel.size hW.size))).mono fun r w' h => ⟨h.1, h.2, hW.trans (h.2.mono hW.size)⟩
    have HKS : Hid (∀ W, Below w7.heap.size w7 W → (W.cell? ⟨w.heap.size, 0, none⟩ = some (.int .i64 (L.disks : Int)) ∧ W.cell? ⟨w.heap.size, 1, none⟩ = some (.slice A L.n c) ∧ W.cell? ⟨w.heap.size, 2, none⟩ = some (.int .i64 (L.tiles : Int)) ∧ W.cell? ⟨w.heap.size, 3, none⟩ = some (.int .i64 (L.spare : Int)))) := fun W hW => (HS7.out.lay.below hW HS7.out.lay.lt).cells
    have wsub : IntKind.i64.wrap ((L.blocks : Int) - (L.spare : Int)) = (L.homes : Int) := by
     have := HX.out.ok.blocks
     unfold LayD.blocks at *
     rw [IntWalk.i64_in _ (by omega)]
     omega
    go_upto_region 15 with (fail)
    go_cut [10, 13] (fun s10 s13 wx => ∃ S A' n' c', s10 = .slice A' n' c' ∧ s13 = .pointer (some ⟨S, 0, none⟩) ∧ StaP w4.heap.size w4 wx L A c A' n' c' ((withM ms m).map Mv.cells) S)
    case first =>
     go_region_held3 (fun W => W.cell? ⟨w.heap.size, 0, none⟩ = some (.int .i64 (L.disks : Int)) ∧ W.cell? ⟨w.heap.size, 1, none⟩ = some (.slice A L.n c) ∧ W.cell? ⟨w.heap.size, 2, none⟩ = some (.int .i64 (L.tiles : Int)) ∧ W.cell? ⟨w.heap.size, 3, none⟩ = some (.int .i64 (L.spare : Int)))
      (first | with_reducible exact HKS.out _ ((Below.refl w7.heap.size w7).alloc (Nat.le_refl _) _).drew | with_reducible exact HKS.out _ (Below.refl w7.heap.size w7) | with_reducible exact HKS.out _ (Below.refl w7.heap.size w7).drew | with_reducible exact HKS.out _ ((Below.refl w7.heap.size w7).drew.alloc (Nat.le_refl _) _) | with_reducible exact HKS.out _ ((Below.refl w7.heap.size w7).alloc (Nat.le_refl _) _) | with_reducible exact HKS.out _ (hbB.alloc hbB.size _) | with_reducible exact HKS.out _ hbB | with_reducible exact HKS.out _ (hbA.alloc hbA.size _) | with_reducible exact HKS.out _ hbA | with_reducible exact HKS.out _ (((((((hbB.setCell hbA.size _).setCell hbA.size _).setCell hbA.size _).setCell hbA.size _).setCell hbA.size _).setCell hbA.size _).setCell hbA.size _) | with_reducible exact HKS.out _ (((((((hbB.setCell (Nat.le_refl _) _).setCell (Nat.le_refl _) _).setCell (Nat.le_refl _) _).setCell (Nat.le_refl _) _).setCell (Nat.le_refl _) _).setCell (Nat.le_refl _) _).setCell (Nat.le_refl _) _))
      (first
       | (go_at_call 162; first
        | ((with_reducible refine (HBK.out _ (Below.refl w7.heap.size w7).drew).mono ?_); rintro r wA ⟨rfl, hbP, hbA⟩)
        | ((with_reducible refine (HBK.out _ ((Below.refl w7.heap.size w7).drew.alloc (Nat.le_refl _) _)).mono ?_); rintro r wA ⟨rfl, hbP, hbA⟩; have hz := (hbP.block _ (by simp)).trans (heap_alloc_new w7.drew _))
        | ((with_reducible refine (HBK.out _ ((Below.refl w7.heap.size w7).alloc (Nat.le_refl _) _).drew).mono ?_); rintro r wA ⟨rfl, hbP, hbA⟩; have hz := (hbP.block _ (by simp)).trans (heap_alloc_new w7 _))
        | ((with_reducible refine (HBK.out _ (hbA.alloc hbA.size _)).mono ?_); rintro r wB ⟨rfl, hbQ, hbB⟩; have hz := (hbQ.block _ (by simp)).trans (heap_alloc_new wA _); obtain ⟨y0, y1, y2, y3, y4, y5, y6, fz⟩ := staZ_cells hz)
        | ((with_reducible refine (HBK.out _ hbA).mono ?_); rintro r wB ⟨rfl, hbQ, hbB⟩; try (have hz := (hbQ.block _ (blk_lt hz)).trans hz; obtain ⟨y0, y1, y2, y3, y4, y5, y6, fz⟩ := staZ_cells hz)))
       | fail)
     all_goals
      have HOB := HO7.out.below hbB
      have HBB := HB7.out.trans (hbB.mono HB7.out.size)
      go_wp2_with fail
      go_meet
      refine ⟨_, _, _, _, rfl, rfl, ?_⟩
      first
       | with_reducible exact sta_made HOB HBB HBB.size
       | with_reducible exact sta_stored HOB HBB HBB.size HB7.out.size hz
       | with_reducible exact sta_stored HOB HBB HBB.size (Nat.le_trans HB7.out.size hbA.size) hz
    obtain ⟨S, A', n', c', rfl, rfl, hst, hown, hbc⟩ := hcut
    obtain ⟨rfl, hMs⟩ := hown.rds
    have HSC : Hid (AppS w L A c m wc) := HS4.out.below hbc HD4.out
    have hvc : GsV wc wc.heap.size A L.gs := (HV.out.below HSC.out.bel hB).more (Nat.le_trans hB HSC.out.bel.size)
    have hlw : (withM ms m).length ≤ 100000 := by have := HWL.out; omega
    have hval := svalid_any (L := L) (A := A) (Am := A') (B := wc.heap.size) (c := c) (cm := c') (ms := withM ms m) wc HX.out hvc hMs HWF.out (Nat.le_refl _) hlw
    obtain ⟨g0, hg0, hgl⟩ := HPN.out (by simp)
    have HAP : Hid (validM L (withM ms m) = true → ∀ W, Below wc.heap.size wc W → Calls Tryz.prog 163 #[.agg #[.int .i64 L.disks, .slice A L.n c, .int .i64 L.tiles, .int .i64 L.spare, .slice A' (withM ms m).length c', .int .i64 L.homes, .int .i64 L.blocks], .int .i64 m.g] W fun r w' => r = .returned (.bool true) ∧ Below W.heap.size W w') := fun hb W hW => by
     have hok := valid_ok hb
     have h := sapart_any (L := L) (A := A) (Am := A') (B := wc.heap.size) (c := c) (cm := c') (ms := withM ms m) g0 W HX.out (hvc.below hW (Nat.le_refl _)) (RdS.below' hMs hW (Nat.le_refl _)) hW.size hlw hok.ord hok.is hgl
     rw [apart_all HX.out.ok hok] at h
     rw [hg0]
     exact h
    have HOC := Lib.hid hown
    have HST := Lib.hid hst
    have HBC := Lib.hid hbc
    have HVL := Lib.hid hval
    obtain ⟨l0, l1, l2, l3⟩ := HSC.out.lay.cells
    clear hown hst hbc hval hMs hvc hg0 hgl HKS HBK HO7 HB7 HS7 wsub
    obtain ⟨vx, hvx⟩ : ∃ vx, validM L (withM ms m) = vx := ⟨_, rfl⟩
    rw [hvx] at HVL HX5 HAP
    clear hvx
    go_wp2_with fail
    refine HVL.out.mono ?_
    rintro r w8 ⟨rfl, hb8⟩
    have HO8 := Lib.hid (HOC.out.below hb8)
    have HB8 := Lib.hid (HBC.out.trans (hb8.mono HBC.out.size))
    have HS8 := Lib.hid (HST.out.below hb8 HST.out.lt)
    have HA8 := Lib.hid hb8
    clear HVL hb8
    cases vx
    ·have hx5 := HX5.out
     simp only [Bool.false_eq_true, if_false] at hx5
     obtain rfl := hx5
     go_wp2
     go_ret2
     exact ⟨⟨_, rfl, OwS.nil _ _ _ _⟩, HS4.out.bel.trans (HB8.out.mono HS4.out.bel.size)⟩
    ·have hx5 := HX5.out
     simp only [if_true] at hx5
     obtain rfl := hx5
     obtain ⟨z0, z1, z2, z3, z4, z5, z6⟩ := HS8.out.cells
     have hms8 := ((HS4.out.mov.below HB8.out (by have := HD4.out; omega)).cells)
     obtain ⟨m0, m1, m2, m3⟩ := hms8
     clear l0 l1 l2 l3
     go_wp2_with fail
     refine (HAP.out (by simp) w8 HA8.out).mono ?_
     rintro r w9 ⟨rfl, hb9⟩
     have HO9 := Lib.hid (HO8.out.below hb9)
     have HB9 := Lib.hid (HS4.out.bel.trans ((HB8.out.trans (hb9.mono HB8.out.size)).mono HS4.out.bel.size))
     clear z0 z1 z2 z3 z4 z5 z6 m0 m1 m2 m3 hb9
     go_wp2
     go_ret2
     exact ⟨⟨_, rfl, HO9.out.mono (by have := HD4.out; omega)⟩, HB9.out⟩
end Go.Proofs.YtopoefcklipaeaaGreatDoor
