/- Walks of slices.Clone and slices.Insert at []api.Move. -/
import Derived.Test.YtopoefcklipaeaaGreatDoorGRh
namespace Go.Proofs.YtopoefcklipaeaaGreatDoor
open Go.RowKit
set_option maxHeartbeats 1000000 in
set_option maxRecDepth 100000 in
theorem clone_mv {A : Option Addr} {B c : Nat} {ms : List Mv} (w : World) (h : MvS w B A ms) (hB : B ≤ w.heap.size) (hn : ms.length ≤ 100000) :
  Calls Tryz.prog 76 #[.slice A ms.length c] w fun r w' => (∃ v, r = .returned v ∧ OwS w' w.heap.size 196 4 v (ms.map Mv.cells)) ∧ Below w.heap.size w w' := by
 rcases A with _ | a
 ·have hl : ms = [] := by
   cases ms with
   | nil => rfl
   | cons e l =>
    obtain ⟨b, off, h1, -⟩ := h.2 (by simp)
    cases h1
  subst hl
  clear h
  have he : ∀ w : World, (binOp .eql 31 (.slice none 0 c) (.slice none 0 0)).run Tryz.prog w = .ok (.bool true) w := fun _ => rfl
  go_enter Tryz.func76, Tryz.ntmps76
  go_wp2
  go_ret
  exact ⟨⟨_, rfl, OwS.nil _ _ _ _⟩, Below.refl _ _⟩
 ·have H := Lib.hid h
  clear h
  have he : ∀ w : World, (binOp .eql 31 (.slice (some a) ms.length c) (.slice none 0 0)).run Tryz.prog w = .ok (.bool false) w := fun _ => rfl
  go_enter Tryz.func76, Tryz.ntmps76
  have hz : OwS (w.alloc (.cells #[] 196)) w.heap.size 196 4 (.slice (some ⟨w.heap.size, 0, none⟩) 0 0) [] := OwS.lit (by simp) (heap_alloc_new w _) rfl rfl (by decide) (Nat.le_refl _)
  have hrr : MvS (w.alloc (.cells #[] 196)) w.heap.size (some a) ms := (H.out.below' (below_laid.mono hB) (Nat.le_refl _)).more hB
  go_wp2_with (at_builtin; refine wpList_apS rfl (.tmp 5) (.tmp 6) _ rfl elemMv rfl hz w.heap.size _ _ c (ms.map Mv.cells) rfl hrr (by simp) (fun r hr => by obtain ⟨m, -, rfl⟩ := List.mem_map.1 hr; exact Mv.one m) (by simp [maxLen]; omega) (by simp; omega) (by simp) ?_)
  intro v3 w3 hown3 hg3 _
  have hb3 : Below w.heap.size w w3 := ((Below.refl w.heap.size w).alloc (Nat.le_refl _) _).grown hg3 (by simp) (fun k h => (hz.lt h).1)
  clear hg3 hz
  go_wp2
  go_ret
  exact ⟨⟨_, rfl, by simpa using hown3⟩, hb3⟩
set_option maxHeartbeats 1000000 in
set_option maxRecDepth 100000 in
theorem ins_end {ms : List Mv} {m : Mv} {v : Value} {base : Nat} (w : World) (hown : OwS w base 196 4 v (ms.map Mv.cells)) (hlen : ms.length ≤ 100000) (hb : base ≤ w.heap.size) :
  Calls Tryz.prog 161 #[v, .int .i64 (ms.length : Int), .slice (some ⟨w.heap.size, 0, none⟩) 1 1] (w.alloc (.cells m.cells.toArray 196)) fun r w' => (∃ v', r = .returned v' ∧ OwS w' base 196 4 v' ((ms ++ [m]).map Mv.cells)) ∧ Below base w w' := by
 obtain ⟨A, c, rfl, hnc, -⟩ := hown.form
 rw [List.length_map] at *
 have HO := Lib.hid hown
 have HLT : Hid (∀ k, (Value.slice A ms.length c).ownBlock = some k → base ≤ k) := fun k hk => (hown.lt hk).1
 have e1 : ((ms.length : Int) == (ms.length : Int)) = true := by simp
 clear hown
 unfold Mv.cells
 by_cases hci : c = ms.length
 ·subst hci
  go_enter Tryz.func161, Tryz.ntmps161
  go_wp2_with (at_builtin; refine wpList_ap1 rfl (.tmp 23) (.tmp 24) _ rfl elemMv rfl HO.out m.cells _ (by rfl) w.heap.size (by rfl) (by rfl) (Mv.one m) (by simp [maxLen]; omega) (by simp; omega) hb ?_)
  rintro v1 w3 hown1 hg1 -
  have HO2 : Hid (OwS w3 base 196 4 v1 ((ms ++ [m]).map Mv.cells)) := by
   rw [Hid, List.map_append]
   exact hown1
  have HB2 : Hid (Below base w w3) := ((Below.refl base w).alloc hb _).grown hg1 (by simp; omega) HLT.out
  clear hown1 hg1
  go_wp2
  go_ret
  exact ⟨⟨_, rfl, HO2.out⟩, HB2.out⟩
 ·have hci' : ¬ ms.length = c := fun e => hci e.symm
  go_enter Tryz.func161, Tryz.ntmps161
  go_wp2_with (at_builtin; refine wpList_ap1 rfl (.tmp 23) (.tmp 24) _ rfl elemMv rfl HO.out m.cells _ (by rfl) w.heap.size (by rfl) (by rfl) (Mv.one m) (by simp [maxLen]; omega) (by simp; omega) hb ?_)
  rintro v1 w3 hown1 hg1 -
  have HO2 : Hid (OwS w3 base 196 4 v1 ((ms ++ [m]).map Mv.cells)) := by
   rw [Hid, List.map_append]
   exact hown1
  have HB2 : Hid (Below base w w3) := ((Below.refl base w).alloc hb _).grown hg1 (by simp; omega) HLT.out
  clear hown1 hg1
  go_wp2
  go_ret
  exact ⟨⟨_, rfl, HO2.out⟩, HB2.out⟩
theorem setCells_drew (b : Nat) : ∀ (vs : List Value) (o : Nat) (w : World), w.drew.setCells b o vs = (w.setCells b o vs).drew := by
 intro vs
 induction vs with
 | nil => intro o w; rfl
 | cons v r ih => intro o w; exact ih (o + 1) (w.setCell ⟨b, o, none⟩ v)
theorem sizeMv : (Tryz.prog.info? 196).map (·.size) = some 4 := by kernel_rfl
theorem ins_runs {ms : List Mv} {m : Mv} {g c base S i : Nat} (W : World) (hown : OwS W base 196 4 (.slice (some ⟨g, 0, none⟩) ms.length c) (ms.map Mv.cells)) (hS : W.heap[S]? = some (.cells m.cells.toArray 196 (0, 0))) (hi : i < ms.length) (hc : c < ms.length + 1) (hlen : ms.length ≤ 100000) (hb : base ≤ W.heap.size) :
  ∃ W1 X Y G, (∀ ty, (Builtin.append_ #[31, 3] ty #[.slice (some ⟨g, 0, none⟩) i c, .int .i64 ((ms.length : Int) + 1 - (i : Int))]).run Tryz.prog W = .ok (.slice (some ⟨W.heap.size, 0, none⟩) (ms.length + 1) G) W1) ∧
   (∀ ty dc, (Builtin.copy_ #[31, 31] ty #[.slice (some ⟨W.heap.size, i * 4, none⟩) (ms.length + 1 - i) dc, .slice (some ⟨S, 0, none⟩) 1 1]).run Tryz.prog W1 = .ok (goInt 1) X) ∧
   (∀ ty dc sc, (Builtin.copy_ #[31, 31] ty #[.slice (some ⟨W.heap.size, (i + 1) * 4, none⟩) (ms.length + 1 - (i + 1)) dc, .slice (some ⟨g, i * 4, none⟩) (ms.length - i) sc]).run Tryz.prog X.drew = .ok (goInt ((ms.length - i : Nat) : Int)) Y) ∧
   ms.length + 1 ≤ G ∧ G ≤ 9223372036854775807 ∧ OwS Y base 196 4 (.slice (some ⟨W.heap.size, 0, none⟩) (ms.length + 1) G) ((ms.take i ++ m :: ms.drop i).map Mv.cells) ∧ Below base W Y := by
 obtain ⟨cur, -, hbg, hh, hnc, hcm, hsz, ht⟩ := hown.blk
 obtain ⟨i0, hi0, hz0, hzs, hzb⟩ := info_parts (show (Tryz.prog.info? 196).map (fun i => (i.zero, i.size, i.bytes)) = some (some (.agg #[.int .i64 0, .int .i64 0, .int .i64 0, .int .i64 0]), 4, 32) by kernel_rfl)
 have hgW : g < W.heap.size := blk_lt hh
 have hSW : S < W.heap.size := blk_lt hS
 have hold : (Builtin.firstCells i0.size i (.slice (some ⟨g, 0, none⟩) i c)).run Tryz.prog W.drew = .ok (((ms.map Mv.cells).take i).flatten).toArray W.drew := by
  rw [hzs]
  have hhd : (((ms.map Mv.cells).take i).flatten).length = i * 4 := by rw [flatten_length (size := 4) (fun r hr => hown.1 r (List.mem_of_mem_take hr)), List.length_take, List.length_map, Nat.min_eq_left (by omega)]
  refine run_firstCells_some W.drew 4 i ⟨g, 0, none⟩ i c _ hhd (fun j v hj => ?_)
  rw [Addr.add_lit]
  have h3 : ((ms.map Mv.cells).drop 0).flatten[j]? = some v := by
   rw [List.drop_zero, ← List.take_append_drop i (ms.map Mv.cells), List.flatten_append, List.getElem?_append_left (List.getElem?_eq_some_iff.1 hj).1]
   exact hj
  have := hown.cellsFrom 0 h3
  simpa using this
 obtain ⟨k, hk⟩ : ∃ k, k = ms.length + 1 - i := ⟨_, rfl⟩
 have hik : i + k = ms.length + 1 := by omega
 have hkI : (ms.length : Int) + 1 - (i : Int) = (k : Int) := by omega
 have hrz := fun ty => Lib.run_append_grow_zeros (P := Tryz.prog) W 31 3 ty 196 i0 _ .i64 .i64 Tryz.underlying31 Tryz.underlying3 hi0 hz0 (some ⟨g, 0, none⟩) i c _ hold k (by omega) (by omega) (by omega) (by omega) (by rw [hzb]; omega) (by rw [hzb, hik]; exact growslice_fits hc (by omega))
 rw [hik] at hrz
 obtain ⟨G, hG⟩ : ∃ G, G = grownCap W (ms.length + 1) c 196 := ⟨_, rfl⟩
 rw [← hG] at hrz
 have hGn : ms.length + 1 ≤ G := by rw [hG]; exact grownCap_ge W _ _ _
 have hG63 : G ≤ maxLen := by
  have := grownCap_le_maxLen W (ms.length + 1) c 196 (by unfold maxLen; omega)
  rw [← hG] at this
  exact this
 obtain ⟨Z, hZ⟩ : ∃ Z, Z = Builtin.zeroCells (Value.agg #[.int .i64 0, .int .i64 0, .int .i64 0, .int .i64 0]).cells k ++ Builtin.zeroCells (Value.agg #[.int .i64 0, .int .i64 0, .int .i64 0, .int .i64 0]).cells (G - (ms.length + 1)) := ⟨_, rfl⟩
 have hZs : Z.size = k * 4 + (G - (ms.length + 1)) * 4 := by rw [hZ]; simp [Builtin.zeroCells, Value.cells]
 have hAl : (((ms.map Mv.cells).take i).flatten).length = i * 4 := by rw [flatten_length (size := 4) (fun r hr => hown.1 r (List.mem_of_mem_take hr)), List.length_take, List.length_map, Nat.min_eq_left (by omega)]
 obtain ⟨ROW, hROW⟩ : ∃ ROW, ROW = (((ms.map Mv.cells).take i).flatten).toArray ++ Z := ⟨_, rfl⟩
 have hRs : ROW.size = G * 4 := by
  rw [hROW, Array.size_append, List.size_toArray, hAl, hZs]
  omega
 obtain ⟨W1, hW1⟩ : ∃ W1, W1 = W.drew.alloc (.cells ROW 196) := ⟨_, rfl⟩
 have hN1 : W1.heap[W.heap.size]? = some (.cells ROW 196 (0, 0)) := by rw [hW1]; exact heap_alloc_new W.drew _
 have hbW1 : Below W.heap.size W W1 := by rw [hW1]; exact (Below.refl W.heap.size W).drew.alloc (Nat.le_refl _) _
 have hNs : ∀ j, j < G * 4 → (W1.cell? ⟨W.heap.size, j, none⟩).isSome = true := fun j hj => by
  rw [cell_of_row _ _ _ _ _ _ hN1, Array.getElem?_eq_getElem (by omega)]
  rfl
 have hNf : ∀ j, W1.frozen? ⟨W.heap.size, j, none⟩ = false := fun j => frozen_of_row _ _ j _ _ hN1
 have hS1 : W1.heap[S]? = some (.cells m.cells.toArray 196 (0, 0)) := (hbW1.block _ hSW).trans hS
 have hg1 : W1.heap[g]? = some (.cells cur 196 (0, 0)) := (hbW1.block _ hgW).trans hh
 have hDl : (((ms.map Mv.cells).drop i).flatten).length = (ms.length - i) * 4 := by rw [flatten_length (size := 4) (fun r hr => hown.1 r (List.mem_of_mem_drop hr)), List.length_drop, List.length_map]
 have hone : ∀ v ∈ ((ms.map Mv.cells).drop i).flatten, v.oneCell' = true := fun v hv => by
  obtain ⟨r, hr, hv⟩ := List.mem_flatten.1 hv
  obtain ⟨x, -, rfl⟩ := List.mem_map.1 (List.mem_of_mem_drop hr)
  exact Mv.one x v hv
 obtain ⟨X, hX⟩ : ∃ X, X = W1.setCells W.heap.size (i * 4) m.cells := ⟨_, rfl⟩
 have hX1 : ∀ p : Addr, p.block ≠ W.heap.size → X.cell? p = W1.cell? p := fun p hp => by
  rw [hX]
  exact World.cell?_setCells_out _ _ _ _ _ (fun h _ => absurd h hp)
 have hX2 : ∀ j, X.frozen? ⟨W.heap.size, j, none⟩ = false := fun j => by
  rw [hX, World.frozen?_setCells]
  exact hNf _
 have hX3 : ∀ j, (i + 1) * 4 ≤ j → j < G * 4 → (X.cell? ⟨W.heap.size, j, none⟩).isSome = true := fun j h1 h2 => by
  rw [hX, World.cell?_setCells_out _ _ _ _ _ (fun _ _ => by rw [Mv.cells_length]; right; show _ ≤ j; omega)]
  exact hNs _ h2
 have hrX : ∀ ty dc, (Builtin.copy_ #[31, 31] ty #[.slice (some ⟨W.heap.size, i * 4, none⟩) (ms.length + 1 - i) dc, .slice (some ⟨S, 0, none⟩) 1 1]).run Tryz.prog W1 = .ok (goInt 1) X := fun ty dc => by
  rw [hX]
  refine run_copy_rows W1 _ _ ty 196 4 1 W.heap.size (i * 4) _ dc ⟨S, 0, none⟩ 1 1 m.cells Tryz.underlying31 sizeMv (by simp only [Nat.min_def]; split <;> omega) rfl (fun j v hj => ?_) (fun j hj => hNs _ ?_) (fun j _ => hNf _) (Mv.one m)
  ·rw [Addr.add_lit, cell_of_row _ _ _ _ _ _ hS1]
   simpa using hj
  ·rw [Mv.cells_length] at hj
   omega
 have hOY : OwS ((X.setCells W.heap.size ((i + 1) * 4) ((ms.map Mv.cells).drop i).flatten)) base 196 4 (.slice (some ⟨W.heap.size, 0, none⟩) (ms.length + 1) G) ((ms.take i ++ m :: ms.drop i).map Mv.cells) := by
  rw [hX, List.map_append, List.map_cons, List.map_take, List.map_drop]
  exact OwS.fill (w := W1) (base := base) (g := W.heap.size) (e := 196) (size := 4) (cap := G) (n := ms.length) (rows := ms.map Mv.cells) (ROW := ROW) (Z := Z.toList) (i := i) (m := m.cells) hown.1 hN1 (by rw [hROW]; simp) (by rw [List.length_map]; omega) (by rw [List.length_map]) hb hGn hG63 hRs rfl
 have hbs : ∀ (vs : List Value) (o : Nat) (V : World), Below base W V → Below base W (V.setCells W.heap.size o vs) := fun vs => by
  induction vs with
  | nil => intro o V h; exact h
  | cons v r ih => intro o V h; exact ih (o + 1) _ (h.setCell hb v)
 have hbX : Below base W X := by
  rw [hX]
  refine hbs _ _ _ ?_
  rw [hW1]
  exact (Below.refl base W).drew.alloc hb _
 refine ⟨W1, X, X.drew.setCells W.heap.size ((i + 1) * 4) ((ms.map Mv.cells).drop i).flatten, G, fun ty => ?_, hrX, fun ty dc sc => ?_, hGn, by unfold maxLen at hG63; omega, ?_, ?_⟩
 ·rw [hkI, hrz ty, hW1, hROW, hZ, Array.append_assoc]
 ·clear hX hrX hOY
  refine run_copy_rows _ _ _ ty 196 4 (ms.length - i) W.heap.size ((i + 1) * 4) _ dc ⟨g, i * 4, none⟩ _ sc _ Tryz.underlying31 sizeMv (by simp only [Nat.min_def]; split <;> omega) hDl (fun j v hj => ?_) (fun j hj => ?_) (fun j _ => hX2 _) hone
  ·rw [Addr.add_lit]
   have h1 : W1.cell? ⟨g, i * 4 + j, none⟩ = some v := by
    have h2 := hown.cellsFrom i hj
    rw [cell_of_row _ _ _ _ _ _ hh] at h2
    rw [cell_of_row _ _ _ _ _ _ hg1]
    exact h2
   exact (hX1 _ (by show g ≠ _; omega)).trans h1
  ·rw [hDl] at hj
   exact hX3 _ (by omega) (by omega)
 ·rw [setCells_drew]
  exact hOY.drew
 ·rw [setCells_drew]
  exact (hbs _ _ _ hbX).drew
set_option maxHeartbeats 4000000 in
set_option maxRecDepth 100000 in
theorem ins_grow {ms : List Mv} {m : Mv} {g c base S i : Nat} (W : World) (hown : OwS W base 196 4 (.slice (some ⟨g, 0, none⟩) ms.length c) (ms.map Mv.cells)) (hS : W.heap[S]? = some (.cells m.cells.toArray 196 (0, 0))) (hi : i < ms.length) (hc : c < ms.length + 1) (hnc : ms.length ≤ c) (hlen : ms.length ≤ 100000) (hb : base ≤ W.heap.size) :
  Calls Tryz.prog 161 #[.slice (some ⟨g, 0, none⟩) ms.length c, .int .i64 (i : Int), .slice (some ⟨S, 0, none⟩) 1 1] W fun r w' => (∃ v', r = .returned v' ∧ OwS w' base 196 4 v' ((ms.take i ++ m :: ms.drop i).map Mv.cells)) ∧ Below base W w' := by
 obtain ⟨W1, X, Y, G, h1, h2, h3, hG1, hG2, ho, hB⟩ := ins_runs W hown hS hi hc hlen hb
 have HO := Lib.hid ho
 have HB := Lib.hid hB
 have H1 := Lib.hid h1
 have H3 := Lib.hid h3
 clear ho hB h1 h3 hown hS
 generalize ms.length = n at *
 have e1 : ((i : Int) == (n : Int)) = false := by rw [beq_eq_false_iff_ne]; omega
 have e1' : (i == n) = false := by rw [beq_eq_false_iff_ne]; omega
 have w1 : IntKind.i64.wrap ((n : Int) + 1) = (n : Int) + 1 := IntWalk.i64_in _ (by omega)
 have w2 : IntKind.i64.wrap ((n : Int) + 1 - (i : Int)) = (n : Int) + 1 - (i : Int) := IntWalk.i64_in _ (by omega)
 have w3 : IntKind.i64.wrap ((i : Int) + 1) = (i : Int) + 1 := IntWalk.i64_in _ (by omega)
 have e2 : decide ((n : Int) + 1 > (c : Int)) = true := by rw [decide_eq_true_iff]; omega
 have e2' : (c : Int) < (n : Int) + 1 := by omega
 have hb1 : (0 : Int) ≤ (i : Int) + 1 := by omega
 have hin : i ≤ n := by omega
 have htn : ((i : Int) + 1).toNat = i + 1 := by omega
 have hb3 : (i : Int) ≤ (n : Int) := by omega
 have hGi : ¬ (G = i) := by omega
 have hGim : ¬ (G = i + 1) := by omega
 have hci : ¬ (c = i) := by omega
 clear hi hc
 go_enter Tryz.func161, Tryz.ntmps161
 go_wp2_with (at_builtin; refine Lib.wpList_append_run _ rfl _ _ _ _ rfl _ _ rfl rfl _ _ (H1.out _) ?_)
 go_region_law (refine step_copy_rows rfl _ _ 31 31 rfl (.slice (some ⟨W.heap.size, (i + 1) * 4, none⟩) (n + 1 - (i + 1)) (G - (i + 1))) (.slice (some ⟨g, i * 4, none⟩) (n - i) (c - i)) (by simp [Act.eval, Act.put]) (by simp [Act.eval, Act.put]) (H3.out _ (G - (i + 1)) (c - i)) ?_)
 go_wp2
 go_ret
 exact ⟨⟨_, rfl, HO.out⟩, HB.out⟩
theorem ins_room {ms : List Mv} {m : Mv} {g c base S i : Nat} (W : World) (hown : OwS W base 196 4 (.slice (some ⟨g, 0, none⟩) ms.length c) (ms.map Mv.cells)) (hS : W.heap[S]? = some (.cells m.cells.toArray 196 (0, 0))) (hSg : S ≠ g) (hi : i < ms.length) (hc : ms.length + 1 ≤ c) :
  ∃ X Y, (∀ ty dc sc, (Builtin.copy_ #[31, 31] ty #[.slice (some ⟨g, (i + 1) * 4, none⟩) (ms.length + 1 - (i + 1)) dc, .slice (some ⟨g, i * 4, none⟩) (ms.length + 1 - i) sc]).run Tryz.prog W.drew = .ok (goInt ((ms.length - i : Nat) : Int)) X) ∧
   (∀ ty dc, (Builtin.copy_ #[31, 31] ty #[.slice (some ⟨g, i * 4, none⟩) (ms.length + 1 - i) dc, .slice (some ⟨S, 0, none⟩) 1 1]).run Tryz.prog X = .ok (goInt 1) Y) ∧
   OwS Y base 196 4 (.slice (some ⟨g, 0, none⟩) (ms.length + 1) c) ((ms.take i ++ m :: ms.drop i).map Mv.cells) ∧ Below base W Y := by
 obtain ⟨cur, -, hbg, hh, hnc, hcm, hsz, ht⟩ := hown.blk
 have hDl : (((ms.map Mv.cells).drop i).flatten).length = (ms.length - i) * 4 := by rw [flatten_length (size := 4) (fun r hr => hown.1 r (List.mem_of_mem_drop hr)), List.length_drop, List.length_map]
 have hone : ∀ v ∈ ((ms.map Mv.cells).drop i).flatten, v.oneCell' = true := fun v hv => by
  obtain ⟨r, hr, hv⟩ := List.mem_flatten.1 hv
  obtain ⟨x, -, rfl⟩ := List.mem_map.1 (List.mem_of_mem_drop hr)
  exact Mv.one x v hv
 have hsh := OwS.shift hown.drew (i := i) (by rw [List.length_map]; omega) hc (m := m.cells) rfl
 have hNs : ∀ j, j < c * 4 → (W.drew.cell? ⟨g, j, none⟩).isSome = true := fun j hj => hown.drew.isSome hj
 have hNf : ∀ j, W.drew.frozen? ⟨g, j, none⟩ = false := fun j => frozen_of_row _ _ j _ _ hh
 obtain ⟨V, hV⟩ : ∃ V, V = W.drew := ⟨_, rfl⟩
 have hS1 : V.heap[S]? = some (.cells m.cells.toArray 196 (0, 0)) := by rw [hV]; exact hS
 have hcf : ∀ {j u}, ((ms.map Mv.cells).drop i).flatten[j]? = some u → V.cell? ⟨g, i * 4 + j, none⟩ = some u := fun hj => by rw [hV]; exact hown.drew.cellsFrom i hj
 have hbV : Below base W V := by rw [hV]; exact (Below.refl base W).drew
 rw [← hV] at hsh hNs hNf ⊢
 clear hV
 obtain ⟨D, hD⟩ : ∃ D, D = ((ms.map Mv.cells).drop i).flatten := ⟨_, rfl⟩
 rw [← hD] at hsh hDl hone hcf
 obtain ⟨X, hX⟩ : ∃ X, X = V.setCells g ((i + 1) * 4) D := ⟨_, rfl⟩
 have hrX : ∀ ty dc sc, (Builtin.copy_ #[31, 31] ty #[.slice (some ⟨g, (i + 1) * 4, none⟩) (ms.length + 1 - (i + 1)) dc, .slice (some ⟨g, i * 4, none⟩) (ms.length + 1 - i) sc]).run Tryz.prog V = .ok (goInt ((ms.length - i : Nat) : Int)) X := fun ty dc sc => by
  rw [hX]
  refine run_copy_rows V _ _ ty 196 4 (ms.length - i) g ((i + 1) * 4) _ dc ⟨g, i * 4, none⟩ _ sc D Tryz.underlying31 sizeMv (by simp only [Nat.min_def]; split <;> omega) hDl (fun j v hj => ?_) (fun j hj => hNs _ (by rw [hDl] at hj; omega)) (fun j _ => hNf _) hone
  rw [Addr.add_lit]
  exact hcf hj
 have hX0 : ∀ p : Addr, p.block ≠ g → X.cell? p = V.cell? p := fun p hp => by
  rw [hX]
  exact World.cell?_setCells_out _ _ _ _ _ (fun h _ => absurd h hp)
 have hX2 : ∀ j, X.frozen? ⟨g, j, none⟩ = false := fun j => by
  rw [hX, World.frozen?_setCells]
  exact hNf _
 have hX3 : ∀ j, j < (i + 1) * 4 → (X.cell? ⟨g, j, none⟩).isSome = true := fun j h1 => by
  rw [hX, World.cell?_setCells_out _ _ _ _ _ (fun _ _ => by left; show j < _; omega)]
  exact hNs _ (by omega)
 have hbs : ∀ (vs : List Value) (o : Nat) (V : World), Below base W V → Below base W (V.setCells g o vs) := fun vs => by
  induction vs with
  | nil => intro o V h; exact h
  | cons v r ih => intro o V h; exact ih (o + 1) _ (h.setCell hbg v)
 have hbX : Below base W X := by rw [hX]; exact hbs _ _ _ hbV
 rw [← hX] at hsh
 refine ⟨X, X.setCells g (i * 4) m.cells, hrX, fun ty dc => ?_, ?_, hbs _ _ _ hbX⟩
 ·clear hX hrX hsh
  refine run_copy_rows X _ _ ty 196 4 1 g (i * 4) _ dc ⟨S, 0, none⟩ 1 1 m.cells Tryz.underlying31 sizeMv (by simp only [Nat.min_def]; split <;> omega) rfl (fun j v hj => ?_) (fun j hj => hX3 _ ?_) (fun j _ => hX2 _) (Mv.one m)
  ·rw [Addr.add_lit, hX0 _ (by show S ≠ g; exact hSg), cell_of_row _ _ _ _ _ _ hS1]
   simpa using hj
  ·rw [Mv.cells_length] at hj
   omega
 ·rw [List.map_append, List.map_cons, List.map_take, List.map_drop]
  exact hsh
set_option maxHeartbeats 4000000 in
set_option maxRecDepth 100000 in
theorem ins_shift {ms : List Mv} {m : Mv} {g c base S i : Nat} (W : World) (hown : OwS W base 196 4 (.slice (some ⟨g, 0, none⟩) ms.length c) (ms.map Mv.cells)) (hS : W.heap[S]? = some (.cells m.cells.toArray 196 (0, 0))) (hSg : S ≠ g) (hi : i < ms.length) (hc : ms.length + 1 ≤ c) (hlen : ms.length ≤ 100000) :
  Calls Tryz.prog 161 #[.slice (some ⟨g, 0, none⟩) ms.length c, .int .i64 (i : Int), .slice (some ⟨S, 0, none⟩) 1 1] W fun r w' => (∃ v', r = .returned v' ∧ OwS w' base 196 4 v' ((ms.take i ++ m :: ms.drop i).map Mv.cells)) ∧ Below base W w' := by
 obtain ⟨X, Y, h1, h2, ho, hB⟩ := ins_room W hown hS hSg hi hc
 obtain ⟨cur, -, -, hh, hnc, hcm, hsz, -⟩ := hown.blk
 have hov : ∀ lb cb, (callFunc 235 #[.slice (some ⟨S, 0, none⟩) 1 1, .slice (some ⟨g, (i + 1) * 4, none⟩) lb cb]).run Tryz.prog W = .ok (.value (.bool false)) W := fun lb cb => by
  rw [run_callFunc_extern Tryz.func235 (by kernel_rfl) (by kernel_rfl) (by kernel_rfl) (e := Extern.SlicesOverlaps.overlaps #[31, 31] #[4]) (by kernel_rfl),
   Lib.run_overlaps_apart W 31 4 196 Tryz.underlying31 4 (fun w => by
    obtain ⟨i0, hi0, -, hzs, -⟩ := info_parts (show (Tryz.prog.info? 196).map (fun i => (i.zero, i.size, i.bytes)) = some (some (.agg #[.int .i64 0, .int .i64 0, .int .i64 0, .int .i64 0]), 4, 32) by kernel_rfl)
    simp [Go.sizeOf, typeInfo, hi0, hzs]) ⟨S, 0, none⟩ ⟨g, (i + 1) * 4, none⟩ 1 1 lb cb hSg 196 196 4 cur.size (by unfold World.shape?; rw [hS]; rfl) (by unfold World.shape?; rw [hh]) (by omega) (frozen_of_row _ _ _ _ _ hS) (frozen_of_row _ _ _ _ _ hS)]
  rfl
 have HO := Lib.hid ho
 have HB := Lib.hid hB
 have H1 := Lib.hid h1
 have hc63 : c ≤ 9223372036854775807 := by unfold maxLen at hcm; exact hcm
 clear ho hB h1 hown hS hh hsz hcm
 generalize ms.length = n at *
 have e1 : ((i : Int) == (n : Int)) = false := by rw [beq_eq_false_iff_ne]; omega
 have e1' : (i == n) = false := by rw [beq_eq_false_iff_ne]; omega
 have w1 : IntKind.i64.wrap ((n : Int) + 1) = (n : Int) + 1 := IntWalk.i64_in _ (by omega)
 have w3 : IntKind.i64.wrap ((i : Int) + 1) = (i : Int) + 1 := IntWalk.i64_in _ (by omega)
 have e2 : ¬ ((c : Int) < (n : Int) + 1) := by omega
 have hb1 : (0 : Int) ≤ (i : Int) + 1 := by omega
 have hb2 : ¬ (c = i + 1) := by omega
 have hb3 : (i : Int) ≤ (n : Int) + 1 := by omega
 have hb4 : ¬ (c = i) := by omega
 have hin : i ≤ n := by omega
 have htn : ((i : Int) + 1).toNat = i + 1 := by omega
 have htn2 : ((n : Int) + 1).toNat = n + 1 := by omega
 clear hi
 go_enter Tryz.func161, Tryz.ntmps161
 go_wp2_with (simp only [hov])
 go_region_law (refine step_copy_rows rfl _ _ 31 31 rfl (.slice (some ⟨g, (i + 1) * 4, none⟩) (n + 1 - (i + 1)) (c - (i + 1))) (.slice (some ⟨g, i * 4, none⟩) (n + 1 - i) (c - i)) (by simp [Act.eval, Act.put]) (by simp [Act.eval, Act.put]) (H1.out _ (c - (i + 1)) (c - i)) ?_)
 go_wp2
 go_ret
 exact ⟨⟨_, rfl, HO.out⟩, HB.out⟩
theorem ins_mv {ms : List Mv} {m : Mv} {v : Value} {base i : Nat} (w : World) (hown : OwS w base 196 4 v (ms.map Mv.cells)) (hi : i ≤ ms.length) (hlen : ms.length ≤ 100000) (hb : base ≤ w.heap.size) :
  Calls Tryz.prog 161 #[v, .int .i64 (i : Int), .slice (some ⟨w.heap.size, 0, none⟩) 1 1] (w.alloc (.cells m.cells.toArray 196)) fun r w' => (∃ v', r = .returned v' ∧ OwS w' base 196 4 v' ((ms.take i ++ m :: ms.drop i).map Mv.cells)) ∧ Below base w w' := by
 by_cases hin : i = ms.length
 ·subst hin
  have := ins_end (m := m) w hown hlen hb
  rw [List.take_length, List.drop_length]
  exact this
 ·obtain ⟨g, c, rfl, hbg, hgs⟩ := hown.pos (by rw [List.length_map]; omega)
  obtain ⟨cur, -, -, hh, hnc, hcm, hsz, -⟩ := hown.blk
  rw [List.length_map] at *
  have hS := heap_alloc_new w (.cells m.cells.toArray 196)
  have hbw : Below base w (w.alloc (.cells m.cells.toArray 196)) := (Below.refl base w).alloc hb _
  by_cases hc : c < ms.length + 1
  ·refine (ins_grow (m := m) (i := i) (S := w.heap.size) _ (hown.alloc _) hS (by omega) hc hnc hlen (by simp; omega)).mono fun r w' h => ⟨h.1, hbw.trans h.2⟩
  ·refine (ins_shift (m := m) (i := i) (S := w.heap.size) _ (hown.alloc _) hS (by omega) (by omega) (by omega) hlen).mono fun r w' h => ⟨h.1, hbw.trans h.2⟩
theorem del_runs {ms : List Mv} {g c base i q : Nat} (W : World) (hown : OwS W base 196 4 (.slice (some ⟨g, 0, none⟩) (q + 1) c) (ms.map Mv.cells)) (hi : i ≤ q) :
  ∃ X Y, (∀ A' ty cc, (q = i ∨ A' = ⟨g, (i + 1) * 4, none⟩) → (Builtin.append_ #[31, 31] ty #[.slice (some ⟨g, 0, none⟩) i c, .slice (some A') (q + 1 - (i + 1)) cc]).run Tryz.prog W.drew = .ok (.slice (some ⟨g, 0, none⟩) q c) X) ∧
   (∀ ty cc, (Builtin.clear_ #[31] ty #[.slice (some ⟨g, q * 4, none⟩) (q + 1 - q) cc]).run Tryz.prog X = .ok (.tuple #[]) Y) ∧
   OwS Y base 196 4 (.slice (some ⟨g, 0, none⟩) q c) ((ms.take i ++ ms.drop (i + 1)).map Mv.cells) ∧ Below base W Y := by
 obtain ⟨cur, hn, hbg, hh, hnc, hcm, hsz, ht⟩ := hown.blk
 rw [List.length_map] at hn
 obtain ⟨i0, hi0, hz0, hzs, hzb⟩ := info_parts (show (Tryz.prog.info? 196).map (fun i => (i.zero, i.size, i.bytes)) = some (some (.agg #[.int .i64 0, .int .i64 0, .int .i64 0, .int .i64 0]), 4, 32) by kernel_rfl)
 have hDl : (((ms.map Mv.cells).drop (i + 1)).flatten).length = (q + 1 - (i + 1)) * 4 := by rw [flatten_length (size := 4) (fun r hr => hown.1 r (List.mem_of_mem_drop hr)), List.length_drop, List.length_map, hn]
 have hone : ∀ v ∈ ((ms.map Mv.cells).drop (i + 1)).flatten, v.oneCell' = true := fun v hv => by
  obtain ⟨r, hr, hv⟩ := List.mem_flatten.1 hv
  obtain ⟨x, -, rfl⟩ := List.mem_map.1 (List.mem_of_mem_drop hr)
  exact Mv.one x v hv
 have hcut := OwS.cut hown.drew (i := i) (by rw [List.length_map]; omega)
 have hNs : ∀ j, j < c * 4 → (W.drew.cell? ⟨g, j, none⟩).isSome = true := fun j hj => hown.drew.isSome hj
 have hNf : ∀ j, W.drew.frozen? ⟨g, j, none⟩ = false := fun j => frozen_of_row _ _ j _ _ hh
 obtain ⟨V, hV⟩ : ∃ V, V = W.drew := ⟨_, rfl⟩
 have hcf : ∀ {j u}, ((ms.map Mv.cells).drop (i + 1)).flatten[j]? = some u → V.cell? ⟨g, (i + 1) * 4 + j, none⟩ = some u := fun hj => by rw [hV]; exact hown.drew.cellsFrom (i + 1) hj
 have hbV : Below base W V := by rw [hV]; exact (Below.refl base W).drew
 rw [← hV] at hcut hNs hNf ⊢
 clear hV
 obtain ⟨D, hD⟩ : ∃ D, D = ((ms.map Mv.cells).drop (i + 1)).flatten := ⟨_, rfl⟩
 rw [← hD] at hcut hDl hone hcf
 obtain ⟨X, hX⟩ : ∃ X, X = V.setCells g (i * 4) D := ⟨_, rfl⟩
 have hbs : ∀ (vs : List Value) (o : Nat) (V : World), Below base W V → Below base W (V.setCells g o vs) := fun vs => by
  induction vs with
  | nil => intro o V h; exact h
  | cons v r ih => intro o V h; exact ih (o + 1) _ (h.setCell hbg v)
 have hbX : Below base W X := by rw [hX]; exact hbs _ _ _ hbV
 have hX2 : ∀ j, X.frozen? ⟨g, j, none⟩ = false := fun j => by
  rw [hX, World.frozen?_setCells]
  exact hNf _
 rw [← hX] at hcut
 have hXs : ∀ j, j < c * 4 → (X.cell? ⟨g, j, none⟩).isSome = true := fun j hj => hcut.isSome hj
 obtain ⟨ZC, hZC⟩ : ∃ ZC, ZC = (Builtin.zeroCells (Value.agg #[.int .i64 0, .int .i64 0, .int .i64 0, .int .i64 0]).cells 1).toList := ⟨_, rfl⟩
 have hZl : ZC.length = 4 ∧ ∀ v ∈ ZC, v.oneCell' = true := by
  rw [hZC]
  constructor
  ·simp [Builtin.zeroCells, Value.cells]
  ·intro v hv
   simp only [Builtin.zeroCells, Array.toList_map, List.mem_map] at hv
   obtain ⟨k, -, rfl⟩ := hv
   have h6 : k % (Value.agg #[.int .i64 0, .int .i64 0, .int .i64 0, .int .i64 0]).cells.size < 4 := Nat.mod_lt _ (by decide)
   generalize k % (Value.agg #[.int .i64 0, .int .i64 0, .int .i64 0, .int .i64 0]).cells.size = y at h6
   match y, h6 with
   | 0, _ => rfl
   | 1, _ => rfl
   | 2, _ => rfl
   | 3, _ => rfl
 refine ⟨X, X.setCells g (q * 4) ZC, fun A' ty cc hA => ?_, fun ty cc => ?_, ?_, hbs _ _ _ hbX⟩
 ·have hsrc : Src Tryz.prog i0.size 31 (.slice (some A') (q + 1 - (i + 1)) cc) (q + 1 - (i + 1)) D V := by
   refine Src.ofSlice V Tryz.underlying31 A' _ cc D (by rw [hDl, hzs]) (fun j u hj => ?_) hone
   rcases hA with rfl | rfl
   ·have := (List.getElem?_eq_some_iff.1 hj).1
    omega
   ·rw [Addr.add_lit]
    exact hcf hj
  have h1 := run_append_room_src V 31 31 ty 196 i0 Tryz.underlying31 hi0 g 0 i c _ (q + 1 - (i + 1)) D hsrc (by omega) (fun j hj => hNs _ (by rw [hzs]; omega)) (fun j _ => hNf _)
  rw [h1, hzs, show i + (q + 1 - (i + 1)) = q by omega, hX, Nat.zero_add]
 ·have hst := run_storeCells_cells (P := Tryz.prog) g (q * 4) ZC 0 X (fun j hj => hXs _ (by omega)) (fun j _ => hX2 _) hZl.2
  simp only [Nat.add_zero] at hst
  rw [show q + 1 - q = 1 by omega]
  simp [Builtin.clear_, run_underlying Tryz.underlying31]
  rw [hZC] at hst
  change (Sem.run Tryz.prog (storeCells ⟨g, q * 4, none⟩ (Builtin.zeroCells (Value.agg #[.int .i64 0, .int .i64 0, .int .i64 0, .int .i64 0]).cells 1).toList) X).andThen _ = _
  rw [hst, hZC]
  rfl
 ·refine OwS.pastAll _ _ ?_ ?_
  ·rw [List.map_append, List.map_take, List.map_drop]
   exact hcut
  ·rw [List.length_map, List.length_append, List.length_take, List.length_drop]
   omega
set_option maxHeartbeats 4000000 in
set_option maxRecDepth 100000 in
theorem del_mv {ms : List Mv} {v : Value} {base i : Nat} (W : World) (hown : OwS W base 196 4 v (ms.map Mv.cells)) (hi : i < ms.length) (hlen : ms.length ≤ 100000) :
  Calls Tryz.prog 160 #[v, .int .i64 (i : Int), .int .i64 ((i : Int) + 1)] W fun r w' => (∃ v', r = .returned v' ∧ OwS w' base 196 4 v' ((ms.take i ++ ms.drop (i + 1)).map Mv.cells)) ∧ Below base W w' := by
 obtain ⟨g, c, rfl, hbg, hgs⟩ := hown.pos (by rw [List.length_map]; omega)
 obtain ⟨cur, -, -, hh, hnc, hcm, hsz, -⟩ := hown.blk
 rw [List.length_map] at *
 obtain ⟨q, hq⟩ : ∃ q, ms.length = q + 1 := ⟨ms.length - 1, by omega⟩
 rw [hq] at hown hnc hi hlen ⊢
 obtain ⟨X, Y, h1, h2, ho, hB⟩ := del_runs W hown (i := i) (by omega)
 have hqi : q + 1 - (i + 1) = q - i := by omega
 simp only [hqi] at h1
 simp only [Nat.add_sub_cancel_left] at h2
 clear hqi
 have HO := Lib.hid ho
 have HB := Lib.hid hB
 have H1 := Lib.hid h1
 have hc63 : c ≤ 9223372036854775807 := by unfold maxLen at hcm; exact hcm
 clear ho hB h1 hown hh hsz hcm hq
 have e1 : ((i : Int) == (i : Int) + 1) = false := by rw [beq_eq_false_iff_ne]; omega
 have hb1 : (0 : Int) ≤ (i : Int) + 1 := by omega
 have hb3 : (i : Int) ≤ (i : Int) + 1 := by omega
 have hb5 : (i : Int) ≤ (q : Int) := by omega
 have htn : ((i : Int) + 1).toNat = i + 1 := by omega
 have htq : ((q : Int) + 1).toNat = q + 1 := by omega
 have hiq : i ≤ q := by omega
 have hin : i ≤ q + 1 := by omega
 have hn0 : ¬ (q + 1 = i) := by omega
 have hcq : ¬ (c = q) := by omega
 have hci : ¬ (c = i) := by omega
 have hic : i ≤ c := by omega
 by_cases hc1 : c = i + 1
 ·obtain rfl : i = q := by omega
  subst hc1
  go_enter Tryz.func160, Tryz.ntmps160
  go_wp2
  go_region_law (refine step_append_rows rfl _ _ 31 31 rfl (.slice (some ⟨g, 0, none⟩) i (i + 1)) (.slice (some ⟨g, 0, none⟩) (i - i) 0) (by simp [Act.eval, Act.put]) (by simp [Act.eval, Act.put]) (H1.out _ _ _ (.inl (by simp))) ?_)
  go_wp2
  go_ret
  exact ⟨⟨_, rfl, HO.out⟩, HB.out⟩
 ·go_enter Tryz.func160, Tryz.ntmps160
  go_wp2
  go_region_law (refine step_append_rows rfl _ _ 31 31 rfl (.slice (some ⟨g, 0, none⟩) i c) (.slice (some ⟨g, (i + 1) * 4, none⟩) (q - i) (c - (i + 1))) (by simp [Act.eval, Act.put]) (by simp [Act.eval, Act.put]) (H1.out _ _ _ (.inr rfl)) ?_)
  go_wp2
  go_ret
  exact ⟨⟨_, rfl, HO.out⟩, HB.out⟩
end Go.Proofs.YtopoefcklipaeaaGreatDoor
