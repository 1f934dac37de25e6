/- Walk of tegularef07.Complete.
A table of pairs in memory; walk of tegularef06.Has.
Walk of tegularef07.Check on a balanced design. -/
import Derived.Test.YtopoefcklipaeaaGreatDoorGRc
namespace Go.Proofs.YtopoefcklipaeaaGreatDoor
open Go.RowKit
theorem make_intsS (w : World) (n : Nat) (h : n ≤ 1000000) : (Instr.makeSlice 47 (.int .i64 (n : Int)) (.int .i64 (n : Int))).run Tryz.prog w = .ok (.slice (some ⟨w.heap.size, 0, none⟩) n n) (w.alloc (.cells (madeCells #[.int .i64 0] n) 3)) := by
 obtain ⟨i, hi, h1, h2, h3⟩ := info_parts (P := Tryz.prog) (e := 3) (z := .int .i64 0) (size := 1) (bytes := 8) (by kernel_rfl)
 have hr := run_make (P := Tryz.prog) w 47 3 i _ Tryz.underlying47 hi h1 .i64 .i64 n n (by omega) (Int.le_refl _) (by rw [h3]; omega) (by omega)
 simp only [Int.toNat_natCast, h2, Nat.mul_one] at hr
 exact hr
theorem flat_rep {α : Type} (x : α) : ∀ k : Nat, (List.replicate k [x]).flatten = List.replicate k x := by
 intro k
 induction k with
 | zero => rfl
 | succ k ih => rw [List.replicate_succ, List.flatten_cons, ih, List.replicate_succ]; rfl
theorem made_list (z : Value) (k : Nat) : (madeCells #[z] k).toList = List.replicate k z := by
 apply List.ext_getElem?
 intro i
 rw [Array.getElem?_toList]
 unfold madeCells
 rw [Array.getElem?_map]
 by_cases h : i < k
 ·rw [Array.getElem?_range, if_pos h, List.getElem?_replicate, if_pos h]
  simp
  rw [show i % 1 = 0 by omega]
  rfl
 ·rw [Array.getElem?_range, if_neg h, List.getElem?_replicate, if_neg h]
  rfl
theorem made_zeros (w1 : World) (k : Nat) (hk : k ≤ 1000) : OwS (w1.alloc (.cells (madeCells #[.int .i64 0] k) 3)) w1.heap.size 3 1 (.slice (some ⟨w1.heap.size, 0, none⟩) k k) (rowsI (List.replicate k 0)) := by
 have e : rowsI (List.replicate k 0) = List.replicate k [.int .i64 0] := by simp [rowsI, nInts, icell]
 refine OwS.lit ?_ (heap_alloc_new w1 _) ?_ (by rw [e]; simp) (by simp [maxLen]; omega) (Nat.le_refl _)
 ·rw [e]
  intro r hr
  rw [(List.mem_replicate.1 hr).2]
  rfl
 ·rw [e, flat_rep, made_list]
def FilR (w0 : World) (b k : Nat) (s7 : Value) (wr : World) : Prop := ∃ m : Nat, m ≤ k ∧ s7 = .int .i64 m ∧ Below w0.heap.size w0 wr ∧ ∃ l : List Nat, l.length = k ∧ (∀ j, j < m → l[j]? = some j) ∧ OwS wr b 3 1 (.slice (some ⟨b, 0, none⟩) k k) (rowsI l)
def gsLen (w : World) (D : Nat) : Nat := match w.cell? ⟨D, 1, none⟩ with | some (.slice _ n _) => n | _ => 0
structure ComS (w1 w : World) (D b d k : Nat) (v : Value) (vs : List (Option Addr × Nat)) (gs : List (List Nat)) (l : List Nat) : Prop where
 box : w.heap[D]? = some (.cells #[.int .i64 d, v] 26)
 gs : GsW w (b + 1) v vs gs
 row : OwS w b 3 1 (.slice (some ⟨b, 0, none⟩) k k) (rowsI l)
 bel : Below D w1 w
def Com1 (w1 : World) (D b d k : Nat) (gs : List (List Nat)) (w : World) : Prop := ∃ j l v vs, gs[j]? = some l ∧ ComS w1 w D b d k v vs (gs.take j) l
theorem ComS.below {w1 w w' : World} {D b d k : Nat} {v : Value} {vs : List (Option Addr × Nat)} {gs : List (List Nat)} {l : List Nat} (h : ComS w1 w D b d k v vs gs l) (hD : D ≤ w.heap.size) (hb : Below w.heap.size w w') : ComS w1 w' D b d k v vs gs l :=
 ⟨(hb.block _ (Array.getElem?_eq_some_iff.1 h.box).1).trans h.box, h.gs.below hb, h.row.below hb, h.bel.trans (hb.mono hD)⟩
theorem ComS.len {w1 w : World} {D b d k : Nat} {v : Value} {vs : List (Option Addr × Nat)} {gs : List (List Nat)} {l : List Nat} (h : ComS w1 w D b d k v vs gs l) : gsLen w D = gs.length := by
 obtain ⟨A, c, rfl, -, -⟩ := h.gs.2.1.form
 unfold gsLen
 rw [cell_of_row _ _ _ _ _ _ h.box]
 show (vsRows vs gs).length = _
 exact vsRows_len h.gs.1
theorem ComS.push {w1 w w' : World} {D b d k : Nat} {v v' : Value} {vs : List (Option Addr × Nat)} {gs : List (List Nat)} {l g : List Nat} {p : Option Addr × Nat} (h : ComS w1 w D b d k v vs gs l) (hg : OwS w (b + 1) 3 1 (.slice p.1 g.length p.2) (rowsI g))
  (ho : OwS w' (b + 1) 47 1 v' (vsRows vs gs ++ [[.slice p.1 g.length p.2]])) (hk : w.grownBy w' v.ownBlock) (hD : D ≤ b) : ComS w1 (w'.setCell ⟨D, 1, none⟩ v') D b d k v' (vs ++ [p]) (gs ++ [g]) l := by
 have hlt : D < w.heap.size := (Array.getElem?_eq_some_iff.1 h.box).1
 have hb : w'.heap[D]? = some (.cells #[.int .i64 d, v] 26) := (hk.block _ hlt (fun e => h.gs.2.1.blk_ne h.box (by decide) e.symm)).trans h.box
 have hr := h.row.kept hk (h.row.ne h.gs.2.1 (by decide))
 refine ⟨?_, (h.gs.push hg ho hk).far hb (by decide) (by decide) v', hr.far (hr.blk_ne hb (by decide)) v', (h.bel.grown hk (by omega) (fun x hx => by have := (h.gs.2.1.lt hx).1; omega)).setCell (Nat.le_refl _) _⟩
 have := heap_setCell_same w' D 1 _ _ v' hb
 simpa using this
theorem ComS.setRow {w1 w : World} {D b d k : Nat} {v : Value} {vs : List (Option Addr × Nat)} {gs : List (List Nat)} {l : List Nat} (h : ComS w1 w D b d k v vs gs l) (hD : D < b) {q y : Nat} (hy : l[q]? = some y) (x : Nat) : ComS w1 (w.setCell ⟨b, q, none⟩ (.int .i64 (x : Int))) D b d k v vs gs (l.set q x) := by
 have hr : (rowsI l)[q]? = some (icell (y : Int)) := by unfold rowsI; rw [List.getElem?_map, nInts_at hy]; rfl
 have hs := (h.row.set hr (j := 0) (by omega) (.int .i64 (x : Int))).1
 simp only [Nat.mul_one, Nat.add_zero] at hs
 have e : rowsI (l.set q x) = (rowsI l).set q ((icell (y : Int)).set 0 (.int .i64 (x : Int))) := by unfold rowsI nInts; rw [List.map_set, List.map_set]; rfl
 refine ⟨(heap_setCell_other w _ _ _ (by simp; omega)).trans h.box, ⟨h.gs.1, h.gs.2.1.far (fun hb => by have := (h.gs.2.1.lt hb).1; simp at this; omega) _, fun i p g h1 h2 => (h.gs.2.2 i p g h1 h2).far (fun hb => by have := ((h.gs.2.2 i p g h1 h2).lt hb).1; simp at this; omega) _⟩, by rw [e]; exact hs, h.bel.setCell (Nat.le_of_lt hD) _⟩
set_option maxHeartbeats 4000000 in
theorem complete_any (d k : Nat) (gs : List (List Nat)) (hk : 1 ≤ k ∧ k ≤ 16) (hd : k ≤ d ∧ d ≤ 60) (hc : chainC d k gs = true) (h0 : gs[0]? = some (List.range k)) (hl : ∀ g ∈ gs, g.length = k ∧ ∀ x ∈ g, x < d) (hn : gs.length ≤ 100) (w : World) :
    Calls Tryz.prog 24 #[.int .i64 (d : Int), .int .i64 (k : Int)] w fun r w' => (∃ v, r = .returned (.agg #[.int .i64 (d : Int), v]) ∧ GsO w' w.heap.size v gs) ∧ Below w.heap.size w w' := by
  have hmk : ∀ W : World, (Instr.makeSlice 47 (.int .i64 (k : Int)) (.int .i64 (k : Int))).run Tryz.prog W = .ok (.slice (some ⟨W.heap.size, 0, none⟩) k k) (W.alloc (.cells (madeCells #[.int .i64 0] k) 3)) := fun W => make_intsS W k (by omega)
  have HL := Lib.hid hl
  have HC := Lib.hid (fun (j : Nat) (l : List Nat) (h : gs[j]? = some l) => chain_at hc h)
  have H0 := Lib.hid h0
  clear hl hc h0
  go_enter Tryz.func24, Tryz.ntmps24
  go_wp2
  clear hmk
  generalize hW0 : w.alloc _ = w0
  have HB0 : Hid (Below w.heap.size w w0) := by rw [← hW0]; exact below_laid
  have hz0 : w0.heap.size = w.heap.size + 1 := by rw [← hW0]; simp
  have HBX : Hid (w0.heap[w.heap.size]? = some (.cells #[.int .i64 0, .slice none 0 0] 26)) := by rw [← hW0]; exact heap_alloc_new w _
  clear hW0
  rw [← hz0]
  generalize hW1 : w0.alloc _ = w1
  have HB1 : Hid (Below w0.heap.size w0 w1) := by rw [← hW1]; exact below_laid
  have hz1 : w1.heap.size = w0.heap.size + 1 := by rw [← hW1]; simp
  have HD : Hid (w1.heap[w0.heap.size]? = some (.cells #[.int .i64 d, .slice none 0 0] 26)) := by rw [← hW1]; exact heap_alloc_new w0 _
  clear hW1
  rw [← hz1]
  have HF : Hid (FilR w1 w1.heap.size k (.int .i64 0) (w1.alloc (.cells (madeCells #[.int .i64 0] k) 3))) := by
    refine ⟨0, by omega, rfl, below_laid, List.replicate k 0, by simp, fun j hj => absurd hj (by omega), ?_⟩
    exact made_zeros w1 k (by omega)
  have HZ0 := Lib.hid hz0
  have HZ1 := Lib.hid hz1
  clear hz0 hz1
  generalize hbb : w1.heap.size = b at *
  generalize w1.alloc _ = w2 at *
  go_loopw [7] (fun s7 wr => FilR w1 b k s7 wr) (fun s7 _ => k - (intOf s7).toNat)
  case atStart => exact HF.out
  case round =>
    clear HF
    obtain ⟨m, hm, rfl, hb, l, hlk, hlj, hown⟩ := hrel
    by_cases hmk : m < k
    · have hmI : (m : Int) < (k : Int) := by omega
      obtain ⟨y, hy⟩ : ∃ y, l[m]? = some y := ⟨l[m], List.getElem?_eq_getElem (by omega)⟩
      have hr : (rowsI l)[m]? = some (icell (y : Int)) := by unfold rowsI; rw [List.getElem?_map, nInts_at hy]; rfl
      have c0 : wr.cell? ⟨b, m, none⟩ = some (.int .i64 (y : Int)) := by simpa using hown.cell hr (j := 0) rfl
      have f0 : wr.frozen? ⟨b, m, none⟩ = false := hown.frozen m
      have HS : Hid (FilR w1 b k (.int .i64 ((m + 1 : Nat) : Int)) (wr.setCell ⟨b, m, none⟩ (.int .i64 (m : Int)))) := by
        refine ⟨m + 1, hmk, rfl, hb.setCell (by rw [← hbb]; exact Nat.le_refl _) _, l.set m m, by simp [hlk], fun j hj => ?_, ?_⟩
        · rw [List.getElem?_set]
          by_cases h : m = j
          · subst h; simp [hlk]; omega
          · rw [if_neg h]; exact hlj j (by omega)
        · have := (hown.set hr (j := 0) (by omega) (.int .i64 (m : Int))).1
          simp only [Nat.mul_one, Nat.add_zero] at this
          have e : rowsI (l.set m m) = (rowsI l).set m ((icell (y : Int)).set 0 (.int .i64 (m : Int))) := by unfold rowsI nInts; rw [List.map_set, List.map_set]; rfl
          rw [e]
          exact this
      clear hlj hown hb hlk hr
      go_wp2
      go_roundw
      case rel => exact HS.out
      case measure => simp [intOf] <;> omega
    · obtain rfl : k = m := by omega
      have HC0 : Hid (Com1 w1 w0.heap.size b d k gs wr) := by
        have e : l = List.range k := by
          apply List.ext_getElem?
          intro j
          by_cases hj : j < k
          · rw [hlj j hj, List.getElem?_range hj]
          · rw [List.getElem?_eq_none (by omega), List.getElem?_eq_none (by simp; omega)]
        subst e
        exact ⟨0, _, .slice none 0 0, [], H0.out, (hb.block _ (by rw [hbb, HZ1.out]; omega)).trans HD.out, GsW.nil _ _, hown, hb.mono (by rw [hbb, HZ1.out]; omega)⟩
      clear hb hlk hlj hown
      have HBB := Lib.hid hbb
      clear hbb
      go_wp2
      go_loopw [8, 9] (fun _ _ wr => Com1 w1 w0.heap.size b d k gs wr) (fun _ _ wr => gs.length - gsLen wr w0.heap.size)
      case atStart => exact HC0.out
      case round =>
        clear HC0
        obtain ⟨j, l, v, vs, hgj, hcs⟩ := hrel
        have HG := Lib.hid hgj
        have hjl : j < gs.length := (List.getElem?_eq_some_iff.1 hgj).1
        obtain ⟨Ag, cg, rfl, -, -⟩ := hcs.gs.2.1.form
        have c1 : wr.cell? ⟨w0.heap.size, 1, none⟩ = some (.slice Ag (vsRows vs (gs.take j)).length cg) := by rw [cell_of_row _ _ _ _ _ _ hcs.box]; rfl
        have f1 : wr.frozen? ⟨w0.heap.size, 1, none⟩ = false := frozen_of_row _ _ _ _ _ hcs.box
        have a1 : (wr.alloc (.cells #[] 3)).cell? ⟨w0.heap.size, 1, none⟩ = some (.slice Ag (vsRows vs (gs.take j)).length cg) := by
          rw [cell_of_row _ _ _ _ _ _ ((Below.heap_alloc wr _ _ (Array.getElem?_eq_some_iff.1 hcs.box).1).trans hcs.box)]; rfl
        have HCS := Lib.hid hcs
        have hzb : b < wr.heap.size := (hcs.row.lt rfl).2
        have HDB : Hid (w0.heap.size ≤ b) := by unfold Hid; rw [HZ1.out]; omega
        have HE : Hid (OwS (wr.alloc (.cells #[] 3)).drew (b + 1) 3 1 (.slice (some ⟨wr.heap.size, 0, none⟩) 0 0) []) := by
          have := OwS.lit (w := wr.alloc (.cells #[] 3)) (base := b + 1) (size := 1) (g := wr.heap.size) (n := 0) (rows := []) (by simp) (heap_alloc_new wr _) (by simp) rfl (by simp) (by omega)
          exact this.drew
        have HRD : Hid (RdS (wr.alloc (.cells #[] 3)).drew (wr.alloc (.cells #[] 3)).heap.size 1 (some ⟨b, 0, none⟩) (rowsI l)) := ((hcs.row.alloc (.cells #[] 3)).drew).reads
        have hlk : l.length = k := (HL.out l (List.mem_of_getElem? hgj)).1
        have HLK := Lib.hid hlk
        have HU : Hid (∀ r ∈ rowsI l, ∀ u ∈ r, u.oneCell' = true) := by
          unfold Hid rowsI
          intro r hr u hu
          obtain ⟨x, -, rfl⟩ := List.mem_map.1 hr
          exact icellOneS x u hu
        have HN1 : Hid (([] : List (List Value)).length + (rowsI l).length ≤ maxLen) := by unfold Hid; rw [rowsI_len, hlk]; simp [maxLen]; omega
        have HN2 : Hid ((([] : List (List Value)).length + (rowsI l).length) * 8 ≤ 140737488355328) := by unfold Hid; rw [rowsI_len, hlk]; simp; omega
        have HN3 : Hid (b + 1 ≤ (wr.alloc (.cells #[] 3)).drew.heap.size) := by unfold Hid; show b + 1 ≤ (wr.alloc _).heap.size; simp; omega
        have HDZ : Hid (w0.heap.size ≤ wr.heap.size) := by unfold Hid; have := HDB.out; omega
        have HB7 : Hid (∀ y, (wr.alloc (.cells #[] 3)).drew.grownBy y (Value.slice (some ⟨wr.heap.size, 0, none⟩) 0 0).ownBlock → Below wr.heap.size wr y) := fun y hy => (below_laid.drew).grown hy (by show _ ≤ (wr.alloc _).heap.size; simp) (fun x hx => by simp [Value.ownBlock] at hx; omega)
        have HU2 : Hid (∀ (A : Option Addr) (n c : Nat), ∀ u ∈ [Value.slice A n c], u.oneCell' = true) := by
          intro A n c u hu
          simp only [List.mem_singleton] at hu
          subst hu
          rfl
        have hvl := vsRows_len hcs.gs.1
        have HM1 : Hid ((vsRows vs (gs.take j)).length + 1 ≤ maxLen) := by unfold Hid; rw [hvl]; simp [maxLen]; omega
        have HM2 : Hid (((vsRows vs (gs.take j)).length + 1) * 24 ≤ 140737488355328) := by unfold Hid; rw [hvl]; simp; omega
        clear hcs hgj hlk hvl
        go_upto_region 7 with (fail)
        go_cut [6] (fun s6 wx => s6 = .slice (some ⟨b, 0, none⟩) k k ∧ ∃ v' vs', ComS w1 wx w0.heap.size b d k v' vs' (gs.take j ++ [l]) l)
        case first =>
         go_region_law (first | (refine step_apS (by rfl) (.tmp 25) (.tmp 26) _ (by rfl) elemIntS (by rfl) HE.out _ _ k k (rowsI l) (by rfl) HRD.out (by rw [rowsI_len, HLK.out]) HU.out HN1.out HN2.out HN3.out ?_; intro v3 y3 hown3 hg3 _; obtain ⟨A3, c3, rfl, -, -⟩ := hown3.form; have hcs3 := Lib.hid (HCS.out.below HDZ.out (HB7.out y3 hg3)); have hy3 := (HB7.out y3 hg3).size; clear hg3; have d1 := (cell_of_row _ _ 1 _ _ _ hcs3.out.box).trans (show _ = some (.slice Ag (vsRows vs (gs.take j)).length cg) from rfl); have d2 := (cell_of_row (y3.alloc (.cells #[.slice A3 l.length c3] 47)) _ 1 _ _ _ ((Below.heap_alloc y3 _ _ (Array.getElem?_eq_some_iff.1 hcs3.out.box).1).trans hcs3.out.box)).trans (show _ = some (.slice Ag (vsRows vs (gs.take j)).length cg) from rfl)) | (refine step_ap1 (by rfl) (.tmp 24) (.tmp 28) _ (by rfl) elemIL (by rfl) hcs3.out.gs.2.1 [.slice A3 l.length c3] _ (by rfl) y3.heap.size (by rfl) (by rfl) (HU2.out _ _ _) HM1.out HM2.out (by omega) ?_; intro v5 y5 hown5 hg5 _; obtain ⟨A5, c5, rfl, -, -⟩ := hown5.form; have hk5 := (World.grownBy_alloc y3 _ _).trans hg5; have hb5 := (hk5.block _ (Array.getElem?_eq_some_iff.1 hcs3.out.box).1 (fun e => hcs3.out.gs.2.1.blk_ne hcs3.out.box (by decide) e.symm)).trans hcs3.out.box; have d5 := (cell_of_row _ _ 1 _ _ _ hb5).trans (show _ = some (.slice Ag (vsRows vs (gs.take j)).length cg) from rfl); have e5 : y5.frozen? ⟨w0.heap.size, 1, none⟩ = false := frozen_of_row _ _ _ _ _ hb5; have HPU := Lib.hid (hcs3.out.push (p := (A3, c3)) (g := l) (by simpa using hown3) (by simpa using hown5) hk5 HDB.out); clear hown3 hown5 hk5 hb5 hg5) | fail)
         all_goals
          go_wp2_with fail
          go_meet
          exact ⟨rfl, _, _, by simpa using HPU.out⟩
        obtain ⟨rfl, v', vs', hcs⟩ := hcut
        have HCT := Lib.hid hcs
        have HNX := Lib.hid (HC.out j l HG.out)
        have HTK : Hid (gs.take j ++ [l] = gs.take (j + 1)) := by
          unfold Hid
          rw [List.take_add_one, HG.out]
          rfl
        clear hcs hzb c1 f1 a1
        go_wp2
        go_loopw [8] (fun s8 wr => wr = wc ∧ ∃ m : Nat, m ≤ k ∧ s8 = .int .i64 ((m : Int) - 1) ∧ growAt d k l k = growAt d k l m) (fun s8 _ => (intOf s8 + 1).toNat)
        case atStart => exact ⟨rfl, k, by omega, rfl, rfl⟩
        case round =>
          obtain ⟨rfl, m, hm, rfl, hgr⟩ := hrel
          have HGR := Lib.hid hgr
          clear hgr
          rcases m with _ | m
          · rw [show ((0 : Nat) : Int) - 1 = -1 from rfl]
            have HLS : Hid (gs.take j ++ [l] = gs) := by
              have hx := HNX.out
              unfold nextC at hx
              rw [HGR.out] at hx
              simp only [growAt, Option.map_none] at hx
              rw [Hid, HTK.out]
              exact List.take_of_length_le (by have := List.getElem?_eq_none_iff.1 hx.symm; omega)
            have hcs := HCT.out
            rw [HLS.out] at hcs
            obtain ⟨Ag', cg', rfl, -, -⟩ := hcs.gs.2.1.form
            generalize (vsRows vs' gs).length = nn at *
            have hbel := hcs.bel
            have HDX := Lib.hid hcs
            have c0 : wr.cell? ⟨w0.heap.size, 0, none⟩ = some (.int .i64 (d : Int)) := by rw [cell_of_row _ _ _ _ _ _ hcs.box]; rfl
            have c1 : wr.cell? ⟨w0.heap.size, 1, none⟩ = some (.slice Ag' nn cg') := by rw [cell_of_row _ _ _ _ _ _ hcs.box]; rfl
            have hbx : wr.heap[w.heap.size]? = some (.cells #[.int .i64 0, .slice none 0 0] 26) := ((hbel.block _ (by rw [HZ0.out]; omega)).trans (HB1.out.block _ (by rw [HZ0.out]; omega))).trans HBX.out
            have e0 : wr.cell? ⟨w.heap.size, 0, none⟩ = some (.int .i64 0) := by rw [cell_of_row _ _ _ _ _ _ hbx]; rfl
            have e1 : wr.cell? ⟨w.heap.size, 1, none⟩ = some (.slice none 0 0) := by rw [cell_of_row _ _ _ _ _ _ hbx]; rfl
            have f0 : wr.frozen? ⟨w.heap.size, 0, none⟩ = false := frozen_of_row _ _ _ _ _ hbx
            have f1 : wr.frozen? ⟨w.heap.size, 1, none⟩ = false := frozen_of_row _ _ _ _ _ hbx
            have hb2 := heap_setCell_same wr w.heap.size 0 _ _ (.int .i64 (d : Int)) hbx
            have HGO : Hid (GsO ((wr.setCell ⟨w.heap.size, 0, none⟩ (.int .i64 (d : Int))).setCell ⟨w.heap.size, 1, none⟩ (.slice Ag' nn cg')) w.heap.size (.slice Ag' nn cg') gs) :=
              ⟨_, ((hcs.gs.far (p := ⟨w.heap.size, 0, none⟩) hbx (by decide) (by decide) _).far (p := ⟨w.heap.size, 1, none⟩) hb2 (by decide) (by decide) _).mono (by rw [HZ1.out, HZ0.out]; omega)⟩
            have HBE : Hid (Below w.heap.size w ((wr.setCell ⟨w.heap.size, 0, none⟩ (.int .i64 (d : Int))).setCell ⟨w.heap.size, 1, none⟩ (.slice Ag' nn cg'))) :=
              ((HB0.out.trans ((HB1.out.trans hbel).mono (by rw [HZ0.out]; omega))).setCell (Nat.le_refl _) _).setCell (Nat.le_refl _) _
            have HBB := Lib.hid (heap_setCell_same (wr.setCell ⟨w.heap.size, 0, none⟩ (.int .i64 (d : Int))) w.heap.size 1 _ _ (.slice Ag' nn cg') hb2)
            clear hcs hbx hb2 hbel
            go_wp2
            (try simp only [Exit.inBlock, Exit.then])
            refine bodyPost_ret (v := .agg #[.int .i64 (d : Int), .slice Ag' nn cg']) ?_ rfl ⟨⟨_, rfl, HGO.out⟩, HBE.out⟩
            exact results_cell_row rfl _ _ w.heap.size 26 #[.int .i64 (d : Int), .slice Ag' nn cg'] (0, 0) _ rfl (by simpa using HBB.out) Tryz.underlying26 rfl (by kernel_rfl)
          · rw [show ((m + 1 : Nat) : Int) - 1 = (m : Int) by omega]
            have hlk := HLK.out
            obtain ⟨y, hy⟩ : ∃ y, l[m]? = some y := ⟨l[m], List.getElem?_eq_getElem (by omega)⟩
            have hyd : y < d := (HL.out l (List.mem_of_getElem? HG.out)).2 y (List.mem_of_getElem? hy)
            have hr : (rowsI l)[m]? = some (icell (y : Int)) := by unfold rowsI; rw [List.getElem?_map, nInts_at hy]; rfl
            have c0 : wr.cell? ⟨b, m, none⟩ = some (.int .i64 (y : Int)) := by simpa using HCT.out.row.cell hr (j := 0) rfl
            have f0 : wr.frozen? ⟨b, m, none⟩ = false := HCT.out.row.frozen m
            have hga : growAt d k l (m + 1) = if y = d - k + m then growAt d k l m else some m := by simp only [growAt]; rw [hy]; rfl
            have HGA := Lib.hid (HGR.out.trans hga)
            have HR := Lib.hid hr
            have HY := Lib.hid hy
            clear hga hr hy hlk
            by_cases hyk : y = d - k + m
            · have hyI : ((y : Int) == (d : Int) - (k : Int) + (m : Int)) = true := by simp; omega
              have HG2 : Hid (growAt d k l k = growAt d k l m) := by rw [Hid, HGA.out, if_pos hyk]
              clear hyk HGA
              go_wp2
              go_roundw
              case rel => exact ⟨trivial, m, by omega, by go_num, HG2.out⟩
              case measure => simp [intOf] <;> omega
            · have hyI : ((y : Int) == (d : Int) - (k : Int) + (m : Int)) = false := by simp; omega
              have HG2 : Hid (growAt d k l k = some m) := by rw [Hid, HGA.out, if_neg hyk]
              clear hyk HGA
              have HFL := Lib.hid (fillL_all HLK.out HG2.out)
              have hDb : w0.heap.size < b := by rw [HZ1.out]; omega
              have hset : Hid (ComS w1 (wr.setCell ⟨b, m, none⟩ (.int .i64 ((y : Int) + 1))) w0.heap.size b d k v' vs' (gs.take j ++ [l]) (fillL l m (m + 1))) := by
                have hs := HCT.out.setRow hDb HY.out (y + 1)
                have e : fillL l m (m + 1) = l.set m (y + 1) := by rw [fillL_first (by rw [HLK.out]; omega), HY.out]; rfl
                rw [Hid, e]
                simpa using hs
              go_wp2
              clear c0 f0 hyI
              generalize wr.setCell _ _ = wf at *
              go_loopw [9] (fun s9 wr => ∃ q : Nat, m + 1 ≤ q ∧ q ≤ k ∧ s9 = .int .i64 q ∧ ComS w1 wr w0.heap.size b d k v' vs' (gs.take j ++ [l]) (fillL l m q)) (fun s9 _ => k - (intOf s9).toNat)
              case atStart => exact ⟨m + 1, by omega, by omega, by go_num, hset.out⟩
              case round =>
                obtain ⟨q, hq1, hq2, rfl, hcq⟩ := hrel
                have hlk := HLK.out
                by_cases hqk : q < k
                · obtain ⟨p, rfl⟩ : ∃ p, q = p + 1 := ⟨q - 1, by omega⟩
                  have hqI : ((p : Int) + 1) < (k : Int) := by omega
                  have hyd : y < d := (HL.out l (List.mem_of_getElem? HG.out)).2 y (List.mem_of_getElem? HY.out)
                  have hp := fillL_prev (l := l) (i := m) (q := p + 1) (by omega) (by omega)
                  rw [HY.out, Option.getD_some, Nat.add_sub_cancel] at hp
                  have hz := fillL_at (l := l) (i := m) (q := p + 1) (j := p + 1) (by omega) (by omega) (by omega)
                  have hnx := fillL_next (l := l) (i := m) (q := p + 1) (by omega) (by omega)
                  rw [HY.out, Option.getD_some] at hnx
                  generalize hzz : (if p + 1 < m then l[p + 1]?.getD 0 else if p + 1 < p + 1 then l[m]?.getD 0 + 1 + (p + 1 - m) else l[p + 1]?.getD 0) = z at hz
                  have hp1 : (rowsI (fillL l m (p + 1)))[p]? = some (icell ((y + (p + 1 - m) : Nat) : Int)) := by unfold rowsI; rw [List.getElem?_map, nInts_at hp]; rfl
                  have hz1 : (rowsI (fillL l m (p + 1)))[p + 1]? = some (icell (z : Int)) := by unfold rowsI; rw [List.getElem?_map, nInts_at hz]; rfl
                  have c1 : wr.cell? ⟨b, p + 1, none⟩ = some (.int .i64 (z : Int)) := by simpa using hcq.row.cell hz1 (j := 0) rfl
                  generalize hxx : y + (p + 1 - m) = x at *
                  have hxb : x < 100 := by omega
                  have c0 : wr.cell? ⟨b, p, none⟩ = some (.int .i64 (x : Int)) := by simpa using hcq.row.cell hp1 (j := 0) rfl
                  have f0 : wr.frozen? ⟨b, p + 1, none⟩ = false := hcq.row.frozen (p + 1)
                  have HS : Hid (ComS w1 (wr.setCell ⟨b, p + 1, none⟩ (.int .i64 ((x : Int) + 1))) w0.heap.size b d k v' vs' (gs.take j ++ [l]) (fillL l m (p + 2))) := by
                    have hs := hcq.setRow hDb hz (x + 1)
                    rw [Hid, show p + 2 = p + 1 + 1 from rfl, hnx, show y + 1 + (p + 1 - m) = x + 1 by omega]
                    simpa using hs
                  clear hcq hp hz hz1 hzz hnx hp1 hxx hlk
                  go_wp2
                  go_roundw
                  case rel => exact ⟨p + 2, by omega, by omega, by go_num, HS.out⟩
                  case measure => simp [intOf] <;> omega
                · obtain rfl : q = k := by omega
                  have HCQ := Lib.hid hcq
                  clear hcq hlk
                  have HM0 := Lib.hid HCS.out.len
                  go_wp2
                  go_roundw
                  case rel =>
                    have hnx := HNX.out
                    rw [HFL.out] at hnx
                    exact ⟨j + 1, _, v', vs', hnx.symm, by rw [← HTK.out]; exact HCQ.out⟩
                  case measure =>
                    rw [HCQ.out.len, HM0.out]
                    simp
                    omega
end Go.Proofs.YtopoefcklipaeaaGreatDoor
namespace Go.Proofs.YtopoefcklipaeaaGreatDoor
open Go.RowKit
theorem prodTo_len (l : List Nat) (i k : Nat) (_hi : i ≤ l.length) (hk : k ≤ l.length) : (prodTo l i k).length ≤ (i + 1) * l.length := by
 unfold prodTo
 rw [List.length_append, List.length_map, List.length_take, List.length_flatMap]
 have : ∀ m, ((l.take m).map fun x => (l.map fun y => (x, y)).length).sum ≤ m * l.length := by
  intro m
  have e : ((l.take m).map fun x => (l.map fun y => (x, y)).length) = (l.take m).map fun _ => l.length := by simp
  rw [e, List.map_const', List.sum_replicate_nat]
  exact Nat.mul_le_mul_right _ (by simp; omega)
 have h1 := this i
 rw [Nat.succ_mul]
 omega
theorem fold_bd {l : List Nat} {i k : Nat} (f : Nat → Nat → Nat) (a b : Nat) (hi : i ≤ l.length) (hk : k ≤ l.length) : (prodTo l i k).foldl incF f a b ≤ f a b + (i + 1) * l.length := by
 rw [fold_inc]
 have := List.count_le_length (l := prodTo l i k) (a := (a, b))
 have := prodTo_len l i k hi hk
 omega
def PairV (w : World) (D : Nat) (t : TypeId) (f : Nat → Nat → Nat) : Prop := ∃ cs : Array Value, w.heap[D]? = some (.cells cs t) ∧ cs.size = 3600 ∧ ∀ a b, a < 60 → b < 60 → cs[a * 60 + b]? = some (.int .i64 (f a b : Nat))
section
variable {w w' : World} {D : Nat} {t : TypeId} {f : Nat → Nat → Nat}
theorem PairV.below (h : PairV w D t f) (hb : Below w.heap.size w w') : PairV w' D t f := by
 obtain ⟨cs, h1, h2⟩ := h
 exact ⟨cs, (hb.block _ (Array.getElem?_eq_some_iff.1 h1).1).trans h1, h2⟩
theorem PairV.lt (h : PairV w D t f) : D < w.heap.size := by obtain ⟨cs, h1, -⟩ := h; exact (Array.getElem?_eq_some_iff.1 h1).1
theorem PairV.cell (h : PairV w D t f) {a b : Nat} (ha : a < 60) (hb : b < 60) : w.cell? ⟨D, a * 60 + b, none⟩ = some (.int .i64 (f a b : Nat)) ∧ w.frozen? ⟨D, a * 60 + b, none⟩ = false := by
 obtain ⟨cs, h1, h2, h3⟩ := h
 exact ⟨by rw [cell_of_row _ _ _ _ _ _ h1]; exact h3 a b ha hb, frozen_of_row _ _ _ _ _ h1⟩
theorem PairV.inc (h : PairV w D t f) {a b : Nat} (ha : a < 60) (hb : b < 60) : PairV (w.setCell ⟨D, a * 60 + b, none⟩ (.int .i64 ((f a b + 1 : Nat) : Int))) D t (incF f (a, b)) := by
 obtain ⟨cs, h1, h2, h3⟩ := h
 refine ⟨_, heap_setCell_same w D _ cs t _ h1, by simp [h2], fun x y hx hy => ?_⟩
 rw [Array.getElem?_setIfInBounds]
 unfold incF
 by_cases e : a * 60 + b = x * 60 + y
 ·obtain ⟨rfl, rfl⟩ : x = a ∧ y = b := by omega
  rw [if_pos rfl, if_pos (by omega), if_pos ⟨rfl, rfl⟩]
 ·rw [if_neg e, if_neg (by intro ⟨e1, e2⟩; exact e (by rw [e1, e2])), h3 x y hx hy]
end
end Go.Proofs.YtopoefcklipaeaaGreatDoor
namespace Go.Proofs.YtopoefcklipaeaaGreatDoor
open Go.RowKit
theorem zeros60 : Tryz.zeroCells386 = Array.replicate 3600 (.int .i64 0) := by kernel_rfl
theorem PairV.zero (w : World) : PairV (w.alloc (.cells Tryz.zeroCells386 386)) w.heap.size 386 (fun _ _ => 0) := by
 rw [zeros60]
 refine ⟨_, heap_alloc_new w _, by simp, fun a b ha hb => ?_⟩
 rw [Array.getElem?_replicate, if_pos (by omega)]
 rfl
theorem des_parts {d w r lam : Nat} {gs : List (List Nat)} (h : desB d w r lam gs = true) : 1 ≤ gs.length ∧ ∀ g ∈ gs, g.length = w ∧ g.Pairwise (· < ·) ∧ ∀ x ∈ g, x < d := by
 unfold desB at h
 simp only [Bool.and_eq_true, List.all_eq_true, decide_eq_true_eq, beq_iff_eq] at h
 exact ⟨h.1.1, fun g hg => ⟨(h.1.2 g hg).1.1, (h.1.2 g hg).1.2, (h.1.2 g hg).2⟩⟩
theorem at_some {α : Type} {l : List α} {i : Nat} (h : i < l.length) : ∃ x, l[i]? = some x := ⟨l[i], List.getElem?_eq_getElem h⟩
theorem inc_adj {l : List Nat} (h : l.Pairwise (· < ·)) {p x y : Nat} (hx : l[p + 1]? = some x) (hy : l[p]? = some y) : y < x := by
 rw [List.pairwise_iff_getElem] at h
 obtain ⟨h1, rfl⟩ := List.getElem?_eq_some_iff.1 hx
 obtain ⟨h2, rfl⟩ := List.getElem?_eq_some_iff.1 hy
 exact h p (p + 1) h2 h1 (by omega)
end Go.Proofs.YtopoefcklipaeaaGreatDoor
