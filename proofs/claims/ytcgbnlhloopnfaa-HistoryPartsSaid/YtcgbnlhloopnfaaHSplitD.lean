/- history.Split and tegularef45.Split: the events that are kept. -/
import Derived.Test.YtcgbnlhloopnfaaHSplitC
namespace Go.Proofs.Ytcgbnlhloopnfaa
open Go.RowKit

theorem evS_up {w : World} {B C : Nat} {A : Option Addr} {l : List Ev} (h : EvS w B A l) (hB : B ≤ C) : EvS w C A l := ⟨h.1, fun hn => by obtain ⟨b, off, h1, h2, h3⟩ := h.2 hn; exact ⟨b, off, h1, by omega, h3⟩⟩
set_option maxHeartbeats 1000000 in
set_option maxRecDepth 100000 in
theorem clone_evs (l : List Ev) (A : Option Addr) (c B : Nat) (w : World) (h : EvS w B A l) (hB : B ≤ w.heap.size) (hn : l.length ≤ 100000) :
    Calls Try.prog 34 #[.slice A l.length c] w (LayE w l) := by
  rcases A with _ | a
  · have hl : l = [] := by
      cases l with
      | nil => rfl
      | cons e l =>
        obtain ⟨b, off, h1, -⟩ := h.2 (by simp)
        cases h1
    subst hl
    clear h
    have he : ∀ w : World, (binOp .eql 22 (.slice none 0 c) (.slice none 0 0)).run Try.prog w = .ok (.bool true) w := fun _ => rfl
    go_enter Try.func34, Try.ntmps34
    go_wp2
    go_ret
    exact ⟨_, rfl, OwS.nil _ _ _ _, Below.refl _ _⟩
  · have H := Lib.hid h
    clear h
    have he : ∀ w : World, (binOp .eql 22 (.slice (some a) l.length c) (.slice none 0 0)).run Try.prog w = .ok (.bool false) w := fun _ => rfl
    go_enter Try.func34, Try.ntmps34
    have hz : OwS (w.alloc (.cells #[] 56)) w.heap.size 56 6 (.slice (some ⟨w.heap.size, 0, none⟩) 0 0) [] := OwS.lit (by simp) (heap_alloc_new w _) rfl rfl (by decide) (Nat.le_refl _)
    have hrr : EvS (w.alloc (.cells #[] 56)) w.heap.size (some a) l := evS_up (H.out.below' (below_laid.mono hB) (Nat.le_refl _)) hB
    go_wp2_with (at_builtin; refine wpList_apS rfl (.tmp 5) (.tmp 6) _ rfl elemEv rfl hz w.heap.size _ _ c (l.map Ev.cells) rfl hrr (by simp) OwS.oneEv (by simp [maxLen]; omega) (by simp; omega) (by simp) ?_)
    intro v3 w3 hown3 hg3 _
    have hb3 : Below w.heap.size w w3 := ((Below.refl w.heap.size w).alloc (Nat.le_refl _) _).grown hg3 (by simp) (fun k h => (hz.lt h).1)
    clear hg3 hz
    go_wp2
    go_ret
    exact ⟨_, rfl, by simpa using hown3, hb3⟩

def splitOf (l : List Ev) (r : Int) : List Ev := if validL l then l.filter (keepB r) else []

set_option maxHeartbeats 1000000 in
set_option maxRecDepth 100000 in
theorem split_any (l : List Ev) (r : Int) (A : Option Addr) (c B : Nat) (w : World) (h : EvS w B A l) (hB : B ≤ w.heap.size) (hlen : l.length ≤ 100000) (hwf : WfOp l) :
    Calls Try.prog 9 #[.slice A l.length c, .int .i64 r] w (LayE w (splitOf l r)) := by
  have hz0 : (w.alloc (.cells #[.int .i64 r] 3)).heap.size = w.heap.size + 1 := World.size_alloc _ _
  have hb0 : Below w.heap.size w (w.alloc (.cells #[.int .i64 r] 3)) := below_laid
  have hxc : (w.alloc (.cells #[.int .i64 r] 3)).cell? ⟨w.heap.size, 0, none⟩ = some (.int .i64 r) := by rw [cell_of_row _ _ _ _ _ _ (heap_alloc_new w _)]; rfl
  have hpe : (parseL l).isSome = validL l := by rw [parse_eq l]; cases validL l <;> rfl
  have HV := Lib.hid (hvalid_any l A c B _ (h.below' hb0 hB) (by omega) (by omega) hwf)
  rw [hpe] at HV
  have HC := Lib.hid (fun W (hW : Below w.heap.size w W) => clone_evs l A c B W (h.below' hW hB) (Nat.le_trans hB hW.size) hlen)
  have HX : Hid ((w.alloc (.cells #[.int .i64 r] 3)).cell? ⟨w.heap.size, 0, none⟩ = some (.int .i64 r)) := hxc
  have HB0 := Lib.hid hb0
  have HZ0 := Lib.hid hz0
  clear h hpe hxc hb0 hz0
  unfold splitOf
  cases hv : validL l
  · rw [hv] at HV
    clear hv
    go_enter Try.func9, Try.ntmps9
    go_wp2_with fail
    refine HV.out.mono ?_
    rintro s w1 ⟨rfl, hb1⟩
    go_wp2
    go_ret
    exact ⟨_, rfl, OwS.nil _ _ _ _, HB0.out.trans (hb1.mono (by have := HZ0.out; omega))⟩
  · rw [hv] at HV
    clear hv
    go_enter Try.func9, Try.ntmps9
    go_wp2_with fail
    refine HV.out.mono ?_
    rintro s w1 ⟨rfl, hb1⟩
    have hb01 : Below w.heap.size w w1 := HB0.out.trans (hb1.mono (by have := HZ0.out; omega))
    have hz1 : w.heap.size < w1.heap.size := by have := HZ0.out; have := hb1.size; omega
    have hx1 : w1.cell? ⟨w.heap.size, 0, none⟩ = some (.int .i64 r) := (hb1.cell (p := ⟨w.heap.size, 0, none⟩) (by have := HZ0.out; show w.heap.size < _; omega)).trans HX.out
    have HX1 := Lib.hid hx1
    clear hb1 hx1
    go_wp2_with fail
    refine (HC.out _ hb01).mono ?_
    rintro s w2 ⟨v, rfl, hown, hb2⟩
    have hb02 := hb01.trans (hb2.mono (by omega))
    have hx2 : w2.cell? ⟨w.heap.size, 0, none⟩ = some (.int .i64 r) := (hb2.cell (p := ⟨w.heap.size, 0, none⟩) hz1).trans HX1.out
    have hz2 : w.heap.size < w2.heap.size := by have := hb2.size; omega
    have HD := Lib.hid (delete_ev (fun e => !keepB r e) w.heap.size l v w1.heap.size w2 hown (by omega) (fun e w' hg => split_del r e w.heap.size w' (hg.cell hx2 (fun hk => by have h1 : w1.heap.size ≤ w.heap.size := (hown.lt hk.symm).1; omega)) (by have := hg.size; omega)))
    have HOW := Lib.hid hown
    obtain ⟨Ak, nk, ck, rfl⟩ := hown.isSlice
    clear hown hb2 hx2
    go_wp2_with fail
    refine HD.out.mono ?_
    rintro s w3 ⟨v', rfl, hown3, hg3⟩
    go_wp2
    go_ret
    refine ⟨_, rfl, OwS.mono (by simpa using hown3) (by omega), hb02.grown hg3 (by omega) (fun k hk => by have := (HOW.out.lt hk).1; omega)⟩

/-! ### the reference's Split -/
set_option maxHeartbeats 400000 in
theorem refflush_any (e : Ev) (w : World) : Calls Try.prog 37 #[e.agg] w fun r w' => r = .returned (.bool (flushB e)) ∧ Below w.heap.size w w' := by
  unfold Ev.agg
  go_enter Try.func37, Try.ntmps37
  go_wp2
  all_goals
    go_ret
    exact ⟨ret_bool (by simp_all [flushB]), (Below.refl _ _).alloc (Nat.le_refl _) _⟩
theorem keep_succ {l : List Ev} {k : Nat} {e : Ev} {r : Int} (h : l[k]? = some e) : (l.take (k + 1)).filter (keepB r) = (l.take k).filter (keepB r) ++ (if keepB r e then [e] else []) := by
  rw [List.take_add_one, h, List.filter_append]
  cases hk : keepB r e <;> simp [hk]
theorem keep_len (l : List Ev) (k : Nat) (r : Int) : ((l.take k).filter (keepB r)).length ≤ k := Nat.le_trans (List.length_filter_le _ _) (List.length_take_le _ _)

set_option maxHeartbeats 2000000 in
set_option maxRecDepth 100000 in
theorem refsplit_any (l : List Ev) (r : Int) (A : Option Addr) (c B : Nat) (w : World) (h : EvS w B A l) (hB : B ≤ w.heap.size) (hlen : l.length ≤ 100000) :
    Calls Try.prog 10 #[.slice A l.length c, .int .i64 r] w (LayE w (splitOf l r)) := by
  have HV := Lib.hid (fun W (hW : Below w.heap.size w W) => refvalid_any l A c B W (h.below' hW hB) (Nat.le_trans hB hW.size) (by omega))
  have HH := Lib.hid h
  unfold splitOf
  rcases hl0 : l with _ | ⟨x, xs⟩
  · subst hl0
    clear h
    go_enter Try.func10, Try.ntmps10
    go_wp2
    refine wp_loop_rounds 1 ?_
    rw [rounds_succ]
    go_wp2
    go_ret
    refine ⟨_, rfl, ?_, Below.refl _ _⟩
    simp
    exact OwS.nil _ _ _ _
  have hpos : 0 < l.length := by rw [hl0]; simp
  rw [← hl0]
  clear hl0 h
  cases hv : validL l
  · rw [hv] at HV
    clear hv
    have HV1 := Lib.hid (HV.out w (Below.refl _ _))
    go_enter Try.func10, Try.ntmps10
    go_wp2
    refine wp_loop_rounds 1 ?_
    rw [rounds_succ]
    go_wp2_with fail
    refine HV1.out.mono ?_
    rintro s w1 ⟨rfl, hb1⟩
    go_wp2
    go_ret
    exact ⟨_, rfl, OwS.nil _ _ _ _, hb1⟩
  · rw [hv] at HV
    clear hv
    go_enter Try.func10, Try.ntmps10
    go_wp2
    go_loopw [5, 6] (fun v i wr => ∃ k : Nat, k ≤ l.length ∧ i = .int .i64 k ∧ OwS wr w.heap.size 56 6 v (((l.take k).filter (keepB r)).map Ev.cells) ∧ Below w.heap.size w wr) (fun _ i _ => l.length - (intOf i).toNat)
    case atStart => exact ⟨0, by omega, rfl, OwS.nil _ _ _ _, Below.refl _ _⟩
    case round =>
      obtain ⟨k, hk, rfl, hout, hb⟩ := hrel
      have hz := hb.size
      obtain ⟨A', n', c', rfl⟩ := hout.isSlice
      by_cases hlt : k < l.length
      · go_wp2_with fail
        refine (HV.out _ hb).mono ?_
        rintro s w1 ⟨rfl, hb1⟩
        have hout1 := hout.below hb1
        have hb1 := hb.trans (hb1.mono hz)
        have hz1 := hb1.size
        obtain ⟨b', off', e, rfl, hbB, he, c0, c1, c2, c3, c4, c5⟩ := EvS.at_ (HH.out.below' hb1 hB) (k := k) hlt
        have HKS := Lib.hid (keep_succ (r := r) he)
        have hkl := keep_len l k r
        have HO1 := Lib.hid hout1
        have hbl : b' < w1.heap.size := by omega
        clear hout hout1 he hb hz
        by_cases h3 : e.kind = 3
        · have h3' : (e.kind == 3) = true := by simp [h3]
          have HS : Hid ((l.take (k + 1)).filter (keepB r) = (l.take k).filter (keepB r) ++ [e]) := by unfold Hid; rw [HKS.out]; simp [keepB, h3]
          clear h3
          go_wp2_with (at_builtin; refine wpList_ap1 rfl (.tmp 39) (.tmp 44) _ rfl elemEv rfl HO1.out e.cells _ rfl _ rfl (by simp) (Ev.one _) (by simp [maxLen]; omega) (by simp; omega) (by omega) ?_)
          intro v3 w3 hown3 hg3 hv3
          have hb3 : Below w.heap.size w w3 := (hb1.alloc (by omega) _).grown hg3 (by simp; omega) (fun k hk => (HO1.out.lt hk).1)
          clear hg3 hv3
          go_wp2
          go_roundw
          case rel => exact ⟨k + 1, by omega, by go_num, by rw [HS.out]; simpa using hown3, hb3⟩
          case measure => simp [intOf]; omega
        · have h3' : (e.kind == 3) = false := by simp [h3]
          have HF := Lib.hid (refflush_any e w1)
          rcases hfb : flushB e with _ | _
          · rw [hfb] at HF
            by_cases hr : e.reg = r
            · have hr' : (e.reg == r) = true := by simp [hr]
              have HS : Hid ((l.take (k + 1)).filter (keepB r) = (l.take k).filter (keepB r) ++ [e]) := by unfold Hid; rw [HKS.out]; simp [keepB, hr]
              clear h3 hr
              go_wp2_with fail
              refine HF.out.mono ?_
              rintro s w2 ⟨rfl, hb2⟩
              have HO2 := Lib.hid (HO1.out.below hb2)
              have c0 := (hb2.cell (p := ⟨b', off' + k * 6, none⟩) hbl).trans c0
              have c1 := (hb2.cell (p := ⟨b', off' + k * 6 + 1, none⟩) hbl).trans c1
              have c2 := (hb2.cell (p := ⟨b', off' + k * 6 + 2, none⟩) hbl).trans c2
              have c3 := (hb2.cell (p := ⟨b', off' + k * 6 + 3, none⟩) hbl).trans c3
              have c4 := (hb2.cell (p := ⟨b', off' + k * 6 + 4, none⟩) hbl).trans c4
              have c5 := (hb2.cell (p := ⟨b', off' + k * 6 + 5, none⟩) hbl).trans c5
              have hb2 := hb1.trans (hb2.mono hz1)
              have hz2 := hb2.size
              have hbl2 : b' < w2.heap.size := by omega
              go_wp2_with (at_builtin; refine wpList_ap1 rfl (.tmp 39) (.tmp 44) _ rfl elemEv rfl HO2.out e.cells _ rfl _ rfl (by simp) (Ev.one _) (by simp [maxLen]; omega) (by simp; omega) (by omega) ?_)
              intro v3 w3 hown3 hg3 hv3
              have hb3 : Below w.heap.size w w3 := (hb2.alloc (by omega) _).grown hg3 (by simp; omega) (fun k hk => (HO2.out.lt hk).1)
              clear hg3 hv3
              go_wp2
              go_roundw
              case rel => exact ⟨k + 1, by omega, by go_num, by rw [HS.out]; simpa using hown3, hb3⟩
              case measure => simp [intOf]; omega
            · have hr' : (e.reg == r) = false := by simp [hr]
              have HS : Hid ((l.take (k + 1)).filter (keepB r) = (l.take k).filter (keepB r)) := by unfold Hid; rw [HKS.out]; simp [keepB, hr, hfb, h3]
              clear h3 hr
              go_wp2_with fail
              refine HF.out.mono ?_
              rintro s w2 ⟨rfl, hb2⟩
              have HO2 := Lib.hid (HO1.out.below hb2)
              have c0 := (hb2.cell (p := ⟨b', off' + k * 6, none⟩) hbl).trans c0
              have c1 := (hb2.cell (p := ⟨b', off' + k * 6 + 1, none⟩) hbl).trans c1
              have c2 := (hb2.cell (p := ⟨b', off' + k * 6 + 2, none⟩) hbl).trans c2
              have c3 := (hb2.cell (p := ⟨b', off' + k * 6 + 3, none⟩) hbl).trans c3
              have c4 := (hb2.cell (p := ⟨b', off' + k * 6 + 4, none⟩) hbl).trans c4
              have c5 := (hb2.cell (p := ⟨b', off' + k * 6 + 5, none⟩) hbl).trans c5
              have hb2 := hb1.trans (hb2.mono hz1)
              have hz2 := hb2.size
              have hbl2 : b' < w2.heap.size := by omega
              go_wp2
              go_roundw
              case rel => exact ⟨k + 1, by omega, by go_num, by rw [HS.out]; exact HO2.out, hb2⟩
              case measure => simp [intOf]; omega
          · rw [hfb] at HF
            have HS : Hid ((l.take (k + 1)).filter (keepB r) = (l.take k).filter (keepB r) ++ [e]) := by unfold Hid; rw [HKS.out]; simp [keepB, hfb]
            clear h3
            go_wp2_with fail
            refine HF.out.mono ?_
            rintro s w2 ⟨rfl, hb2⟩
            have HO2 := Lib.hid (HO1.out.below hb2)
            have c0 := (hb2.cell (p := ⟨b', off' + k * 6, none⟩) hbl).trans c0
            have c1 := (hb2.cell (p := ⟨b', off' + k * 6 + 1, none⟩) hbl).trans c1
            have c2 := (hb2.cell (p := ⟨b', off' + k * 6 + 2, none⟩) hbl).trans c2
            have c3 := (hb2.cell (p := ⟨b', off' + k * 6 + 3, none⟩) hbl).trans c3
            have c4 := (hb2.cell (p := ⟨b', off' + k * 6 + 4, none⟩) hbl).trans c4
            have c5 := (hb2.cell (p := ⟨b', off' + k * 6 + 5, none⟩) hbl).trans c5
            have hb2 := hb1.trans (hb2.mono hz1)
            have hz2 := hb2.size
            have hbl2 : b' < w2.heap.size := by omega
            go_wp2_with (at_builtin; refine wpList_ap1 rfl (.tmp 39) (.tmp 44) _ rfl elemEv rfl HO2.out e.cells _ rfl _ rfl (by simp) (Ev.one _) (by simp [maxLen]; omega) (by simp; omega) (by omega) ?_)
            intro v3 w3 hown3 hg3 hv3
            have hb3 : Below w.heap.size w w3 := (hb2.alloc (by omega) _).grown hg3 (by simp; omega) (fun k hk => (HO2.out.lt hk).1)
            clear hg3 hv3
            go_wp2
            go_roundw
            case rel => exact ⟨k + 1, by omega, by go_num, by rw [HS.out]; simpa using hown3, hb3⟩
            case measure => simp [intOf]; omega
      · obtain rfl : k = l.length := by omega
        rw [List.take_length] at hout
        go_wp2
        go_ret
        exact ⟨_, rfl, hout, hb⟩
end Go.Proofs.Ytcgbnlhloopnfaa
