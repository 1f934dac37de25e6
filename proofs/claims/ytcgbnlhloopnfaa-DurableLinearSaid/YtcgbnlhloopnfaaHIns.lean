/- Walk of tegularef45.insert: a number goes into an increasing list. -/
import Derived.Test.YtcgbnlhloopnfaaGPln
import Derived.Test.YtcgbnlhloopnfaaGPrs
import Derived.Test.YtcgbnlhloopnfaaGMem
import Derived.IntWalk
import Derived.Deep.DeepCutAuto
import Derived.Deep.RegionHeld3
namespace Go.Proofs.Ytcgbnlhloopnfaa
open Go.RowKit

theorem intS_one {w : World} {g : Nat} {n : Int} {T : TypeId} (h : w.heap[g]? = some (.cells #[.int .i64 n] T)) : IntS w w.heap.size (some ⟨g, 0, none⟩) [n] := by
  refine ⟨by simp [icell], fun _ => ⟨g, 0, rfl, (Array.getElem?_eq_some_iff.1 h).1, fun i r hi j v hj => ?_⟩⟩
  match i, hi with
  | 0, hi =>
    simp at hi
    subst hi
    rw [cell_of_row _ _ _ _ _ _ h]
    simpa [icell] using hj
theorem icellAll {l : List Int} : ∀ r ∈ l.map icell, ∀ u ∈ r, u.oneCell' = true := by
  intro r hr u hu
  obtain ⟨x, _, rfl⟩ := List.mem_map.1 hr
  exact icellOne x u hu

set_option maxHeartbeats 4000000 in
set_option maxRecDepth 100000 in
theorem insert_any (l : List Int) (v : Value) (n : Int) (base : Nat) (w : World) (h : OwS w base 3 1 v (l.map icell)) (hB : base ≤ w.heap.size) (hlen : l.length ≤ 100000) :
    Calls Try.prog 43 #[v, .int .i64 n] w fun e w' => ∃ v', e = .returned v' ∧ OwS w' base 3 1 v' ((insI l n).map icell) ∧ Below w.heap.size w w' := by
  have H := Lib.hid h
  obtain ⟨A, c, rfl, hlc, -⟩ := h.form
  rw [List.length_map] at hlc ⊢
  have hrd : IntS w w.heap.size A l := h.reads
  have HRD := Lib.hid hrd
  have hcs := h.cases
  clear h
  go_enter Try.func43, Try.ntmps43
  go_wp2
  go_loop [5] (fun iv => ∃ k : Nat, k ≤ l.length ∧ iv = .int .i64 k ∧ Hid (∀ j x, j < k → l[j]? = some x → x < n)) (fun iv => l.length - (intOf iv).toNat)
  case atStart => exact ⟨0, by omega, rfl, fun j x hj => absurd hj (by omega)⟩
  case round =>
    obtain ⟨k, hk, rfl, HLOW⟩ := hrel
    by_cases hc : ∃ x, l[k]? = some x ∧ x < n
    · obtain ⟨x, hx, hxn⟩ := hc
      have hkl : k < l.length := (List.getElem?_eq_some_iff.1 hx).1
      obtain ⟨b, off, y, rfl, hbB, hy, c0⟩ := IntS.at_ HRD.out (k := k) hkl
      rw [hx] at hy
      obtain rfl := Option.some.inj hy
      have hki : (k : Int) < (l.length : Int) := by omega
      have HX := Lib.hid hx
      have HXN := Lib.hid hxn
      have hxn' : decide (x < n) = true := by simpa using hxn
      clear hx hy
      go_wp2
      go_round
      case rel => exact ⟨k + 1, by omega, by go_num, fun j z hj hz => by
        rcases Nat.lt_or_ge j k with h1 | h1
        · exact HLOW.out j z h1 hz
        · obtain rfl : j = k := by omega
          rw [HX.out] at hz
          cases hz
          exact HXN.out⟩
      case measure => simp [intOf]; omega
    · have hat : ∀ x, l[k]? = some x → n ≤ x := fun x hx => by
        rcases Int.lt_or_le x n with h1 | h1
        · exact absurd ⟨x, hx, h1⟩ hc
        · exact h1
      have hK := insK_is hk HLOW.out hat
      have HI : Hid (insI l n = if l[k]? = some n then l else l.take k ++ [n] ++ l.drop k) := by unfold Hid insI; rw [hK]
      have HAT := Lib.hid hat
      clear hc hat hK HLOW
      by_cases hkl : k < l.length
      · obtain ⟨b, off, y, rfl, hbB, hy, c0⟩ := IntS.at_ HRD.out (k := k) hkl
        have hyn := HAT.out y hy
        have hyn' : decide (y < n) = false := by simp; omega
        have hki : (k : Int) < (l.length : Int) := by omega
        by_cases hyeq : y = n
        · subst hyeq
          have HI2 : Hid (insI l y = l) := by unfold Hid; rw [HI.out, if_pos hy]
          clear HI hy hyn' HAT
          go_wp2
          go_ret
          exact ⟨_, rfl, by rw [HI2.out]; have h0 := H.out; rw [List.length_map] at h0; exact h0, Below.refl _ _⟩
        · have hyne : (y == n) = false := by simpa using hyeq
          have HI2 : Hid (insI l n = l.take k ++ [n] ++ l.drop k) := by unfold Hid; rw [HI.out, if_neg (by rw [hy]; simpa using hyeq)]
          have hcs2 : ∃ g, (⟨b, off, none⟩ : Addr) = ⟨g, 0, none⟩ ∧ g < w.heap.size := by
            rcases hcs with ⟨h1, -⟩ | ⟨g, c', h1, -, h2⟩
            · cases h1
            · injection h1 with h1
              injection h1 with h1
              exact ⟨g, h1, h2⟩
          obtain ⟨g, hge, hgl⟩ := hcs2
          injection hge with e1 e2
          subst e1 e2
          have hck2 : ¬ c = k := by omega
          have hkc : (k : Int) ≤ (c : Int) := by omega
          have hk0 : (0 : Int) ≤ (k : Int) := by omega
          clear hcs hyeq hyn hy HI HAT
          simp only [Nat.zero_add] at c0
          have hbq0 : Below w.heap.size w w := Below.refl _ _
          have HZ : Hid (OwS (w.alloc (.cells #[] 3)) w.heap.size 3 1 (.slice (some ⟨w.heap.size, 0, none⟩) 0 0) []) := OwS.lit (rows := []) (by simp) (heap_alloc_new w _) rfl rfl (by decide) (Nat.le_refl _)
          have HZb : Hid (OwS ((w.alloc (.cells #[] 3)).alloc (.cells #[.int .i64 n] 3)) w.heap.size 3 1 (.slice (some ⟨w.heap.size, 0, none⟩) 0 0) []) := HZ.out.alloc _
          have HZc : Hid (OwS ((w.alloc (.cells #[.int .i64 n] 3)).alloc (.cells #[] 3)) w.heap.size 3 1 (.slice (some ⟨w.heap.size + 1, 0, none⟩) 0 0) []) := OwS.lit (rows := []) (by simp) (heap_alloc2_new _ _ _) rfl rfl (by decide) (by omega)
          have HLT : Hid ((l.take k).length = k) := by unfold Hid; rw [List.length_take]; omega
          have HLD : Hid ((l.drop k).length = l.length - k) := List.length_drop
          have HT : Hid (∀ W, Below w.heap.size w W → RdS W w.heap.size 1 (some ⟨b, 0, none⟩) ((l.take k).map icell)) := fun W hW => by
            have := (HRD.out.below hW).take k
            rw [← List.map_take] at this
            exact this
          have HD : Hid (∀ W, Below w.heap.size w W → True → RdS W w.heap.size 1 (some ⟨b, k, none⟩) ((l.drop k).map icell)) := fun W hW _ => by
            refine ⟨fun r hr => by obtain ⟨e, _, rfl⟩ := List.mem_map.1 hr; rfl, fun hn => ?_⟩
            obtain ⟨b', off, hA, hbl, hc⟩ := HRD.out.2 (by rw [List.length_map]; omega)
            cases hA
            refine ⟨b, k, rfl, hgl, fun j r hr q u hq => ?_⟩
            rw [List.getElem?_map, List.getElem?_drop] at hr
            have h1 := hc (k + j) r (by rw [List.getElem?_map]; exact hr) q u hq
            rw [show k + j * 1 + q = 0 + (k + j) * 1 + q by omega]
            exact (hW.cell (p := ⟨b, 0 + (k + j) * 1 + q, none⟩) hgl).trans h1
          go_wp2_with fail
          go_cut [4] (fun s4 wx => OwS wx w.heap.size 3 1 s4 ((insI l n).map icell) ∧ Below w.heap.size w wx)
          case first =>
            go_region_held3 (fun _ => True) (first | trivial)
              (first
                | ((refine step_apS (by rfl) (.tmp 33) (.tmp 36) _ (by rfl) elemInt (by rfl) HZ.out.drew w.heap.size _ _ _ ((l.take k).map icell) (by rfl) (HT.out _ (hbq0.alloc (Nat.le_refl _) _).drew) (by first | (rw [List.length_map, HLT.out]; done) | simp) icellAll (by first | (have h0 := HLT.out; simp [maxLen] at h0 ⊢; omega) | (simp [maxLen]; omega) | (simp [maxLen]; done)) (by first | (have h0 := HLT.out; simp at h0 ⊢; omega) | (simp; omega) | (simp; done)) (by simp; try omega) ?_; intro v3 w3 hown3 hg3 hv3; have hb3 : Below w.heap.size w w3 := ((hbq0.alloc (Nat.le_refl _) _).drew).grown hg3 (by simp; try omega) (fun k h => by injection h with h; (try simp only at h); omega); have hz3 := hb3.size; clear hg3))
                | ((refine step_apS (by rfl) (.tmp 33) (.tmp 36) _ (by rfl) elemInt (by rfl) HZb.out.drew w.heap.size _ _ _ ((l.take k).map icell) (by rfl) (HT.out _ ((hbq0.alloc (Nat.le_refl _) _).alloc (by simp) _).drew) (by first | (rw [List.length_map, HLT.out]; done) | simp) icellAll (by first | (have h0 := HLT.out; simp [maxLen] at h0 ⊢; omega) | (simp [maxLen]; omega) | (simp [maxLen]; done)) (by first | (have h0 := HLT.out; simp at h0 ⊢; omega) | (simp; omega) | (simp; done)) (by simp; try omega) ?_; intro v3 w3 hown3 hg3 hv3; have hb3 : Below w.heap.size w w3 := (((hbq0.alloc (Nat.le_refl _) _).alloc (by simp) _).drew).grown hg3 (by simp; try omega) (fun k h => by injection h with h; (try simp only at h); omega); have hz3 := hb3.size; have hbe3 := Lib.hid (intS_one (w := w3) (g := w.heap.size + 1) (n := n) (T := 3) ((hg3.block (w.heap.size + 1) (by simp) (by simp [Value.ownBlock])).trans (heap_alloc2_new _ _ _))); clear hg3))
                | ((refine step_apS (by rfl) (.tmp 33) (.tmp 36) _ (by rfl) elemInt (by rfl) HZc.out.drew w.heap.size _ _ _ ((l.take k).map icell) (by rfl) (HT.out _ ((hbq0.alloc (Nat.le_refl _) _).alloc (by simp) _).drew) (by first | (rw [List.length_map, HLT.out]; done) | simp) icellAll (by first | (have h0 := HLT.out; simp [maxLen] at h0 ⊢; omega) | (simp [maxLen]; omega) | (simp [maxLen]; done)) (by first | (have h0 := HLT.out; simp at h0 ⊢; omega) | (simp; omega) | (simp; done)) (by simp; try omega) ?_; intro v3 w3 hown3 hg3 hv3; have hb3 : Below w.heap.size w w3 := (((hbq0.alloc (Nat.le_refl _) _).alloc (by simp) _).drew).grown hg3 (by simp; try omega) (fun k h => by injection h with h; (try simp only at h); omega); have hz3 := hb3.size; have hbe3 := Lib.hid (intS_one (w := w3) (g := w.heap.size) (n := n) (T := 3) ((hg3.block w.heap.size (by simp; omega) (by simp [Value.ownBlock])).trans (heap_alloc2_old _ _ _))); clear hg3))
                | ((refine step_ap1 (by rfl) (.tmp 37) (.tmp 39) _ (by rfl) elemInt (by rfl) hown3 (icell n) _ (by rfl) w3.heap.size (by rfl) (by rfl) (icellOne _) (by first | (have h0 := HLT.out; simp [maxLen] at h0 ⊢; omega) | (simp [maxLen]; omega) | (simp [maxLen]; done)) (by first | (have h0 := HLT.out; simp at h0 ⊢; omega) | (simp; omega) | (simp; done)) hz3 ?_; intro v4 w4 hown4 hg4 hv4; have hb4 : Below w.heap.size w w4 := (hb3.alloc hz3 _).grown hg4 (by simp; omega) (fun k h => (hown3.lt h).1); have hz4 := hb4.size; clear hg4))
                | ((refine step_apS (by rfl) (.tmp 37) (.tmp 39) _ (by rfl) elemInt (by rfl) hown3 w3.heap.size _ _ _ ([n].map icell) (by rfl) hbe3.out (by rfl) icellAll (by first | (have h0 := HLT.out; simp [maxLen] at h0 ⊢; omega) | (simp [maxLen]; omega) | (simp [maxLen]; done)) (by first | (have h0 := HLT.out; simp at h0 ⊢; omega) | (simp; omega) | (simp; done)) hz3 ?_; intro v4 w4 hown4 hg4 hv4; have hb4 : Below w.heap.size w w4 := hb3.grown hg4 hz3 (fun k h => (hown3.lt h).1); have hz4 := hb4.size; clear hg4))
                | ((refine step_apS (by rfl) (.tmp 40) (.tmp 43) _ (by rfl) elemInt (by rfl) hown4 w.heap.size _ _ _ ((l.drop k).map icell) (by rfl) (HD.out _ hb4 trivial) (by first | (rw [List.length_map, HLD.out]; done) | simp) icellAll (by simp [maxLen]; try omega) (by simp; try omega) hz4 ?_; intro v5 w5 hown5 hg5 hv5; have hb5 : Below w.heap.size w w5 := hb4.grown hg5 hz4 (fun k h => (hown4.lt h).1); clear hg5))
                | fail)
            all_goals
              go_wp2_with fail
              go_meet
              exact ⟨by rw [HI2.out]; simpa using hown5, hb5⟩
          case rest =>
            obtain ⟨hown, hbx⟩ := hcut
            go_wp2
            go_ret
            exact ⟨_, rfl, hown.mono hB, hbx⟩
      · obtain rfl : k = l.length := by omega
        have hnn : l[l.length]? = none := List.getElem?_eq_none (Nat.le_refl _)
        have HI2 : Hid (insI l n = l ++ [n] ++ l.drop l.length) := by unfold Hid; rw [HI.out, if_neg (by rw [hnn]; simp), List.take_length]
        clear HI HAT hnn hkl hk
        rcases hcs with ⟨h1, h2⟩ | ⟨g, c', h1, -, hgl⟩
        · injection h1 with h1 h3 h4
          subst h1
          have hl0 : l = [] := by cases l with | nil => rfl | cons => simp at h2
          subst hl0
          clear h2 h3
          subst h4
          clear hlc
          have hbq0 : Below w.heap.size w w := Below.refl _ _
          have HZ : Hid (OwS (w.alloc (.cells #[] 3)) w.heap.size 3 1 (.slice (some ⟨w.heap.size, 0, none⟩) 0 0) []) := OwS.lit (rows := []) (by simp) (heap_alloc_new w _) rfl rfl (by decide) (Nat.le_refl _)
          have HZb : Hid (OwS ((w.alloc (.cells #[] 3)).alloc (.cells #[.int .i64 n] 3)) w.heap.size 3 1 (.slice (some ⟨w.heap.size, 0, none⟩) 0 0) []) := HZ.out.alloc _
          have HZc : Hid (OwS ((w.alloc (.cells #[.int .i64 n] 3)).alloc (.cells #[] 3)) w.heap.size 3 1 (.slice (some ⟨w.heap.size + 1, 0, none⟩) 0 0) []) := OwS.lit (rows := []) (by simp) (heap_alloc2_new _ _ _) rfl rfl (by decide) (by omega)
          have HLT : Hid (([] : List Int).length = 0) := rfl
          have HLD : Hid ((([] : List Int).drop ([] : List Int).length).length = 0) := rfl
          have HT : Hid (∀ W, Below w.heap.size w W → RdS W w.heap.size 1 none (([] : List Int).map icell)) := fun W hW => RdS.nil _ _ _ _
          have HD : Hid (∀ W, Below w.heap.size w W → ∀ A, RdS W w.heap.size 1 A ((([] : List Int).drop ([] : List Int).length).map icell)) := fun W hW A => RdS.nil _ _ _ _
          go_wp2_with fail
          go_cut [4] (fun s4 wx => OwS wx w.heap.size 3 1 s4 ((insI ([] : List Int) n).map icell) ∧ Below w.heap.size w wx)
          case first =>
            go_region_held3 (fun _ => True) (first | trivial)
              (first
                | ((refine step_apS (by rfl) (.tmp 33) (.tmp 36) _ (by rfl) elemInt (by rfl) HZ.out.drew w.heap.size _ _ _ ((([] : List Int)).map icell) (by rfl) (HT.out _ (hbq0.alloc (Nat.le_refl _) _).drew) (by first | (rw [List.length_map, HLT.out]; done) | simp) icellAll (by first | (have h0 := HLT.out; simp [maxLen] at h0 ⊢; omega) | (simp [maxLen]; omega) | (simp [maxLen]; done)) (by first | (have h0 := HLT.out; simp at h0 ⊢; omega) | (simp; omega) | (simp; done)) (by simp; try omega) ?_; intro v3 w3 hown3 hg3 hv3; have hb3 : Below w.heap.size w w3 := ((hbq0.alloc (Nat.le_refl _) _).drew).grown hg3 (by simp; try omega) (fun k h => by injection h with h; (try simp only at h); omega); have hz3 := hb3.size; clear hg3))
                | ((refine step_apS (by rfl) (.tmp 33) (.tmp 36) _ (by rfl) elemInt (by rfl) HZb.out.drew w.heap.size _ _ _ ((([] : List Int)).map icell) (by rfl) (HT.out _ ((hbq0.alloc (Nat.le_refl _) _).alloc (by simp) _).drew) (by first | (rw [List.length_map, HLT.out]; done) | simp) icellAll (by first | (have h0 := HLT.out; simp [maxLen] at h0 ⊢; omega) | (simp [maxLen]; omega) | (simp [maxLen]; done)) (by first | (have h0 := HLT.out; simp at h0 ⊢; omega) | (simp; omega) | (simp; done)) (by simp; try omega) ?_; intro v3 w3 hown3 hg3 hv3; have hb3 : Below w.heap.size w w3 := (((hbq0.alloc (Nat.le_refl _) _).alloc (by simp) _).drew).grown hg3 (by simp; try omega) (fun k h => by injection h with h; (try simp only at h); omega); have hz3 := hb3.size; have hbe3 := Lib.hid (intS_one (w := w3) (g := w.heap.size + 1) (n := n) (T := 3) ((hg3.block (w.heap.size + 1) (by simp) (by simp [Value.ownBlock])).trans (heap_alloc2_new _ _ _))); clear hg3))
                | ((refine step_apS (by rfl) (.tmp 33) (.tmp 36) _ (by rfl) elemInt (by rfl) HZc.out.drew w.heap.size _ _ _ ((([] : List Int)).map icell) (by rfl) (HT.out _ ((hbq0.alloc (Nat.le_refl _) _).alloc (by simp) _).drew) (by first | (rw [List.length_map, HLT.out]; done) | simp) icellAll (by first | (have h0 := HLT.out; simp [maxLen] at h0 ⊢; omega) | (simp [maxLen]; omega) | (simp [maxLen]; done)) (by first | (have h0 := HLT.out; simp at h0 ⊢; omega) | (simp; omega) | (simp; done)) (by simp; try omega) ?_; intro v3 w3 hown3 hg3 hv3; have hb3 : Below w.heap.size w w3 := (((hbq0.alloc (Nat.le_refl _) _).alloc (by simp) _).drew).grown hg3 (by simp; try omega) (fun k h => by injection h with h; (try simp only at h); omega); have hz3 := hb3.size; have hbe3 := Lib.hid (intS_one (w := w3) (g := w.heap.size) (n := n) (T := 3) ((hg3.block w.heap.size (by simp; omega) (by simp [Value.ownBlock])).trans (heap_alloc2_old _ _ _))); clear hg3))
                | ((refine step_ap1 (by rfl) (.tmp 37) (.tmp 39) _ (by rfl) elemInt (by rfl) hown3 (icell n) _ (by rfl) w3.heap.size (by rfl) (by rfl) (icellOne _) (by first | (have h0 := HLT.out; simp [maxLen] at h0 ⊢; omega) | (simp [maxLen]; omega) | (simp [maxLen]; done)) (by first | (have h0 := HLT.out; simp at h0 ⊢; omega) | (simp; omega) | (simp; done)) hz3 ?_; intro v4 w4 hown4 hg4 hv4; have hb4 : Below w.heap.size w w4 := (hb3.alloc hz3 _).grown hg4 (by simp; omega) (fun k h => (hown3.lt h).1); have hz4 := hb4.size; clear hg4))
                | ((refine step_apS (by rfl) (.tmp 37) (.tmp 39) _ (by rfl) elemInt (by rfl) hown3 w3.heap.size _ _ _ ([n].map icell) (by rfl) hbe3.out (by rfl) icellAll (by first | (have h0 := HLT.out; simp [maxLen] at h0 ⊢; omega) | (simp [maxLen]; omega) | (simp [maxLen]; done)) (by first | (have h0 := HLT.out; simp at h0 ⊢; omega) | (simp; omega) | (simp; done)) hz3 ?_; intro v4 w4 hown4 hg4 hv4; have hb4 : Below w.heap.size w w4 := hb3.grown hg4 hz3 (fun k h => (hown3.lt h).1); have hz4 := hb4.size; clear hg4))
                | ((refine step_apS (by rfl) (.tmp 40) (.tmp 43) _ (by rfl) elemInt (by rfl) hown4 w.heap.size _ _ _ ((([] : List Int).drop ([] : List Int).length).map icell) (by rfl) (HD.out _ hb4 _) (by first | (rw [List.length_map, HLD.out]; done) | simp) icellAll (by simp [maxLen]; try omega) (by simp; try omega) hz4 ?_; intro v5 w5 hown5 hg5 hv5; have hb5 : Below w.heap.size w w5 := hb4.grown hg5 hz4 (fun k h => (hown4.lt h).1); clear hg5))
                | fail)
            all_goals
              go_wp2_with fail
              go_meet
              exact ⟨by rw [HI2.out]; simpa using hown5, hb5⟩
          case rest =>
            obtain ⟨hown, hbx⟩ := hcut
            go_wp2
            go_ret
            exact ⟨_, rfl, hown.mono hB, hbx⟩
        · injection h1 with h1 h3 h4
          subst h1
          clear h3 h4
          by_cases hck : c = l.length
          · subst hck
            clear hlc
            have hbq0 : Below w.heap.size w w := Below.refl _ _
            have HZ : Hid (OwS (w.alloc (.cells #[] 3)) w.heap.size 3 1 (.slice (some ⟨w.heap.size, 0, none⟩) 0 0) []) := OwS.lit (rows := []) (by simp) (heap_alloc_new w _) rfl rfl (by decide) (Nat.le_refl _)
            have HZb : Hid (OwS ((w.alloc (.cells #[] 3)).alloc (.cells #[.int .i64 n] 3)) w.heap.size 3 1 (.slice (some ⟨w.heap.size, 0, none⟩) 0 0) []) := HZ.out.alloc _
            have HZc : Hid (OwS ((w.alloc (.cells #[.int .i64 n] 3)).alloc (.cells #[] 3)) w.heap.size 3 1 (.slice (some ⟨w.heap.size + 1, 0, none⟩) 0 0) []) := OwS.lit (rows := []) (by simp) (heap_alloc2_new _ _ _) rfl rfl (by decide) (by omega)
            have HLT : Hid (l.length = l.length) := rfl
            have HLD : Hid ((l.drop l.length).length = l.length - l.length) := List.length_drop
            have HT : Hid (∀ W, Below w.heap.size w W → RdS W w.heap.size 1 (some ⟨g, 0, none⟩) (l.map icell)) := fun W hW => HRD.out.below hW
            have HD : Hid (∀ W, Below w.heap.size w W → ∀ A, RdS W w.heap.size 1 A ((l.drop l.length).map icell)) := fun W hW A => by
              rw [List.drop_length]
              exact RdS.nil _ _ _ _
            go_wp2_with fail
            go_cut [4] (fun s4 wx => OwS wx w.heap.size 3 1 s4 ((insI l n).map icell) ∧ Below w.heap.size w wx)
            case first =>
              go_region_held3 (fun _ => True) (first | trivial)
                (first
                  | ((refine step_apS (by rfl) (.tmp 33) (.tmp 36) _ (by rfl) elemInt (by rfl) HZ.out.drew w.heap.size _ _ _ ((l).map icell) (by rfl) (HT.out _ (hbq0.alloc (Nat.le_refl _) _).drew) (by first | (rw [List.length_map, HLT.out]; done) | simp) icellAll (by first | (have h0 := HLT.out; simp [maxLen] at h0 ⊢; omega) | (simp [maxLen]; omega) | (simp [maxLen]; done)) (by first | (have h0 := HLT.out; simp at h0 ⊢; omega) | (simp; omega) | (simp; done)) (by simp; try omega) ?_; intro v3 w3 hown3 hg3 hv3; have hb3 : Below w.heap.size w w3 := ((hbq0.alloc (Nat.le_refl _) _).drew).grown hg3 (by simp; try omega) (fun k h => by injection h with h; (try simp only at h); omega); have hz3 := hb3.size; clear hg3))
                  | ((refine step_apS (by rfl) (.tmp 33) (.tmp 36) _ (by rfl) elemInt (by rfl) HZb.out.drew w.heap.size _ _ _ ((l).map icell) (by rfl) (HT.out _ ((hbq0.alloc (Nat.le_refl _) _).alloc (by simp) _).drew) (by first | (rw [List.length_map, HLT.out]; done) | simp) icellAll (by first | (have h0 := HLT.out; simp [maxLen] at h0 ⊢; omega) | (simp [maxLen]; omega) | (simp [maxLen]; done)) (by first | (have h0 := HLT.out; simp at h0 ⊢; omega) | (simp; omega) | (simp; done)) (by simp; try omega) ?_; intro v3 w3 hown3 hg3 hv3; have hb3 : Below w.heap.size w w3 := (((hbq0.alloc (Nat.le_refl _) _).alloc (by simp) _).drew).grown hg3 (by simp; try omega) (fun k h => by injection h with h; (try simp only at h); omega); have hz3 := hb3.size; have hbe3 := Lib.hid (intS_one (w := w3) (g := w.heap.size + 1) (n := n) (T := 3) ((hg3.block (w.heap.size + 1) (by simp) (by simp [Value.ownBlock])).trans (heap_alloc2_new _ _ _))); clear hg3))
                  | ((refine step_apS (by rfl) (.tmp 33) (.tmp 36) _ (by rfl) elemInt (by rfl) HZc.out.drew w.heap.size _ _ _ ((l).map icell) (by rfl) (HT.out _ ((hbq0.alloc (Nat.le_refl _) _).alloc (by simp) _).drew) (by first | (rw [List.length_map, HLT.out]; done) | simp) icellAll (by first | (have h0 := HLT.out; simp [maxLen] at h0 ⊢; omega) | (simp [maxLen]; omega) | (simp [maxLen]; done)) (by first | (have h0 := HLT.out; simp at h0 ⊢; omega) | (simp; omega) | (simp; done)) (by simp; try omega) ?_; intro v3 w3 hown3 hg3 hv3; have hb3 : Below w.heap.size w w3 := (((hbq0.alloc (Nat.le_refl _) _).alloc (by simp) _).drew).grown hg3 (by simp; try omega) (fun k h => by injection h with h; (try simp only at h); omega); have hz3 := hb3.size; have hbe3 := Lib.hid (intS_one (w := w3) (g := w.heap.size) (n := n) (T := 3) ((hg3.block w.heap.size (by simp; omega) (by simp [Value.ownBlock])).trans (heap_alloc2_old _ _ _))); clear hg3))
                  | ((refine step_ap1 (by rfl) (.tmp 37) (.tmp 39) _ (by rfl) elemInt (by rfl) hown3 (icell n) _ (by rfl) w3.heap.size (by rfl) (by rfl) (icellOne _) (by first | (have h0 := HLT.out; simp [maxLen] at h0 ⊢; omega) | (simp [maxLen]; omega) | (simp [maxLen]; done)) (by first | (have h0 := HLT.out; simp at h0 ⊢; omega) | (simp; omega) | (simp; done)) hz3 ?_; intro v4 w4 hown4 hg4 hv4; have hb4 : Below w.heap.size w w4 := (hb3.alloc hz3 _).grown hg4 (by simp; omega) (fun k h => (hown3.lt h).1); have hz4 := hb4.size; clear hg4))
                  | ((refine step_apS (by rfl) (.tmp 37) (.tmp 39) _ (by rfl) elemInt (by rfl) hown3 w3.heap.size _ _ _ ([n].map icell) (by rfl) hbe3.out (by rfl) icellAll (by first | (have h0 := HLT.out; simp [maxLen] at h0 ⊢; omega) | (simp [maxLen]; omega) | (simp [maxLen]; done)) (by first | (have h0 := HLT.out; simp at h0 ⊢; omega) | (simp; omega) | (simp; done)) hz3 ?_; intro v4 w4 hown4 hg4 hv4; have hb4 : Below w.heap.size w w4 := hb3.grown hg4 hz3 (fun k h => (hown3.lt h).1); have hz4 := hb4.size; clear hg4))
                  | ((refine step_apS (by rfl) (.tmp 40) (.tmp 43) _ (by rfl) elemInt (by rfl) hown4 w.heap.size _ _ _ ((l.drop l.length).map icell) (by rfl) (HD.out _ hb4 _) (by first | (rw [List.length_map, HLD.out]; done) | simp) icellAll (by simp [maxLen]; try omega) (by simp; try omega) hz4 ?_; intro v5 w5 hown5 hg5 hv5; have hb5 : Below w.heap.size w w5 := hb4.grown hg5 hz4 (fun k h => (hown4.lt h).1); clear hg5))
                  | fail)
              all_goals
                go_wp2_with fail
                go_meet
                exact ⟨by rw [HI2.out]; simpa using hown5, hb5⟩
            case rest =>
              obtain ⟨hown, hbx⟩ := hcut
              go_wp2
              go_ret
              exact ⟨_, rfl, hown.mono hB, hbx⟩
          · have hck3 : ¬ l.length = c := fun h => hck h.symm
            have hkc : (l.length : Int) ≤ (c : Int) := by omega
            have hbq0 : Below w.heap.size w w := Below.refl _ _
            have HZ : Hid (OwS (w.alloc (.cells #[] 3)) w.heap.size 3 1 (.slice (some ⟨w.heap.size, 0, none⟩) 0 0) []) := OwS.lit (rows := []) (by simp) (heap_alloc_new w _) rfl rfl (by decide) (Nat.le_refl _)
            have HZb : Hid (OwS ((w.alloc (.cells #[] 3)).alloc (.cells #[.int .i64 n] 3)) w.heap.size 3 1 (.slice (some ⟨w.heap.size, 0, none⟩) 0 0) []) := HZ.out.alloc _
            have HZc : Hid (OwS ((w.alloc (.cells #[.int .i64 n] 3)).alloc (.cells #[] 3)) w.heap.size 3 1 (.slice (some ⟨w.heap.size + 1, 0, none⟩) 0 0) []) := OwS.lit (rows := []) (by simp) (heap_alloc2_new _ _ _) rfl rfl (by decide) (by omega)
            have HLT : Hid (l.length = l.length) := rfl
            have HLD : Hid ((l.drop l.length).length = l.length - l.length) := List.length_drop
            have HT : Hid (∀ W, Below w.heap.size w W → RdS W w.heap.size 1 (some ⟨g, 0, none⟩) (l.map icell)) := fun W hW => HRD.out.below hW
            have HD : Hid (∀ W, Below w.heap.size w W → ∀ A, RdS W w.heap.size 1 A ((l.drop l.length).map icell)) := fun W hW A => by
              rw [List.drop_length]
              exact RdS.nil _ _ _ _
            go_wp2_with fail
            go_cut [4] (fun s4 wx => OwS wx w.heap.size 3 1 s4 ((insI l n).map icell) ∧ Below w.heap.size w wx)
            case first =>
              go_region_held3 (fun _ => True) (first | trivial)
                (first
                  | ((refine step_apS (by rfl) (.tmp 33) (.tmp 36) _ (by rfl) elemInt (by rfl) HZ.out.drew w.heap.size _ _ _ ((l).map icell) (by rfl) (HT.out _ (hbq0.alloc (Nat.le_refl _) _).drew) (by first | (rw [List.length_map, HLT.out]; done) | simp) icellAll (by first | (have h0 := HLT.out; simp [maxLen] at h0 ⊢; omega) | (simp [maxLen]; omega) | (simp [maxLen]; done)) (by first | (have h0 := HLT.out; simp at h0 ⊢; omega) | (simp; omega) | (simp; done)) (by simp; try omega) ?_; intro v3 w3 hown3 hg3 hv3; have hb3 : Below w.heap.size w w3 := ((hbq0.alloc (Nat.le_refl _) _).drew).grown hg3 (by simp; try omega) (fun k h => by injection h with h; (try simp only at h); omega); have hz3 := hb3.size; clear hg3))
                  | ((refine step_apS (by rfl) (.tmp 33) (.tmp 36) _ (by rfl) elemInt (by rfl) HZb.out.drew w.heap.size _ _ _ ((l).map icell) (by rfl) (HT.out _ ((hbq0.alloc (Nat.le_refl _) _).alloc (by simp) _).drew) (by first | (rw [List.length_map, HLT.out]; done) | simp) icellAll (by first | (have h0 := HLT.out; simp [maxLen] at h0 ⊢; omega) | (simp [maxLen]; omega) | (simp [maxLen]; done)) (by first | (have h0 := HLT.out; simp at h0 ⊢; omega) | (simp; omega) | (simp; done)) (by simp; try omega) ?_; intro v3 w3 hown3 hg3 hv3; have hb3 : Below w.heap.size w w3 := (((hbq0.alloc (Nat.le_refl _) _).alloc (by simp) _).drew).grown hg3 (by simp; try omega) (fun k h => by injection h with h; (try simp only at h); omega); have hz3 := hb3.size; have hbe3 := Lib.hid (intS_one (w := w3) (g := w.heap.size + 1) (n := n) (T := 3) ((hg3.block (w.heap.size + 1) (by simp) (by simp [Value.ownBlock])).trans (heap_alloc2_new _ _ _))); clear hg3))
                  | ((refine step_apS (by rfl) (.tmp 33) (.tmp 36) _ (by rfl) elemInt (by rfl) HZc.out.drew w.heap.size _ _ _ ((l).map icell) (by rfl) (HT.out _ ((hbq0.alloc (Nat.le_refl _) _).alloc (by simp) _).drew) (by first | (rw [List.length_map, HLT.out]; done) | simp) icellAll (by first | (have h0 := HLT.out; simp [maxLen] at h0 ⊢; omega) | (simp [maxLen]; omega) | (simp [maxLen]; done)) (by first | (have h0 := HLT.out; simp at h0 ⊢; omega) | (simp; omega) | (simp; done)) (by simp; try omega) ?_; intro v3 w3 hown3 hg3 hv3; have hb3 : Below w.heap.size w w3 := (((hbq0.alloc (Nat.le_refl _) _).alloc (by simp) _).drew).grown hg3 (by simp; try omega) (fun k h => by injection h with h; (try simp only at h); omega); have hz3 := hb3.size; have hbe3 := Lib.hid (intS_one (w := w3) (g := w.heap.size) (n := n) (T := 3) ((hg3.block w.heap.size (by simp; omega) (by simp [Value.ownBlock])).trans (heap_alloc2_old _ _ _))); clear hg3))
                  | ((refine step_ap1 (by rfl) (.tmp 37) (.tmp 39) _ (by rfl) elemInt (by rfl) hown3 (icell n) _ (by rfl) w3.heap.size (by rfl) (by rfl) (icellOne _) (by first | (have h0 := HLT.out; simp [maxLen] at h0 ⊢; omega) | (simp [maxLen]; omega) | (simp [maxLen]; done)) (by first | (have h0 := HLT.out; simp at h0 ⊢; omega) | (simp; omega) | (simp; done)) hz3 ?_; intro v4 w4 hown4 hg4 hv4; have hb4 : Below w.heap.size w w4 := (hb3.alloc hz3 _).grown hg4 (by simp; omega) (fun k h => (hown3.lt h).1); have hz4 := hb4.size; clear hg4))
                  | ((refine step_apS (by rfl) (.tmp 37) (.tmp 39) _ (by rfl) elemInt (by rfl) hown3 w3.heap.size _ _ _ ([n].map icell) (by rfl) hbe3.out (by rfl) icellAll (by first | (have h0 := HLT.out; simp [maxLen] at h0 ⊢; omega) | (simp [maxLen]; omega) | (simp [maxLen]; done)) (by first | (have h0 := HLT.out; simp at h0 ⊢; omega) | (simp; omega) | (simp; done)) hz3 ?_; intro v4 w4 hown4 hg4 hv4; have hb4 : Below w.heap.size w w4 := hb3.grown hg4 hz3 (fun k h => (hown3.lt h).1); have hz4 := hb4.size; clear hg4))
                  | ((refine step_apS (by rfl) (.tmp 40) (.tmp 43) _ (by rfl) elemInt (by rfl) hown4 w.heap.size _ _ _ ((l.drop l.length).map icell) (by rfl) (HD.out _ hb4 _) (by first | (rw [List.length_map, HLD.out]; done) | simp) icellAll (by simp [maxLen]; try omega) (by simp; try omega) hz4 ?_; intro v5 w5 hown5 hg5 hv5; have hb5 : Below w.heap.size w w5 := hb4.grown hg5 hz4 (fun k h => (hown4.lt h).1); clear hg5))
                  | fail)
              all_goals
                go_wp2_with fail
                go_meet
                exact ⟨by rw [HI2.out]; simpa using hown5, hb5⟩
            case rest =>
              obtain ⟨hown, hbx⟩ := hcut
              go_wp2
              go_ret
              exact ⟨_, rfl, hown.mono hB, hbx⟩
end Go.Proofs.Ytcgbnlhloopnfaa
