/- Walk of the method apart of spare's state. -/
import Derived.Test.YteglnekkkhpikaaGreatTwO
namespace Go.Proofs.YteglnekkkhpikaaGreat
open Go.RowKit

theorem compact_len {ts : List Int} (h : ts.Pairwise (· ≤ ·)) : (Lib.compact ts).length = ts.length ↔ ts.Nodup := by
  unfold Lib.compact Lib.compactUpTo
  rw [List.length_map]
  have e : ((List.range ts.length).filter (Lib.keeps ts.toArray)).length = ts.length ↔ ((List.range ts.length).filter (Lib.keeps ts.toArray)).length = (List.range ts.length).length := by rw [List.length_range]
  rw [e, List.length_filter_eq_length_iff]
  have hget : ∀ j (hj : j < ts.length), ts.toArray[j]! = ts[j] := fun j hj => by simp [hj]
  constructor
  · intro hk
    rw [List.nodup_iff_pairwise_ne, List.pairwise_iff_getElem]
    intro i j hi hj hij
    have h1 := hk j (by simpa using hj)
    unfold Lib.keeps at h1
    rw [decide_eq_true_iff] at h1
    rcases h1 with h1 | h1
    · omega
    · rw [hget j hj, hget (j - 1) (by omega)] at h1
      have h2 := List.pairwise_iff_getElem.1 h (j - 1) j (by omega) hj (by omega)
      have h3 : ts[i] ≤ ts[j - 1] := by
        by_cases e : i = j - 1
        · subst e; exact Int.le_refl _
        · exact List.pairwise_iff_getElem.1 h i (j - 1) hi (by omega) (by omega)
      omega
  · intro hn j hj
    rw [List.mem_range] at hj
    unfold Lib.keeps
    rw [decide_eq_true_iff]
    by_cases h0 : j = 0
    · exact .inl h0
    · refine .inr ?_
      rw [hget j hj, hget (j - 1) (by omega)]
      rw [List.nodup_iff_pairwise_ne, List.pairwise_iff_getElem] at hn
      exact (hn (j - 1) j (by omega) hj (by omega)).symm
section
open Go.Sort
theorem compactS (ks : List Int) (v : Value) (base : Nat) (w : World) (h : OwS w base 3 1 v (ks.map icell)) (hn : ks.length ≤ 1000000) (h0 : 0 < ks.length) :
    Calls Tryz.prog 77 #[v] w fun e w' => (∃ A c, e = .returned (.slice A (Lib.compact ks).length c)) ∧ w.grownBy w' v.ownBlock := by
  rcases h.2.2 with ⟨rfl, h1⟩ | ⟨g, cap, cur, rfl, hb, hh, hnc, hcm, hsz, ht⟩
  · have hk : ks = [] := by cases ks with | nil => rfl | cons => simp at h1
    subst hk
    simp at h0
  · rw [List.length_map] at hnc ⊢
    have hfl : (ks.map icell).flatten = ks.map (Value.int .i64) := by
      clear h ht hnc hsz hn h0
      induction ks with
      | nil => rfl
      | cons x xs ih => simp [icell] at ih ⊢; exact ih
    rw [hfl, List.length_map, Nat.mul_one] at ht
    refine (Tryz.slices_Compact_int g 0 cap ks w (holds_of_blockI hh ht) (by omega) hnc).mono ?_
    rintro e w' ⟨rfl, n, rfl⟩
    have hg := grownBy_sortedI (w := w) (g := g) (n := n) (os := #[]) (Lib.compact ks ++ List.replicate (ks.length - (Lib.compact ks).length) 0).toArray
    rw [Sort.grow_empty] at hg
    exact ⟨⟨_, _, rfl⟩, hg⟩
end
set_option maxHeartbeats 4000000 in
set_option maxRecDepth 100000 in
theorem sapart_any {L : LayD} {A Am : Option Addr} {B c cm : Nat} {ms : List Mv} (g : Nat) (w : World) (hx : LayX L) (hv : GsV w B A L.gs) (hM : MvS w B Am ms) (hB : B ≤ w.heap.size) (hlen : ms.length ≤ 100000) (hs : ms.Pairwise ltM) (his : ∀ m ∈ ms, isP L m.g m.p = true) (hg : g < L.G) :
    Calls Tryz.prog 53 #[.agg (staC L A c Am ms.length cm), .int .i64 (g : Int)] w fun r w' => r = .returned (.bool (apartL L ms g)) ∧ Below w.heap.size w w' := by
  have HV := Lib.hid hv
  have HM := Lib.hid hM
  have HCD := Lib.hid (fun W hv hM hB => sdisks_any (L := L) (A := A) (Am := Am) (B := B) (c := c) (cm := cm) (ms := ms) g W hx hv hM hB hlen hs his hg)
  have HCW := Lib.hid (fun W hv hB => swidth_any (L := L) (A := A) (Am := Am) (B := B) (c := c) (nm := ms.length) (cm := cm) W hx hv hB)
  have HDL := Lib.hid (disks_len L ms (g : Int))
  have HAP := Lib.hid (apart_nodup (L := L) (ms := ms) (g := (g : Int)))
  have hw16 := hx.ok.w
  unfold staC at *
  obtain ⟨res, hres⟩ : ∃ res, apartL L ms g = res := ⟨_, rfl⟩
  rw [hres] at HAP ⊢
  clear hv hM hs his hres
  go_enter Tryz.func53, Tryz.ntmps53
  go_wp2_with fail
  have hst := StaB.made w L A c Am ms.length cm
  have hb0 : Below w.heap.size w (w.alloc (.cells #[.int .i64 L.disks, .slice A L.n c, .int .i64 L.tiles, .int .i64 L.spare, .slice Am ms.length cm, .int .i64 L.homes, .int .i64 L.blocks] 98)) := below_laid
  generalize w.alloc _ = w0 at *
  refine (HCD.out w0 (HV.out.below hb0 hB) (HM.out.below' hb0 hB) (Nat.le_trans hB hb0.size)).mono ?_
  rintro r w1 ⟨⟨v, rfl, hown⟩, hb1⟩
  have HS1 := Lib.hid (hst.below hb1 hst.lt)
  have HB1 := Lib.hid (hb0.trans (hb1.mono hb0.size))
  have HZ0 := Lib.hid hst.lt
  generalize disksL L ms g = ds at *
  have hso := sortS ds v w0.heap.size w1 hown (by rw [HDL.out]; omega)
  have HO1 := Lib.hid hown
  have HSO := Lib.hid hso
  clear hown hso hst hb0 hb1
  go_wp2_with fail
  refine HSO.out.mono ?_
  rintro r w2 ⟨rfl, ts, hp, hpw, hown2, hg2⟩
  have HS2 := Lib.hid (HS1.out.grown HO1.out (by decide) hg2)
  have HB2 : Hid (Below w.heap.size w w2) := HB1.out.grown hg2 HB1.out.size (fun q hq => by have := (HO1.out.lt hq).1; have := HZ0.out; omega)
  have htl : ts.length = L.w := by rw [hp.length_eq, HDL.out]
  obtain ⟨Ac, cc, hvv, -, -⟩ := hown2.form
  rw [List.length_map] at hvv
  have HB2' := Lib.hid HB2.out
  subst hvv
  have HCO := Lib.hid (fun W (ho : OwS W w0.heap.size 3 1 (.slice Ac ts.length cc) (ts.map icell)) => compactS ts (.slice Ac ts.length cc) w0.heap.size W ho (by omega) (by omega))
  have HR : Hid (((Lib.compact ts).length == L.w) = res) := by
    have h1 := compact_len hpw
    rw [htl, hp.nodup_iff] at h1
    cases hres2 : res
    · rw [Hid, beq_eq_false_iff_ne]
      intro e
      rw [HAP.out.2 (h1.1 e)] at hres2
      cases hres2
    · rw [Hid, beq_iff_eq]
      exact h1.2 (HAP.out.1 hres2)
  have HO2 := Lib.hid hown2
  clear HB2'
  generalize (Lib.compact ts).length = cl at *
  have HKS : Hid (∀ W, StaB W w.heap.size L A c Am ms.length cm → (W.cell? ⟨w.heap.size, 0, none⟩ = some (.int .i64 (L.disks : Int)) ∧ W.cell? ⟨w.heap.size, 1, none⟩ = some (.slice A L.n c) ∧ W.cell? ⟨w.heap.size, 2, none⟩ = some (.int .i64 (L.tiles : Int)) ∧ W.cell? ⟨w.heap.size, 3, none⟩ = some (.int .i64 (L.spare : Int)) ∧ W.cell? ⟨w.heap.size, 4, none⟩ = some (.slice Am ms.length cm) ∧ W.cell? ⟨w.heap.size, 5, none⟩ = some (.int .i64 (L.homes : Int)) ∧ W.cell? ⟨w.heap.size, 6, none⟩ = some (.int .i64 (L.blocks : Int)))) := fun W h => h.cells
  clear hp hpw hown2 hg2 htl
  go_upto_region 3 with (fail)
  go_region_held3 (fun W => W.cell? ⟨w.heap.size, 0, none⟩ = some (.int .i64 (L.disks : Int)) ∧ W.cell? ⟨w.heap.size, 1, none⟩ = some (.slice A L.n c) ∧ W.cell? ⟨w.heap.size, 2, none⟩ = some (.int .i64 (L.tiles : Int)) ∧ W.cell? ⟨w.heap.size, 3, none⟩ = some (.int .i64 (L.spare : Int)) ∧ W.cell? ⟨w.heap.size, 4, none⟩ = some (.slice Am ms.length cm) ∧ W.cell? ⟨w.heap.size, 5, none⟩ = some (.int .i64 (L.homes : Int)) ∧ W.cell? ⟨w.heap.size, 6, none⟩ = some (.int .i64 (L.blocks : Int)))
    (first | exact HKS.out _ hs5.out | exact HKS.out _ HS2.out)
    (first
      | (go_at_call 77; first | ((with_reducible refine (HCO.out _ (OwS.drew HO2.out)).mono ?_); rintro r w5 ⟨⟨A5, c5, rfl⟩, hg5⟩; have hs5 := Lib.hid (StaB.grown (show StaB w2.drew w.heap.size L A c Am ms.length cm from HS2.out) (OwS.drew HO2.out) (by decide) hg5); have hb5 : Below w.heap.size w w5 := HB2.out.drew.grown hg5 HB2.out.size (fun q hq => by have := (HO2.out.lt hq).1; have := HZ0.out; omega)))
      | (go_at_call 78; first | ((with_reducible refine (HCW.out _ (HV.out.below hb5 hB) (Nat.le_trans hB hb5.size)).mono ?_); rintro r w6 ⟨rfl, hb6⟩; have hs5 := Lib.hid (hs5.out.below hb6 hs5.out.lt); have hb7 : Below w.heap.size w w6 := hb5.trans (hb6.mono hb5.size)))
      | fail)
  go_wp2
  go_ret
  exact ⟨ret_bool (by rw [← HR.out, Bool.eq_iff_iff]; simp only [beq_iff_eq]; omega), hb7⟩
end Go.Proofs.YteglnekkkhpikaaGreat
