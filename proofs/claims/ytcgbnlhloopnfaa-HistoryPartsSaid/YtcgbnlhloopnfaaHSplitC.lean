/- Walk of slices.DeleteFunc over events. -/
import Derived.Test.YtcgbnlhloopnfaaHSplitA
import Derived.Test.YtcgbnlhloopnfaaHSplitB
namespace Go.Proofs.Ytcgbnlhloopnfaa
open Go.RowKit

section
variable {p : Ev → Bool} {l R : List Ev} {i j : Nat} {e : Ev}
theorem del_start (h : l.findIdx? p = some i) : l.take i = (l.take (i + 1)).filter (fun e => !p e) := by
  obtain ⟨hi, hp, hno⟩ := List.findIdx?_eq_some_iff_getElem.1 h
  rw [List.take_add_one, List.getElem?_eq_getElem hi, List.filter_append]
  have h1 : (l.take i).filter (fun e => !p e) = l.take i := List.filter_eq_self.2 fun e he => by
    obtain ⟨k, hk, rfl⟩ := List.getElem_of_mem he
    rw [List.length_take] at hk
    rw [List.getElem_take]
    have := hno k (by omega)
    simpa using this
  rw [h1]
  simp [hp]
theorem del_skip (h : R.take i = (l.take j).filter (fun e => !p e)) (he : l[j]? = some e) (hp : p e = true) : R.take i = (l.take (j + 1)).filter (fun e => !p e) := by
  rw [List.take_add_one, he, List.filter_append, ← h]
  simp [hp]
theorem del_keep (h : R.take i = (l.take j).filter (fun e => !p e)) (he : l[j]? = some e) (hp : p e = false) (hi : i < R.length) : (R.set i e).take (i + 1) = (l.take (j + 1)).filter (fun e => !p e) := by
  rw [List.take_add_one, List.take_set_of_le (Nat.le_refl _), List.getElem?_set_self hi, List.take_add_one, he, List.filter_append, ← h]
  simp [hp]
theorem drop_set (h : R.drop j = l.drop j) (hi : i < j + 1) : (R.set i e).drop (j + 1) = l.drop (j + 1) := by
  have h1 : ∀ x : List Ev, x.drop (j + 1) = (x.drop j).drop 1 := fun x => by rw [List.drop_drop]
  rw [List.drop_set_of_lt hi, h1, h, ← h1]
end

set_option maxHeartbeats 4000000 in
set_option maxRecDepth 100000 in
theorem delete_ev (p : Ev → Bool) (x0 : Nat) (l : List Ev) (v : Value) (base : Nat) (w : World) (hown : OwS w base 56 6 v (l.map Ev.cells)) (hlen : l.length ≤ 1000000)
    (hf : ∀ e w', w.grownBy w' v.ownBlock → Calls Try.prog 35 #[e.agg, .pointer (some ⟨x0, 0, none⟩)] w' fun r w2 => r = .returned (.bool (p e)) ∧ Below w'.heap.size w' w2) :
    Calls Try.prog 33 #[v, .func (.func 35) #[] #[.pointer (some ⟨x0, 0, none⟩)]] w fun s w' => ∃ v', s = .returned v' ∧ OwS w' base 56 6 v' ((l.filter (fun e => !p e)).map Ev.cells) ∧ w.grownBy w' v.ownBlock := by
  obtain ⟨A, c, rfl, -, -⟩ := hown.form
  rw [List.length_map] at *
  have HI := Lib.hid (index_ev p x0 l A c w.heap.size w hown.reads (Nat.le_refl _) hlen (fun e w' hb => hf e w' ⟨hb.os, hb.tape, hb.output, hb.size, fun k hk _ => hb.block k hk⟩))
  rcases hi : l.findIdx? p with _ | i0
  · rw [hi] at HI
    have hall : l.filter (fun e => !p e) = l := List.filter_eq_self.2 fun e he => by have := List.findIdx?_eq_none_iff.1 hi e he; simp [this]
    rw [hall]
    clear hf hi hall
    go_enter Try.func33, Try.ntmps33
    go_wp2_with fail
    refine HI.out.mono ?_
    rintro s w1 ⟨rfl, hb1⟩
    simp only [idxE]
    go_wp2
    go_ret
    exact ⟨_, rfl, hown.below hb1, ⟨hb1.os, hb1.tape, hb1.output, hb1.size, fun k hk _ => hb1.block k hk⟩⟩
  · rw [hi] at HI
    obtain ⟨hil, -, -⟩ := List.findIdx?_eq_some_iff_getElem.1 hi
    obtain ⟨g, cap', hva, hbg, hgl⟩ := hown.pos (by rw [List.length_map]; omega)
    injection hva with hA1 hA2 hA3
    subst hA1
    clear hA2 hA3
    have hbl : (Value.slice (some ⟨g, 0, none⟩) l.length c).ownBlock = some g := rfl
    rw [hbl] at hf ⊢
    have HF := Lib.hid hf
    have H0 := Lib.hid (del_start hi)
    clear hf hi hbl
    go_enter Try.func33, Try.ntmps33
    go_wp2_with fail
    refine HI.out.mono ?_
    rintro s w1 ⟨rfl, hb1⟩
    have hown1 := hown.below hb1
    have hg1 : w.grownBy w1 (some g) := ⟨hb1.os, hb1.tape, hb1.output, hb1.size, fun k hk _ => hb1.block k hk⟩
    have hne1 : ((i0 : Int) == -1) = false := by simp
    simp only [idxE]
    clear hown HI
    go_wp2
    go_loopw [5, 6] (fun a b wr => ∃ (i j : Nat) (R : List Ev), a = .int .i64 i ∧ b = .int .i64 j ∧ i < j ∧ j ≤ l.length ∧ R.length = l.length ∧ R.take i = (l.take j).filter (fun e => !p e) ∧ R.drop j = l.drop j ∧ OwS wr base 56 6 (.slice (some ⟨g, 0, none⟩) l.length c) (R.map Ev.cells) ∧ w.grownBy wr (some g)) (fun _ b _ => l.length - (intOf b).toNat)
    case atStart => exact ⟨i0, i0 + 1, l, rfl, rfl, by omega, by omega, rfl, H0.out, rfl, hown1, hg1⟩
    case round =>
      obtain ⟨i, j, R, rfl, rfl, hij, hj, hRl, hR1, hR2, hown2, hg2⟩ := hrel
      have HR1 := Lib.hid hR1
      have HR2 := Lib.hid hR2
      have HG2 := Lib.hid hg2
      have hgl2 : g < wr.heap.size := (hown2.lt rfl).2
      clear hR1 hR2 hg2
      by_cases hlt : j < l.length
      · obtain ⟨e, he⟩ : ∃ e, l[j]? = some e := ⟨l[j], List.getElem?_eq_getElem hlt⟩
        have heR : R[j]? = some e := by
          have h1 : (R.drop j)[0]? = (l.drop j)[0]? := by rw [HR2.out]
          rw [List.getElem?_drop, List.getElem?_drop] at h1
          simpa [he] using h1
        have hrow : (R.map Ev.cells)[j]? = some e.cells := by rw [List.getElem?_map, heR]; rfl
        have a0 := hown2.cell hrow (j := 0) rfl
        have a1 := hown2.cell hrow (j := 1) rfl
        have a2 := hown2.cell hrow (j := 2) rfl
        have a3 := hown2.cell hrow (j := 3) rfl
        have a4 := hown2.cell hrow (j := 4) rfl
        have a5 := hown2.cell hrow (j := 5) rfl
        simp only [Nat.add_zero] at a0
        have HE := Lib.hid he
        have HOW := Lib.hid hown2
        have HF2 := Lib.hid (fun o => HF.out e (wr.alloc o) (HG2.out.trans (World.grownBy_alloc _ _ _)))
        have HROW := Lib.hid hrow
        have hgn : some g ≠ some wr.heap.size := fun h => by injection h; omega
        clear he heR hrow hown2 HF hown1 hg1 hb1
        rcases hp : p e with _ | _
        · have HP := Lib.hid hp
          rw [hp] at HF2
          clear hp
          go_wp2_with fail
          refine (HF2.out _).mono ?_
          rintro s w2 ⟨rfl, hb2⟩
          have d : ∀ k u, e.cells[k]? = some u → w2.cell? ⟨wr.heap.size, k, none⟩ = some u := fun k u hu => by
            rw [hb2.cell (p := ⟨wr.heap.size, k, none⟩) (by simp), cell_of_row _ _ _ _ _ _ (heap_alloc_new wr _)]
            rw [← hu]
            simp [Ev.cells]
          have d0 := d 0 _ rfl
          have d1 := d 1 _ rfl
          have d2 := d 2 _ rfl
          have d3 := d 3 _ rfl
          have d4 := d 4 _ rfl
          have d5 := d 5 _ rfl
          have hown3 := (HOW.out.alloc _).below hb2
          have hz2 : wr.heap.size < w2.heap.size := by have := hb2.size; simp at this; omega
          obtain ⟨hown4, hg4⟩ := hown3.setEv (k := i) (by rw [List.length_map]; omega) e
          have HOW4 := Lib.hid hown4
          have HG4 := Lib.hid hg4
          obtain ⟨ei, hei⟩ : ∃ ei, R[i]? = some ei := ⟨_, List.getElem?_eq_getElem (by omega)⟩
          have hri : (R.map Ev.cells)[i]? = some ei.cells := by rw [List.getElem?_map, hei]; rfl
          have b0 := hown3.cell hri (j := 0) rfl
          have b1 := hown3.cell hri (j := 1) rfl
          have b2 := hown3.cell hri (j := 2) rfl
          have b3 := hown3.cell hri (j := 3) rfl
          have b4 := hown3.cell hri (j := 4) rfl
          have b5 := hown3.cell hri (j := 5) rfl
          have f0 := hown3.frozen (i * 6)
          have f1 := hown3.frozen (i * 6 + 1)
          have f2 := hown3.frozen (i * 6 + 2)
          have f3 := hown3.frozen (i * 6 + 3)
          have f4 := hown3.frozen (i * 6 + 4)
          have f5 := hown3.frozen (i * 6 + 5)
          simp only [Nat.add_zero] at b0
          clear hown4 hg4 hown3 d hri hei
          go_wp2
          go_roundw
          case rel => exact ⟨i + 1, j + 1, R.set i e, by go_num, by go_num, by omega, by omega, by rw [List.length_set]; exact hRl, del_keep HR1.out HE.out HP.out (by omega), drop_set HR2.out (by omega), by rw [List.map_set]; exact HOW4.out, (HG2.out.trans (World.grownBy_alloc _ _ _)).trans (World.grownBy.trans ⟨hb2.os, hb2.tape, hb2.output, hb2.size, fun k hk _ => hb2.block k hk⟩ HG4.out)⟩
          case measure => simp [intOf]; omega
        · have HP := Lib.hid hp
          rw [hp] at HF2
          clear hp
          go_wp2_with fail
          refine (HF2.out _).mono ?_
          rintro s w2 ⟨rfl, hb2⟩
          have hown3 := (HOW.out.alloc _).below hb2
          go_wp2
          go_roundw
          case rel => exact ⟨i, j + 1, R, rfl, by go_num, by omega, by omega, hRl, del_skip HR1.out HE.out HP.out, by rw [← List.drop_drop, HR2.out, List.drop_drop], hown3, (HG2.out.trans (World.grownBy_alloc _ _ _)).trans ⟨hb2.os, hb2.tape, hb2.output, hb2.size, fun k hk _ => hb2.block k hk⟩⟩
          case measure => simp [intOf]; omega
      · obtain rfl : j = l.length := by omega
        have hcap : l.length ≤ c := by
          obtain ⟨A', c', h1, h2, -⟩ := hown2.form
          injection h1 with h3 h4 h5
          rw [List.length_map] at h2
          omega
        have hic : ¬ c = i := by omega
        have hic' : ¬ i = c := by omega
        obtain ⟨w2, hcl, hown3, hg3⟩ := clear_ev hown2 (i := i) (by omega) (c - i)
        rw [← List.map_take, HR1.out, List.take_length] at hown3
        have hg4 := HG2.out.trans hg3
        clear hown2 HF hown1 hg1 hb1 hg3
        go_wp2
        go_ret
        exact ⟨_, rfl, hown3, hg4⟩
end Go.Proofs.Ytcgbnlhloopnfaa
