/- Walks of the methods of spare's state: width, has, used. -/
import Derived.Test.YteglnekkkhpikaaGreatGTjk
import Derived.Test.YteglnekkkhpikaaGreatShelf
import Derived.Sort.OwnSortedInts
namespace Go.Proofs.YteglnekkkhpikaaGreat
open Go.RowKit

section
open Go.Sort
/-- the library's sort on a slice of the call's own -/
theorem sortS (ks : List Int) (v : Value) (base : Nat) (w : World) (h : OwS w base 3 1 v (ks.map icell)) (hn : ks.length ≤ 1000000) :
    Calls Tryz.prog 76 #[v] w fun e w' => e = .returned (.tuple #[]) ∧ ∃ ts : List Int, ts.Perm ks ∧ ts.Pairwise (· ≤ ·) ∧ OwS w' base 3 1 v (ts.map icell) ∧ w.grownBy w' v.ownBlock := by
  rcases h.2.2 with ⟨rfl, h0⟩ | ⟨g, cap, cur, rfl, hb, hh, hnc, hcm, hsz, ht⟩
  · have hk : ks = [] := by cases ks with | nil => rfl | cons => simp at h0
    subst hk
    refine (Tryz.slices_Sort_int_none none 0 w).mono ?_
    rintro e w' ⟨rfl, rfl⟩
    exact ⟨rfl, [], List.Perm.refl _, List.Pairwise.nil, h, World.grownBy.refl _ _⟩
  · rw [List.length_map] at hnc ⊢
    have hfl : (ks.map icell).flatten = ks.map (Value.int .i64) := by
      clear h ht hnc hsz hn
      induction ks with
      | nil => rfl
      | cons x xs ih => simp [icell] at ih ⊢; exact ih
    rw [hfl, List.length_map, Nat.mul_one] at ht
    have hgl : g < w.heap.size := (Array.getElem?_eq_some_iff.1 hh).1
    refine (Tryz.slices_Sort_int g 0 cap ks w (holds_of_blockI hh ht) hgl (by omega)).mono ?_
    rintro e w' ⟨rfl, n, os, rfl⟩
    have hp := List.mergeSort_perm ks (fun x y => decide (x ≤ y))
    have hpw := List.pairwise_mergeSort (le := fun x y : Int => decide (x ≤ y)) (fun a b c h1 h2 => by simp at *; omega) (fun a b => by simp; omega) ks
    refine ⟨rfl, _, hp, hpw.imp fun h => by simpa using h, ?_, grownBy_sortedI _⟩
    have := ownsRow_sortedI (w := w) (n := n) (os := os) (base := base) (cap := cap) (ss := ks) (ts := ks.mergeSort fun x y => decide (x ≤ y)) hp.length_eq hb hh hnc hcm hsz
    generalize (ks.mergeSort fun x y => decide (x ≤ y)) = ts at *
    have hfl2 : (ts.map icell).flatten = ts.map (Value.int .i64) := by
      clear this hp hpw
      induction ts with
      | nil => rfl
      | cons x xs ih => simp [icell] at ih ⊢; exact ih
    refine ⟨fun r hr => ?_, ?_⟩
    · obtain ⟨x, _, rfl⟩ := List.mem_map.1 hr
      rfl
    · rw [hfl2, List.length_map, hp.length_eq]
      exact this
end
/-- the state of spare, as a value and in a box -/
def staC (L : LayD) (A : Option Addr) (c : Nat) (Am : Option Addr) (nm cm : Nat) : Array Value := #[.int .i64 L.disks, .slice A L.n c, .int .i64 L.tiles, .int .i64 L.spare, .slice Am nm cm, .int .i64 L.homes, .int .i64 L.blocks]
def StaB (w : World) (X : Nat) (L : LayD) (A : Option Addr) (c : Nat) (Am : Option Addr) (nm cm : Nat) : Prop := w.heap[X]? = some (.cells (staC L A c Am nm cm) 98)
section
variable {w w' : World} {X : Nat} {L : LayD} {A Am : Option Addr} {c nm cm : Nat}
theorem StaB.cells (h : StaB w X L A c Am nm cm) : w.cell? ⟨X, 0, none⟩ = some (.int .i64 (L.disks : Int)) ∧ w.cell? ⟨X, 1, none⟩ = some (.slice A L.n c) ∧ w.cell? ⟨X, 2, none⟩ = some (.int .i64 (L.tiles : Int)) ∧ w.cell? ⟨X, 3, none⟩ = some (.int .i64 (L.spare : Int)) ∧ w.cell? ⟨X, 4, none⟩ = some (.slice Am nm cm) ∧
    w.cell? ⟨X, 5, none⟩ = some (.int .i64 (L.homes : Int)) ∧ w.cell? ⟨X, 6, none⟩ = some (.int .i64 (L.blocks : Int)) := by
  refine ⟨?_, ?_, ?_, ?_, ?_, ?_, ?_⟩ <;> (rw [cell_of_row _ _ _ _ _ _ h]; rfl)
theorem StaB.lt (h : StaB w X L A c Am nm cm) : X < w.heap.size := blk_lt h
theorem StaB.below {C : Nat} (h : StaB w X L A c Am nm cm) (hb : Below C w w') (hC : X < C) : StaB w' X L A c Am nm cm := (hb.block _ hC).trans h
theorem StaB.made (w : World) (L : LayD) (A : Option Addr) (c : Nat) (Am : Option Addr) (nm cm : Nat) : StaB (w.alloc (.cells #[.int .i64 L.disks, .slice A L.n c, .int .i64 L.tiles, .int .i64 L.spare, .slice Am nm cm, .int .i64 L.homes, .int .i64 L.blocks] 98)) w.heap.size L A c Am nm cm := heap_alloc_new w _
theorem StaB.grown {base size : Nat} {e : TypeId} {v : Value} {rows : List (List Value)} (h : StaB w X L A c Am nm cm) (ho : OwS w base e size v rows) (hne : e ≠ 98) (hg : w.grownBy w' v.ownBlock) : StaB w' X L A c Am nm cm :=
  (hg.block _ h.lt (fun he => ho.blk_ne h hne he.symm)).trans h
end
set_option maxHeartbeats 1000000 in
theorem swidth_any {L : LayD} {A Am : Option Addr} {B c nm cm : Nat} (w : World) (hx : LayX L) (hv : GsV w B A L.gs) (hB : B ≤ w.heap.size) :
    Calls Tryz.prog 78 #[.agg (staC L A c Am nm cm)] w fun r w' => r = .returned (.int .i64 (L.w : Int)) ∧ Below w.heap.size w w' := by
  unfold staC
  obtain ⟨b, off, Ai, ci, rfl, hb, hc⟩ := lay_first hx.ok hv
  have hn : (0 : Int) < (L.n : Int) := by have := hx.ok.n.1; omega
  have c1 := hc _ w.heap.size (below_laid (w := w) (o := .cells #[.int .i64 L.disks, .slice (some ⟨b, off, none⟩) L.n c, .int .i64 L.tiles, .int .i64 L.spare, .slice Am nm cm, .int .i64 L.homes, .int .i64 L.blocks] 98)) hB
  clear hc hv
  go_enter Tryz.func78, Tryz.ntmps78
  go_wp2
  go_ret
  exact ⟨rfl, below_laid⟩
set_option maxHeartbeats 2000000 in
theorem shas_any {L : LayD} {A Am : Option Addr} {B c nm cm : Nat} (g p : Int) (w : World) (hx : LayX L) (hv : GsV w B A L.gs) (hB : B ≤ w.heap.size) :
    Calls Tryz.prog 82 #[.agg (staC L A c Am nm cm), .int .i64 g, .int .i64 p] w fun r w' => r = .returned (.bool (isP L g p)) ∧ Below w.heap.size w w' := by
  have HI : Hid (isP L g p = (decide (0 ≤ g) && decide (g < L.G) && decide (0 ≤ p) && decide (p < L.w))) := rfl
  have HV := Lib.hid hv
  have HW := Lib.hid (fun W hv hB => swidth_any (L := L) (A := A) (Am := Am) (B := B) (c := c) (nm := nm) (cm := cm) W hx hv hB)
  have hm : (L.tiles : Int) * (L.n : Int) = (L.G : Int) := by unfold LayD.G; simp
  have hG := hx.ok.G
  unfold staC at *
  clear hv
  generalize isP L g p = res at *
  by_cases h1 : 0 ≤ g
  · have h1' : decide (g ≥ 0) = true := by rw [decide_eq_true_iff]; omega
    by_cases h2 : g < (L.G : Int)
    · have h2' : decide (g < (L.G : Int)) = true := by rw [decide_eq_true_iff]; omega
      by_cases h3 : 0 ≤ p
      · have h3' : decide (p ≥ 0) = true := by rw [decide_eq_true_iff]; omega
        have HR : Hid (res = decide (p < (L.w : Int))) := by unfold Hid; rw [HI.out]; simp [h1, h2, h3]
        clear h1 h2 HI
        go_enter Tryz.func82, Tryz.ntmps82
        go_wp2_with fail
        have hb0 : Below w.heap.size w (w.alloc (.cells #[.int .i64 L.disks, .slice A L.n c, .int .i64 L.tiles, .int .i64 L.spare, .slice Am nm cm, .int .i64 L.homes, .int .i64 L.blocks] 98)) := below_laid
        generalize w.alloc _ = w0 at *
        refine (HW.out w0 (HV.out.below hb0 hB) (Nat.le_trans hB hb0.size)).mono ?_
        rintro r w1 ⟨rfl, hb1⟩
        have HB1 := Lib.hid (hb0.trans (hb1.mono hb0.size))
        clear hb0 hb1
        go_wp2
        go_ret
        exact ⟨ret_bool (by rw [HR.out]), HB1.out⟩
      · have h3' : decide (p ≥ 0) = false := by rw [decide_eq_false_iff_not]; omega
        have HR : Hid (res = false) := by unfold Hid; rw [HI.out]; simp [h3]
        clear h1 h2 h3 HI
        go_enter Tryz.func82, Tryz.ntmps82
        go_wp2
        go_ret
        exact ⟨ret_bool (by rw [HR.out]), below_laid⟩
    · have h2' : decide (g < (L.G : Int)) = false := by rw [decide_eq_false_iff_not]; omega
      have HR : Hid (res = false) := by unfold Hid; rw [HI.out]; simp [h2]
      clear h1 h2 HI
      go_enter Tryz.func82, Tryz.ntmps82
      go_wp2
      go_ret
      exact ⟨ret_bool (by rw [HR.out]), below_laid⟩
  · have h1' : decide (g ≥ 0) = false := by rw [decide_eq_false_iff_not]; omega
    have HR : Hid (res = false) := by unfold Hid; rw [HI.out]; simp [h1]
    clear h1 HI
    go_enter Tryz.func82, Tryz.ntmps82
    go_wp2
    go_ret
    exact ⟨ret_bool (by rw [HR.out]), below_laid⟩
/-- the blocks of the moves to a disk -/
def toD (ms : List Mv) (d : Int) : List Int := (ms.filter fun m => m.to.disk == d).map fun m => m.to.block
set_option maxHeartbeats 4000000 in
set_option maxRecDepth 100000 in
theorem sused_any {L : LayD} {A Am : Option Addr} {B c cm : Nat} {ms : List Mv} (d : Int) (w : World) (hok : MvOk L ms) (hM : MvS w B Am ms) (hB : B ≤ w.heap.size) (hlen : ms.length ≤ 100000) :
    Calls Tryz.prog 90 #[.agg (staC L A c Am ms.length cm), .int .i64 d] w fun r w' => (∃ v, r = .returned v ∧ OwS w' w.heap.size 3 1 v ((usedL L ms d).map icell)) ∧ Below w.heap.size w w' := by
  unfold staC
  have HM := Lib.hid hM
  have HUS := Lib.hid (fun (ts : List Int) hs hp => used_sorted (L := L) (ms := ms) hok (d := d) (ts := ts) hs hp)
  clear hM hok
  go_enter Tryz.func90, Tryz.ntmps90
  go_wp2
  have hb0 : Below w.heap.size w (w.alloc (.cells #[.int .i64 L.disks, .slice A L.n c, .int .i64 L.tiles, .int .i64 L.spare, .slice Am ms.length cm, .int .i64 L.homes, .int .i64 L.blocks] 98)) := below_laid
  generalize w.alloc _ = w0 at *
  have HB0 := Lib.hid hb0
  clear hb0
  go_loopw [11, 5, 7] (fun s11 s5 _ wr => ∃ k : Nat, k ≤ ms.length ∧ s11 = .int .i64 k ∧ OwS wr w.heap.size 3 1 s5 ((toD (ms.take k) d).map icell) ∧ Below w.heap.size w wr) (fun s11 _ _ _ => ms.length - (intOf s11).toNat)
  case atStart => exact ⟨0, by omega, rfl, OwS.nil _ _ _ _, HB0.out⟩
  case round =>
    clear HB0
    obtain ⟨k, hk, rfl, hown, hb⟩ := hrel
    obtain ⟨A5, c5, rfl, -, -⟩ := hown.form
    rw [List.length_map] at hown ⊢
    have htl : (toD (ms.take k) d).length ≤ k := by
      unfold toD
      rw [List.length_map]
      exact Nat.le_trans (List.length_filter_le _ _) (by rw [List.length_take]; exact Nat.min_le_left _ _)
    have HO := Lib.hid hown
    have HB := Lib.hid hb
    clear hown
    by_cases hkn : k < ms.length
    · have hkI : (k : Int) < (ms.length : Int) := by omega
      obtain ⟨m, hm⟩ := at_some hkn
      obtain ⟨b, off, rfl, -, q0, q1, q2, q3⟩ := MvS.at_ (HM.out.below' hb hB) hm
      have HST : Hid (toD (ms.take (k + 1)) d = if (m.to.disk == d) = true then toD (ms.take k) d ++ [m.to.block] else toD (ms.take k) d) := by
        unfold Hid toD
        rw [List.take_add_one, hm]
        simp only [Option.toList_some, List.filter_append, List.filter_cons, List.filter_nil]
        split <;> simp
      clear hm
      have hsz := hb.size
      have hmb := MvB.made wr m
      have hb1 := hb.trans ((below_laid (w := wr) (o := .cells #[.int .i64 m.g, .int .i64 m.p, .int .i64 m.to.disk, .int .i64 m.to.block] 62)).mono hsz)
      have ho1 := HO.out.alloc (.cells #[.int .i64 m.g, .int .i64 m.p, .int .i64 m.to.disk, .int .i64 m.to.block] 62)
      have HB1 := Lib.hid hb1
      have HO1 := Lib.hid ho1
      clear ho1 hb HO HB
      go_upto_region 5 with (fail)
      have hzM : w.heap.size ≤ wr.heap.size := hsz
      generalize wr.heap.size = M at *
      generalize wr.alloc _ = w1 at *
      obtain ⟨m0, m1, m2, m3⟩ := hmb.cells
      have hz1 := hb1.size
      clear hmb hb1
      by_cases e1 : m.to.disk = d
      · have f1 : (m.to.disk == d) = true := by simpa using e1
        rw [if_pos f1] at HST
        clear e1
        go_wp2_with (at_builtin; refine wpList_ap1 rfl (.tmp 20) (.tmp 24) _ rfl elemIntS rfl HO1.out (icell m.to.block) _ (by rfl) w1.heap.size (by rfl) (by rfl) (icellOneS _) (by rw [List.length_map]; simp [maxLen]; omega) (by rw [List.length_map]; omega) hz1 ?_)
        rintro v1 w3 hown1 hg1 -
        have HO2 : Hid (OwS w3 w.heap.size 3 1 v1 ((toD (ms.take (k + 1)) d).map icell)) := by
          rw [Hid, HST.out, List.map_append]
          exact hown1
        have HB2 : Hid (Below w.heap.size w w3) := (HB1.out.alloc HB1.out.size _).grown hg1 (by simp; omega) (fun g hg => (HO1.out.lt hg).1)
        clear hown1 hg1
        go_wp2
        go_roundw
        case rel => exact ⟨k + 1, by omega, by go_num, HO2.out, HB2.out⟩
        case measure => simp [intOf] <;> omega
      · have f1 : (m.to.disk == d) = false := by simpa using e1
        rw [if_neg (by rw [f1]; decide)] at HST
        clear e1
        go_wp2
        go_roundw
        case rel => exact ⟨k + 1, by omega, by go_num, by rw [HST.out]; exact HO1.out, HB1.out⟩
        case measure => simp [intOf] <;> omega
    · have hkI : ¬ (k : Int) < (ms.length : Int) := by omega
      have hs := sortS (toD (ms.take k) d) (.slice A5 (toD (ms.take k) d).length c5) w.heap.size wr HO.out (by omega)
      have HT : Hid (toD (ms.take k) d = toD ms d) := by rw [Hid, List.take_of_length_le (by omega)]
      have HS := Lib.hid hs
      clear hs hb
      go_wp2_with fail
      refine HS.out.mono ?_
      rintro r w2 ⟨rfl, ts, hp, hpw, hown2, hg2⟩
      have HR : Hid (ts = usedL L ms d) := HUS.out ts hpw (by rw [HT.out] at hp; exact hp)
      have HB2 : Hid (Below w.heap.size w w2) := HB.out.grown hg2 HB.out.size (fun g hg => (HO.out.lt hg).1)
      have HO2 := Lib.hid hown2
      clear hp hpw hown2 hg2
      go_wp2
      go_ret
      exact ⟨⟨_, rfl, by rw [← HR.out]; exact HO2.out⟩, HB2.out⟩
end Go.Proofs.YteglnekkkhpikaaGreat
