/- Walks of the methods of spare's state: width, has, used.
Walk of the method disks of spare's state.
Walk of the method apart of spare's state.
Maps of the call's own, by what they answer: pointers and bools as elements. Nothing of the program is walked here.
Maps of bools whose keys lie on a list (from FndK), keyed by places. No function of the program is walked here. -/
import Derived.Test.YtopoefcklipaeaaGreatDoorGRf
import Derived.Test.YtopoefcklipaeaaGreatDoorShelf
import Derived.Test.YtopoefcklipaeaaGreatDoorGRa
import Derived.Sort.OwnSortedInts
import Derived.Deep.RegionHeld3
import Derived.Maps.Own
import Derived.Maps.OwnOps
import Derived.Maps.OwnSet
import Derived.DeepKeys4
import Derived.Outline
namespace Go.Proofs.YtopoefcklipaeaaGreatDoor
open Go.RowKit
section
open Go.Sort
theorem sortS (ks : List Int) (v : Value) (base : Nat) (w : World) (h : OwS w base 3 1 v (ks.map icell)) (hn : ks.length ≤ 1000000) :
  Calls Tryz.prog 238 #[v] w fun e w' => e = .returned (.tuple #[]) ∧ ∃ ts : List Int, ts.Perm ks ∧ ts.Pairwise (· ≤ ·) ∧ OwS w' base 3 1 v (ts.map icell) ∧ w.grownBy w' v.ownBlock := by
 rcases h.2.2 with ⟨rfl, h0⟩ | ⟨g, cap, cur, rfl, hb, hh, hnc, hcm, hsz, ht⟩
 ·have hk : ks = [] := by cases ks with | nil => rfl | cons => simp at h0
  subst hk
  refine (Tryz.slices_Sort_int_none none 0 w).mono ?_
  rintro e w' ⟨rfl, rfl⟩
  exact ⟨rfl, [], List.Perm.refl _, List.Pairwise.nil, h, World.grownBy.refl _ _⟩
 ·rw [List.length_map] at hnc ⊢
  have hfl : (ks.map icell).flatten = ks.map (Value.int .i64) := by
   clear h ht hnc hsz hn
   induction ks with
   | nil => rfl
   | cons x xs ih => simp [icell] at ih ⊢; exact ih
  rw [hfl, List.length_map, Nat.mul_one] at ht
  have hgl : g < w.heap.size := (Array.getElem?_eq_some_iff.1 hh).1
  refine (Tryz.slices_Sort_int g 0 cap ks w (holds_of_blockI hh ht) hgl (by omega)).mono ?_
  rintro e w' ⟨rfl, n, os, rfl⟩
  have hp := List.mergeSort_perm ks (fun x y => decide (x ≤ y))
  have hpw := List.pairwise_mergeSort (le := fun x y : Int => decide (x ≤ y)) (fun a b c h1 h2 => by simp at *; omega) (fun a b => by simp; omega) ks
  refine ⟨rfl, _, hp, hpw.imp fun h => by simpa using h, ?_, grownBy_sortedI _⟩
  have := ownsRow_sortedI (w := w) (n := n) (os := os) (base := base) (cap := cap) (ss := ks) (ts := ks.mergeSort fun x y => decide (x ≤ y)) hp.length_eq hb hh hnc hcm hsz
  generalize (ks.mergeSort fun x y => decide (x ≤ y)) = ts at *
  have hfl2 : (ts.map icell).flatten = ts.map (Value.int .i64) := by
   clear this hp hpw
   induction ts with
   | nil => rfl
   | cons x xs ih => simp [icell] at ih ⊢; exact ih
  refine ⟨fun r hr => ?_, ?_⟩
  ·obtain ⟨x, _, rfl⟩ := List.mem_map.1 hr
   rfl
  ·rw [hfl2, List.length_map, hp.length_eq]
   exact this
end
def staC (L : LayD) (A : Option Addr) (c : Nat) (Am : Option Addr) (nm cm : Nat) : Array Value := #[.int .i64 L.disks, .slice A L.n c, .int .i64 L.tiles, .int .i64 L.spare, .slice Am nm cm, .int .i64 L.homes, .int .i64 L.blocks]
def StaB (w : World) (X : Nat) (L : LayD) (A : Option Addr) (c : Nat) (Am : Option Addr) (nm cm : Nat) : Prop := w.heap[X]? = some (.cells (staC L A c Am nm cm) 299)
section
variable {w w' : World} {X : Nat} {L : LayD} {A Am : Option Addr} {c nm cm : Nat}
theorem StaB.cells (h : StaB w X L A c Am nm cm) : w.cell? ⟨X, 0, none⟩ = some (.int .i64 (L.disks : Int)) ∧ w.cell? ⟨X, 1, none⟩ = some (.slice A L.n c) ∧ w.cell? ⟨X, 2, none⟩ = some (.int .i64 (L.tiles : Int)) ∧ w.cell? ⟨X, 3, none⟩ = some (.int .i64 (L.spare : Int)) ∧ w.cell? ⟨X, 4, none⟩ = some (.slice Am nm cm) ∧
  w.cell? ⟨X, 5, none⟩ = some (.int .i64 (L.homes : Int)) ∧ w.cell? ⟨X, 6, none⟩ = some (.int .i64 (L.blocks : Int)) := by
 refine ⟨?_, ?_, ?_, ?_, ?_, ?_, ?_⟩ <;> (rw [cell_of_row _ _ _ _ _ _ h]; rfl)
theorem StaB.lt (h : StaB w X L A c Am nm cm) : X < w.heap.size := blk_lt h
theorem StaB.below {C : Nat} (h : StaB w X L A c Am nm cm) (hb : Below C w w') (hC : X < C) : StaB w' X L A c Am nm cm := (hb.block _ hC).trans h
theorem StaB.made (w : World) (L : LayD) (A : Option Addr) (c : Nat) (Am : Option Addr) (nm cm : Nat) : StaB (w.alloc (.cells #[.int .i64 L.disks, .slice A L.n c, .int .i64 L.tiles, .int .i64 L.spare, .slice Am nm cm, .int .i64 L.homes, .int .i64 L.blocks] 299)) w.heap.size L A c Am nm cm := heap_alloc_new w _
theorem StaB.grown {base size : Nat} {e : TypeId} {v : Value} {rows : List (List Value)} (h : StaB w X L A c Am nm cm) (ho : OwS w base e size v rows) (hne : e ≠ 299) (hg : w.grownBy w' v.ownBlock) : StaB w' X L A c Am nm cm :=
 (hg.block _ h.lt (fun he => ho.blk_ne h hne he.symm)).trans h
end
set_option maxHeartbeats 1000000 in
theorem swidth_any {L : LayD} {A Am : Option Addr} {B c nm cm : Nat} (w : World) (hx : LayX L) (hv : GsV w B A L.gs) (hB : B ≤ w.heap.size) :
  Calls Tryz.prog 240 #[.agg (staC L A c Am nm cm)] w fun r w' => r = .returned (.int .i64 (L.w : Int)) ∧ Below w.heap.size w w' := by
 unfold staC
 obtain ⟨b, off, Ai, ci, rfl, hb, hc⟩ := lay_first hx.ok hv
 have hn : (0 : Int) < (L.n : Int) := by have := hx.ok.n.1; omega
 have c1 := hc _ w.heap.size (below_laid (w := w) (o := .cells #[.int .i64 L.disks, .slice (some ⟨b, off, none⟩) L.n c, .int .i64 L.tiles, .int .i64 L.spare, .slice Am nm cm, .int .i64 L.homes, .int .i64 L.blocks] 299)) hB
 clear hc hv
 go_enter Tryz.func240, Tryz.ntmps240
 go_wp2
 go_ret
 exact ⟨rfl, below_laid⟩
set_option maxHeartbeats 2000000 in
theorem shas_any {L : LayD} {A Am : Option Addr} {B c nm cm : Nat} (g p : Int) (w : World) (hx : LayX L) (hv : GsV w B A L.gs) (hB : B ≤ w.heap.size) :
  Calls Tryz.prog 229 #[.agg (staC L A c Am nm cm), .int .i64 g, .int .i64 p] w fun r w' => r = .returned (.bool (isP L g p)) ∧ Below w.heap.size w w' := by
 have HI : Hid (isP L g p = (decide (0 ≤ g) && decide (g < L.G) && decide (0 ≤ p) && decide (p < L.w))) := rfl
 have HV := Lib.hid hv
 have HW := Lib.hid (fun W hv hB => swidth_any (L := L) (A := A) (Am := Am) (B := B) (c := c) (nm := nm) (cm := cm) W hx hv hB)
 have hm : (L.tiles : Int) * (L.n : Int) = (L.G : Int) := by unfold LayD.G; simp
 have hG := hx.ok.G
 unfold staC at *
 clear hv
 generalize isP L g p = res at *
 by_cases h1 : 0 ≤ g
 ·have h1' : decide (g ≥ 0) = true := by rw [decide_eq_true_iff]; omega
  by_cases h2 : g < (L.G : Int)
  ·have h2' : decide (g < (L.G : Int)) = true := by rw [decide_eq_true_iff]; omega
   by_cases h3 : 0 ≤ p
   ·have h3' : decide (p ≥ 0) = true := by rw [decide_eq_true_iff]; omega
    have HR : Hid (res = decide (p < (L.w : Int))) := by unfold Hid; rw [HI.out]; simp [h1, h2, h3]
    clear h1 h2 HI
    go_enter Tryz.func229, Tryz.ntmps229
    go_wp2_with fail
    have hb0 : Below w.heap.size w (w.alloc (.cells #[.int .i64 L.disks, .slice A L.n c, .int .i64 L.tiles, .int .i64 L.spare, .slice Am nm cm, .int .i64 L.homes, .int .i64 L.blocks] 299)) := below_laid
    generalize w.alloc _ = w0 at *
    refine (HW.out w0 (HV.out.below hb0 hB) (Nat.le_trans hB hb0.size)).mono ?_
    rintro r w1 ⟨rfl, hb1⟩
    have HB1 := Lib.hid (hb0.trans (hb1.mono hb0.size))
    clear hb0 hb1
    go_wp2
    go_ret
    exact ⟨ret_bool (by rw [HR.out]), HB1.out⟩
   ·have h3' : decide (p ≥ 0) = false := by rw [decide_eq_false_iff_not]; omega
    have HR : Hid (res = false) := by unfold Hid; rw [HI.out]; simp [h3]
    clear h1 h2 h3 HI
    go_enter Tryz.func229, Tryz.ntmps229
    go_wp2
    go_ret
    exact ⟨ret_bool (by rw [HR.out]), below_laid⟩
  ·have h2' : decide (g < (L.G : Int)) = false := by rw [decide_eq_false_iff_not]; omega
   have HR : Hid (res = false) := by unfold Hid; rw [HI.out]; simp [h2]
   clear h1 h2 HI
   go_enter Tryz.func229, Tryz.ntmps229
   go_wp2
   go_ret
   exact ⟨ret_bool (by rw [HR.out]), below_laid⟩
 ·have h1' : decide (g ≥ 0) = false := by rw [decide_eq_false_iff_not]; omega
  have HR : Hid (res = false) := by unfold Hid; rw [HI.out]; simp [h1]
  clear h1 HI
  go_enter Tryz.func229, Tryz.ntmps229
  go_wp2
  go_ret
  exact ⟨ret_bool (by rw [HR.out]), below_laid⟩
end Go.Proofs.YtopoefcklipaeaaGreatDoor
namespace Go.Proofs.YtopoefcklipaeaaGreatDoor
open Go.RowKit
def homD (L : LayD) (g i : Nat) : List Int := (List.range i).map fun (j : Nat) => (homeL L g j).disk
theorem homD_succ (L : LayD) (g i : Nat) : homD L g (i + 1) = homD L g i ++ [(hdisk L g i : Int)] := by
 unfold homD
 rw [List.range_succ, List.map_append]
 rfl
theorem disks_len (L : LayD) (ms : List Mv) (g : Int) : (disksL L ms g).length = L.w := by simp [disksL]
set_option maxHeartbeats 8000000 in
set_option maxRecDepth 100000 in
theorem sdisks_any {L : LayD} {A Am : Option Addr} {B c cm : Nat} {ms : List Mv} (g : Nat) (w : World) (hx : LayX L) (hv : GsV w B A L.gs) (hM : MvS w B Am ms) (hB : B ≤ w.heap.size) (hlen : ms.length ≤ 100000) (hs : ms.Pairwise ltM) (his : ∀ m ∈ ms, isP L m.g m.p = true) (hg : g < L.G) :
    Calls Tryz.prog 237 #[.agg (staC L A c Am ms.length cm), .int .i64 (g : Int)] w fun r w' => (∃ v, r = .returned v ∧ OwS w' w.heap.size 3 1 v ((disksL L ms g).map icell)) ∧ Below w.heap.size w w' := by
  have HV := Lib.hid hv
  have HM := Lib.hid hM
  have HIS := Lib.hid his
  have HCW := Lib.hid (fun W hv hB => swidth_any (L := L) (A := A) (Am := Am) (B := B) (c := c) (nm := ms.length) (cm := cm) W hx hv hB)
  have HBS := Lib.hid (fun W hM hB => bsearch_any (Am := Am) (B := B) (cm := cm) (ms := ms) (g : Int) 0 W hM hB hlen hs)
  have HD0 := Lib.hid (disks_start (L := L) (ms := ms) (g := (g : Int)) hs (fun m hm => by obtain ⟨a, b, -, h2, -⟩ := isP_nat (his m hm); omega))
  have HDS := Lib.hid (fun k m p hm hg hp => disks_step (L := L) (ms := ms) (g := (g : Int)) (k := k) (m := m) hs hm hg (p := p) hp)
  have HDE := Lib.hid (fun k hk hm => disks_end (L := L) (ms := ms) (g := (g : Int)) (k := k) hs (fun m hm => by obtain ⟨a, b, -, h2, -⟩ := isP_nat (his m hm); omega) hk hm)
  have HPB := Lib.hid (pos_le ms (g : Int) 0)
  unfold memAgg at HBS
  unfold staC at *
  obtain ⟨row, hrow, hlw, -, hlt⟩ := row_of hx.ok g
  have HHD := Lib.hid (fun p => hdisk_at (p := p) hrow hlw (by have := hx.ok.w.1; omega))
  have hw16 := hx.ok.w
  have hn1 := hx.ok.n
  have hn0 : ¬ L.n = 0 := by omega
  have hn0' : ¬ (L.n : Int) = 0 := by omega
  have hw0 : ¬ L.w = 0 := by omega
  have hw0' : ¬ (L.w : Int) = 0 := by omega
  have hgn : g % L.n < L.n := Nat.mod_lt _ (by omega)
  have hq1 := tdiv_nat g L.n
  have hq2 := tmod_nat g L.n
  have hgI : (g : Int) ≤ 5000 := by have := hx.ok.G; omega
  have htb : g / L.n ≤ 5000 := Nat.le_trans (Nat.div_le_self _ _) (by omega)
  generalize ht : g / L.n = t at *
  generalize hgg : g % L.n = gg at *
  have HRW := Lib.hid hrow
  have HLW := Lib.hid hlw
  have HLT := Lib.hid hlt
  have hw2 : IntKind.i64.wrap (t : Int) = (t : Int) := IntWalk.i64_in _ (by omega)
  have hw3 : IntKind.i64.wrap (gg : Int) = (gg : Int) := IntWalk.i64_in _ (by omega)
  obtain ⟨b, off, Al, cl, rfl, -, hat⟩ := hv.at_ hrow
  obtain ⟨x0, hx0⟩ := at_some (l := row) (i := 0) (by omega)
  obtain ⟨bl, ol, rfl, -, -⟩ := nints_at (hat w w.heap.size (Below.refl _ _) hB).2 hx0
  have HC : Hid (∀ W, Below w.heap.size w W → W.cell? ⟨b, off + gg, none⟩ = some (.slice (some ⟨bl, ol, none⟩) L.w cl) ∧ ∀ k x : Nat, row[k]? = some x → W.cell? ⟨bl, ol + k, none⟩ = some (.int .i64 (x : Int))) := fun W hW => by
    have r1 := hat W w.heap.size hW hB
    refine ⟨by rw [r1.1, hlw], fun k x hk => ?_⟩
    obtain ⟨_, _, e1, -, s1⟩ := nints_at r1.2 hk
    cases e1
    exact s1
  clear hv hM hs his hrow hlw hlt hat hx0 hx hg ht hgg
  go_enter Tryz.func237, Tryz.ntmps237
  go_wp2_with fail
  have hst := StaB.made w L (some ⟨b, off, none⟩) c Am ms.length cm
  have hb0 : Below w.heap.size w (w.alloc (.cells #[.int .i64 L.disks, .slice (some ⟨b, off, none⟩) L.n c, .int .i64 L.tiles, .int .i64 L.spare, .slice Am ms.length cm, .int .i64 L.homes, .int .i64 L.blocks] 299)) := below_laid
  generalize w.alloc _ = w0 at *
  have s0 := hst.cells
  have r0 := (HC.out w0 hb0).1
  go_quiet (fail)
  generalize hdr : w0.drewN _ = w1
  have HS1 : Hid (StaB w1 w.heap.size L (some ⟨b, off, none⟩) c Am ms.length cm) := by rw [← hdr]; exact hst
  have HB1 : Hid (Below w.heap.size w w1) := by rw [← hdr]; exact below_drewN hb0 _
  clear hdr hst hb0 s0 r0
  have s1 := HS1.out.cells
  go_wp2_with fail
  refine (HCW.out w1 (HV.out.below HB1.out hB) (Nat.le_trans hB HB1.out.size)).mono ?_
  rintro r w2 ⟨rfl, hb2⟩
  have HS2 := Lib.hid (HS1.out.below hb2 HS1.out.lt)
  have HB2 := Lib.hid (HB1.out.trans (hb2.mono HB1.out.size))
  clear hb2 s1 HS1 HB1
  go_wp2
  go_loopw [27, 7, 8] (fun s27 s7 _ wr => ∃ i : Nat, i ≤ L.w ∧ s27 = .int .i64 i ∧ OwS wr (w.heap.size + 1) 3 1 s7 ((homD L g i).map icell) ∧ Below w.heap.size w wr ∧ StaB wr w.heap.size L (some ⟨b, off, none⟩) c Am ms.length cm) (fun s27 _ _ _ => L.w - (intOf s27).toNat)
  case atStart => exact ⟨0, by omega, rfl, OwS.nil _ _ _ _, HB2.out, HS2.out⟩
  case round =>
    clear HB2 HS2
    obtain ⟨i, hi, rfl, hown, hb, hst⟩ := hrel
    obtain ⟨A7, c7, rfl, -, -⟩ := hown.form
    have hhl : (homD L g i).length = i := by simp [homD]
    rw [List.length_map, hhl] at hown ⊢
    have HO := Lib.hid hown
    have HB := Lib.hid hb
    have HS := Lib.hid hst
    have HHL := Lib.hid hhl
    clear hown hhl
    by_cases hiw : i < L.w
    · have hiI : (i : Int) < (L.w : Int) := by omega
      have hd := HHD.out i
      obtain ⟨a, ha⟩ : ∃ a, (i + t) % L.w = a := ⟨_, rfl⟩
      rw [ha] at hd
      have w1 : IntKind.i64.wrap ((i : Int) + (t : Int)) = (i : Int) + (t : Int) := IntWalk.i64_in _ (by omega)
      have w2 : Int.tmod ((i : Int) + (t : Int)) (L.w : Int) = (a : Int) := by rw [← ha]; exact tmod_nat (i + t) L.w
      have hal : a < L.w := by rw [← ha]; exact Nat.mod_lt _ (by omega)
      have HSC := Lib.hid (homD_succ L g i)
      obtain ⟨hdk, hhdk⟩ : ∃ hdk, hdisk L g i = hdk := ⟨_, rfl⟩
      rw [hhdk] at hd HSC
      have HHK := Lib.hid hd
      have HKS : Hid (∀ W, Below wr.heap.size wr W → (W.cell? ⟨w.heap.size, 0, none⟩ = some (.int .i64 (L.disks : Int)) ∧ W.cell? ⟨w.heap.size, 1, none⟩ = some (.slice (some ⟨b, off, none⟩) L.n c) ∧ W.cell? ⟨w.heap.size, 2, none⟩ = some (.int .i64 (L.tiles : Int)) ∧ W.cell? ⟨w.heap.size, 3, none⟩ = some (.int .i64 (L.spare : Int)) ∧ W.cell? ⟨w.heap.size, 4, none⟩ = some (.slice Am ms.length cm) ∧ W.cell? ⟨w.heap.size, 5, none⟩ = some (.int .i64 (L.homes : Int)) ∧ W.cell? ⟨w.heap.size, 6, none⟩ = some (.int .i64 (L.blocks : Int)) ∧ W.cell? ⟨bl, ol + a, none⟩ = some (.int .i64 (hdk : Int)))) := fun W hW => by
        obtain ⟨a0, a1, a2, a3, a4, a5, a6⟩ := (HS.out.below hW HS.out.lt).cells
        exact ⟨a0, a1, a2, a3, a4, a5, a6, (HC.out W (HB.out.trans (hW.mono HB.out.size))).2 a _ hd⟩
      have HKW : Hid (∀ W, Below wr.heap.size wr W → Calls Tryz.prog 240 #[.agg #[.int .i64 (L.disks : Int), .slice (some ⟨b, off, none⟩) L.n c, .int .i64 (L.tiles : Int), .int .i64 (L.spare : Int), .slice Am ms.length cm, .int .i64 (L.homes : Int), .int .i64 (L.blocks : Int)]] W fun r w' => r = .returned (.int .i64 (L.w : Int)) ∧ Below wr.heap.size wr w') := fun W hW =>
        (HCW.out W ((HV.out.below HB.out hB).below hW (Nat.le_trans hB HB.out.size)) (Nat.le_trans hB (Nat.le_trans HB.out.size hW.size))).mono fun r w' h => ⟨h.1, hW.trans (h.2.mono hW.size)⟩
      have hzr : w.heap.size + 1 ≤ wr.heap.size := hst.lt
      clear hb hst ha hd hhdk
      go_upto_region 7 with (fail)
      go_region_held3 (fun W => W.cell? ⟨w.heap.size, 0, none⟩ = some (.int .i64 (L.disks : Int)) ∧ W.cell? ⟨w.heap.size, 1, none⟩ = some (.slice (some ⟨b, off, none⟩) L.n c) ∧ W.cell? ⟨w.heap.size, 2, none⟩ = some (.int .i64 (L.tiles : Int)) ∧ W.cell? ⟨w.heap.size, 3, none⟩ = some (.int .i64 (L.spare : Int)) ∧ W.cell? ⟨w.heap.size, 4, none⟩ = some (.slice Am ms.length cm) ∧ W.cell? ⟨w.heap.size, 5, none⟩ = some (.int .i64 (L.homes : Int)) ∧ W.cell? ⟨w.heap.size, 6, none⟩ = some (.int .i64 (L.blocks : Int)) ∧ W.cell? ⟨bl, ol + a, none⟩ = some (.int .i64 (hdk : Int)))
          (first | exact HKS.out _ hb4 | exact HKS.out _ (Below.refl _ _).drew | exact HKS.out _ (Below.refl _ _) | exact HKS.out _ (hb4.alloc hb4.size _) | exact hs5.out)
          (first
            | (go_at_call 240; ((with_reducible refine (HKW.out _ (by first | exact (Below.refl _ _).drew | exact Below.refl _ _)).mono ?_); rintro r w4 ⟨rfl, hb4⟩))
            | ((refine step_ap1 (by rfl) (.tmp 30) (.tmp 42) _ (by rfl) elemIntS (by rfl) (HO.out.below hb4) (icell (hdk : Int)) _ (by rfl) w4.heap.size (by rfl) (by rfl) (icellOneS _) (by rw [List.length_map, HHL.out]; simp [maxLen]; omega) (by rw [List.length_map, HHL.out]; omega) (Nat.le_trans hzr hb4.size) ?_; intro v5 w5 hown5 hg5 _; have HO3 : Hid (OwS w5 (w.heap.size + 1) 3 1 v5 ((homD L g (i + 1)).map icell)) := (by rw [Hid, HSC.out, List.map_append]; exact hown5); have HBA := ((HB.out.trans (hb4.mono HB.out.size)).alloc (Nat.le_trans HB.out.size hb4.size) (.cells #[.int .i64 (hdk : Int)] 3)); have HB3 : Hid (Below w.heap.size w w5) := HBA.grown hg5 HBA.size (fun q hq => by have := (HO.out.lt hq).1; omega); have HS3 : Hid (StaB w5 w.heap.size L (some ⟨b, off, none⟩) c Am ms.length cm) := ((HS.out.below hb4 HS.out.lt).below below_laid (Nat.lt_of_lt_of_le HS.out.lt hb4.size)).grown ((HO.out.below hb4).alloc _) (by decide) hg5; have hs5 := Lib.hid (show _ ∧ _ ∧ _ ∧ _ ∧ _ ∧ _ ∧ _ ∧ _ from ⟨HS3.out.cells.1, HS3.out.cells.2.1, HS3.out.cells.2.2.1, HS3.out.cells.2.2.2.1, HS3.out.cells.2.2.2.2.1, HS3.out.cells.2.2.2.2.2.1, HS3.out.cells.2.2.2.2.2.2, (HC.out w5 HB3.out).2 a _ HHK.out⟩); clear hg5 hown5 HBA))
            | fail)
      clear HKS HKW HO HB HS
      go_wp2
      go_roundw
      case rel => exact ⟨i + 1, by omega, by go_num, HO3.out, HB3.out, HS3.out⟩
      case measure => simp [intOf] <;> omega
    · have hiI : ¬ (i : Int) < (L.w : Int) := by omega
      have hiw2 : i = L.w := by omega
      have s1 := hst.cells
      have HOW : Hid (OwS wr (w.heap.size + 1) 3 1 (.slice A7 i c7) ((disksL L (ms.take (posM ms (g : Int) 0)) (g : Int)).map icell)) := by
        rw [Hid, HD0.out]
        have := HO.out
        rw [hiw2] at this ⊢
        unfold homD at this
        simpa using this
      have HIW := Lib.hid hiw2
      clear hiw2
      have hsr := HBS.out wr (HM.out.below' hb hB) (Nat.le_trans hB hb.size)
      obtain ⟨pos, hpos⟩ : ∃ pos, posM ms (g : Int) 0 = pos := ⟨_, rfl⟩
      rw [hpos] at hsr HOW HDE HPB
      have HSR := Lib.hid hsr
      clear hsr hpos HO hb hst
      go_wp2_with fail
      refine HSR.out.mono ?_
      rintro r w4 ⟨rfl, hb4⟩
      have HO4 := Lib.hid (HOW.out.below hb4)
      have HB4 := Lib.hid (HB.out.trans (hb4.mono HB.out.size))
      have HS4 := Lib.hid (HS.out.below hb4 HS.out.lt)
      clear hb4 s1 HOW HB HS
      go_wp2
      go_loopw [9] (fun s9 wr => ∃ k : Nat, pos ≤ k ∧ k ≤ ms.length ∧ s9 = .int .i64 k ∧ OwS wr (w.heap.size + 1) 3 1 (.slice A7 i c7) ((disksL L (ms.take k) (g : Int)).map icell) ∧ Below w.heap.size w wr ∧ StaB wr w.heap.size L (some ⟨b, off, none⟩) c Am ms.length cm) (fun s9 _ => ms.length - (intOf s9).toNat)
      case atStart => exact ⟨pos, by omega, HPB.out, rfl, HO4.out, HB4.out, HS4.out⟩
      case round =>
        clear HO4 HB4 HS4
        obtain ⟨k, hk1, hk2, rfl, hown, hb, hst⟩ := hrel
        have HO := Lib.hid hown
        have HB := Lib.hid hb
        have HS := Lib.hid hst
        have s1 := hst.cells
        clear hown hst
        by_cases hkn : k < ms.length
        · have hkI : (k : Int) < (ms.length : Int) := by omega
          have hkD : decide (k < ms.length) = true := by rw [decide_eq_true_iff]; exact hkn
          obtain ⟨m, hm⟩ := at_some hkn
          obtain ⟨b2, off2, rfl, -, q0, q1, q2, q3⟩ := MvS.at_ (HM.out.below' hb hB) hm
          by_cases e1 : m.g = (g : Int)
          · have f1 : (m.g == (g : Int)) = true := by simpa using e1
            obtain ⟨ga, p, -, hp, -, hpl⟩ := isP_nat (HIS.out m (List.mem_of_getElem? hm))
            have HST := Lib.hid (HDS.out k m p hm e1 hp)
            rw [hp] at q1
            have hpw : (p : Int) < (i : Int) := by have := HIW.out; omega
            have hdl := disks_len L (ms.take k) (g : Int)
            obtain ⟨y, hy⟩ := at_some (l := disksL L (ms.take k) (g : Int)) (i := p) (by omega)
            have hr : ((disksL L (ms.take k) (g : Int)).map icell)[p]? = some (icell y) := by rw [List.getElem?_map, hy]; rfl
            obtain ⟨g7, c7', e7, -⟩ := HO.out.pos (by rw [List.length_map, hdl]; omega)
            injection e7 with e7 e8 e9
            subst e7
            have y0 : wr.drew.cell? ⟨g7, p, none⟩ = some (.int .i64 y) := by simpa using HO.out.cell hr (j := 0) rfl
            have y1 : wr.drew.frozen? ⟨g7, p, none⟩ = false := HO.out.frozen p
            have hset := (HO.out.drew.set hr (j := 0) (by omega) (.int .i64 m.to.disk)).1
            simp only [Nat.mul_one, Nat.add_zero] at hset
            have HO2 : Hid (OwS (wr.drew.setCell ⟨g7, p, none⟩ (.int .i64 m.to.disk)) (w.heap.size + 1) 3 1 (.slice (some ⟨g7, 0, none⟩) i c7) ((disksL L (ms.take (k + 1)) (g : Int)).map icell)) := by
              rw [Hid, HST.out, List.map_set]
              exact hset
            have hg7 : w.heap.size + 1 ≤ g7 := (HO.out.lt rfl).1
            have HB2 : Hid (Below w.heap.size w (wr.drew.setCell ⟨g7, p, none⟩ (.int .i64 m.to.disk))) := HB.out.drew.setCell (by show _ ≤ g7; omega) _
            have HS2 : Hid (StaB (wr.drew.setCell ⟨g7, p, none⟩ (.int .i64 m.to.disk)) w.heap.size L (some ⟨b, off, none⟩) c (some ⟨b2, off2, none⟩) ms.length cm) := (heap_setCell_other _ _ _ _ (by show _ ≠ g7; omega)).trans HS.out
            obtain ⟨t0, t1, t2, t3, t4, t5, t6⟩ := s1
            clear hset hr hy HO HB HS hm e8 e9 hdl e1 hp
            go_wp2_with fail
            refine still_tail_drew 15 (by kernel_rfl) (by decide +kernel) ?_
            simp only [List.take_succ_cons, List.take_zero, List.drop_succ_cons, List.drop_zero]
            repeat still_step
            refine wpStill_nil ?_
            go_wp2
            go_roundw
            case rel =>
              first
                | exact ⟨k + 1, by omega, by omega, by go_num, HO2.out, HB2.out, HS2.out⟩
                | (repeat apply Exists.intro
                   apply And.intro
                   case right => (repeat' apply And.intro) <;> rfl
                   case left => exact ⟨k + 1, by omega, by omega, by go_num, HO2.out, HB2.out, HS2.out⟩)
            case measure => simp [intOf] <;> omega
          · have f1 : (m.g == (g : Int)) = false := by simpa using e1
            have HE := Lib.hid (HDE.out k hk1 (fun m' hm' => by rw [hm] at hm'; cases hm'; exact e1))
            clear e1 hm hb
            go_wp2
            go_ret
            exact ⟨⟨_, rfl, by rw [← HE.out]; exact HO.out.mono (Nat.le_succ _)⟩, HB.out⟩
        · have hkI : ¬ (k : Int) < (ms.length : Int) := by omega
          have hkD : decide (k < ms.length) = false := by rw [decide_eq_false_iff_not]; exact hkn
          have HE := Lib.hid (HDE.out k hk1 (fun m' hm' => by rw [List.getElem?_eq_none (by omega)] at hm'; cases hm'))
          clear hb
          go_wp2
          go_ret
          exact ⟨⟨_, rfl, by rw [← HE.out]; exact HO.out.mono (Nat.le_succ _)⟩, HB.out⟩
end Go.Proofs.YtopoefcklipaeaaGreatDoor
namespace Go.Proofs.YtopoefcklipaeaaGreatDoor
open Go.RowKit
theorem compact_len {ts : List Int} (h : ts.Pairwise (· ≤ ·)) : (Lib.compact ts).length = ts.length ↔ ts.Nodup := by
 unfold Lib.compact Lib.compactUpTo
 rw [List.length_map]
 have e : ((List.range ts.length).filter (Lib.keeps ts.toArray)).length = ts.length ↔ ((List.range ts.length).filter (Lib.keeps ts.toArray)).length = (List.range ts.length).length := by rw [List.length_range]
 rw [e, List.length_filter_eq_length_iff]
 have hget : ∀ j (hj : j < ts.length), ts.toArray[j]! = ts[j] := fun j hj => by simp [hj]
 constructor
 ·intro hk
  rw [List.nodup_iff_pairwise_ne, List.pairwise_iff_getElem]
  intro i j hi hj hij
  have h1 := hk j (by simpa using hj)
  unfold Lib.keeps at h1
  rw [decide_eq_true_iff] at h1
  rcases h1 with h1 | h1
  ·omega
  ·rw [hget j hj, hget (j - 1) (by omega)] at h1
   have h2 := List.pairwise_iff_getElem.1 h (j - 1) j (by omega) hj (by omega)
   have h3 : ts[i] ≤ ts[j - 1] := by
    by_cases e : i = j - 1
    ·subst e; exact Int.le_refl _
    ·exact List.pairwise_iff_getElem.1 h i (j - 1) hi (by omega) (by omega)
   omega
 ·intro hn j hj
  rw [List.mem_range] at hj
  unfold Lib.keeps
  rw [decide_eq_true_iff]
  by_cases h0 : j = 0
  ·exact .inl h0
  ·refine .inr ?_
   rw [hget j hj, hget (j - 1) (by omega)]
   rw [List.nodup_iff_pairwise_ne, List.pairwise_iff_getElem] at hn
   exact (hn (j - 1) j (by omega) hj (by omega)).symm
section
open Go.Sort
theorem compactS (ks : List Int) (v : Value) (base : Nat) (w : World) (h : OwS w base 3 1 v (ks.map icell)) (hn : ks.length ≤ 1000000) (h0 : 0 < ks.length) :
  Calls Tryz.prog 239 #[v] w fun e w' => (∃ A c, e = .returned (.slice A (Lib.compact ks).length c)) ∧ w.grownBy w' v.ownBlock := by
 rcases h.2.2 with ⟨rfl, h1⟩ | ⟨g, cap, cur, rfl, hb, hh, hnc, hcm, hsz, ht⟩
 ·have hk : ks = [] := by cases ks with | nil => rfl | cons => simp at h1
  subst hk
  simp at h0
 ·rw [List.length_map] at hnc ⊢
  have hfl : (ks.map icell).flatten = ks.map (Value.int .i64) := by
   clear h ht hnc hsz hn h0
   induction ks with
   | nil => rfl
   | cons x xs ih => simp [icell] at ih ⊢; exact ih
  rw [hfl, List.length_map, Nat.mul_one] at ht
  refine (Tryz.slices_Compact_int g 0 cap ks w (holds_of_blockI hh ht) (by omega) hnc).mono ?_
  rintro e w' ⟨rfl, n, rfl⟩
  have hg := grownBy_sortedI (w := w) (g := g) (n := n) (os := #[]) (Lib.compact ks ++ List.replicate (ks.length - (Lib.compact ks).length) 0).toArray
  rw [Sort.grow_empty] at hg
  exact ⟨⟨_, _, rfl⟩, hg⟩
end
set_option maxHeartbeats 4000000 in
set_option maxRecDepth 100000 in
theorem sapart_any {L : LayD} {A Am : Option Addr} {B c cm : Nat} {ms : List Mv} (g : Nat) (w : World) (hx : LayX L) (hv : GsV w B A L.gs) (hM : MvS w B Am ms) (hB : B ≤ w.heap.size) (hlen : ms.length ≤ 100000) (hs : ms.Pairwise ltM) (his : ∀ m ∈ ms, isP L m.g m.p = true) (hg : g < L.G) :
  Calls Tryz.prog 163 #[.agg (staC L A c Am ms.length cm), .int .i64 (g : Int)] w fun r w' => r = .returned (.bool (apartL L ms g)) ∧ Below w.heap.size w w' := by
 have HV := Lib.hid hv
 have HM := Lib.hid hM
 have HCD := Lib.hid (fun W hv hM hB => sdisks_any (L := L) (A := A) (Am := Am) (B := B) (c := c) (cm := cm) (ms := ms) g W hx hv hM hB hlen hs his hg)
 have HCW := Lib.hid (fun W hv hB => swidth_any (L := L) (A := A) (Am := Am) (B := B) (c := c) (nm := ms.length) (cm := cm) W hx hv hB)
 have HDL := Lib.hid (disks_len L ms (g : Int))
 have HAP := Lib.hid (apart_nodup (L := L) (ms := ms) (g := (g : Int)))
 have hw16 := hx.ok.w
 unfold staC at *
 obtain ⟨res, hres⟩ : ∃ res, apartL L ms g = res := ⟨_, rfl⟩
 rw [hres] at HAP ⊢
 clear hv hM hs his hres
 go_enter Tryz.func163, Tryz.ntmps163
 go_wp2_with fail
 have hst := StaB.made w L A c Am ms.length cm
 have hb0 : Below w.heap.size w (w.alloc (.cells #[.int .i64 L.disks, .slice A L.n c, .int .i64 L.tiles, .int .i64 L.spare, .slice Am ms.length cm, .int .i64 L.homes, .int .i64 L.blocks] 299)) := below_laid
 generalize w.alloc _ = w0 at *
 refine (HCD.out w0 (HV.out.below hb0 hB) (HM.out.below' hb0 hB) (Nat.le_trans hB hb0.size)).mono ?_
 rintro r w1 ⟨⟨v, rfl, hown⟩, hb1⟩
 have HS1 := Lib.hid (hst.below hb1 hst.lt)
 have HB1 := Lib.hid (hb0.trans (hb1.mono hb0.size))
 have HZ0 := Lib.hid hst.lt
 generalize disksL L ms g = ds at *
 have hso := sortS ds v w0.heap.size w1 hown (by rw [HDL.out]; omega)
 have HO1 := Lib.hid hown
 have HSO := Lib.hid hso
 clear hown hso hst hb0 hb1
 go_wp2_with fail
 refine HSO.out.mono ?_
 rintro r w2 ⟨rfl, ts, hp, hpw, hown2, hg2⟩
 have HS2 := Lib.hid (HS1.out.grown HO1.out (by decide) hg2)
 have HB2 : Hid (Below w.heap.size w w2) := HB1.out.grown hg2 HB1.out.size (fun q hq => by have := (HO1.out.lt hq).1; have := HZ0.out; omega)
 have htl : ts.length = L.w := by rw [hp.length_eq, HDL.out]
 obtain ⟨Ac, cc, hvv, -, -⟩ := hown2.form
 rw [List.length_map] at hvv
 have HB2' := Lib.hid HB2.out
 subst hvv
 have HCO := Lib.hid (fun W (ho : OwS W w0.heap.size 3 1 (.slice Ac ts.length cc) (ts.map icell)) => compactS ts (.slice Ac ts.length cc) w0.heap.size W ho (by omega) (by omega))
 have HR : Hid (((Lib.compact ts).length == L.w) = res) := by
  have h1 := compact_len hpw
  rw [htl, hp.nodup_iff] at h1
  cases hres2 : res
  ·rw [Hid, beq_eq_false_iff_ne]
   intro e
   rw [HAP.out.2 (h1.1 e)] at hres2
   cases hres2
  ·rw [Hid, beq_iff_eq]
   exact h1.2 (HAP.out.1 hres2)
 have HO2 := Lib.hid hown2
 clear HB2'
 generalize (Lib.compact ts).length = cl at *
 have HKS : Hid (∀ W, StaB W w.heap.size L A c Am ms.length cm → (W.cell? ⟨w.heap.size, 0, none⟩ = some (.int .i64 (L.disks : Int)) ∧ W.cell? ⟨w.heap.size, 1, none⟩ = some (.slice A L.n c) ∧ W.cell? ⟨w.heap.size, 2, none⟩ = some (.int .i64 (L.tiles : Int)) ∧ W.cell? ⟨w.heap.size, 3, none⟩ = some (.int .i64 (L.spare : Int)) ∧ W.cell? ⟨w.heap.size, 4, none⟩ = some (.slice Am ms.length cm) ∧ W.cell? ⟨w.heap.size, 5, none⟩ = some (.int .i64 (L.homes : Int)) ∧ W.cell? ⟨w.heap.size, 6, none⟩ = some (.int .i64 (L.blocks : Int)))) := fun W h => h.cells
 clear hp hpw hown2 hg2 htl
 go_upto_region 3 with (fail)
 go_region_held3 (fun W => W.cell? ⟨w.heap.size, 0, none⟩ = some (.int .i64 (L.disks : Int)) ∧ W.cell? ⟨w.heap.size, 1, none⟩ = some (.slice A L.n c) ∧ W.cell? ⟨w.heap.size, 2, none⟩ = some (.int .i64 (L.tiles : Int)) ∧ W.cell? ⟨w.heap.size, 3, none⟩ = some (.int .i64 (L.spare : Int)) ∧ W.cell? ⟨w.heap.size, 4, none⟩ = some (.slice Am ms.length cm) ∧ W.cell? ⟨w.heap.size, 5, none⟩ = some (.int .i64 (L.homes : Int)) ∧ W.cell? ⟨w.heap.size, 6, none⟩ = some (.int .i64 (L.blocks : Int)))
  (first | exact HKS.out _ hs5.out | exact HKS.out _ HS2.out)
  (first
   | (go_at_call 239; first | ((with_reducible refine (HCO.out _ (OwS.drew HO2.out)).mono ?_); rintro r w5 ⟨⟨A5, c5, rfl⟩, hg5⟩; have hs5 := Lib.hid (StaB.grown (show StaB w2.drew w.heap.size L A c Am ms.length cm from HS2.out) (OwS.drew HO2.out) (by decide) hg5); have hb5 : Below w.heap.size w w5 := HB2.out.drew.grown hg5 HB2.out.size (fun q hq => by have := (HO2.out.lt hq).1; have := HZ0.out; omega)))
   | (go_at_call 240; first | ((with_reducible refine (HCW.out _ (HV.out.below hb5 hB) (Nat.le_trans hB hb5.size)).mono ?_); rintro r w6 ⟨rfl, hb6⟩; have hs5 := Lib.hid (hs5.out.below hb6 hs5.out.lt); have hb7 : Below w.heap.size w w6 := hb5.trans (hb6.mono hb5.size)))
   | fail)
 go_wp2
 go_ret
 exact ⟨ret_bool (by rw [← HR.out, Bool.eq_iff_iff]; simp only [beq_iff_eq]; omega), hb7⟩
end Go.Proofs.YtopoefcklipaeaaGreatDoor
namespace Go.Proofs.YtopoefcklipaeaaGreatDoor
open Go.RowKit
open Go.Maps (Keyed)
structure Codec (α : Type) where
 R : Value → Option (DataW Unit × List MemPlace)
 val : α → Value
 dat : α → DataW Unit
 zero : α
 rval : ∀ a, R (val a) = some (dat a, [])
 inv : ∀ v a ps, R v = some (dat a, ps) → v = val a
def ptrV : Option (Nat × Nat) → Value
 | none => .pointer none
 | some (b, o) => .pointer (some ⟨b, o, none⟩)
def ptrD : Option (Nat × Nat) → DataW Unit
 | none => .nil
 | some (b, o) => .agg [.lit (.int .i64 b), .lit (.int .i64 o)]
def ptrR : Value → Option (DataW Unit × List MemPlace)
 | .pointer none => some (.nil, [])
 | .pointer (some ⟨b, o, none⟩) => some (.agg [.lit (.int .i64 b), .lit (.int .i64 o)], [])
 | _ => none
def ptrC : Codec (Option (Nat × Nat)) where
 R := ptrR
 val := ptrV
 dat := ptrD
 zero := none
 rval a := by rcases a with _ | ⟨b, o⟩ <;> rfl
 inv v a ps h := by
  unfold ptrR at h
  split at h
  ·rcases a with _ | ⟨b, o⟩
   ·rfl
   ·simp [ptrD] at h
  ·rcases a with _ | ⟨b', o'⟩
   ·simp [ptrD] at h
   ·simp [ptrD] at h
    obtain ⟨⟨h1, h2⟩, _⟩ := h
    obtain rfl := Int.ofNat_inj.1 h1
    obtain rfl := Int.ofNat_inj.1 h2
    rfl
  ·cases h
def boolR : Value → Option (DataW Unit × List MemPlace)
 | .bool x => some (.lit (.bool x), [])
 | _ => none
def boolC : Codec Bool where
 R := boolR
 val := .bool
 dat x := .lit (.bool x)
 zero := false
 rval a := rfl
 inv v a ps h := by
  unfold boolR at h
  split at h
  ·simp at h; rw [h.1]
  ·cases h
section
variable {α : Type} {C : Codec α} {P : Program} {k : TypeId} {w w' : World} {b n : Nat} {f : Lit → α}
def updK (f : Lit → α) (kl : Lit) (a : α) : Lit → α := fun x => if x.sameKey kl then a else f x
def MapG (C : Codec α) (w : World) (P : Program) (k : TypeId) (b n : Nat) (f : Lit → α) : Prop :=
 ∃ D, w.ownsMap P k C.R b n D ∧ Maps.IsMap D ∧ ∀ kl, WideAt.IsKeyLit kl → D.atKey kl (C.dat C.zero) = C.dat (f kl)
theorem MapG.made (w : World) (P : Program) (k : TypeId) : MapG C (w.alloc (.map #[] 0)) P k w.heap.size 0 (fun _ => C.zero) :=
 ⟨.map [], World.ownsMap_made w P k C.R, Maps.isMap_empty, fun _ _ => rfl⟩
theorem MapG.lt (h : MapG C w P k b n f) : b < w.heap.size := by obtain ⟨D, h1, _⟩ := h; exact h1.lt
theorem MapG.kept (h : MapG C w P k b n f) {row : Option Nat} (hg : w.grownBy w' row) (hne : some b ≠ row) : MapG C w' P k b n f := by
 obtain ⟨D, h1, h2⟩ := h; exact ⟨D, h1.kept hg hne, h2⟩
theorem MapG.alloc (h : MapG C w P k b n f) (o : Obj) : MapG C (w.alloc o) P k b n f := by
 obtain ⟨D, h1, h2⟩ := h; exact ⟨D, h1.alloc o, h2⟩
theorem MapG.below (h : MapG C w P k b n f) (hb : Below w.heap.size w w') : MapG C w' P k b n f :=
 h.kept (row := none) ⟨hb.os, hb.tape, hb.output, hb.size, fun k hk _ => hb.block k hk⟩ (by simp)
theorem MapG.block (h : MapG C w P k b n f) (hb : w'.heap[b]? = w.heap[b]?) : MapG C w' P k b n f := by
 obtain ⟨D, ⟨es, clock, h0, h1⟩, h2⟩ := h
 exact ⟨D, ⟨es, clock, hb.trans h0, h1⟩, h2⟩
theorem MapG.look (h : MapG C w P k b n f) {t e : TypeId} (K : Keyed P k) (ht : P.underlying t = some (.map k e)) (hz : (zeroValue e).run P w = .ok (C.val C.zero) w)
  {key : Value} {kl : Lit} (hkey : keyOf P k key = some kl) (hk : WideAt.IsKeyLit kl) : (Instr.lookup t (.map (some b)) key false).run P w = .ok (C.val (f kl)) w := by
 obtain ⟨D, h1, _, h3⟩ := h
 obtain ⟨v, ps, hrun, hv⟩ := h1.lookup K ht hz (C.rval C.zero) hkey
 rw [h3 kl hk] at hv
 rw [hrun, C.inv v (f kl) ps hv]
theorem MapG.put {D : DataW Unit} {kl : Lit} {a : α} (hkl : WideAt.IsKeyLit kl) (h1 : w.ownsMap P k C.R b n (D.put kl (C.dat a))) (h2 : Maps.IsMap D) (h3 : ∀ kl, WideAt.IsKeyLit kl → D.atKey kl (C.dat C.zero) = C.dat (f kl)) :
  MapG C w P k b n (updK f kl a) := by
 refine ⟨_, h1, h2.put _ _, fun x hx => ?_⟩
 by_cases hxk : x = kl
 ·subst hxk
  rw [Maps.atKey_put_same h2 hx, updK, WideAt.sameKey_self hx]
  rfl
 ·rw [Maps.atKey_put_other hxk, h3 x hx, updK, Maps.sameKey_ne hxk]
  rfl
end
end Go.Proofs.YtopoefcklipaeaaGreatDoor
namespace Go.Proofs.YtopoefcklipaeaaGreatDoor
open Go.RowKit
open Go.Maps (Keyed)
theorem length_le_of_sub {α : Type} [DecidableEq α] : ∀ (l L : List α), l.Nodup → (∀ x ∈ l, x ∈ L) → l.length ≤ L.length := by
 intro l
 induction l with
 | nil => intro L _ _; simp
 | cons a l ih =>
  intro L hn h
  obtain ⟨h1, h2⟩ := List.nodup_cons.1 hn
  have := ih (L.erase a) h2 fun x hx => (List.mem_erase_of_ne (fun e => h1 (by rw [← e]; exact hx))).2 (h x (by simp [hx]))
  rw [List.length_erase_of_mem (h a (by simp))] at this
  have hp : 0 < L.length := List.length_pos_of_mem (h a (by simp))
  simp
  omega
section
variable {P : Program} {k : TypeId} {w w' : World} {b : Nat} {L : List Lit} {f : Lit → Bool}
def MapS (w : World) (P : Program) (k : TypeId) (b : Nat) (L : List Lit) (f : Lit → Bool) : Prop :=
 ∃ D, w.ownsMap P k boolC.R b L.length D ∧ Maps.IsMap D ∧ (∀ kl, WideAt.IsKeyLit kl → D.atKey kl (boolC.dat boolC.zero) = boolC.dat (f kl)) ∧ ∀ es, D = .map es → ∀ p ∈ es, p.1 ∈ L
theorem MapS.made (w : World) (P : Program) (k : TypeId) (L : List Lit) : MapS (w.alloc (.map #[] 0)) P k w.heap.size L (fun _ => false) :=
 ⟨.map [], (World.ownsMap_made w P k boolC.R).mono (Nat.zero_le _), Maps.isMap_empty, fun _ _ => rfl, fun es he p hp => by cases he; cases hp⟩
theorem MapS.lt (h : MapS w P k b L f) : b < w.heap.size := by obtain ⟨D, h1, _⟩ := h; exact h1.lt
theorem MapS.g (h : MapS w P k b L f) : MapG boolC w P k b L.length f := by obtain ⟨D, h1, h2, h3, -⟩ := h; exact ⟨D, h1, h2, h3⟩
theorem MapS.block (h : MapS w P k b L f) (hb : w'.heap[b]? = w.heap[b]?) : MapS w' P k b L f := by
 obtain ⟨D, ⟨es, clock, h0, h1⟩, h2⟩ := h
 exact ⟨D, ⟨es, clock, hb.trans h0, h1⟩, h2⟩
theorem MapS.alloc (h : MapS w P k b L f) (o : Obj) : MapS (w.alloc o) P k b L f := h.block (Below.heap_alloc _ _ _ h.lt)
theorem MapS.below (h : MapS w P k b L f) (hb : Below w.heap.size w w') : MapS w' P k b L f := h.block (hb.block b h.lt)
theorem MapS.at_ (h : MapS w P k b L f) : ∃ o, w.heap[b]? = some o ∧ ∀ cur e fz, o ≠ .cells cur e fz := by
 obtain ⟨D, ⟨es, clock, h0, h1⟩, h2⟩ := h
 exact ⟨_, h0, fun _ _ _ h => by cases h⟩
theorem keys_put {D : DataW Unit} {es : List (Lit × DataW Unit)} (he : D = .map es) {kl : Lit} {d : DataW Unit} (hk : kl ∈ L) (h : ∀ p ∈ es, p.1 ∈ L) : ∀ es', D.put kl d = .map es' → ∀ p ∈ es', p.1 ∈ L := by
 subst he
 intro es' he' p hp
 simp only [DataW.put, DataW.map.injEq] at he'
 subst he'
 rcases Go.ChangeMaps.mem_insert_iff.1 hp with rfl | hp
 ·exact hk
 ·exact h p (List.mem_filter.1 hp).1
theorem MapS.put {D : DataW Unit} {es : List (Lit × DataW Unit)} {kl : Lit} {a : Bool} (K : Keyed P k) (hkl : WideAt.IsKeyLit kl) (hkL : kl ∈ L) (h1 : w.ownsMap P k boolC.R b (L.length + 1) (D.put kl (boolC.dat a))) (h2 : D = .map es)
  (h3 : ∀ kl, WideAt.IsKeyLit kl → D.atKey kl (boolC.dat boolC.zero) = boolC.dat (f kl)) (h4 : ∀ p ∈ es, p.1 ∈ L) : MapS w P k b L (updK f kl a) := by
 have hT := h1.tidy K
 have hk := keys_put (D := D) (d := boolC.dat a) h2 hkL h4
 have hM : Maps.IsMap D := ⟨es, h2⟩
 refine ⟨_, ?_, hM.put _ _, fun x hx => ?_, hk⟩
 ·obtain ⟨m, clock, g1, g2, g3, g4⟩ := h1
  refine ⟨m, clock, g1, g2, ?_, g4⟩
  obtain ⟨es', e1, e2⟩ := hT
  have e3 : es'.length = m.size := by
   rw [e1] at g4
   injection g4 with g4
   rw [g4, length_read]
  rw [← e3, ← List.length_map (f := Prod.fst)]
  haveI : DecidableEq Lit := fun a b => Classical.propDecidable (a = b)
  refine length_le_of_sub _ _ (List.pairwise_map.2 e2) fun x hx => ?_
  obtain ⟨p, hp, rfl⟩ := List.mem_map.1 hx
  exact hk es' e1 p hp
 ·by_cases hxk : x = kl
  ·subst hxk
   rw [Maps.atKey_put_same hM hx, updK, WideAt.sameKey_self hx]
   rfl
  ·rw [Maps.atKey_put_other hxk, h3 x hx, updK, Maps.sameKey_ne hxk]
   rfl
theorem wpList_putS {ops : Array Oper} {rest : List Oper} {o : Oper} {a : Act} {Q : Exit → Act → World → Prop} (hg : o.guard = none) (m x v : Operand) (t : TypeId) (hop : o.op = Op.mapUpdate t m x v)
  {e : TypeId} (K : Keyed P k) (ht : P.underlying t = some (.map k e)) (hm : a.eval m = .map (some b)) (h : MapS w P k b L f) (hn : L.length < maxLen) (key : Value) (kl : Lit) (hx : a.eval x = key) (hkey : keyOf P k key = some kl) (hkl : WideAt.IsKeyLit kl) (hkL : kl ∈ L)
  (y : Bool) (hv : a.eval v = .bool y)
  (hK : ∀ w', MapS w' P k b L (updK f kl y) → w.grownBy w' (some b) → wpList P ops Q rest (a.put o.dst undef) w') : wpList P ops Q (o :: rest) a w := by
 obtain ⟨D, h1, ⟨es, h2⟩, h3, h4⟩ := h
 exact wpList_mapUpdate_own w hg m x v t hop k e K ht boolC.R b L.length D hm h1 hn key _ kl hx hv hkey (boolC.dat y) [] (boolC.rval y) fun w' h1' hg' => hK w' (MapS.put K hkl hkL h1' h2 h3 (h4 es h2)) hg'
end
/-! ### the keys -/
theorem laidOutK : laidOutB Tryz.prog = true := by kernel_rfl
theorem zeroBoolK (w : World) : (zeroValue 4).run Tryz.prog w = .ok (.bool false) w := by kernel_rfl
def pKey (r v : Int) : Lit := .string (keyBytes [.int .i64 r, .int .i64 v])
theorem pKey_lit (r v : Int) : WideAt.IsKeyLit (pKey r v) := trivial
theorem cellsIntK : Tryz.prog.cellsOf 3 = 1 := by kernel_rfl
theorem rowPl : (194 : TypeId) < Tryz.prog.types.size := of_decide_eq_true (by kernel_rfl)
theorem widePl : (match Tryz.prog.underlying 194 with | some (.array _ _) | some (.struct _) => true | _ => false) = true := by rw [Tryz.underlying194]
set_option maxRecDepth 1000000 in
theorem lawPl : WideMaps.KeyLaw Tryz.prog 194 := deep_law_laid laidOutK (m := 2) (by omega) rowPl (by kernel_rfl) widePl
theorem keyedPl : Maps.Keyed Tryz.prog 194 := Maps.Keyed.of_law lawPl
theorem cellsPl : Tryz.prog.cellsOf 194 = 2 := by kernel_rfl
theorem keyLits_pl (d : Nat) (r v : Int) (hr : (Lit.int .i64 r).wf = true) (hv : (Lit.int .i64 v).wf = true) : Tryz.prog.keyLits (d + 2) 194 [.int .i64 r, .int .i64 v] = some [.int .i64 r, .int .i64 v] := by
 simp [Program.keyLits, Tryz.underlying194, Tryz.underlying3, cellsPl, cellsIntK, hr, hv]
theorem keyOf_pl (r v : Int) (hr : (Lit.int .i64 r).wf = true) (hv : (Lit.int .i64 v).wf = true) : keyOf Tryz.prog 194 (.agg #[.int .i64 r, .int .i64 v]) = some (pKey r v) := by
 have hs : ∃ d, Tryz.prog.types.size + 1 = d + 2 := ⟨Tryz.prog.types.size - 1, by have h : (194 : Nat) < Tryz.prog.types.size := rowPl; omega⟩
 obtain ⟨d, hs⟩ := hs
 have hk : Tryz.prog.keyType 194 = true := by kernel_rfl
 have hf : (Value.agg #[.int .i64 r, .int .i64 v]).formed Tryz.prog 194 = true := by simp [Value.formed, Tryz.underlying194, cellsPl]
 have hl := keyLits_pl d r v hr hv
 unfold keyOf
 rw [Tryz.underlying194]
 simp only [hk, hf, Bool.and_self, if_true, hs]
 simp [Value.cells, hl, pKey]
theorem pKey_inj {r v r' v' : Int} (hr : (Lit.int .i64 r).wf = true) (hv : (Lit.int .i64 v).wf = true) (hr' : (Lit.int .i64 r').wf = true) (hv' : (Lit.int .i64 v').wf = true) (h : pKey r v = pKey r' v') : r = r' ∧ v = v' := by
 have := lawPl.inj (keyOf_pl r v hr hv) (by rw [h]; exact keyOf_pl r' v' hr' hv')
 simpa using this
end Go.Proofs.YtopoefcklipaeaaGreatDoor
