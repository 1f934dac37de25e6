/- slices.SortFunc at pieces (layout.Member), by their group: the kit's contract at spare.OnDisk's closure.
Walks: the place of an element (slices.Index), the piece at a home (layout's numbers).
Walk of layout.OnDisk: the pieces whose homes lie on a disk.
Walk of spare.OnDisk.
What spare.OnDisk lists is what tegularef22.On lists. Plain: no program is walked here. -/
import Derived.Test.YteglnekkkhpikaaGreatGTqr
import Derived.Test.YteglnekkkhpikaaGreatSfn
import Derived.Test.YteglnekkkhpikaaGreatGTuv
namespace Go.Proofs.YteglnekkkhpikaaGreat
open Go.RowKit Go.Shelf Go.Lib Go.Sort

def memC (x : Int × Int) : List Value := [.int .i64 x.1, .int .i64 x.2]
theorem memC_len (x : Int × Int) : (memC x).length = 2 := rfl
def cmpM (x y : Int × Int) : Int := cmp3 x.1 y.1
theorem lt_mem (x y : Int × Int) : ltOf cmpM x y = decide (x.1 < y.1) := by
  unfold ltOf cmpM cmp3
  by_cases h1 : x.1 < y.1
  · simp [h1]
  · by_cases h2 : y.1 < x.1 <;> simp [h1, h2]
theorem swo_mem : SWO (ltOf cmpM) where
  irrefl x := by rw [lt_mem]; simp
  trans x y z h1 h2 := by rw [lt_mem] at *; simp at *; omega
  ntrans x y z h1 h2 := by rw [lt_mem] at *; simp at *; omega
theorem flat_mem (d : List (Int × Int)) : (flatK memC 2 d.toArray).toList = (d.map memC).flatten := by
  have hs : ∀ r ∈ d.map memC, r.length = 2 := fun r hr => by obtain ⟨x, -, rfl⟩ := List.mem_map.1 hr; rfl
  apply List.ext_getElem?
  intro t
  by_cases ht : t < d.length * 2
  · have hi : t / 2 < d.length := by omega
    have hm : t % 2 < 2 := Nat.mod_lt _ (by omega)
    have hr : (d.map memC)[t / 2]? = some (memC d[t / 2]) := by rw [List.getElem?_map, List.getElem?_eq_getElem hi]; rfl
    obtain ⟨v, hv⟩ : ∃ v, (memC d[t / 2])[t % 2]? = some v := ⟨_, List.getElem?_eq_getElem (show t % 2 < (memC d[t / 2]).length from hm)⟩
    have h2 := flatten_get hs _ _ hr _ _ hv
    rw [show t / 2 * 2 + t % 2 = t by omega] at h2
    rw [h2, Array.getElem?_toList]
    have hsz : t < (flatK memC 2 d.toArray).size := by simp; exact ht
    rw [Array.getElem?_eq_getElem hsz]
    have h3 := get_flatK memC 2 d.toArray t (by simpa using ht)
    rw [getElem!_pos (flatK memC 2 d.toArray) t hsz] at h3
    rw [h3]
    have h4 : d.toArray[t / 2]! = d[t / 2] := by rw [getElem!_pos d.toArray (t / 2) (by simpa using hi)]; simp
    rw [h4]
    obtain ⟨hl, hv2⟩ := List.getElem?_eq_some_iff.1 hv
    rw [getElem!_pos (memC d[t / 2]) (t % 2) hl, hv2]
  · rw [List.getElem?_eq_none (by simp; omega), List.getElem?_eq_none (by rw [flatten_length hs]; simp; omega)]
theorem holds_id {w : World} {g : Nat} {cur : Array Value} {e : TypeId} {F : Array Value} (hb : w.heap[g]? = some (.cells cur e (0, 0))) (ht : cur.toList.take F.size = F.toList) : Holds id w g 0 F := by
  intro j hj
  refine ⟨?_, by simp [World.frozen?, hb]⟩
  have h1 : (cur.toList.take F.size)[j]? = F.toList[j]? := by rw [ht]
  rw [List.getElem?_take_of_lt hj] at h1
  simp only [World.cell?, hb, Nat.zero_add]
  simp only [Option.isSome_none, Bool.false_eq_true, if_false]
  rw [← Array.getElem?_toList, h1]
  simp [hj]
theorem heap_id {w : World} {g n : Nat} {os : Array Obj} {cur : Array Value} {e : TypeId} {fr : Nat × Nat} (d : Array Value) (hb : w.heap[g]? = some (.cells cur e fr)) :
    (grow (putRow id (Sort.ahead w n) g 0 d) os).heap[g]? = some (.cells (putCells id 0 d cur) e fr) := by
  have hg : g < w.heap.size := (Array.getElem?_eq_some_iff.1 hb).1
  rw [heap_grow_old _ _ (by simpa using hg)]
  simp [putRow, mapBlock, Sort.ahead, Array.getElem?_modify, hb, onCells]
theorem grownBy_id {w : World} {g n : Nat} {os : Array Obj} (d : Array Value) : w.grownBy (grow (putRow id (Sort.ahead w n) g 0 d) os) (some g) := by
  refine ⟨rfl, rfl, rfl, by simp, fun k hk hne => ?_⟩
  rw [heap_grow_old _ _ (by simpa using hk)]
  have : g ≠ k := fun e => hne (by rw [e])
  simp [putRow, mapBlock, Sort.ahead, Array.getElem?_modify, this]
theorem take_id (cur : Array Value) (F : Array Value) (h : F.size ≤ cur.size) : (putCells id 0 F cur).toList.take F.size = F.toList := by
  apply List.ext_getElem?
  intro j
  by_cases hj : j < F.size
  · rw [List.getElem?_take_of_lt hj, Array.getElem?_toList]
    simp [putCells, hj, show j < cur.size by omega]
  · rw [List.getElem?_take_eq_none (by omega), List.getElem?_eq_none (by simp; omega)]
set_option maxHeartbeats 1000000 in
/-- the closure of spare.OnDisk -/
theorem clos_mem (x y : Int × Int) (W : World) : Calls Tryz.prog 61 #[.agg #[.int .i64 x.1, .int .i64 x.2], .agg #[.int .i64 y.1, .int .i64 y.2]] W fun e w' => e = .returned (.int .i64 (cmpM x y)) ∧ ∃ q os', w' = grow (W.drewN q) os' := by
  have hcon := fun W' => compare_any x.1 y.1 W'
  unfold cmpM
  generalize cmp3 x.1 y.1 = r at hcon ⊢
  go_enter Tryz.func61, Tryz.ntmps61
  go_wp2_with fail
  refine (hcon _).mono ?_
  rintro e w' ⟨rfl, rfl⟩
  go_wp2
  go_ret
  exact ⟨rfl, 0, _, by rw [alloc_eq_grow, alloc_eq_grow, grow_grow]; rfl⟩
theorem lays_mem (blk off size : Nat) (w : World) : CmpLays Tryz.prog 61 #[] memC 2 cmpM blk off size w :=
  fun _ _ _ _ x y => clos_mem x y _
theorem isAgg_mem : ∀ w, (isAgg 78).run Tryz.prog w = .ok true w := Tryz.isAgg78
theorem sizeOf_mem : ∀ w, (Go.sizeOf 78).run Tryz.prog w = .ok 2 w := Tryz.sizeOf78
set_option maxHeartbeats 1000000 in
/-- the library's SortFunc on pieces of the call's own -/
theorem sortM (ks : List (Int × Int)) (v : Value) (base : Nat) (w : World) (h : OwS w base 78 2 v (ks.map memC)) (hn : ks.length ≤ 1000000) :
    Calls Tryz.prog 60 #[v, .func (.func 61) #[] #[]] w fun e w' => e = .returned (.tuple #[]) ∧ ∃ ts : List (Int × Int), ts.Perm ks ∧ (ts.Pairwise fun a b => ¬ b.1 < a.1) ∧ OwS w' base 78 2 v (ts.map memC) ∧ w.grownBy w' v.ownBlock := by
  rcases h.2.2 with ⟨rfl, h0⟩ | ⟨g, cap, cur, rfl, hb, hh, hnc, hcm, hsz, ht⟩
  · have hk : ks = [] := by
      cases ks with
      | nil => rfl
      | cons => simp at h0
    subst hk
    refine (AnyF.slices_SortFunc_none Tryz.sortMem none 0 _ w).mono ?_
    rintro e w' ⟨rfl, rfl⟩
    exact ⟨rfl, [], List.Perm.refl _, List.Pairwise.nil, h, World.grownBy.refl _ _⟩
  · rw [List.length_map] at hnc ht ⊢
    have hs2 : ∀ (l : List (Int × Int)) r, r ∈ l.map memC → r.length = 2 := fun l r hr => by obtain ⟨x, -, rfl⟩ := List.mem_map.1 hr; rfl
    have hfz : (flatK memC 2 ks.toArray).size = ks.length * 2 := by simp
    have ht2 : cur.toList.take (flatK memC 2 ks.toArray).size = (flatK memC 2 ks.toArray).toList := by rw [hfz, flat_mem]; exact ht
    have hgl : g < w.heap.size := (Array.getElem?_eq_some_iff.1 hh).1
    have hc := AnyQ.slices_SortFunc Tryz.sortMem 2 isAgg_mem sizeOf_mem memC memC_len (fun x v hv => by simp [memC] at hv; rcases hv with rfl | rfl <;> rfl) cmpM swo_mem 61 #[] g 0 cap ks.toArray w (enters_of Tryz.func61 (by kernel_rfl) rfl) (lays_mem g 0 _ w) (holds_id hh ht2) hgl (by simp; omega)
    rw [List.size_toArray] at hc
    refine hc.mono ?_
    rintro e w' ⟨rfl, d', n, os, hp, hs, rfl⟩
    obtain ⟨hp1, -, hp3⟩ := hp
    have hd : d'.size = ks.length := by simpa using hp1
    have hpe : d'.toList.Perm ks := by
      have e1 : (d'.extract 0 ks.length).toList = d'.toList := by rw [← hd]; simp
      have e2 : (ks.toArray.extract 0 ks.length).toList = ks := by simp
      rw [e1, e2] at hp3
      exact hp3
    have hpw : d'.toList.Pairwise fun a b => ¬ b.1 < a.1 := by
      rw [List.pairwise_iff_getElem]
      intro i j hi hj hij
      have hi' : i < d'.size := by simpa using hi
      have hj' : j < d'.size := by simpa using hj
      have := hs i j (Nat.zero_le _) hij (by omega)
      rw [lt_mem, decide_eq_false_iff_not, getElem!_pos d' i hi', getElem!_pos d' j hj'] at this
      simpa using this
    refine ⟨rfl, d'.toList, hpe, hpw, ⟨hs2 _, ?_⟩, grownBy_id _⟩
    have hfz2 : (flatK memC 2 d').size = ks.length * 2 := by simp [hd]
    have hcs : ks.length * 2 ≤ cur.size := by rw [hsz]; exact Nat.mul_le_mul_right 2 hnc
    have hfl := flat_mem d'.toList
    have hda : d'.toList.toArray = d' := by simp
    rw [hda] at hfl
    have hlen : (d'.toList.map memC).length = ks.length := by simp [hd]
    rw [hlen]
    refine ⟨by rw [flatten_length (hs2 _), hlen], .inr ⟨g, cap, _, rfl, hb, heap_id _ hh, hnc, hcm, by simp [putCells, hsz], ?_⟩⟩
    have := take_id cur (flatK memC 2 d') (by rw [hfz2]; exact hcs)
    rw [hfz2, hfl] at this
    exact this
end Go.Proofs.YteglnekkkhpikaaGreat
namespace Go.Proofs.YteglnekkkhpikaaGreat
open Go.RowKit

set_option maxHeartbeats 1000000 in
theorem idx_first {A : Option Addr} {B c k : Nat} {l : List Int} (x : Int) (w : World) (hl : IntS w B A l) (hlen : l.length ≤ 100000) (hk : l[k]? = some x) (hno : ∀ j : Nat, j < k → l[j]? ≠ some x) :
    Calls Tryz.prog 95 #[.slice A l.length c, .int .i64 x] w fun r w' => r = .returned (.int .i64 (k : Int)) ∧ Below w.heap.size w w' := by
  have HL := Lib.hid hl
  have HNO := Lib.hid hno
  have hkl := (List.getElem?_eq_some_iff.1 hk).1
  clear hl hno
  go_enter Tryz.func95, Tryz.ntmps95
  go_wp2
  go_loopw [8, 5] (fun s8 _ wr => ∃ i : Nat, i ≤ k ∧ s8 = .int .i64 i ∧ wr = w) (fun s8 _ _ => l.length - (intOf s8).toNat)
  case atStart => exact ⟨0, by omega, rfl, rfl⟩
  case round =>
    obtain ⟨i, hi, rfl, rfl⟩ := hrel
    have hiI : (i : Int) < (l.length : Int) := by omega
    obtain ⟨b, off, y, rfl, -, hy, q0⟩ := IntS.at_ HL.out (k := i) (by omega)
    by_cases e1 : x = y
    · have hik : i = k := by
        rcases Nat.lt_or_eq_of_le hi with h | h
        · exact absurd (by rw [hy, e1]) (HNO.out i h)
        · exact h
      subst hik
      have f1 : (x == y) = true := by simpa using e1
      clear e1 hy hk
      go_wp2
      go_ret
      exact ⟨rfl, Below.refl _ _⟩
    · have f1 : (x == y) = false := by simpa using e1
      have hik : i < k := by
        rcases Nat.lt_or_eq_of_le hi with h | h
        · exact h
        · subst h
          rw [hk] at hy
          cases hy
          exact absurd rfl e1
      clear e1 hy
      go_wp2
      go_roundw
      case rel => exact ⟨i + 1, by omega, by go_num, by trivial⟩
      case measure => simp [intOf] <;> omega
theorem tmod_fix (x : Int) {w : Nat} (hw : 0 < w) : ∃ m1 n2, Int.tmod x (w : Int) = m1 ∧ -(w : Int) < m1 ∧ m1 < (w : Int) ∧ m1 + (w : Int) = ((n2 : Nat) : Int) ∧ n2 < 2 * w ∧ Int.tmod (n2 : Int) (w : Int) = (((x % (w : Int)).toNat : Nat) : Int) := by
  have h1 := Int.tmod_lt_of_pos x (show (0 : Int) < w by omega)
  have h2 := Int.lt_tmod_of_pos x (show (0 : Int) < w by omega)
  have h3 := Int.tmod_add_mul_tdiv x (w : Int)
  generalize Int.tmod x (w : Int) = m1 at *
  refine ⟨m1, (m1 + w).toNat, rfl, h2, h1, by omega, by omega, ?_⟩
  have h4 : x % (w : Int) = m1 % (w : Int) := by rw [← h3, Int.add_mul_emod_self_left]
  have h5 : (((m1 + (w : Int)).toNat : Nat) : Int) = m1 + w := by omega
  rw [h5, Int.tmod_eq_emod_of_nonneg (by omega), Int.add_emod_right, h4]
  have := Int.emod_nonneg m1 (show (w : Int) ≠ 0 by omega)
  omega
def memN (x : Nat × Nat) : List Value := [.int .i64 (x.1 : Int), .int .i64 (x.2 : Int)]
/-- a piece in a box -/
def MbB (w : World) (X : Nat) (g p : Int) : Prop := w.heap[X]? = some (.cells #[.int .i64 g, .int .i64 p] 78)
theorem MbB.cells {w : World} {X : Nat} {g p : Int} (h : MbB w X g p) : w.cell? ⟨X, 0, none⟩ = some (.int .i64 g) ∧ w.cell? ⟨X, 1, none⟩ = some (.int .i64 p) ∧ w.frozen? ⟨X, 0, none⟩ = false ∧ w.frozen? ⟨X, 1, none⟩ = false :=
  ⟨by rw [cell_of_row _ _ _ _ _ _ h]; rfl, by rw [cell_of_row _ _ _ _ _ _ h]; rfl, frozen_of_row _ _ _ _ _ h, frozen_of_row _ _ _ _ _ h⟩
theorem MbB.lt {w : World} {X : Nat} {g p : Int} (h : MbB w X g p) : X < w.heap.size := (Array.getElem?_eq_some_iff.1 h).1
theorem MbB.below {w w' : World} {X C : Nat} {g p : Int} (h : MbB w X g p) (hb : Below C w w') (hC : X < C) : MbB w' X g p := (hb.block _ hC).trans h
theorem MbB.set {w : World} {X : Nat} {g p : Int} (h : MbB w X g p) (g' p' : Int) : MbB ((w.setCell ⟨X, 0, none⟩ (.int .i64 g')).setCell ⟨X, 1, none⟩ (.int .i64 p')) X g' p' := by
  have h1 := heap_setCell_same w X 0 _ _ (.int .i64 g') h
  unfold MbB
  rw [heap_setCell_same _ X 1 _ _ _ h1]
  rfl
set_option maxHeartbeats 8000000 in
set_option maxRecDepth 100000 in
theorem lat_any {L : LayD} {A Ar Ao : Option Addr} {B c cr co : Nat} {ho ca : Int} (d b : Nat) (w : World) (hx : LayX L) (hv : GsV w B A L.gs) (hr : GsV w B Ao (onLs L)) (hB : B ≤ w.heap.size) (hd : d < L.disks) (hb : b < L.homes) :
    Calls Tryz.prog 83 #[.agg (numC L A c (.slice Ar L.n cr) (.slice Ao L.disks co) ho ca), .int .i64 (d : Int), .int .i64 (b : Int)] w fun r w' => r = .returned (.agg #[.int .i64 ((homeAt L d b).1 : Int), .int .i64 ((homeAt L d b).2 : Int)]) ∧ Below w.heap.size w w' := by
  unfold numC
  have hr0 := rpos hx.ok
  have hn0 : 1 ≤ L.n := hx.ok.n.1
  have hnb := hx.ok.n.2
  have hwb := hx.ok.w
  have hd60 := hx.ok.disks
  have htl : b / L.r < L.tiles := Nat.div_lt_of_lt_mul (by unfold LayD.homes at hb; rw [Nat.mul_comm]; exact hb)
  have ht256 := hx.ok.tiles
  have hrb : L.r ≤ 4096 := Nat.le_trans (r_le L) hnb
  have hbb : b < 65536 + 1 := by
    have := hx.ok.blocks
    unfold LayD.blocks at this
    omega
  have hkr : b % L.r < L.r := Nat.mod_lt _ hr0
  have hol := onD_len hx.ok hd
  obtain ⟨g0, hg0⟩ : ∃ g0, (onD L d)[b % L.r]? = some g0 := ⟨_, List.getElem?_eq_getElem (by rw [hol]; exact hkr)⟩
  obtain ⟨row, hrow, hdr⟩ := onD_mem.1 (List.mem_of_getElem? hg0)
  have hg0n : g0 < L.n := (List.getElem?_eq_some_iff.1 hrow).1
  have hrl := hx.ok.len row (List.mem_of_getElem? hrow)
  have hrs := hx.ok.inc row (List.mem_of_getElem? hrow)
  obtain ⟨fa, fb⟩ := findIdx_has hdr
  obtain ⟨a, haa⟩ : ∃ a, row.findIdx (· == d) = a := ⟨_, rfl⟩
  rw [haa] at fa fb
  have hat : homeAt L d b = ((b / L.r) * L.n + g0, (((a : Int) - ((b / L.r : Nat) : Int)) % (L.w : Int)).toNat) := by
    unfold homeAt
    rw [hg0]
    simp only [Option.getD_some]
    rw [hrow]
    simp only [Option.getD_some]
    rw [haa]
  have hon : (onLs L)[d]? = some (onD L d) := by unfold onLs; rw [List.getElem?_map, List.getElem?_range hd]; rfl
  have hq1 := tdiv_nat b L.r
  have hq2 := tmod_nat b L.r
  have hr1 : ¬ (L.r : Int) = 0 := by omega
  have hr2 : ¬ L.r = 0 := by omega
  have hw1 : ¬ (L.w : Int) = 0 := by omega
  have hw2 : ¬ L.w = 0 := by omega
  rw [hat]
  simp only
  generalize b / L.r = t at *
  generalize b % L.r = k at *
  have htn : t * L.n ≤ 256 * 4096 := Nat.mul_le_mul (by omega) hnb
  obtain ⟨m1, n2, hm1, hm2, hm3, hm4, hm5, hm6⟩ := tmod_fix ((a : Int) - (t : Int)) (w := L.w) (by omega)
  generalize (((a : Int) - (t : Int)) % (L.w : Int)).toNat = pp at *
  have hpp : pp < L.w := by
    have h1 := Int.tmod_lt_of_pos (n2 : Int) (show (0 : Int) < (L.w : Int) by omega)
    rw [hm6] at h1
    omega
  have hmul : (t : Int) * (L.n : Int) = ((t * L.n : Nat) : Int) := by simp
  generalize t * L.n = tn at *
  have k1 : IntKind.i64.wrap (t : Int) = (t : Int) := IntWalk.i64_in _ (by omega)
  have k2 : IntKind.i64.wrap (k : Int) = (k : Int) := IntWalk.i64_in _ (by omega)
  have k3 : IntKind.i64.wrap ((t : Int) * (L.n : Int)) = (tn : Int) := by rw [hmul]; exact IntWalk.i64_in _ (by omega)
  have k4 : IntKind.i64.wrap ((tn : Int) + (g0 : Int)) = (tn : Int) + (g0 : Int) := IntWalk.i64_in _ (by omega)
  have k5 : IntKind.i64.wrap ((a : Int) - (t : Int)) = (a : Int) - (t : Int) := IntWalk.i64_in _ (by omega)
  have k6 : IntKind.i64.wrap m1 = m1 := IntWalk.i64_in _ (by omega)
  have k7 : IntKind.i64.wrap (m1 + (L.w : Int)) = (n2 : Int) := by rw [hm4]; exact IntWalk.i64_in _ (by omega)
  have k8 : IntKind.i64.wrap (pp : Int) = (pp : Int) := IntWalk.i64_in _ (by omega)
  obtain ⟨b1, off1, Al, cl, rfl, -, hat1⟩ := hv.at_ hrow
  obtain ⟨b2, off2, Al2, cl2, rfl, -, hat2⟩ := hr.at_ hon
  obtain ⟨bl2, ol2, rfl, -, -⟩ := nints_at (hat2 w w.heap.size (Below.refl _ _) hB).2 hg0
  have HC : Hid (∀ W, Below w.heap.size w W → W.cell? ⟨b1, off1 + g0, none⟩ = some (.slice Al L.w cl) ∧ IntS W B Al (nInts row) ∧ W.cell? ⟨b2, off2 + d, none⟩ = some (.slice (some ⟨bl2, ol2, none⟩) L.r cl2) ∧ W.cell? ⟨bl2, ol2 + k, none⟩ = some (.int .i64 (g0 : Int))) := fun W hW => by
    have r1 := hat1 W w.heap.size hW hB
    have r2 := hat2 W w.heap.size hW hB
    rw [hrl] at r1
    rw [hol] at r2
    obtain ⟨_, _, e1, -, s1⟩ := nints_at r2.2 hg0
    cases e1
    exact ⟨r1.1, r1.2, r2.1, s1⟩
  have HIX := Lib.hid (fun (W : World) (h : IntS W B Al (nInts row)) => idx_first (c := cl) (k := a) (l := nInts row) (d : Int) W h (by rw [nInts_len, hrl]; omega) (nInts_at fb) (fun j hj e => by
    unfold nInts at e
    rw [List.getElem?_map, Option.map_eq_some_iff] at e
    obtain ⟨y, e1, e2⟩ := e
    have : y = d := by omega
    subst this
    have := findIdx_at hrs e1
    omega))
  rw [nInts_len, hrl] at HIX
  have hdI : (d : Int) < (L.disks : Int) := by omega
  have hkI : (k : Int) < (L.r : Int) := by omega
  have hgI : (g0 : Int) < (L.n : Int) := by omega
  clear hat1 hat2 hv hr hrow hg0 hdr hrl hrs fb hat hon hol hmul haa hm4 hb
  go_enter Tryz.func83, Tryz.ntmps83
  go_wp2_with fail
  generalize hW0 : w.alloc _ = w0
  have hn : NumB w0 w.heap.size L (some ⟨b1, off1, none⟩) c (.slice Ar L.n cr) (.slice (some ⟨b2, off2, none⟩) L.disks co) ho ca := by rw [← hW0]; exact NumB.made w L _ _ _ _ _ _
  have hb0 : Below w.heap.size w w0 := by rw [← hW0]; exact below_laid
  have hz0 : w0.heap.size = w.heap.size + 1 := by rw [← hW0]; simp
  generalize hW1 : w0.alloc _ = w1
  have hp1 : MbB w1 (w.heap.size + 1) 0 0 := by rw [← hW1, ← hz0]; exact heap_alloc_new w0 _
  have hn1 : NumB w1 w.heap.size L (some ⟨b1, off1, none⟩) c (.slice Ar L.n cr) (.slice (some ⟨b2, off2, none⟩) L.disks co) ho ca := by rw [← hW1]; exact hn.below below_laid hn.lt
  have hb1 : Below w.heap.size w w1 := by rw [← hW1]; exact hb0.trans (below_laid.mono hb0.size)
  clear hW0 hW1 hn hb0 hz0
  have n1 := hn1.cells
  obtain ⟨c1, c2, c3, c4⟩ := HC.out w1 hb1
  go_wp2_with fail
  go_quiet (fail)
  generalize hdr : w1.drewN _ = w2
  have hp2 : MbB w2 (w.heap.size + 1) 0 0 := by rw [← hdr]; exact hp1
  have hn2 : NumB w2 w.heap.size L (some ⟨b1, off1, none⟩) c (.slice Ar L.n cr) (.slice (some ⟨b2, off2, none⟩) L.disks co) ho ca := by rw [← hdr]; exact hn1
  have hb2 : Below w.heap.size w w2 := by rw [← hdr]; exact below_drewN hb1 _
  clear hdr hp1 hn1 hb1 n1 c1 c2 c3 c4
  have n2' := hn2.cells
  obtain ⟨c1, c2, c3, c4⟩ := HC.out w2 hb2
  go_wp2_with fail
  refine (HIX.out w2 c2).mono ?_
  rintro r w3 ⟨rfl, hb3⟩
  have hn3 := hn2.below hb3 hn2.lt
  have hp3 := hp2.below hb3 hp2.lt
  have HB3 := Lib.hid (hb2.trans (hb3.mono hb2.size))
  clear hb3 hn2 hp2 hb2 n2' c1 c2 c3 c4 HIX
  have n3 := hn3.cells
  go_upto_region 4 with (fail)
  have HP : Hid (MbB w3.drew (w.heap.size + 1) 0 0) := hp3
  have HB := Lib.hid HB3.out.drew
  have n4 : _ := NumB.cells (w := w3.drew) hn3
  obtain ⟨p0, p1, f0, f1⟩ := HP.out.cells
  clear n3 hp3 hn3 HB3
  refine still_tail_drew 19 (by kernel_rfl) (by kernel_rfl) ?_
  simp only [List.take_succ_cons, List.take_zero, List.drop_succ_cons, List.drop_zero]
  generalize w3.drew = w4 at *
  repeat still_step
  refine wpStill_nil ?_
  have hset := HP.out.set ((tn : Int) + (g0 : Int)) (pp : Int)
  have HS := Lib.hid hset
  clear hset n4
  go_wp2
  (try simp only [Exit.inBlock, Exit.then])
  refine bodyPost_ret (v := .agg #[.int .i64 ((tn : Int) + (g0 : Int)), .int .i64 (pp : Int)]) ?_ rfl ⟨by simp, (HB.out.setCell (by simp) _).setCell (by simp) _⟩
  exact results_cell_row rfl _ _ (w.heap.size + 1) 78 #[.int .i64 ((tn : Int) + (g0 : Int)), .int .i64 (pp : Int)] (0, 0) _ rfl HS.out Tryz.underlying78 rfl (by kernel_rfl)
end Go.Proofs.YteglnekkkhpikaaGreat
namespace Go.Proofs.YteglnekkkhpikaaGreat
open Go.RowKit

theorem elemMem : Elem Tryz.prog 74 78 2 16 := Elem.mk (z := .agg #[.int .i64 0, .int .i64 0]) Tryz.underlying74 (by kernel_rfl) (by decide) rfl
theorem memN_one (x : Nat × Nat) : ∀ u ∈ memN x, u.oneCell' = true := by
  intro u hu
  simp [memN] at hu
  rcases hu with rfl | rfl <;> rfl
def homeTo (L : LayD) (d k : Nat) : List (Nat × Nat) := (List.range k).map (homeAt L d)
theorem homeTo_succ (L : LayD) (d k : Nat) : homeTo L d (k + 1) = homeTo L d k ++ [homeAt L d k] := by
  unfold homeTo
  rw [List.range_succ, List.map_append]
  rfl
theorem homeTo_len (L : LayD) (d k : Nat) : (homeTo L d k).length = k := by simp [homeTo]
def HomR (L : LayD) (d : Nat) (w3 : World) (s8 s30 : Value) (wr : World) : Prop := ∃ k : Nat, k ≤ L.homes ∧ s30 = .int .i64 k ∧ OwS wr w3.heap.size 78 2 s8 ((homeTo L d k).map memN) ∧ Below w3.heap.size w3 wr
set_option maxHeartbeats 8000000 in
set_option maxRecDepth 100000 in
theorem lOnDisk_any {L : LayD} {A : Option Addr} {B c : Nat} (d : Nat) (w : World) (hx : LayX L) (hv : GsV w B A L.gs) (hB : B ≤ w.heap.size) (hd : d < L.disks) :
    Calls Tryz.prog 59 #[layAgg L A c, .int .i64 (d : Int)] w fun r w' => (∃ v, r = .returned (.tuple #[v, .int .i64 0]) ∧ OwS w' w.heap.size 78 2 v ((homeOn L d).map memN)) ∧ Below w.heap.size w w' := by
  have HV := Lib.hid hv
  have HX := Lib.hid hx
  have HC := Lib.hid (fun W hv hB => measure_any (L := L) (A := A) (B := B) (c := c) W hx hv hB)
  have HRES : Hid (homeOn L d = homeTo L d L.homes) := rfl
  have hbb : L.homes ≤ 65536 := by
    have := hx.ok.blocks
    unfold LayD.blocks at this
    omega
  unfold layAgg at *
  clear hv
  have f1 : decide ((d : Int) < 0) = false := by rw [decide_eq_false_iff_not]; omega
  have f2 : decide (L.disks ≤ d) = false := by rw [decide_eq_false_iff_not]; omega
  have f3 : decide ((L.disks : Int) ≤ (d : Int)) = false := by rw [decide_eq_false_iff_not]; omega
  go_enter Tryz.func59, Tryz.ntmps59
  go_wp2_with fail
  generalize hW0 : w.alloc _ = w0
  have hb0 : Below w.heap.size w w0 := by rw [← hW0]; exact below_laid
  have hl0 : LayB w0 w.heap.size L A c := by rw [← hW0]; exact LayB.made w L A c
  clear hW0
  refine (HC.out w0 (HV.out.below hb0 hB) (Nat.le_trans hB hb0.size)).mono ?_
  rintro r w2 ⟨⟨Ar, cr, O, rfl, -, hgo⟩, hb2⟩
  have hl2 := hl0.below hb2 hl0.lt
  have hb2w := hb0.trans (hb2.mono hb0.size)
  unfold numC
  clear hb0 hb2 hl0 HC
  go_upto_region 2 with (fail)
  generalize hW3 : w2.alloc _ = w3
  have hn3 : NumB w3 w2.heap.size L A c (.slice Ar L.n cr) (.slice (some ⟨O, 0, none⟩) L.disks L.disks) L.homes L.blocks := by rw [← hW3]; exact NumB.made w2 L A c _ _ _ _
  have hb3 : Below w2.heap.size w2 w3 := by rw [← hW3]; exact below_laid
  have hl3 := hl2.below hb3 hl2.lt
  have HG3 := Lib.hid ((hgo.below hb3 (Nat.le_refl _)).more hb3.size)
  have HB3 := Lib.hid (hb2w.trans (hb3.mono hb2w.size))
  have HN3 := Lib.hid hn3
  generalize w2.heap.size = Q at *
  obtain ⟨l0, l1, l2, l3⟩ := hl3.cells
  have n3 := hn3.cells
  clear hW3 hn3 hb3 hl2 hl3 hgo hb2w
  have HV3 : Hid (GsV w3 w3.heap.size A L.gs) := (HV.out.below HB3.out hB).more (Nat.le_trans hB HB3.out.size)
  have HAT := Lib.hid (fun (b : Nat) (hb : b < L.homes) (W : World) (hW : Below w3.heap.size w3 W) => lat_any (L := L) (A := A) (Ar := Ar) (Ao := some ⟨O, 0, none⟩) (B := w3.heap.size) (c := c) (cr := cr) (co := L.disks) (ho := L.homes) (ca := L.blocks) d b W HX.out (HV3.out.below hW (Nat.le_refl _)) (HG3.out.below hW (Nat.le_refl _)) hW.size hd hb)
  unfold numC at HAT
  go_wp2
  clear n3 l0 l1 l2 l3
  go_loopw [8, 9, 30] (fun s8 _ s30 wr => HomR L d w3 s8 s30 wr) (fun _ _ s30 _ => L.homes - (intOf s30).toNat)
  case atStart => exact ⟨0, by omega, rfl, OwS.nil _ _ _ _, Below.refl _ _⟩
  case round =>
    obtain ⟨k, hk, rfl, hown, hb⟩ := hrel
    obtain ⟨A8, c8, rfl, -, -⟩ := hown.form
    have hol : ((homeTo L d k).map memN).length = k := by rw [List.length_map, homeTo_len]
    rw [hol] at hown ⊢
    have HO := Lib.hid hown
    have HB := Lib.hid hb
    have n4 := (HN3.out.below hb HN3.out.lt).cells
    clear hown hb hol
    by_cases hkh : k < L.homes
    · have hkI : (k : Int) < (L.homes : Int) := by omega
      have HST := Lib.hid (homeTo_succ L d k)
      have ha := HAT.out k hkh wr HB.out
      obtain ⟨x, hx⟩ : ∃ x, homeAt L d k = x := ⟨_, rfl⟩
      rw [hx] at ha HST
      have HA := Lib.hid ha
      clear ha hx
      go_wp2_with fail
      refine HA.out.mono ?_
      rintro r w5 ⟨rfl, hb5⟩
      have HO5 := Lib.hid (HO.out.below hb5)
      have HB5 := Lib.hid (HB.out.trans (hb5.mono HB.out.size))
      have hl := homeTo_len L d k
      have hs5 := HB5.out.size
      clear n4 hb5 HA HO HB
      go_wp2_with (at_builtin; refine wpList_ap1 rfl (.tmp 33) (.tmp 38) _ rfl elemMem rfl HO5.out (memN x) _ (by rfl) w5.heap.size (by rfl) (by rfl) (memN_one x) (by rw [List.length_map, hl]; simp [maxLen]; omega) (by rw [List.length_map, hl]; omega) (by omega) ?_)
      rintro v1 w6 hown1 hg1 -
      have HO6 : Hid (OwS w6 w3.heap.size 78 2 v1 ((homeTo L d (k + 1)).map memN)) := by
        rw [Hid, HST.out, List.map_append]
        exact hown1
      have HB6 : Hid (Below w3.heap.size w3 w6) := (HB5.out.alloc HB5.out.size _).grown hg1 (by simp; omega) (fun q hq => (HO5.out.lt hq).1)
      clear hown1 hg1
      go_wp2
      go_roundw
      case rel => exact ⟨k + 1, by omega, by go_num, HO6.out, HB6.out⟩
      case measure => simp [intOf] <;> omega
    · have hkI : ¬ (k : Int) < (L.homes : Int) := by omega
      obtain rfl : k = L.homes := by omega
      have HE := Lib.hid (HB3.out.trans (HB.out.mono HB3.out.size))
      have HO2 := Lib.hid (HO.out.mono HB3.out.size)
      clear n4 HO HB
      go_wp2
      go_ret2
      exact ⟨⟨_, rfl, by rw [HRES.out]; exact HO2.out⟩, HE.out⟩
end Go.Proofs.YteglnekkkhpikaaGreat
namespace Go.Proofs.YteglnekkkhpikaaGreat
open Go.RowKit

def toI (x : Nat × Nat) : Int × Int := ((x.1 : Int), (x.2 : Int))
theorem memN_toI (l : List (Nat × Nat)) : l.map memN = (l.map toI).map memC := by
  rw [List.map_map]
  rfl
theorem hasM_any {ms : List Mv} (h : ms.Pairwise ltM) (g p : Int) : hasM ms g p = ms.any (atM g p) := by
  rw [Bool.eq_iff_iff, hasM_iff h, List.any_eq_true]
  constructor
  · rintro ⟨x, h1, h2, h3⟩
    exact ⟨x, h1, by simp [atM, h2, h3]⟩
  · rintro ⟨x, h1, h2⟩
    simp [atM] at h2
    exact ⟨x, h1, h2.1, h2.2⟩
def filH (ms : List Mv) (l : List (Nat × Nat)) : List (Nat × Nat) := l.filter fun x => !(ms.any (atM x.1 x.2))
def filM (d : Nat) (l : List Mv) : List (Nat × Nat) := (l.filter fun m => m.to.disk == (d : Int)).map fun m => (m.g.toNat, m.p.toNat)
theorem rawOn_eq (L : LayD) (ms : List Mv) (d : Nat) : rawOn L ms d = filH ms (homeOn L d) ++ filM d ms := rfl
theorem filH_in {ms : List Mv} {l : List (Nat × Nat)} {k : Nat} {x : Nat × Nat} (hx : l[k]? = some x) (h : ms.any (atM x.1 x.2) = false) : filH ms (l.take (k + 1)) = filH ms (l.take k) ++ [x] := by
  unfold filH
  rw [List.take_add_one, hx]
  simp [List.filter_append, List.filter, h]
theorem filH_out {ms : List Mv} {l : List (Nat × Nat)} {k : Nat} {x : Nat × Nat} (hx : l[k]? = some x) (h : ms.any (atM x.1 x.2) = true) : filH ms (l.take (k + 1)) = filH ms (l.take k) := by
  unfold filH
  rw [List.take_add_one, hx]
  simp [List.filter_append, List.filter, h]
theorem filM_in {d : Nat} {l : List Mv} {k : Nat} {x : Mv} (hx : l[k]? = some x) (h : (x.to.disk == (d : Int)) = true) : filM d (l.take (k + 1)) = filM d (l.take k) ++ [(x.g.toNat, x.p.toNat)] := by
  unfold filM
  rw [List.take_add_one, hx]
  simp [List.filter_append, List.filter, h]
theorem filM_out {d : Nat} {l : List Mv} {k : Nat} {x : Mv} (hx : l[k]? = some x) (h : (x.to.disk == (d : Int)) = false) : filM d (l.take (k + 1)) = filM d (l.take k) := by
  unfold filM
  rw [List.take_add_one, hx]
  simp [List.filter_append, List.filter, h]
theorem filH_le (ms : List Mv) (l : List (Nat × Nat)) : (filH ms l).length ≤ l.length := List.length_filter_le _ _
theorem filM_le (d : Nat) (l : List Mv) : (filM d l).length ≤ l.length := by unfold filM; rw [List.length_map]; exact List.length_filter_le _ _
def OdH (ms : List Mv) (hl : List (Nat × Nat)) (w5 : World) (s12 s46 : Value) (wr : World) : Prop := ∃ k : Nat, k ≤ hl.length ∧ s46 = .int .i64 k ∧ OwS wr w5.heap.size 78 2 s12 ((filH ms (hl.take k)).map memN) ∧ Below w5.heap.size w5 wr
def OdM (d : Nat) (ms : List Mv) (fh : List (Nat × Nat)) (w5 : World) (s12 s66 : Value) (wr : World) : Prop := ∃ k : Nat, k ≤ ms.length ∧ s66 = .int .i64 k ∧ OwS wr w5.heap.size 78 2 s12 ((fh ++ filM d (ms.take k)).map memN) ∧ Below w5.heap.size w5 wr
/-- what spare.OnDisk answers -/
def OdkP (L : LayD) (ms : List Mv) (d : Int) (B : Nat) (w' : World) (r : Ending) : Prop :=
  (validM L ms = false → r = .returned (.tuple #[.slice none 0 0, .int .i64 1])) ∧ (validM L ms = true → (decide (0 ≤ d) && decide (d < (L.disks : Int))) = false → r = .returned (.tuple #[.slice none 0 0, .int .i64 2])) ∧
    (validM L ms = true → (decide (0 ≤ d) && decide (d < (L.disks : Int))) = true → ∃ v, ∃ ts : List (Int × Int), r = .returned (.tuple #[v, .int .i64 0]) ∧ OwS w' B 78 2 v (ts.map memC) ∧ ts.Perm ((rawOn L ms d.toNat).map toI) ∧ ts.Pairwise fun a b => a.1 ≤ b.1)
set_option maxHeartbeats 8000000 in
set_option maxRecDepth 100000 in
theorem sOnDisk_any {L : LayD} {A Am : Option Addr} {B c cm : Nat} {ms : List Mv} (d : Int) (w : World) (hx : LayX L) (hv : GsV w B A L.gs) (hM : MvS w B Am ms) (hwf : ∀ m ∈ ms, PlWf m.to) (hB : B ≤ w.heap.size) (hlen : ms.length ≤ 10000) :
    Calls Tryz.prog 32 #[layAgg L A c, .slice Am ms.length cm, .int .i64 d] w fun r w' => OdkP L ms d w.heap.size w' r ∧ Below w.heap.size w w' := by
  have HV := Lib.hid hv
  have HM := Lib.hid hM
  have HX := Lib.hid hx
  have HC := Lib.hid (fun W hv hM hB => scheck_any (L := L) (A := A) (Am := Am) (B := B) (c := c) (cm := cm) (ms := ms) W hx hv hM hwf hB (by omega))
  have HPV : Hid (validM L ms = true → MvOk L ms) := fun h => valid_ok h
  have HDEF : Hid (∀ w' r, OdkP L ms d w.heap.size w' r ↔ (validM L ms = false → r = .returned (.tuple #[.slice none 0 0, .int .i64 1])) ∧ (validM L ms = true → (decide (0 ≤ d) && decide (d < (L.disks : Int))) = false → r = .returned (.tuple #[.slice none 0 0, .int .i64 2])) ∧
    (validM L ms = true → (decide (0 ≤ d) && decide (d < (L.disks : Int))) = true → ∃ v, ∃ ts : List (Int × Int), r = .returned (.tuple #[v, .int .i64 0]) ∧ OwS w' w.heap.size 78 2 v (ts.map memC) ∧ ts.Perm ((rawOn L ms d.toNat).map toI) ∧ ts.Pairwise fun a b => a.1 ≤ b.1)) := fun w' r => Iff.rfl
  unfold layAgg at *
  clear hv hM hwf
  obtain ⟨res, hres⟩ : ∃ res, validM L ms = res := ⟨_, rfl⟩
  rw [hres] at HC HPV
  simp only [hres] at HDEF
  generalize OdkP L ms d = OP at *
  clear hres
  go_enter Tryz.func32, Tryz.ntmps32
  go_wp2_with fail
  generalize hW0 : w.alloc _ = w0
  have hl0 : LayB w0 w.heap.size L A c := by rw [← hW0]; exact LayB.made w L _ c
  have hb0 : Below w.heap.size w w0 := by rw [← hW0]; exact below_laid
  clear hW0
  refine (HC.out w0 (HV.out.below hb0 hB) (HM.out.below' hb0 hB) (Nat.le_trans hB hb0.size)).mono ?_
  rintro r w2 ⟨hr, hb2⟩
  have HL2 := Lib.hid (hl0.below hb2 hl0.lt)
  have HB2 := Lib.hid (hb0.trans (hb2.mono hb0.size))
  clear hl0 hb0 hb2 HC
  cases res
  · obtain rfl := hr
    unfold staZ
    have HB3 := Lib.hid (HB2.out.trans ((below_laid (w := w2) (o := .cells #[.int .i64 0, .slice none 0 0, .int .i64 0, .int .i64 0, .slice none 0 0, .int .i64 0, .int .i64 0] 98)).mono HB2.out.size))
    go_wp2
    go_ret2
    exact ⟨(HDEF.out _ _).2 ⟨fun _ => rfl, fun h => (by cases h), fun h => (by cases h)⟩, HB3.out⟩
  · obtain rfl := hr
    unfold staC
    have hs3 := StaB.made w2 L A c Am ms.length cm
    have hl3 := HL2.out.below (below_laid (o := .cells #[.int .i64 L.disks, .slice A L.n c, .int .i64 L.tiles, .int .i64 L.spare, .slice Am ms.length cm, .int .i64 L.homes, .int .i64 L.blocks] 98)) HL2.out.lt
    have hb3 := HB2.out.trans ((below_laid (w := w2) (o := .cells #[.int .i64 L.disks, .slice A L.n c, .int .i64 L.tiles, .int .i64 L.spare, .slice Am ms.length cm, .int .i64 L.homes, .int .i64 L.blocks] 98)).mono HB2.out.size)
    go_upto_region 4 with (fail)
    generalize w2.heap.size = S at *
    generalize w2.alloc _ = w3 at *
    obtain ⟨l0, l1, l2, l3⟩ := hl3.cells
    have HS3 := Lib.hid hs3
    have HB3 := Lib.hid hb3
    clear hl3 hs3 HL2 HB2
    by_cases h1 : d < 0
    · have f0 : (decide (0 ≤ d) && decide (d < (L.disks : Int))) = false := by rw [Bool.and_eq_false_iff]; left; rw [decide_eq_false_iff_not]; omega
      have f1 : decide (d < 0) = true := by simpa using h1
      have HRR : Hid (OP w.heap.size w3 (.returned (.tuple #[.slice none 0 0, .int .i64 2]))) := (HDEF.out _ _).2 ⟨fun h => (by cases h), fun _ _ => rfl, fun _ h => by rw [f0] at h; cases h⟩
      clear f0 h1
      go_wp2
      go_ret2
      exact ⟨HRR.out, HB3.out⟩
    · have f1 : decide (d < 0) = false := by simpa using h1
      by_cases h2 : d < (L.disks : Int)
      case neg =>
        have f0 : (decide (0 ≤ d) && decide (d < (L.disks : Int))) = false := by rw [Bool.and_eq_false_iff]; right; rw [decide_eq_false_iff_not]; exact h2
        have f2 : decide (d ≥ (L.disks : Int)) = true := by rw [decide_eq_true_iff]; omega
        have HRR : Hid (OP w.heap.size w3 (.returned (.tuple #[.slice none 0 0, .int .i64 2]))) := (HDEF.out _ _).2 ⟨fun h => (by cases h), fun _ _ => rfl, fun _ h => by rw [f0] at h; cases h⟩
        clear f0 h1 h2 hb3
        go_wp2
        go_ret2
        exact ⟨HRR.out, HB3.out⟩
      case pos =>
        have f0 : (decide (0 ≤ d) && decide (d < (L.disks : Int))) = true := by rw [Bool.and_eq_true]; exact ⟨by rw [decide_eq_true_iff]; omega, by rw [decide_eq_true_iff]; exact h2⟩
        have HF0 := Lib.hid f0
        obtain ⟨e, rfl⟩ : ∃ e : Nat, d = (e : Int) := ⟨d.toNat, by omega⟩
        have f1' : decide ((e : Int) < 0) = false := by rw [decide_eq_false_iff_not]; omega
        have f2 : decide (L.disks ≤ e) = false := by rw [decide_eq_false_iff_not]; omega
        have f3 : decide ((L.disks : Int) ≤ (e : Int)) = false := by rw [decide_eq_false_iff_not]; omega
        have hed : e < L.disks := by omega
        rw [Int.toNat_natCast] at HDEF
        have HOK : Hid (MvOk L ms) := HPV.out (by simp)
        have HLD := Lib.hid (lOnDisk_any (L := L) (A := A) (B := B) (c := c) e w3 HX.out (HV.out.below hb3 hB) (Nat.le_trans hB hb3.size) hed)
        unfold layAgg at HLD
        have HRO := Lib.hid (rawOn_eq L ms e)
        have hhl : (homeOn L e).length ≤ 65536 := by
          have := HX.out.ok.blocks
          unfold LayD.blocks at this
          have h : (homeOn L e).length = L.homes := by simp [homeOn]
          omega
        obtain ⟨hl, hhh⟩ : ∃ hl, homeOn L e = hl := ⟨_, rfl⟩
        rw [hhh] at HLD HRO hhl
        clear f0 h1 h2 hb3 hhh HPV f1
        go_wp2_with fail
        refine HLD.out.mono ?_
        rintro r w5 ⟨⟨v, rfl, hown⟩, hb5⟩
        obtain ⟨A10, c10, rfl, -, -⟩ := hown.form
        rw [List.length_map] at hown ⊢
        have hrd := hown.reads
        have HHL : Hid (RdS w5 w5.heap.size 2 A10 (hl.map memN)) := hrd
        have HB5 := Lib.hid (HB3.out.trans (hb5.mono HB3.out.size))
        have HS5 := Lib.hid (HS3.out.below hb5 HS3.out.lt)
        clear hown hb5 hrd l0 l1 l2 l3 HLD HB3 HS3
        go_wp2
        go_loopw [12, 14, 15, 16, 46] (fun s12 _ _ _ s46 wr => OdH ms hl w5 s12 s46 wr) (fun _ _ _ _ s46 _ => hl.length - (intOf s46).toNat)
        case atStart => exact ⟨0, by omega, rfl, OwS.nil _ _ _ _, Below.refl _ _⟩
        case round =>
          obtain ⟨k, hk, rfl, hown, hb⟩ := hrel
          obtain ⟨A12, c12, rfl, -, -⟩ := hown.form
          rw [List.length_map] at hown ⊢
          have hbw := HB5.out.trans (hb.mono HB5.out.size)
          have HSR := Lib.hid (HS5.out.below hb HS5.out.lt)
          have HBW := Lib.hid hbw
          by_cases hkn : k < hl.length
          · have hkI : (k : Int) < (hl.length : Int) := by omega
            obtain ⟨x, hx⟩ := at_some hkn
            have HI1 : Hid (ms.any (atM x.1 x.2) = false → filH ms (hl.take (k + 1)) = filH ms (hl.take k) ++ [x]) := fun h => filH_in hx h
            have HI2 : Hid (ms.any (atM x.1 x.2) = true → filH ms (hl.take (k + 1)) = filH ms (hl.take k)) := fun h => filH_out hx h
            have hfl : (filH ms (hl.take k)).length ≤ 65536 := by have := filH_le ms (hl.take k); rw [List.length_take] at this; omega
            have hrx := HHL.out.2 (by rw [List.length_map]; omega)
            obtain ⟨bx, ox, rfl, hbx, hcx⟩ := hrx
            have hrr : (hl.map memN)[k]? = some (memN x) := by rw [List.getElem?_map, hx]; rfl
            have q0 : wr.cell? ⟨bx, ox + k * 2, none⟩ = some (.int .i64 (x.1 : Int)) := (hb.cell (p := ⟨bx, ox + k * 2, none⟩) hbx).trans (by have := hcx k _ hrr 0 _ rfl; simpa using this)
            have q1 : wr.cell? ⟨bx, ox + k * 2 + 1, none⟩ = some (.int .i64 (x.2 : Int)) := (hb.cell (p := ⟨bx, ox + k * 2 + 1, none⟩) hbx).trans (by have := hcx k _ hrr 1 _ rfl; simpa using this)
            generalize filH ms (hl.take k) = fk at *
            have HO := Lib.hid hown
            have HB := Lib.hid hb
            have HAN : Hid (hasM ms (x.1 : Int) (x.2 : Int) = ms.any (atM x.1 x.2)) := hasM_any HOK.out.ord _ _
            obtain ⟨xg, xp⟩ := x
            simp only at q0 q1
            clear hx hown hb hcx hrr hbw
            go_upto_region 11 with (fail)
            generalize hW1 : wr.alloc _ = w1
            have hm1 : MbB w1 wr.heap.size (xg : Int) (xp : Int) := by rw [← hW1]; exact heap_alloc_new wr _
            have hb1 : Below wr.heap.size wr w1 := by rw [← hW1]; exact below_laid
            have HB1 := Lib.hid (HB.out.trans (hb1.mono HB.out.size))
            have HO1 := Lib.hid (HO.out.below hb1)
            have HS1 := Lib.hid (HSR.out.below hb1 HSR.out.lt)
            have HW1 := Lib.hid (HBW.out.trans (hb1.mono HBW.out.size))
            have HM1 := Lib.hid hm1
            generalize wr.heap.size = Y at *
            clear hW1 hm1 hb1 q0 q1 HB HO HSR HBW
            have hbs := bsearch_any (Am := Am) (B := B) (cm := cm) (ms := ms) (xg : Int) (xp : Int) w1 (HM.out.below' HW1.out hB) (Nat.le_trans hB HW1.out.size) (by omega) HOK.out.ord
            unfold memAgg at hbs
            rw [HAN.out] at hbs
            have HBS := Lib.hid hbs
            clear hbs
            obtain ⟨y0, y1, -, -⟩ := HM1.out.cells
            obtain ⟨s0, s1, s2, s3, s4, s5, s6⟩ := HS1.out.cells
            obtain ⟨an, han⟩ : ∃ an, ms.any (atM (xg : Int) (xp : Int)) = an := ⟨_, rfl⟩
            simp only [han] at HI1 HI2 HBS
            clear han HAN
            go_wp2_with fail
            refine HBS.out.mono ?_
            rintro r w6 ⟨rfl, hb6⟩
            have HB6 := Lib.hid (HB1.out.trans (hb6.mono HB1.out.size))
            have HO6 := Lib.hid (HO1.out.below hb6)
            have HM6 := Lib.hid (HM1.out.below hb6 HM1.out.lt)
            clear hb6 y0 y1 s0 s1 s2 s3 s4 s5 s6 HBS HB1 HO1 HM1 HS1 HW1
            cases an
            · have HR := Lib.hid (HI1.out (by simp))
              obtain ⟨y0, y1, -, -⟩ := HM6.out.cells
              have hs6 := HB6.out.size
              go_wp2_with (at_builtin; refine wpList_ap1 rfl (.tmp 59) (.tmp 61) _ rfl elemMem rfl HO6.out (memN (xg, xp)) _ (by rfl) w6.heap.size (by rfl) (by rfl) (memN_one (xg, xp)) (by rw [List.length_map]; simp [maxLen]; omega) (by rw [List.length_map]; omega) (by omega) ?_)
              rintro v1 w7 hown1 hg1 -
              have HO7 : Hid (OwS w7 w5.heap.size 78 2 v1 ((fk ++ [(xg, xp)]).map memN)) := by
                rw [Hid, List.map_append]
                exact hown1
              have HB7 : Hid (Below w5.heap.size w5 w7) := (HB6.out.alloc HB6.out.size _).grown hg1 (by simp; omega) (fun q hq => (HO6.out.lt hq).1)
              clear hown1 hg1 y0 y1
              go_wp2
              go_roundw
              case rel => exact ⟨k + 1, by omega, by go_num, by rw [HR.out]; exact HO7.out, HB7.out⟩
              case measure => simp [intOf] <;> omega
            · have HR := Lib.hid (HI2.out (by simp))
              go_wp2
              go_roundw
              case rel => exact ⟨k + 1, by omega, by go_num, by rw [HR.out]; exact HO6.out, HB6.out⟩
              case measure => simp [intOf] <;> omega
          · have hkI : ¬ (k : Int) < (hl.length : Int) := by omega
            obtain rfl : k = hl.length := by omega
            rw [List.take_length] at hown ⊢
            have hfl := filH_le ms hl
            have HO := Lib.hid hown
            have HB := Lib.hid hb
            generalize filH ms hl = fh at *
            clear hown hb hbw HSR HBW
            generalize wr = wo at *
            go_wp2
            go_loopw [12, 18, 66] (fun s12 _ s66 wr => OdM e ms fh w5 s12 s66 wr) (fun _ _ s66 _ => ms.length - (intOf s66).toNat)
            case atStart => exact ⟨0, by omega, rfl, by simpa [filM] using HO.out, HB.out⟩
            case round =>
              obtain ⟨j, hj, rfl, hown, hb⟩ := hrel
              obtain ⟨A13, c13, rfl, -, -⟩ := hown.form
              rw [List.length_map] at hown ⊢
              have HBR := Lib.hid (HB5.out.trans (hb.mono HB5.out.size))
              by_cases hjn : j < ms.length
              · have hjI : (j : Int) < (ms.length : Int) := by omega
                obtain ⟨x, hx⟩ := at_some hjn
                have HI1 : Hid ((x.to.disk == (e : Int)) = true → filM e (ms.take (j + 1)) = filM e (ms.take j) ++ [(x.g.toNat, x.p.toNat)]) := fun h => filM_in hx h
                have HI2 : Hid ((x.to.disk == (e : Int)) = false → filM e (ms.take (j + 1)) = filM e (ms.take j)) := fun h => filM_out hx h
                have hfm : (filM e (ms.take j)).length ≤ 10000 := by have := filM_le e (ms.take j); rw [List.length_take] at this; omega
                obtain ⟨xg, xp, hxg, hxp, -, -⟩ := isP_nat (HOK.out.is x (List.mem_of_getElem? hx))
                obtain ⟨bx, ox, rfl, -, q0, q1, q2, q3⟩ := MvS.at_ (HM.out.below' HBR.out hB) hx
                generalize filM e (ms.take j) = fk at *
                have HO2 := Lib.hid hown
                have HB2' := Lib.hid hb
                obtain ⟨mg, mp, md, mb⟩ := x
                simp only at hxg hxp q0 q1 q2 q3 HI1 HI2
                subst hxg hxp
                simp only [Int.toNat_natCast] at HI1 HI2
                have hap : ((fh ++ fk).map memN).length = (fh ++ fk).length := List.length_map _
                have hal : (fh ++ fk).length ≤ 80000 := by rw [List.length_append]; omega
                clear hx hown hb
                go_upto_region 18 with (fail)
                generalize hW1 : wr.alloc _ = w1
                have hm1 : MvB w1 wr.heap.size ⟨(xg : Int), (xp : Int), ⟨md, mb⟩⟩ := by rw [← hW1]; exact MvB.made wr ⟨(xg : Int), (xp : Int), ⟨md, mb⟩⟩
                have hb1 : Below wr.heap.size wr w1 := by rw [← hW1]; exact below_laid
                have HB1 := Lib.hid (HB2'.out.trans (hb1.mono HB2'.out.size))
                have HO1 := Lib.hid (HO2.out.below hb1)
                have m1 := hm1.cells
                simp only at m1
                generalize wr.heap.size = Y at *
                clear hW1 hm1 hb1 q0 q1 q2 q3 HB2' HO2 HBR
                obtain ⟨m10, m11, m12, m13⟩ := m1
                have hs1 := HB1.out.size
                by_cases hde : md = (e : Int)
                · have f5 : (md == (e : Int)) = true := by simpa using hde
                  have HR := Lib.hid (HI1.out f5)
                  clear HI1 HI2 hde
                  go_wp2_with (at_builtin; refine wpList_ap1 rfl (.tmp 75) (.tmp 81) _ rfl elemMem rfl HO1.out (memN (xg, xp)) _ (by rfl) w1.heap.size (by rfl) (by rfl) (memN_one (xg, xp)) (by rw [hap]; simp [maxLen]; omega) (by rw [hap]; omega) (by omega) ?_)
                  rintro v1 w7 hown1 hg1 -
                  have HO7 : Hid (OwS w7 w5.heap.size 78 2 v1 ((fh ++ (fk ++ [(xg, xp)])).map memN)) := by
                    rw [Hid, List.map_append, List.map_append]
                    exact hown1
                  have HB7 : Hid (Below w5.heap.size w5 w7) := (HB1.out.alloc HB1.out.size _).grown hg1 (by simp; omega) (fun q hq => (HO1.out.lt (k := q) (by rw [List.length_append]; exact hq)).1)
                  clear hown1 hg1 m10 m11 m12 m13
                  go_wp2
                  go_roundw
                  case rel => exact ⟨j + 1, by omega, by go_num, by rw [HR.out]; exact HO7.out, HB7.out⟩
                  case measure => simp [intOf] <;> omega
                · have f5 : (md == (e : Int)) = false := by simpa using hde
                  have HR := Lib.hid (HI2.out f5)
                  clear HI1 HI2 hde
                  go_wp2
                  go_roundw
                  case rel => exact ⟨j + 1, by omega, by go_num, by rw [HR.out]; exact HO1.out, HB1.out⟩
                  case measure => simp [intOf] <;> omega
              · have hjI : ¬ (j : Int) < (ms.length : Int) := by omega
                obtain rfl : j = ms.length := by omega
                rw [List.take_length] at hown ⊢
                have hfm := filM_le e ms
                have hal : (fh ++ filM e ms).length ≤ 80000 := by rw [List.length_append]; omega
                rw [← HRO.out] at hown hal ⊢
                rw [memN_toI] at hown
                have hso := sortM ((rawOn L ms e).map toI) (.slice A13 (rawOn L ms e).length c13) w5.heap.size wr hown (by rw [List.length_map]; omega)
                have HSO := Lib.hid hso
                have HOW := Lib.hid hown
                have HBE := Lib.hid hb
                clear hown hb hso
                go_wp2_with fail
                refine HSO.out.mono ?_
                rintro r w8 ⟨rfl, ts, hp, hpw, hown8, hg8⟩
                have HB8 : Hid (Below w.heap.size w w8) := (HB5.out.trans (HBE.out.mono HB5.out.size)).grown hg8 (HB5.out.trans (HBE.out.mono HB5.out.size)).size (fun q hq => Nat.le_trans HB5.out.size (HOW.out.lt hq).1)
                have HRR : Hid (OP w.heap.size w8 (.returned (.tuple #[.slice A13 (rawOn L ms e).length c13, .int .i64 0]))) :=
                  (HDEF.out _ _).2 ⟨fun h => (by cases h), fun _ h => (by rw [HF0.out] at h; cases h), fun _ _ => ⟨_, ts, rfl, hown8.mono HB5.out.size, hp, hpw.imp fun h => by omega⟩⟩
                clear hp hpw hown8 hg8 HSO
                go_wp2
                go_ret2
                exact ⟨HRR.out, HB8.out⟩
end Go.Proofs.YteglnekkkhpikaaGreat
namespace Go.Proofs.YteglnekkkhpikaaGreat

def bkI (x : Int × Int) : Nat × Nat := (x.1.toNat, x.2.toNat)
theorem bk_toI (x : Nat × Nat) : bkI (toI x) = x := by simp [bkI, toI]
theorem rawOn_nodup {L : LayD} (ok : LayOk L) {ms : List Mv} (h : MvOk L ms) {d : Nat} (hd : d < L.disks) : (rawOn L ms d).Nodup := by
  rw [rawOn_eq]
  show List.Pairwise (· ≠ ·) _
  rw [List.pairwise_append]
  refine ⟨?_, ?_, ?_⟩
  · unfold filH
    refine List.Pairwise.imp (fun {a b} hab e => ?_) (List.Pairwise.filter _ (homeOn_inc ok hd))
    rw [e] at hab
    omega
  · unfold filM
    rw [List.pairwise_map]
    refine List.Pairwise.imp_of_mem (fun {a b} ha hb hab e => ?_) (List.Pairwise.filter _ h.ord)
    obtain ⟨g1, p1, e1, e2, -, -⟩ := isP_nat (h.is a (List.mem_filter.1 ha).1)
    obtain ⟨g2, p2, e3, e4, -, -⟩ := isP_nat (h.is b (List.mem_filter.1 hb).1)
    have h1 := congrArg Prod.fst e
    have h2 := congrArg Prod.snd e
    simp only at h1 h2
    exact ltM_key hab ⟨by omega, by omega⟩
  · intro x hx y hy e
    subst e
    unfold filH at hx
    unfold filM at hy
    obtain ⟨m, hm, rfl⟩ := List.mem_map.1 hy
    have h1 := (List.mem_filter.1 hx).2
    have hmm := (List.mem_filter.1 hm).1
    obtain ⟨g1, p1, e1, e2, -, -⟩ := isP_nat (h.is m hmm)
    have h2 : ms.any (atM ((m.g.toNat : Nat) : Int) ((m.p.toNat : Nat) : Int)) = true := by
      rw [List.any_eq_true]
      exact ⟨m, hmm, by simp [atM]; omega⟩
    simp only at h1
    rw [h2] at h1
    cases h1
theorem sort_on {L : LayD} (ok : LayOk L) {ms : List Mv} (h : MvOk L ms) {d : Nat} (hd : d < L.disks) {ts : List (Int × Int)} (hp : ts.Perm ((rawOn L ms d).map toI)) (hs : ts.Pairwise fun a b => a.1 ≤ b.1) : ts = (onL L ms d).map toI := by
  have hback : ∀ x ∈ ts, toI (bkI x) = x := fun x hx => by
    obtain ⟨y, -, rfl⟩ := List.mem_map.1 (hp.mem_iff.1 hx)
    rw [bk_toI]
  have hts : ts = (ts.map bkI).map toI := by
    rw [List.map_map]
    conv => lhs; rw [← List.map_id ts]
    exact List.map_congr_left fun x hx => (hback x hx).symm
  have hpu : (ts.map bkI).Perm (rawOn L ms d) := by
    have := hp.map bkI
    rw [List.map_map] at this
    have e : (rawOn L ms d).map (bkI ∘ toI) = rawOn L ms d := by
      conv => rhs; rw [← List.map_id (rawOn L ms d)]
      exact List.map_congr_left fun x _ => bk_toI x
    rw [e] at this
    exact this
  have hnd : (ts.map bkI).Nodup := hpu.nodup_iff.2 (rawOn_nodup ok h hd)
  have hle : (ts.map bkI).Pairwise fun a b => a.1 ≤ b.1 := by
    rw [List.pairwise_map]
    exact hs.imp fun {a b} hab => by simp only [bkI]; omega
  have hlt : (ts.map bkI).Pairwise fun a b => a.1 < b.1 := by
    have h2 : (ts.map bkI).Pairwise fun a b => a.1 ≤ b.1 ∧ a ≠ b := List.Pairwise.and hle hnd
    refine List.Pairwise.imp_of_mem (fun {a b} ha hb hab => ?_) h2
    rcases Nat.lt_or_eq_of_le hab.1 with h3 | h3
    · exact h3
    · exact absurd (rawOn_nd ok h hd (hpu.mem_iff.1 ha) (hpu.mem_iff.1 hb) h3) hab.2
  rw [hts, inc_eq2 hlt (onL_inc ok h d) fun x => (hpu.mem_iff.trans (rawOn_mem ok h hd x))]
end Go.Proofs.YteglnekkkhpikaaGreat
