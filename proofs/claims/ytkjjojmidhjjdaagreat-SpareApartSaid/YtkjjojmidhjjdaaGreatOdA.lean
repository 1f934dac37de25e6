/- Walks: the place of an element (slices.Index), the piece at a home (layout's numbers). -/
import Derived.Test.YtkjjojmidhjjdaaGreatGTuv
namespace Go.Proofs.YtkjjojmidhjjdaaGreat
open Go.RowKit

set_option maxHeartbeats 1000000 in
theorem idx_first {A : Option Addr} {B c k : Nat} {l : List Int} (x : Int) (w : World) (hl : IntS w B A l) (hlen : l.length ≤ 100000) (hk : l[k]? = some x) (hno : ∀ j : Nat, j < k → l[j]? ≠ some x) :
    Calls Tryz.prog 64 #[.slice A l.length c, .int .i64 x] w fun r w' => r = .returned (.int .i64 (k : Int)) ∧ Below w.heap.size w w' := by
  have HL := Lib.hid hl
  have HNO := Lib.hid hno
  have hkl := (List.getElem?_eq_some_iff.1 hk).1
  clear hl hno
  go_enter Tryz.func64, Tryz.ntmps64
  go_wp2
  go_loopw [8, 5] (fun s8 _ wr => ∃ i : Nat, i ≤ k ∧ s8 = .int .i64 i ∧ wr = w) (fun s8 _ _ => l.length - (intOf s8).toNat)
  case atStart => exact ⟨0, by omega, rfl, rfl⟩
  case round =>
    obtain ⟨i, hi, rfl, rfl⟩ := hrel
    have hiI : (i : Int) < (l.length : Int) := by omega
    obtain ⟨b, off, y, rfl, -, hy, q0⟩ := IntS.at_ HL.out (k := i) (by omega)
    by_cases e1 : x = y
    · have hik : i = k := by
        rcases Nat.lt_or_eq_of_le hi with h | h
        · exact absurd (by rw [hy, e1]) (HNO.out i h)
        · exact h
      subst hik
      have f1 : (x == y) = true := by simpa using e1
      clear e1 hy hk
      go_wp2
      go_ret
      exact ⟨rfl, Below.refl _ _⟩
    · have f1 : (x == y) = false := by simpa using e1
      have hik : i < k := by
        rcases Nat.lt_or_eq_of_le hi with h | h
        · exact h
        · subst h
          rw [hk] at hy
          cases hy
          exact absurd rfl e1
      clear e1 hy
      go_wp2
      go_roundw
      case rel => exact ⟨i + 1, by omega, by go_num, by trivial⟩
      case measure => simp [intOf] <;> omega
theorem tmod_fix (x : Int) {w : Nat} (hw : 0 < w) : ∃ m1 n2, Int.tmod x (w : Int) = m1 ∧ -(w : Int) < m1 ∧ m1 < (w : Int) ∧ m1 + (w : Int) = ((n2 : Nat) : Int) ∧ n2 < 2 * w ∧ Int.tmod (n2 : Int) (w : Int) = (((x % (w : Int)).toNat : Nat) : Int) := by
  have h1 := Int.tmod_lt_of_pos x (show (0 : Int) < w by omega)
  have h2 := Int.lt_tmod_of_pos x (show (0 : Int) < w by omega)
  have h3 := Int.tmod_add_mul_tdiv x (w : Int)
  generalize Int.tmod x (w : Int) = m1 at *
  refine ⟨m1, (m1 + w).toNat, rfl, h2, h1, by omega, by omega, ?_⟩
  have h4 : x % (w : Int) = m1 % (w : Int) := by rw [← h3, Int.add_mul_emod_self_left]
  have h5 : (((m1 + (w : Int)).toNat : Nat) : Int) = m1 + w := by omega
  rw [h5, Int.tmod_eq_emod_of_nonneg (by omega), Int.add_emod_right, h4]
  have := Int.emod_nonneg m1 (show (w : Int) ≠ 0 by omega)
  omega
def memN (x : Nat × Nat) : List Value := [.int .i64 (x.1 : Int), .int .i64 (x.2 : Int)]
/-- a piece in a box -/
def MbB (w : World) (X : Nat) (g p : Int) : Prop := w.heap[X]? = some (.cells #[.int .i64 g, .int .i64 p] 45)
theorem MbB.cells {w : World} {X : Nat} {g p : Int} (h : MbB w X g p) : w.cell? ⟨X, 0, none⟩ = some (.int .i64 g) ∧ w.cell? ⟨X, 1, none⟩ = some (.int .i64 p) ∧ w.frozen? ⟨X, 0, none⟩ = false ∧ w.frozen? ⟨X, 1, none⟩ = false :=
  ⟨by rw [cell_of_row _ _ _ _ _ _ h]; rfl, by rw [cell_of_row _ _ _ _ _ _ h]; rfl, frozen_of_row _ _ _ _ _ h, frozen_of_row _ _ _ _ _ h⟩
theorem MbB.lt {w : World} {X : Nat} {g p : Int} (h : MbB w X g p) : X < w.heap.size := (Array.getElem?_eq_some_iff.1 h).1
theorem MbB.below {w w' : World} {X C : Nat} {g p : Int} (h : MbB w X g p) (hb : Below C w w') (hC : X < C) : MbB w' X g p := (hb.block _ hC).trans h
theorem MbB.set {w : World} {X : Nat} {g p : Int} (h : MbB w X g p) (g' p' : Int) : MbB ((w.setCell ⟨X, 0, none⟩ (.int .i64 g')).setCell ⟨X, 1, none⟩ (.int .i64 p')) X g' p' := by
  have h1 := heap_setCell_same w X 0 _ _ (.int .i64 g') h
  unfold MbB
  rw [heap_setCell_same _ X 1 _ _ _ h1]
  rfl
set_option maxHeartbeats 8000000 in
set_option maxRecDepth 100000 in
theorem lat_any {L : LayD} {A Ar Ao : Option Addr} {B c cr co : Nat} {ho ca : Int} (d b : Nat) (w : World) (hx : LayX L) (hv : GsV w B A L.gs) (hr : GsV w B Ao (onLs L)) (hB : B ≤ w.heap.size) (hd : d < L.disks) (hb : b < L.homes) :
    Calls Tryz.prog 52 #[.agg (numC L A c (.slice Ar L.n cr) (.slice Ao L.disks co) ho ca), .int .i64 (d : Int), .int .i64 (b : Int)] w fun r w' => r = .returned (.agg #[.int .i64 ((homeAt L d b).1 : Int), .int .i64 ((homeAt L d b).2 : Int)]) ∧ Below w.heap.size w w' := by
  unfold numC
  have hr0 := rpos hx.ok
  have hn0 : 1 ≤ L.n := hx.ok.n.1
  have hnb := hx.ok.n.2
  have hwb := hx.ok.w
  have hd60 := hx.ok.disks
  have htl : b / L.r < L.tiles := Nat.div_lt_of_lt_mul (by unfold LayD.homes at hb; rw [Nat.mul_comm]; exact hb)
  have ht256 := hx.ok.tiles
  have hrb : L.r ≤ 4096 := Nat.le_trans (r_le L) hnb
  have hbb : b < 65536 + 1 := by
    have := hx.ok.blocks
    unfold LayD.blocks at this
    omega
  have hkr : b % L.r < L.r := Nat.mod_lt _ hr0
  have hol := onD_len hx.ok hd
  obtain ⟨g0, hg0⟩ : ∃ g0, (onD L d)[b % L.r]? = some g0 := ⟨_, List.getElem?_eq_getElem (by rw [hol]; exact hkr)⟩
  obtain ⟨row, hrow, hdr⟩ := onD_mem.1 (List.mem_of_getElem? hg0)
  have hg0n : g0 < L.n := (List.getElem?_eq_some_iff.1 hrow).1
  have hrl := hx.ok.len row (List.mem_of_getElem? hrow)
  have hrs := hx.ok.inc row (List.mem_of_getElem? hrow)
  obtain ⟨fa, fb⟩ := findIdx_has hdr
  obtain ⟨a, haa⟩ : ∃ a, row.findIdx (· == d) = a := ⟨_, rfl⟩
  rw [haa] at fa fb
  have hat : homeAt L d b = ((b / L.r) * L.n + g0, (((a : Int) - ((b / L.r : Nat) : Int)) % (L.w : Int)).toNat) := by
    unfold homeAt
    rw [hg0]
    simp only [Option.getD_some]
    rw [hrow]
    simp only [Option.getD_some]
    rw [haa]
  have hon : (onLs L)[d]? = some (onD L d) := by unfold onLs; rw [List.getElem?_map, List.getElem?_range hd]; rfl
  have hq1 := tdiv_nat b L.r
  have hq2 := tmod_nat b L.r
  have hr1 : ¬ (L.r : Int) = 0 := by omega
  have hr2 : ¬ L.r = 0 := by omega
  have hw1 : ¬ (L.w : Int) = 0 := by omega
  have hw2 : ¬ L.w = 0 := by omega
  rw [hat]
  simp only
  generalize b / L.r = t at *
  generalize b % L.r = k at *
  have htn : t * L.n ≤ 256 * 4096 := Nat.mul_le_mul (by omega) hnb
  obtain ⟨m1, n2, hm1, hm2, hm3, hm4, hm5, hm6⟩ := tmod_fix ((a : Int) - (t : Int)) (w := L.w) (by omega)
  generalize (((a : Int) - (t : Int)) % (L.w : Int)).toNat = pp at *
  have hpp : pp < L.w := by
    have h1 := Int.tmod_lt_of_pos (n2 : Int) (show (0 : Int) < (L.w : Int) by omega)
    rw [hm6] at h1
    omega
  have hmul : (t : Int) * (L.n : Int) = ((t * L.n : Nat) : Int) := by simp
  generalize t * L.n = tn at *
  have k1 : IntKind.i64.wrap (t : Int) = (t : Int) := IntWalk.i64_in _ (by omega)
  have k2 : IntKind.i64.wrap (k : Int) = (k : Int) := IntWalk.i64_in _ (by omega)
  have k3 : IntKind.i64.wrap ((t : Int) * (L.n : Int)) = (tn : Int) := by rw [hmul]; exact IntWalk.i64_in _ (by omega)
  have k4 : IntKind.i64.wrap ((tn : Int) + (g0 : Int)) = (tn : Int) + (g0 : Int) := IntWalk.i64_in _ (by omega)
  have k5 : IntKind.i64.wrap ((a : Int) - (t : Int)) = (a : Int) - (t : Int) := IntWalk.i64_in _ (by omega)
  have k6 : IntKind.i64.wrap m1 = m1 := IntWalk.i64_in _ (by omega)
  have k7 : IntKind.i64.wrap (m1 + (L.w : Int)) = (n2 : Int) := by rw [hm4]; exact IntWalk.i64_in _ (by omega)
  have k8 : IntKind.i64.wrap (pp : Int) = (pp : Int) := IntWalk.i64_in _ (by omega)
  obtain ⟨b1, off1, Al, cl, rfl, -, hat1⟩ := hv.at_ hrow
  obtain ⟨b2, off2, Al2, cl2, rfl, -, hat2⟩ := hr.at_ hon
  obtain ⟨bl2, ol2, rfl, -, -⟩ := nints_at (hat2 w w.heap.size (Below.refl _ _) hB).2 hg0
  have HC : Hid (∀ W, Below w.heap.size w W → W.cell? ⟨b1, off1 + g0, none⟩ = some (.slice Al L.w cl) ∧ IntS W B Al (nInts row) ∧ W.cell? ⟨b2, off2 + d, none⟩ = some (.slice (some ⟨bl2, ol2, none⟩) L.r cl2) ∧ W.cell? ⟨bl2, ol2 + k, none⟩ = some (.int .i64 (g0 : Int))) := fun W hW => by
    have r1 := hat1 W w.heap.size hW hB
    have r2 := hat2 W w.heap.size hW hB
    rw [hrl] at r1
    rw [hol] at r2
    obtain ⟨_, _, e1, -, s1⟩ := nints_at r2.2 hg0
    cases e1
    exact ⟨r1.1, r1.2, r2.1, s1⟩
  have HIX := Lib.hid (fun (W : World) (h : IntS W B Al (nInts row)) => idx_first (c := cl) (k := a) (l := nInts row) (d : Int) W h (by rw [nInts_len, hrl]; omega) (nInts_at fb) (fun j hj e => by
    unfold nInts at e
    rw [List.getElem?_map, Option.map_eq_some_iff] at e
    obtain ⟨y, e1, e2⟩ := e
    have : y = d := by omega
    subst this
    have := findIdx_at hrs e1
    omega))
  rw [nInts_len, hrl] at HIX
  have hdI : (d : Int) < (L.disks : Int) := by omega
  have hkI : (k : Int) < (L.r : Int) := by omega
  have hgI : (g0 : Int) < (L.n : Int) := by omega
  clear hat1 hat2 hv hr hrow hg0 hdr hrl hrs fb hat hon hol hmul haa hm4 hb
  go_enter Tryz.func52, Tryz.ntmps52
  go_wp2_with fail
  generalize hW0 : w.alloc _ = w0
  have hn : NumB w0 w.heap.size L (some ⟨b1, off1, none⟩) c (.slice Ar L.n cr) (.slice (some ⟨b2, off2, none⟩) L.disks co) ho ca := by rw [← hW0]; exact NumB.made w L _ _ _ _ _ _
  have hb0 : Below w.heap.size w w0 := by rw [← hW0]; exact below_laid
  have hz0 : w0.heap.size = w.heap.size + 1 := by rw [← hW0]; simp
  generalize hW1 : w0.alloc _ = w1
  have hp1 : MbB w1 (w.heap.size + 1) 0 0 := by rw [← hW1, ← hz0]; exact heap_alloc_new w0 _
  have hn1 : NumB w1 w.heap.size L (some ⟨b1, off1, none⟩) c (.slice Ar L.n cr) (.slice (some ⟨b2, off2, none⟩) L.disks co) ho ca := by rw [← hW1]; exact hn.below below_laid hn.lt
  have hb1 : Below w.heap.size w w1 := by rw [← hW1]; exact hb0.trans (below_laid.mono hb0.size)
  clear hW0 hW1 hn hb0 hz0
  have n1 := hn1.cells
  obtain ⟨c1, c2, c3, c4⟩ := HC.out w1 hb1
  go_wp2_with fail
  go_quiet (fail)
  generalize hdr : w1.drewN _ = w2
  have hp2 : MbB w2 (w.heap.size + 1) 0 0 := by rw [← hdr]; exact hp1
  have hn2 : NumB w2 w.heap.size L (some ⟨b1, off1, none⟩) c (.slice Ar L.n cr) (.slice (some ⟨b2, off2, none⟩) L.disks co) ho ca := by rw [← hdr]; exact hn1
  have hb2 : Below w.heap.size w w2 := by rw [← hdr]; exact below_drewN hb1 _
  clear hdr hp1 hn1 hb1 n1 c1 c2 c3 c4
  have n2' := hn2.cells
  obtain ⟨c1, c2, c3, c4⟩ := HC.out w2 hb2
  go_wp2_with fail
  refine (HIX.out w2 c2).mono ?_
  rintro r w3 ⟨rfl, hb3⟩
  have hn3 := hn2.below hb3 hn2.lt
  have hp3 := hp2.below hb3 hp2.lt
  have HB3 := Lib.hid (hb2.trans (hb3.mono hb2.size))
  clear hb3 hn2 hp2 hb2 n2' c1 c2 c3 c4 HIX
  have n3 := hn3.cells
  go_upto_region 4 with (fail)
  have HP : Hid (MbB w3.drew (w.heap.size + 1) 0 0) := hp3
  have HB := Lib.hid HB3.out.drew
  have n4 : _ := NumB.cells (w := w3.drew) hn3
  obtain ⟨p0, p1, f0, f1⟩ := HP.out.cells
  clear n3 hp3 hn3 HB3
  refine still_tail_drew 19 (by kernel_rfl) (by kernel_rfl) ?_
  simp only [List.take_succ_cons, List.take_zero, List.drop_succ_cons, List.drop_zero]
  generalize w3.drew = w4 at *
  repeat still_step
  refine wpStill_nil ?_
  have hset := HP.out.set ((tn : Int) + (g0 : Int)) (pp : Int)
  have HS := Lib.hid hset
  clear hset n4
  go_wp2
  (try simp only [Exit.inBlock, Exit.then])
  refine bodyPost_ret (v := .agg #[.int .i64 ((tn : Int) + (g0 : Int)), .int .i64 (pp : Int)]) ?_ rfl ⟨by simp, (HB.out.setCell (by simp) _).setCell (by simp) _⟩
  exact results_cell_row rfl _ _ (w.heap.size + 1) 45 #[.int .i64 ((tn : Int) + (g0 : Int)), .int .i64 (pp : Int)] (0, 0) _ rfl HS.out Tryz.underlying45 rfl (by kernel_rfl)
end Go.Proofs.YtkjjojmidhjjdaaGreat
