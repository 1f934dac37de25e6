/- Walks of piecesum.put and piecesum.Sum.
Leaves; walks of tegularef25.Zero and piecesum.Zero.
Walks of slices.Clone at []uint64 and []byte, tegularef25.Width, piecesum.pieces. -/
import Derived.Test.YtopoefcklipaeaaGreatDoorGRh
namespace Go.Proofs.YtopoefcklipaeaaGreatDoor
open Go.RowKit
def u8V (l : List Nat) : List Value := l.map fun (x : Nat) => .int .u8 (x : Int)
theorem u8V_len (l : List Nat) : (u8V l).length = l.length := by simp [u8V]
theorem u8V_flat (l : List Nat) : (l.map u8C).flatten = u8V l := by
 induction l with
 | nil => rfl
 | cons x l ih => rw [List.map_cons, List.flatten_cons, ih]; rfl
theorem setCells_snoc (b : Nat) (v : Value) (vs : List Value) : ∀ (w : World) (j : Nat), w.setCells b j (vs ++ [v]) = (w.setCells b j vs).setCell ⟨b, j + vs.length, none⟩ v := by
 induction vs with
 | nil => intro w j; rfl
 | cons u vs ih =>
  intro w j
  show (w.setCell ⟨b, j, none⟩ u).setCells b (j + 1) (vs ++ [v]) = ((w.setCell ⟨b, j, none⟩ u).setCells b (j + 1) vs).setCell _ v
  rw [ih, List.length_cons, show j + 1 + vs.length = j + (vs.length + 1) by omega]
theorem frozen_blk {w : World} {g : Nat} {cs : Array Value} {t : TypeId} (h : w.heap[g]? = some (.cells cs t (0, 0))) (j : Nat) : w.frozen? ⟨g, j, none⟩ = false := by
 simp [World.frozen?, h]
set_option maxHeartbeats 1000000 in
set_option maxRecDepth 100000 in
theorem put_any {g off k cap : Nat} {cur : Array Value} {T : TypeId} (n : Nat) (w : World) (h : w.heap[g]? = some (.cells cur T (0, 0))) (hl : off + k ≤ cur.size) (hk : k ≤ 8) :
  Calls Tryz.prog 79 #[.slice (some ⟨g, off, none⟩) k cap, .int .u64 (n : Int)] w fun r w' => r = .returned (.tuple #[]) ∧ w' = w.setCells g off (u8V (leB n k)) := by
 have HL : Hid (∀ i, u8V (leB n (i + 1)) = u8V (leB n i) ++ [.int .u8 ((n / 2 ^ (8 * i) % 256 : Nat) : Int)]) := fun i => by rw [leB_succ]; simp [u8V]
 have H0 : Hid (u8V (leB n 0) = []) := rfl
 obtain ⟨f, hf⟩ : ∃ f : Nat → List Value, (fun i => u8V (leB n i)) = f := ⟨_, rfl⟩
 have hfk : ∀ i, u8V (leB n i) = f i := fun i => by rw [← hf]
 simp only [hfk] at HL H0 ⊢
 have HFL : Hid (∀ i, (f i).length = i) := fun i => by rw [← hf]; simp [u8V]
 have HK : Hid (∀ i, i ≤ k → (w.setCells g off (f i)).heap[g]? = some (.cells (layC cur.toList off (f i)).toArray T (0, 0))) := fun i hi => heap_setCells (f i) w off cur h (by rw [HFL]; omega)
 clear hf hfk h
 go_enter Tryz.func79, Tryz.ntmps79
 go_wp2
 go_loopw [4, 7] (fun s4 s7 wr => ∃ i : Nat, i ≤ k ∧ s7 = .int .i64 i ∧ wr = w.setCells g off (f i)) (fun _ s7 _ => k - (intOf s7).toNat)
 case atStart => exact ⟨0, by omega, rfl, by rw [H0.out]; rfl⟩
 case round =>
  obtain ⟨i, hi, rfl, hW⟩ := hrel
  have HW := Lib.hid hW
  have hkk := HK.out i hi
  rw [← hW] at hkk
  clear hW
  by_cases hik : i < k
  case neg =>
   have hkI : ¬ (i : Int) < (k : Int) := by omega
   obtain rfl : i = k := by omega
   clear hik
   go_wp2
   exact bodyPost_end (results_none rfl _ _ _) rfl ⟨rfl, HW.out⟩
  case pos =>
   have hkI : (i : Int) < (k : Int) := by omega
   have hk0 : ¬ (i : Int) < 0 := by omega
   have hfr := frozen_blk hkk (off + i)
   have hcell : (wr.cell? ⟨g, off + i, none⟩).isSome = true := by
    rw [cell_of_row _ g _ _ T (0, 0) hkk]
    simp [layC, HFL.out]
    omega
   have hcw := conv_u64u8 (n / 2 ^ (8 * i)) wr
   obtain ⟨u, hu⟩ := Option.isSome_iff_exists.1 hcell
   clear hik hcell
   go_wp2
   go_round
   case rel =>
    refine ⟨i + 1, by omega, by go_num, ?_⟩
    rw [HL.out, setCells_snoc, HFL.out, HW.out]
    simp
   case measure => simp [intOf] <;> omega
theorem layC_app {A Z m : List Value} {a : Nat} (hA : A.length = a) : layC (A ++ Z) a m = (A ++ m) ++ Z.drop m.length := by
 subst hA
 unfold layC
 rw [List.take_append_of_le_length (Nat.le_refl _), List.take_of_length_le (Nat.le_refl _), List.drop_append, List.drop_of_length_le (by omega)]
 simp
theorem u8V_app (a b : List Nat) : u8V (a ++ b) = u8V a ++ u8V b := by simp [u8V]
theorem put_at {g a k cap : Nat} {l : List Nat} {Z : List Value} {T : TypeId} (n : Nat) (w : World) (h : w.heap[g]? = some (.cells (u8V l ++ Z).toArray T (0, 0))) (ha : l.length = a) (hZ : k ≤ Z.length) (hk : k ≤ 8) :
  Calls Tryz.prog 79 #[.slice (some ⟨g, a, none⟩) k cap, .int .u64 (n : Int)] w fun r w' => r = .returned (.tuple #[]) ∧ w'.heap[g]? = some (.cells (u8V (l ++ leB n k) ++ Z.drop k).toArray T (0, 0)) ∧ w.grownBy w' (some g) := by
 refine (put_any n w h (by simp [u8V]; omega) hk).mono ?_
 rintro r w' ⟨rfl, rfl⟩
 refine ⟨rfl, ?_, grownBy_setCells _ _ _ _⟩
 have h2 := heap_setCells (u8V (leB n k)) w a (u8V l ++ Z).toArray h (by simp [u8V]; omega)
 rw [h2]
 have e : layC (u8V l ++ Z).toArray.toList a (u8V (leB n k)) = u8V (l ++ leB n k) ++ Z.drop k := by
  show layC (u8V l ++ Z) a _ = _
  rw [layC_app (by rw [u8V_len, ha]), ← u8V_app, u8V_len, leB_len]
 rw [e]
theorem two_laid (w : World) (A C : Obj) : ∃ w1, (w.alloc A).alloc C = w1 ∧ w1.heap[w.heap.size]? = some A ∧ w1.heap[w.heap.size + 1]? = some C ∧ Below w.heap.size w w1 ∧ w1.heap.size = w.heap.size + 2 := by
 refine ⟨_, rfl, ?_, ?_, (below_laid.trans ((Below.refl _ _).alloc (by simp) _)), by simp⟩
 ·rw [Below.heap_alloc _ _ _ (by simp)]
  exact heap_alloc_new w A
 ·have := heap_alloc_new (w.alloc A) C
  simpa using this
set_option maxHeartbeats 1000000 in
set_option maxRecDepth 100000 in
theorem psum (g p v : Nat) (d : Blk) (w : World) (hd : d.ok) (hg : g < 1000000) (hp : p < 1000000) :
  Calls Tryz.prog 67 #[.int .i64 (g : Int), .int .i64 (p : Int), .int .u64 (v : Int), d.agg] w fun r w' => r = .returned (.int .u64 (sumN g p v d : Int)) ∧ Below w.heap.size w w' := by
 have hc1 := fun W => conv_iu64 (g : Int) (by omega) (by omega) W
 have hc2 := fun W => conv_iu64 (p : Int) (by omega) (by omega) W
 obtain ⟨l1, hl1⟩ : ∃ l1, leB g 4 = l1 := ⟨_, rfl⟩
 obtain ⟨l2, hl2⟩ : ∃ l2, l1 ++ leB p 4 = l2 := ⟨_, rfl⟩
 obtain ⟨l3, hl3⟩ : ∃ l3, l2 ++ leB v 8 = l3 := ⟨_, rfl⟩
 have HN : Hid (crcN (l3 ++ d.l) = sumN g p v d) := Lib.hid (by rw [← hl3, ← hl2, ← hl1]; rfl)
 have HLT : Hid (∀ x ∈ l3 ++ d.l, x < 256) := Lib.hid (by
  intro x hx
  rw [← hl3, ← hl2, ← hl1] at hx
  simp only [List.mem_append] at hx
  rcases hx with ((hx | hx) | hx) | hx
  ·exact leB_lt x hx
  ·exact leB_lt x hx
  ·exact leB_lt x hx
  ·exact hd x hx)
 have n1 : l1.length = 4 := by rw [← hl1]; simp
 have n2 : l2.length = 8 := by rw [← hl2]; simp [n1]
 have n3 : l3.length = 16 := by rw [← hl3]; simp [n2]
 obtain ⟨Z, hZ⟩ : ∃ Z : List Value, List.replicate 24 (Value.int .u8 0) = Z := ⟨_, rfl⟩
 have hZn : Z.length = 24 := by rw [← hZ]; rfl
 have HP1 : Hid (∀ (k c : Nat) (W : World), W.heap[k]? = some (.cells Z.toArray 297 (0, 0)) → Calls Tryz.prog 79 #[.slice (some ⟨k, 0, none⟩) 4 c, .int .u64 (g : Int)] W fun r w' => r = .returned (.tuple #[]) ∧ w'.heap[k]? = some (.cells (u8V l1 ++ Z.drop 4).toArray 297 (0, 0)) ∧ W.grownBy w' (some k)) := Lib.hid (fun k c W h => by rw [← hl1]; exact put_at (l := []) g W h rfl (by omega) (by decide))
 have HP2 : Hid (∀ (k c : Nat) (W : World), W.heap[k]? = some (.cells (u8V l1 ++ Z.drop 4).toArray 297 (0, 0)) → Calls Tryz.prog 79 #[.slice (some ⟨k, 4, none⟩) 4 c, .int .u64 (p : Int)] W fun r w' => r = .returned (.tuple #[]) ∧ w'.heap[k]? = some (.cells (u8V l2 ++ Z.drop 8).toArray 297 (0, 0)) ∧ W.grownBy w' (some k)) := Lib.hid (fun k c W h => by have := put_at p W (cap := c) (k := 4) h n1 (by simp; omega) (by decide); rw [hl2, List.drop_drop] at this; exact this)
 have HP3 : Hid (∀ (k c : Nat) (W : World), W.heap[k]? = some (.cells (u8V l2 ++ Z.drop 8).toArray 297 (0, 0)) → Calls Tryz.prog 79 #[.slice (some ⟨k, 8, none⟩) 8 c, .int .u64 (v : Int)] W fun r w' => r = .returned (.tuple #[]) ∧ w'.heap[k]? = some (.cells (u8V l3 ++ Z.drop 16).toArray 297 (0, 0)) ∧ W.grownBy w' (some k)) := Lib.hid (fun k c W h => by have := put_at v W (cap := c) (k := 8) h n2 (by simp; omega) (by decide); rw [hl3, List.drop_drop] at this; exact this)
 have HS8 : Hid (∀ (c k : Nat) (W : World), W.heap[k]? = some (.cells (u8V l3 ++ d.cells).toArray 297 (0, 0)) → Calls Tryz.prog 80 #[.slice (some ⟨k, 0, none⟩) 24 c] W fun r w' => r = .returned (.int .u64 (sumN g p v d : Int)) ∧ W = w') := Lib.hid (fun c k W h => by
  have hb := bytS_block (B := k + 1) (l := l3 ++ d.l) h (by rw [u8V_flat, u8V_app]; rfl) (by omega)
  have := sum64 (c := c) W hb HLT.out (by simp [n3, Blk.len])
  rw [HN.out] at this
  rw [show (l3 ++ d.l).length = 24 by simp [n3, Blk.len]] at this
  exact this)
 have HCP : Hid (∀ (k j : Nat) (W : World), W.heap[k]? = some (.cells (u8V l3 ++ Z.drop 16).toArray 297 (0, 0)) → W.heap[j]? = some (.cells d.cells.toArray 116 (0, 0)) → (∀ ty, (Builtin.copy_ #[40, 40] ty #[.slice (some ⟨k, 16, none⟩) 8 8, .slice (some ⟨j, 0, none⟩) 8 8]).run Tryz.prog W = .ok (goInt 8) (W.setCells k 16 d.cells)) ∧ (W.setCells k 16 d.cells).heap[k]? = some (.cells (u8V l3 ++ d.cells).toArray 297 (0, 0))) := Lib.hid (fun k j W hk hj => by
  refine ⟨fun ty => run_copy_rows W _ _ ty 5 1 8 k 16 8 8 ⟨j, 0, none⟩ 8 8 d.cells Tryz.underlying40 (by kernel_rfl) rfl rfl ?_ ?_ ?_ ?_, ?_⟩
  ·intro i u hu
   rw [show (⟨j, 0, none⟩ : Addr).add i = ⟨j, 0 + i, none⟩ from Addr.add_lit _ _ _, cell_of_row _ j _ _ _ (0, 0) hj]
   simpa using hu
  ·intro i hi
   rw [cell_of_row _ k _ _ _ (0, 0) hk]
   have : d.cells.length = 8 := rfl
   simp [u8V, n3, hZn]
   omega
  ·intro i hi
   exact frozen_blk hk _
  ·intro u hu
   simp only [Blk.cells, List.mem_cons, List.not_mem_nil, or_false] at hu
   rcases hu with rfl | rfl | rfl | rfl | rfl | rfl | rfl | rfl <;> rfl
  ·rw [heap_setCells d.cells W 16 _ hk (by simp [u8V, n3, hZn, Blk.cells])]
   have e : layC (u8V l3 ++ Z.drop 16) 16 d.cells = u8V l3 ++ d.cells := by
    rw [layC_app (by rw [u8V_len, n3])]
    have : (Z.drop 16).drop d.cells.length = [] := List.drop_of_length_le (by simp [hZn, Blk.cells])
    rw [this, List.append_nil]
   show some (Obj.cells (layC (u8V l3 ++ Z.drop 16) 16 d.cells).toArray _ (0, 0)) = _
   rw [e])
 clear hl1 hl2 hl3 n1 n2 n3 hZn
 obtain ⟨s, hs⟩ : ∃ s, sumN g p v d = s := ⟨_, rfl⟩
 rw [hs] at HN HS8 ⊢
 clear hs hd HN HLT
 obtain ⟨b0, b1, b2, b3, b4, b5, b6, b7⟩ := d
 simp only [Blk.agg]
 obtain ⟨dc, hdc⟩ : ∃ dc, (⟨b0, b1, b2, b3, b4, b5, b6, b7⟩ : Blk).cells = dc := ⟨_, rfl⟩
 rw [hdc] at HS8 HCP
 go_enter Tryz.func67, Tryz.ntmps67
 go_upto_region 2 with (fail)
 obtain ⟨w1, hw1, ha, hc, hb, hz⟩ := two_laid w (.cells #[.int .u8 b0, .int .u8 b1, .int .u8 b2, .int .u8 b3, .int .u8 b4, .int .u8 b5, .int .u8 b6, .int .u8 b7] 116) (.cells #[.int .u8 0, .int .u8 0, .int .u8 0, .int .u8 0, .int .u8 0, .int .u8 0, .int .u8 0, .int .u8 0, .int .u8 0, .int .u8 0, .int .u8 0, .int .u8 0, .int .u8 0, .int .u8 0, .int .u8 0, .int .u8 0, .int .u8 0, .int .u8 0, .int .u8 0, .int .u8 0, .int .u8 0, .int .u8 0, .int .u8 0, .int .u8 0] 297)
 rw [hw1]
 have HA : Hid (w1.heap[w.heap.size]? = some (.cells dc.toArray 116 (0, 0))) := Lib.hid (by rw [← hdc]; exact ha)
 have HC : Hid (w1.heap[w.heap.size + 1]? = some (.cells Z.toArray 297 (0, 0))) := Lib.hid (by rw [← hZ]; exact hc)
 have HB := Lib.hid hb
 clear hw1 ha hc hb hdc hZ
 go_wp2_with fail
 refine (HP1.out _ 24 w1 HC.out).mono ?_
 rintro r w2 ⟨rfl, hc2, hg2⟩
 have HC2 := Lib.hid hc2
 have HA2 := Lib.hid ((hg2.block w.heap.size (by omega) (fun h => by injection h; omega)).trans HA.out)
 have HB2 := Lib.hid (HB.out.grown hg2 (by omega) (fun k h => by injection h with h; omega))
 have hz2 : w.heap.size + 2 ≤ w2.heap.size := Nat.le_trans (Nat.le_of_eq hz.symm) hg2.size
 clear hc2 hg2 HA HB HC HP1
 go_wp2_with fail
 refine (HP2.out _ _ w2 HC2.out).mono ?_
 rintro r w3 ⟨rfl, hc3, hg3⟩
 have HC3 := Lib.hid hc3
 have HA3 := Lib.hid ((hg3.block w.heap.size (by omega) (fun h => by injection h; omega)).trans HA2.out)
 have HB3 := Lib.hid (HB2.out.grown hg3 (by omega) (fun k h => by injection h with h; omega))
 have hz3 : w.heap.size + 2 ≤ w3.heap.size := Nat.le_trans hz2 hg3.size
 clear hc3 hg3 HA2 HB2 HC2 HP2
 go_wp2_with fail
 refine (HP3.out _ _ w3 HC3.out).mono ?_
 rintro r w4 ⟨rfl, hc4, hg4⟩
 have HC4 := Lib.hid hc4
 have HA4 := Lib.hid ((hg4.block w.heap.size (by omega) (fun h => by injection h; omega)).trans HA3.out)
 have HB4 := Lib.hid (HB3.out.grown hg4 (by omega) (fun k h => by injection h with h; omega))
 have hz4 : w.heap.size + 2 ≤ w4.heap.size := Nat.le_trans hz3 hg4.size
 clear hc4 hg4 HA3 HB3 HC3 HP3
 go_upto_region 5 with (fail)
 obtain ⟨hrun, hh⟩ := HCP.out (w.heap.size + 1) w.heap.size w4.drew HC4.out HA4.out
 have hb5 : Below w.heap.size w (w4.drew.setCells (w.heap.size + 1) 16 dc) := HB4.out.drew.grown (grownBy_setCells _ _ _ _) (by show w.heap.size ≤ w4.heap.size; omega) (fun k h => by injection h with h; omega)
 obtain ⟨w5, hw5⟩ : ∃ w5, w4.drew.setCells (w.heap.size + 1) 16 dc = w5 := ⟨_, rfl⟩
 rw [hw5] at hh hb5
 simp only [hw5] at hrun
 have HH := Lib.hid hh
 have HB5 := Lib.hid hb5
 have HR := Lib.hid hrun
 clear hh hb5 hrun hw5 HCP HC4 HA4 HB4
 go_region_held3 (fun _ => True) (first | trivial)
  (first
   | ((refine step_copy_rows (by rfl) (.tmp 21) (.tmp 22) _ _ (by rfl) _ _ (by rfl) (by rfl) (HR.out _) ?_))
   | fail)
 all_goals
  go_wp2_with fail
  refine (HS8.out _ _ w5 HH.out).mono ?_
  rintro r w6 ⟨rfl, rfl⟩
  go_wp2
  go_ret
  exact ⟨rfl, HB5.out⟩
end Go.Proofs.YtopoefcklipaeaaGreatDoor
namespace Go.Proofs.YtopoefcklipaeaaGreatDoor
open Go.RowKit
def u64C (x : Nat) : List Value := [.int .u64 x]
abbrev U64S (w : World) (B : Nat) (A : Option Addr) (l : List Nat) : Prop := RdS w B 1 A (l.map u64C)
theorem U64S.at_ {w : World} {B : Nat} {A : Option Addr} {l : List Nat} (h : U64S w B A l) {k x : Nat} (hx : l[k]? = some x) : ∃ b off, A = some ⟨b, off, none⟩ ∧ b < B ∧ w.cell? ⟨b, off + k, none⟩ = some (.int .u64 (x : Int)) := by
 have hk := (List.getElem?_eq_some_iff.1 hx).1
 obtain ⟨b, off, rfl, hb, hc⟩ := h.2 (by simp; omega)
 have hr : (l.map u64C)[k]? = some (u64C x) := by rw [List.getElem?_map, hx]; rfl
 exact ⟨b, off, rfl, hb, by simpa using hc k _ hr 0 _ rfl⟩
theorem elemU64 : Elem Tryz.prog 45 38 1 8 := Elem.mk (z := .int .u64 0) Tryz.underlying45 (by kernel_rfl) (by decide) rfl
theorem u64C_one (x : Nat) : ∀ u ∈ u64C x, u.oneCell' = true := by intro u hu; rw [u64C, List.mem_singleton] at hu; subst hu; rfl
theorem u64C_all (l : List Nat) : ∀ r ∈ l.map u64C, ∀ u ∈ r, u.oneCell' = true := by
 intro r hr
 obtain ⟨x, -, rfl⟩ := List.mem_map.1 hr
 exact u64C_one x
theorem OwS.u64s {w : World} {base : Nat} {v : Value} {l : List Nat} (h : OwS w base 38 1 v (l.map u64C)) : ∃ A c, v = .slice A l.length c ∧ U64S w w.heap.size A l ∧ l.length ≤ c := by
 obtain ⟨A, c, rfl, hc, -⟩ := h.form
 exact ⟨A, c, by simp, h.reads, by simpa using hc⟩
theorem OwS.sl {w : World} {base size : Nat} {e : TypeId} {v : Value} {rows : List (List Value)} (h : OwS w base e size v rows) : ∃ A n c, v = .slice A n c := by
 obtain ⟨A, c, hv, -, -⟩ := h.form
 exact ⟨A, _, c, hv⟩
structure Leaf where
 vs : List Nat
 ss : List Nat
def LfV (w : World) (B : Nat) (v : Value) (L : Leaf) : Prop := ∃ A c A' c', v = .agg #[.slice A L.vs.length c, .slice A' L.ss.length c'] ∧ U64S w B A L.vs ∧ U64S w B A' L.ss ∧ L.vs.length ≤ c ∧ L.ss.length ≤ c'
theorem LfV.below {w w' : World} {B C : Nat} {v : Value} {L : Leaf} (h : LfV w B v L) (hb : Below C w w') (hC : B ≤ C) : LfV w' B v L := by
 obtain ⟨A, c, A', c', rfl, h1, h2, h3⟩ := h
 exact ⟨A, c, A', c', rfl, h1.below' hb hC, h2.below' hb hC, h3⟩
theorem LfV.more {w : World} {B C : Nat} {v : Value} {L : Leaf} (h : LfV w B v L) (hC : B ≤ C) : LfV w C v L := by
 obtain ⟨A, c, A', c', rfl, h1, h2, h3⟩ := h
 exact ⟨A, c, A', c', rfl, h1.more hC, h2.more hC, h3⟩
theorem LfV.mk {w : World} {B B' : Nat} {va vb : Value} {a b : List Nat} (ha : OwS w B 38 1 va (a.map u64C)) (hb : OwS w B' 38 1 vb (b.map u64C)) : LfV w w.heap.size (.agg #[va, vb]) ⟨a, b⟩ := by
 obtain ⟨A, c, rfl, h1, h3⟩ := ha.u64s
 obtain ⟨A', c', rfl, h2, h4⟩ := hb.u64s
 exact ⟨_, _, _, _, rfl, h1, h2, h3, h4⟩
def LfF (B : Nat) (v : Value) : Prop := ∃ ua ub, v = .agg #[ua, ub] ∧ ∀ k, (ua.ownBlock = some k ∨ ub.ownBlock = some k) → B ≤ k
theorem LfF.mk {w : World} {B B1 B2 : Nat} {va vb : Value} {a b : List (List Value)} {e : TypeId} {n : Nat} (ha : OwS w B1 e n va a) (hb : OwS w B2 e n vb b) (h1 : B ≤ B1) (h2 : B ≤ B2) : LfF B (.agg #[va, vb]) := ⟨_, _, rfl, fun k hk => by
 rcases hk with h | h
 ·exact Nat.le_trans h1 (ha.lt h).1
 ·exact Nat.le_trans h2 (hb.lt h).1⟩
def zeroB : Blk := ⟨0, 0, 0, 0, 0, 0, 0, 0⟩
structure PrS (w : World) (B : Nat) (va vb : Value) (a b : List Nat) : Prop where
 oa : OwS w (B + 2) 38 1 va (a.map u64C)
 ob : OwS w (B + 2) 38 1 vb (b.map u64C)
 ap : va.ownBlock = none ∨ va.ownBlock ≠ vb.ownBlock
 box : w.heap[B + 1]? = some (.cells #[va, vb] 58 (0, 0))
 res : w.heap[B]? = some (.cells #[.slice none 0 0, .slice none 0 0] 58 (0, 0))
section
variable {w w' : World} {B : Nat} {va vb v' : Value} {a b : List Nat}
theorem PrS.lt (h : PrS w B va vb a b) : B + 1 < w.heap.size := by
 have := (Array.getElem?_eq_some_iff.1 h.box).1
 exact this
theorem PrS.below (h : PrS w B va vb a b) (hb : Below w.heap.size w w') : PrS w' B va vb a b := by
 have := h.lt
 exact ⟨h.oa.below hb, h.ob.below hb, h.ap, (hb.block _ this).trans h.box, (hb.block _ (by omega)).trans h.res⟩
theorem PrS.ne (h : PrS w B va vb a b) : va.ownBlock ≠ some (B + 1) ∧ vb.ownBlock ≠ some (B + 1) ∧ va.ownBlock ≠ some B ∧ vb.ownBlock ≠ some B :=
 ⟨fun e => by have := (h.oa.lt e).1; omega, fun e => by have := (h.ob.lt e).1; omega, fun e => by have := (h.oa.lt e).1; omega, fun e => by have := (h.ob.lt e).1; omega⟩
theorem PrS.pushA {x : Nat} {o : Obj} (h : PrS w B va vb a b) (hg : (w.alloc o).grownBy w' va.ownBlock) (ho : OwS w' (B + 2) 38 1 v' ((a ++ [x]).map u64C)) (hv : v'.ownBlock = va.ownBlock ∨ v'.ownBlock = some (w.heap.size + 1)) :
  PrS (w'.setCell ⟨B + 1, 0, none⟩ v') B v' vb (a ++ [x]) b := by
 have hl := h.lt
 have hb : w'.heap[B + 1]? = some (.cells #[va, vb] 58 (0, 0)) := (hg.block (B + 1) (by simp; omega) (fun e => h.ne.1 e.symm)).trans ((Below.heap_alloc _ _ _ hl).trans h.box)
 have hr : w'.heap[B]? = some (.cells #[.slice none 0 0, .slice none 0 0] 58 (0, 0)) := (hg.block B (by simp; omega) (fun e => h.ne.2.2.1 e.symm)).trans ((Below.heap_alloc _ _ _ (by omega)).trans h.res)
 have hob : OwS w' (B + 2) 38 1 vb (b.map u64C) := by
  refine (h.ob.alloc o).kept hg ?_
  rcases h.ap with e | e
  ·rw [e]; cases vb.ownBlock <;> simp
  ·exact .inr fun e2 => e e2.symm
 refine ⟨ho.far (fun e => by have := (ho.lt e).1; simp at this <;> omega) _, hob.far (fun e => by have := (hob.lt e).1; simp at this <;> omega) _, ?_, ?_, ?_⟩
 ·rcases hv with e | e
  ·rw [e]; exact h.ap
  ·refine .inr ?_
   rw [e]
   intro e2
   have := (h.ob.lt e2.symm).2
   omega
 ·exact heap_setCell_same w' (B + 1) 0 _ _ v' hb
 ·rw [heap_setCell_other _ _ _ _ (by show B ≠ B + 1; omega)]
  exact hr
theorem PrS.pushB {x : Nat} {o : Obj} (h : PrS w B va vb a b) (hg : (w.alloc o).grownBy w' vb.ownBlock) (ho : OwS w' (B + 2) 38 1 v' ((b ++ [x]).map u64C)) (hv : v'.ownBlock = vb.ownBlock ∨ v'.ownBlock = some (w.heap.size + 1)) :
  PrS (w'.setCell ⟨B + 1, 1, none⟩ v') B va v' a (b ++ [x]) := by
 have hl := h.lt
 have hb : w'.heap[B + 1]? = some (.cells #[va, vb] 58 (0, 0)) := (hg.block (B + 1) (by simp; omega) (fun e => h.ne.2.1 e.symm)).trans ((Below.heap_alloc _ _ _ hl).trans h.box)
 have hr : w'.heap[B]? = some (.cells #[.slice none 0 0, .slice none 0 0] 58 (0, 0)) := (hg.block B (by simp; omega) (fun e => h.ne.2.2.2 e.symm)).trans ((Below.heap_alloc _ _ _ (by omega)).trans h.res)
 have hoa : OwS w' (B + 2) 38 1 va (a.map u64C) := (h.oa.alloc o).kept hg h.ap
 refine ⟨hoa.far (fun e => by have := (hoa.lt e).1; simp at this <;> omega) _, ho.far (fun e => by have := (ho.lt e).1; simp at this <;> omega) _, ?_, ?_, ?_⟩
 ·rcases hv with e | e
  ·rw [e]; exact h.ap
  ·rcases he : va.ownBlock with _ | k
   ·exact .inl rfl
   ·refine .inr ?_
    rw [e]
    intro e2
    have := (h.oa.lt he).2
    injection e2 with e2
    omega
 ·exact heap_setCell_same w' (B + 1) 1 _ _ v' hb
 ·rw [heap_setCell_other _ _ _ _ (by show B ≠ B + 1; omega)]
  exact hr
end
theorem PrS.kept_box {w w' : World} {B : Nat} {va vb : Value} {a b : List Nat} {o : Obj} {row : Option Nat} (h : PrS w B va vb a b) (hg : (w.alloc o).grownBy w' row) (hr : row = va.ownBlock ∨ row = vb.ownBlock) : w'.heap[B + 1]? = some (.cells #[va, vb] 58 (0, 0)) := by
 have hl := h.lt
 refine (hg.block (B + 1) (by simp; omega) ?_).trans ((Below.heap_alloc _ _ _ hl).trans h.box)
 rcases hr with rfl | rfl
 ·exact fun e => h.ne.1 e.symm
 ·exact fun e => h.ne.2.1 e.symm
def sumsZ (g i : Nat) : List Nat := (List.range i).map fun k => sumN g k 0 zeroB
def zeroL (g n : Nat) : Leaf := ⟨List.replicate n 0, sumsZ g n⟩
theorem sumsZ_succ (g i : Nat) : sumsZ g (i + 1) = sumsZ g i ++ [sumN g i 0 zeroB] := by
 unfold sumsZ
 rw [List.range_succ, List.map_append]
 rfl
set_option maxHeartbeats 1000000 in
set_option maxRecDepth 100000 in
theorem pzero (g n : Nat) (w : World) (hg : g < 1000000) (h1 : 1 ≤ n) (hn : n ≤ 16) :
  Calls Tryz.prog 27 #[.int .i64 (g : Int), .int .i64 (n : Int)] w fun r w' => (∃ v, r = .returned v ∧ LfV w' w'.heap.size v (zeroL g n) ∧ LfF w.heap.size v) ∧ Below w.heap.size w w' := by
 have HS : Hid (∀ (i : Nat) (W : World), i < 1000000 → Calls Tryz.prog 67 #[.int .i64 (g : Int), .int .i64 (i : Int), .int .u64 0, .agg #[.int .u8 0, .int .u8 0, .int .u8 0, .int .u8 0, .int .u8 0, .int .u8 0, .int .u8 0, .int .u8 0]] W fun r w' => r = .returned (.int .u64 (sumN g i 0 zeroB : Int)) ∧ Below W.heap.size W w') := Lib.hid (fun (i : Nat) (W : World) (hi : i < 1000000) => psum g i 0 zeroB W (by unfold Blk.ok; decide) hg hi)
 have hn16 : ¬ 16 < (n : Int) := by omega
 have hn1 : ¬ (n : Int) < 1 := by omega
 go_enter Tryz.func27, Tryz.ntmps27
 go_upto_region 2 with (fail)
 obtain ⟨w1, hw1, ha, hc, hb, hz⟩ := two_laid w (.cells #[.slice none 0 0, .slice none 0 0] 58) (.cells #[.slice none 0 0, .slice none 0 0] 58)
 rw [hw1]
 have HP : Hid (PrS w1 w.heap.size (.slice none 0 0) (.slice none 0 0) [] []) := Lib.hid ⟨OwS.nil _ _ _ _, OwS.nil _ _ _ _, .inl rfl, hc, ha⟩
 have HB := Lib.hid hb
 clear hw1 ha hc hb hz
 go_wp2
 go_loopw [6, 15] (fun s6 s15 wr => ∃ i : Nat, i ≤ n ∧ s15 = .int .i64 i ∧ (∃ va vb, PrS wr w.heap.size va vb (List.replicate i 0) (sumsZ g i)) ∧ Below w.heap.size w wr) (fun _ s15 _ => n - (intOf s15).toNat)
 case atStart => exact ⟨0, by omega, rfl, ⟨_, _, HP.out⟩, HB.out⟩
 case round =>
  obtain ⟨i, hi, rfl, ⟨va, vb, hP⟩, hb⟩ := hrel
  have HPW := Lib.hid hP
  have HBW := Lib.hid hb
  have hlt := hP.lt
  clear hP hb HP HB
  by_cases hik : i < n
  case neg =>
   have hkI : ¬ (i : Int) < (n : Int) := by omega
   obtain rfl : i = n := by omega
   clear hik
   have c0 : wr.cell? ⟨w.heap.size + 1, 0, none⟩ = some va := by rw [cell_of_row _ _ _ _ _ _ HPW.out.box]; rfl
   have c1 : wr.cell? ⟨w.heap.size + 1, 1, none⟩ = some vb := by rw [cell_of_row _ _ _ _ _ _ HPW.out.box]; rfl
   have e0 : wr.cell? ⟨w.heap.size, 0, none⟩ = some (.slice none 0 0) := by rw [cell_of_row _ _ _ _ _ _ HPW.out.res]; rfl
   have e1 : wr.cell? ⟨w.heap.size, 1, none⟩ = some (.slice none 0 0) := by rw [cell_of_row _ _ _ _ _ _ HPW.out.res]; rfl
   have f0 := frozen_blk HPW.out.res 0
   have f1 := frozen_blk HPW.out.res 1
   obtain ⟨Aa, na, ca, rfl⟩ := HPW.out.oa.sl
   obtain ⟨Ab, nb, cb, rfl⟩ := HPW.out.ob.sl
   have hb2 := heap_setCell_same wr w.heap.size 0 _ _ (.slice Aa na ca) HPW.out.res
   have HBX := Lib.hid (heap_setCell_same (wr.setCell ⟨w.heap.size, 0, none⟩ (.slice Aa na ca)) w.heap.size 1 _ _ (.slice Ab nb cb) hb2)
   have HBF : Hid (Below w.heap.size w ((wr.setCell ⟨w.heap.size, 0, none⟩ (.slice Aa na ca)).setCell ⟨w.heap.size, 1, none⟩ (.slice Ab nb cb))) := (HBW.out.setCell (Nat.le_refl _) _).setCell (Nat.le_refl _) _
   have HFF : Hid (LfF w.heap.size (.agg #[.slice Aa na ca, .slice Ab nb cb])) := LfF.mk HPW.out.oa HPW.out.ob (by omega) (by omega)
   have HLF : Hid (LfV ((wr.setCell ⟨w.heap.size, 0, none⟩ (.slice Aa na ca)).setCell ⟨w.heap.size, 1, none⟩ (.slice Ab nb cb)) ((wr.setCell ⟨w.heap.size, 0, none⟩ (.slice Aa na ca)).setCell ⟨w.heap.size, 1, none⟩ (.slice Ab nb cb)).heap.size (.agg #[.slice Aa na ca, .slice Ab nb cb]) (zeroL g i)) := by
    have ha := (HPW.out.oa.far (p := ⟨w.heap.size, 0, none⟩) HPW.out.ne.2.2.1 (.slice Aa na ca)).far (p := ⟨w.heap.size, 1, none⟩) HPW.out.ne.2.2.1 (.slice Ab nb cb)
    have hb := (HPW.out.ob.far (p := ⟨w.heap.size, 0, none⟩) HPW.out.ne.2.2.2 (.slice Aa na ca)).far (p := ⟨w.heap.size, 1, none⟩) HPW.out.ne.2.2.2 (.slice Ab nb cb)
    exact LfV.mk ha hb
   go_wp2
   (try simp only [Exit.inBlock, Exit.then])
   refine bodyPost_ret (v := .agg #[.slice Aa na ca, .slice Ab nb cb]) ?_ rfl ⟨⟨_, rfl, HLF.out, HFF.out⟩, HBF.out⟩
   exact results_cell_row rfl _ _ w.heap.size 58 #[.slice Aa na ca, .slice Ab nb cb] (0, 0) _ rfl (by simpa using HBX.out) Tryz.underlying58 rfl (by kernel_rfl)
  case pos =>
   have hkI : (i : Int) < (n : Int) := by omega
   have c0 : wr.cell? ⟨w.heap.size + 1, 0, none⟩ = some va := by rw [cell_of_row _ _ _ _ _ _ HPW.out.box]; rfl
   have hbx := frozen_blk HPW.out.box 0
   obtain ⟨Aa, na, ca, rfl⟩ := HPW.out.oa.sl
   have hz2 : w.heap.size + 2 ≤ wr.heap.size := by omega
   go_wp2_with (at_builtin; refine wpList_ap1 rfl (.tmp 19) (.tmp 20) _ rfl elemU64 rfl HPW.out.oa [.int .u64 0] _ (by rfl) wr.heap.size (by rfl) (by rfl) (by intro u hu; rw [List.mem_singleton] at hu; subst hu; rfl) (by simp [maxLen]; omega) (by simp; omega) hz2 ?_)
   intro v5 w5 hown5 hg5 hv5
   obtain ⟨A5, n5, c5, rfl⟩ := hown5.sl
   have hbb := HPW.out.kept_box hg5 (.inl rfl)
   have d0 : w5.cell? ⟨w.heap.size + 1, 0, none⟩ = some (.slice Aa na ca) := by rw [cell_of_row _ _ _ _ _ _ hbb]; rfl
   have dx := frozen_blk hbb 0
   have HP6 := Lib.hid (HPW.out.pushA (x := 0) hg5 (by rw [List.map_append, List.map_replicate]; exact hown5) hv5)
   have HB6 := Lib.hid (((HBW.out.alloc (by omega) _).grown hg5 (by simp; omega) (fun k h => by have := (HPW.out.oa.lt h).1; omega)).setCell (p := ⟨w.heap.size + 1, 0, none⟩) (by simp) (.slice A5 n5 c5))
   have hz6 : w.heap.size + 2 ≤ (w5.setCell ⟨w.heap.size + 1, 0, none⟩ (.slice A5 n5 c5)).heap.size := HP6.out.lt
   clear hbb hg5 hown5 hv5 HPW HBW c0 hbx hz2 hlt
   go_upto_region 8 with (fail)
   generalize w5.setCell _ _ = w6 at *
   clear d0 dx
   obtain ⟨Ab, nb, cb, rfl⟩ := HP6.out.ob.sl
   have c1 : w6.cell? ⟨w.heap.size + 1, 1, none⟩ = some (.slice Ab nb cb) := by rw [cell_of_row _ _ _ _ _ _ HP6.out.box]; rfl
   have HI := Lib.hid hik
   go_region_law (first
    | (refine step_ap1 (by rfl) (.tmp 24) (.tmp 29) _ (by rfl) elemU64 (by rfl) hoy [.int .u64 (sumN g i 0 zeroB : Int)] _ (by rfl) y1.heap.size (by rfl) (by rfl) (by intro u hu; rw [List.mem_singleton] at hu; subst hu; rfl) (by simp [maxLen, sumsZ]; omega) (by simp [sumsZ]; omega) hzy ?_; intro v7 w7 hown7 hg7 hv7; obtain ⟨A7, n7, c7, rfl⟩ := hown7.sl; have hbb7 := hPy.out.kept_box hg7 (.inr rfl); have d7 : w7.cell? ⟨w.heap.size + 1, 1, none⟩ = some (.slice Ab nb cb) := (by rw [cell_of_row _ _ _ _ _ _ hbb7]; rfl); have x7 := frozen_blk hbb7 1; have HP8 := Lib.hid (hPy.out.pushB hg7 (by rw [List.map_append]; exact hown7) hv7); have HB8 := Lib.hid ((HBy.out.alloc (by omega) _).grown hg7 (by simp; omega) (fun k h => by have := (hoy.lt h).1; omega)))
    | (go_simp; go_wp2_with (go_at_call 67; (with_reducible refine (HS.out i _ (by omega)).mono ?_); rintro r y1 ⟨rfl, hb1⟩; have hPy := Lib.hid (HP6.out.below (((Below.refl _ _).drew).trans hb1)); have HBy := Lib.hid (HB6.out.trans ((((Below.refl w6.heap.size w6).drew).trans hb1).mono (by omega))); have c1y : y1.cell? ⟨w.heap.size + 1, 1, none⟩ = some (.slice Ab nb cb) := (by rw [cell_of_row _ _ _ _ _ _ hPy.out.box]; rfl); have c1z : ∀ o, (y1.alloc o).cell? ⟨w.heap.size + 1, 1, none⟩ = some (.slice Ab nb cb) := (fun o => by rw [cell_of_row _ _ _ _ _ _ ((Below.heap_alloc y1 o _ hPy.out.lt).trans hPy.out.box)]; rfl); have hoy := hPy.out.ob; have hzy : w.heap.size + 2 ≤ y1.heap.size := hPy.out.lt))
    | fail)
   all_goals
    have HE := Lib.hid (show PrS (w7.setCell ⟨w.heap.size + 1, 1, none⟩ (.slice A7 n7 c7)) w.heap.size (.slice A5 n5 c5) (.slice A7 n7 c7) (List.replicate (i + 1) 0) (sumsZ g (i + 1)) from by rw [List.replicate_succ', sumsZ_succ]; exact HP8.out)
    have HF := Lib.hid (HB8.out.setCell (p := ⟨w.heap.size + 1, 1, none⟩) (by simp) (.slice A7 n7 c7))
    clear HP8 HB8 hPy HBy hbb7 hg7 hown7 hoy
    go_wp2
    go_round
    case rel => exact ⟨i + 1, by omega, by go_num, ⟨_, _, HE.out⟩, HF.out⟩
    case measure => simp [intOf] <;> omega
end Go.Proofs.YtopoefcklipaeaaGreatDoor
namespace Go.Proofs.YtopoefcklipaeaaGreatDoor
open Go.RowKit
set_option maxHeartbeats 1000000 in
set_option maxRecDepth 100000 in
theorem clone_u64 {A : Option Addr} {B c : Nat} {ms : List Nat} (w : World) (h : U64S w B A ms) (hB : B ≤ w.heap.size) (hn : ms.length ≤ 1000000) :
  Calls Tryz.prog 77 #[.slice A ms.length c] w fun r w' => (∃ v, r = .returned v ∧ OwS w' w.heap.size 38 1 v (ms.map u64C)) ∧ Below w.heap.size w w' := by
 rcases A with _ | a
 ·have hl : ms = [] := by
   cases ms with
   | nil => rfl
   | cons e l =>
    obtain ⟨b, off, h1, -⟩ := h.2 (by simp)
    cases h1
  subst hl
  clear h
  have he : ∀ w : World, (binOp .eql 45 (.slice none 0 c) (.slice none 0 0)).run Tryz.prog w = .ok (.bool true) w := fun _ => rfl
  go_enter Tryz.func77, Tryz.ntmps77
  go_wp2
  go_ret
  exact ⟨⟨_, rfl, OwS.nil _ _ _ _⟩, Below.refl _ _⟩
 ·have H := Lib.hid h
  clear h
  have he : ∀ w : World, (binOp .eql 45 (.slice (some a) ms.length c) (.slice none 0 0)).run Tryz.prog w = .ok (.bool false) w := fun _ => rfl
  go_enter Tryz.func77, Tryz.ntmps77
  have hz : OwS (w.alloc (.cells #[] 38)) w.heap.size 38 1 (.slice (some ⟨w.heap.size, 0, none⟩) 0 0) [] := OwS.lit (by simp) (heap_alloc_new w _) rfl rfl (by decide) (Nat.le_refl _)
  have hrr : U64S (w.alloc (.cells #[] 38)) w.heap.size (some a) ms := (H.out.below' (below_laid.mono hB) (Nat.le_refl _)).more hB
  go_wp2_with (at_builtin; refine wpList_apS rfl (.tmp 5) (.tmp 6) _ rfl elemU64 rfl hz w.heap.size _ _ c (ms.map u64C) rfl hrr (by simp) (u64C_all ms) (by simp [maxLen]; omega) (by simp; omega) (by simp) ?_)
  intro v3 w3 hown3 hg3 _
  have hb3 : Below w.heap.size w w3 := ((Below.refl w.heap.size w).alloc (Nat.le_refl _) _).grown hg3 (by simp) (fun k h => (hz.lt h).1)
  clear hg3 hz
  go_wp2
  go_ret
  exact ⟨⟨_, rfl, by simpa using hown3⟩, hb3⟩
set_option maxHeartbeats 1000000 in
set_option maxRecDepth 100000 in
theorem clone_byte {A : Option Addr} {B c : Nat} {ms : List Nat} (w : World) (h : BytS w B A ms) (hB : B ≤ w.heap.size) (hn : ms.length ≤ 1000000) :
  Calls Tryz.prog 75 #[.slice A ms.length c] w fun r w' => (∃ v, r = .returned v ∧ OwS w' w.heap.size 5 1 v (ms.map u8C)) ∧ Below w.heap.size w w' := by
 rcases A with _ | a
 ·have hl : ms = [] := by
   cases ms with
   | nil => rfl
   | cons e l =>
    obtain ⟨b, off, h1, -⟩ := h.2 (by simp)
    cases h1
  subst hl
  clear h
  have he : ∀ w : World, (binOp .eql 40 (.slice none 0 c) (.slice none 0 0)).run Tryz.prog w = .ok (.bool true) w := fun _ => rfl
  go_enter Tryz.func75, Tryz.ntmps75
  go_wp2
  go_ret
  exact ⟨⟨_, rfl, OwS.nil _ _ _ _⟩, Below.refl _ _⟩
 ·have H := Lib.hid h
  clear h
  have he : ∀ w : World, (binOp .eql 40 (.slice (some a) ms.length c) (.slice none 0 0)).run Tryz.prog w = .ok (.bool false) w := fun _ => rfl
  go_enter Tryz.func75, Tryz.ntmps75
  have hz : OwS (w.alloc (.cells #[] 5)) w.heap.size 5 1 (.slice (some ⟨w.heap.size, 0, none⟩) 0 0) [] := OwS.lit (by simp) (heap_alloc_new w _) rfl rfl (by decide) (Nat.le_refl _)
  have hrr : BytS (w.alloc (.cells #[] 5)) w.heap.size (some a) ms := (H.out.below' (below_laid.mono hB) (Nat.le_refl _)).more hB
  go_wp2_with (at_builtin; refine wpList_apS rfl (.tmp 5) (.tmp 6) _ rfl elemByte rfl hz w.heap.size _ _ c (ms.map u8C) rfl hrr (by simp) (u8C_all ms) (by simp [maxLen]; omega) (by simp; omega) (by simp) ?_)
  intro v3 w3 hown3 hg3 _
  have hb3 : Below w.heap.size w w3 := ((Below.refl w.heap.size w).alloc (Nat.le_refl _) _).grown hg3 (by simp) (fun k h => (hz.lt h).1)
  clear hg3 hz
  go_wp2
  go_ret
  exact ⟨⟨_, rfl, by simpa using hown3⟩, hb3⟩
set_option maxHeartbeats 1000000 in
set_option maxRecDepth 100000 in
theorem pieces_any {A A' : Option Addr} {c c' n : Nat} (w : World) :
  Calls Tryz.prog 78 #[.agg #[.slice A n c, .slice A' n c']] w fun r w' => r = .returned (.int .i64 (n : Int)) ∧ Below w.heap.size w w' := by
 have hb : Below w.heap.size w (w.alloc (.cells #[.slice A n c, .slice A' n c'] 58)) := below_laid
 go_enter Tryz.func78, Tryz.ntmps78
 go_wp2
 go_ret
 exact ⟨rfl, hb⟩
end Go.Proofs.YtopoefcklipaeaaGreatDoor
