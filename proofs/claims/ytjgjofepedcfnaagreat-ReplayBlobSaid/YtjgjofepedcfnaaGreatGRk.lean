/- slices.SortFunc at writes of pieces, by group and piece: the kit's contract at replay.All's closure.
Maps from [2]int to writes: what they hold behind a list of writes; what an iteration over them collects. No function of the program is walked here.
Walks of maps.Values at map[[2]int]api.PieceWrite: its iterator, for every loop body.
Walks of slices.AppendSeq, slices.Collect at writes over maps.Values' iterator.
Walks of slices.Collect, slices.SortedFunc over maps.Values at writes. -/
import Derived.Test.YtjgjofepedcfnaaGreatGRj
import Derived.Test.YtjgjofepedcfnaaGreatGRf
import Derived.Test.YtjgjofepedcfnaaGreatSfn
import Derived.Test.YtjgjofepedcfnaaGreatGRg
import Derived.RangeFuncNested
import Derived.RangeFuncBound
import Derived.RangeFuncCalls
import Derived.RangeFuncLeaves
import Derived.Sort.MapsRangeIn
import Derived.WalkKit
import Derived.OwnWalkIn
import Derived.TacticsInMore
import Derived.LoopNIn
import Derived.LoopIn
import Derived.Shelf.Abstract
import Derived.RangeFuncBox
import Derived.Maps.AppendAt
import Derived.Deep.AppendLies
namespace Go.Proofs.YtjgjofepedcfnaaGreat
open Go.RowKit Go.Shelf Go.Lib Go.Sort
instance : Inhabited Pw := ⟨⟨0, 0, 0, ⟨0, 0, 0, 0, 0, 0, 0, 0⟩⟩⟩
theorem pwCells_len (x : Pw) : x.cells.length = 11 := rfl
theorem pwCells_one (x : Pw) : ∀ u ∈ x.cells, u.oneCell' = true := by
 intro u hu
 simp [Pw.cells] at hu
 rcases hu with rfl | rfl | rfl | rfl | rfl | rfl | rfl | rfl | rfl | rfl | rfl <;> rfl
def cmpW (x y : Pw) : Int := if cmp3 x.g y.g = 0 then cmp3 x.p y.p else cmp3 x.g y.g
def ltW (x y : Pw) : Prop := x.g < y.g ∨ (x.g = y.g ∧ x.p < y.p)
instance (x y : Pw) : Decidable (ltW x y) := by unfold ltW; infer_instance
theorem lt_pw (x y : Pw) : ltOf cmpW x y = decide (ltW x y) := by
 unfold ltOf cmpW ltW cmp3
 by_cases h1 : x.g < y.g
 ·simp [h1]
 ·by_cases h2 : y.g < x.g
  ·have : ¬ x.g = y.g := by omega
   simp [h1, h2, this]
  ·have h3 : x.g = y.g := by omega
   by_cases h4 : x.p < y.p
   ·simp [h3, h4]
   ·by_cases h5 : y.p < x.p <;> simp [h3, h4, h5]
theorem swo_pw : SWO (ltOf cmpW) where
 irrefl x := by rw [lt_pw]; simp [ltW]
 trans x y z h1 h2 := by rw [lt_pw] at *; rw [decide_eq_true_iff] at *; unfold ltW at *; omega
 ntrans x y z h1 h2 := by rw [lt_pw] at *; rw [decide_eq_false_iff_not] at *; unfold ltW at *; omega
theorem flat_pw (d : List Pw) : (flatK Pw.cells 11 d.toArray).toList = (d.map Pw.cells).flatten := by
 have hs : ∀ r ∈ d.map Pw.cells, r.length = 11 := fun r hr => by obtain ⟨x, -, rfl⟩ := List.mem_map.1 hr; rfl
 apply List.ext_getElem?
 intro t
 by_cases ht : t < d.length * 11
 ·have hi : t / 11 < d.length := by omega
  have hm : t % 11 < 11 := Nat.mod_lt _ (by omega)
  have hr : (d.map Pw.cells)[t / 11]? = some (Pw.cells d[t / 11]) := by rw [List.getElem?_map, List.getElem?_eq_getElem hi]; rfl
  obtain ⟨v, hv⟩ : ∃ v, (Pw.cells d[t / 11])[t % 11]? = some v := ⟨_, List.getElem?_eq_getElem (show t % 11 < (Pw.cells d[t / 11]).length from hm)⟩
  have h2 := flatten_get hs _ _ hr _ _ hv
  rw [show t / 11 * 11 + t % 11 = t by omega] at h2
  rw [h2, Array.getElem?_toList]
  have hsz : t < (flatK Pw.cells 11 d.toArray).size := by simp; exact ht
  rw [Array.getElem?_eq_getElem hsz]
  have h3 := get_flatK Pw.cells 11 d.toArray t (by simpa using ht)
  rw [getElem!_pos (flatK Pw.cells 11 d.toArray) t hsz] at h3
  rw [h3]
  have h4 : d.toArray[t / 11]! = d[t / 11] := by rw [getElem!_pos d.toArray (t / 11) (by simpa using hi)]; simp
  rw [h4]
  obtain ⟨hl, hv2⟩ := List.getElem?_eq_some_iff.1 hv
  rw [getElem!_pos (Pw.cells d[t / 11]) (t % 11) hl, hv2]
 ·rw [List.getElem?_eq_none (by simp; omega), List.getElem?_eq_none (by rw [flatten_length hs]; simp; omega)]
theorem holds_id {w : World} {g : Nat} {cur : Array Value} {e : TypeId} {F : Array Value} (hb : w.heap[g]? = some (.cells cur e (0, 0))) (ht : cur.toList.take F.size = F.toList) : Holds id w g 0 F := by
 intro j hj
 refine ⟨?_, by simp [World.frozen?, hb]⟩
 have h1 : (cur.toList.take F.size)[j]? = F.toList[j]? := by rw [ht]
 rw [List.getElem?_take_of_lt hj] at h1
 simp only [World.cell?, hb, Nat.zero_add]
 simp only [Option.isSome_none, Bool.false_eq_true, if_false]
 rw [← Array.getElem?_toList, h1]
 simp [hj]
theorem heap_id {w : World} {g n : Nat} {os : Array Obj} {cur : Array Value} {e : TypeId} {fr : Nat × Nat} (d : Array Value) (hb : w.heap[g]? = some (.cells cur e fr)) :
  (grow (putRow id (Sort.ahead w n) g 0 d) os).heap[g]? = some (.cells (putCells id 0 d cur) e fr) := by
 have hg : g < w.heap.size := (Array.getElem?_eq_some_iff.1 hb).1
 rw [heap_grow_old _ _ (by simpa using hg)]
 simp [putRow, mapBlock, Sort.ahead, Array.getElem?_modify, hb, onCells]
theorem grownBy_id {w : World} {g n : Nat} {os : Array Obj} (d : Array Value) : w.grownBy (grow (putRow id (Sort.ahead w n) g 0 d) os) (some g) := by
 refine ⟨rfl, rfl, rfl, by simp, fun k hk hne => ?_⟩
 rw [heap_grow_old _ _ (by simpa using hk)]
 have : g ≠ k := fun e => hne (by rw [e])
 simp [putRow, mapBlock, Sort.ahead, Array.getElem?_modify, this]
theorem take_id (cur : Array Value) (F : Array Value) (h : F.size ≤ cur.size) : (putCells id 0 F cur).toList.take F.size = F.toList := by
 apply List.ext_getElem?
 intro j
 by_cases hj : j < F.size
 ·rw [List.getElem?_take_of_lt hj, Array.getElem?_toList]
  simp [putCells, hj, show j < cur.size by omega]
 ·rw [List.getElem?_take_eq_none (by omega), List.getElem?_eq_none (by simp; omega)]
theorem quiet_tail_drewN {P : Program} {id : Nat} {Q : Exit → Act → World → Prop} {a : Act} {w : World} {l : List Oper} (n : Nat) (hm : P.follows .mixedOrders = true) (hB : Region.lexTailB .any l.toArray n = true)
  (h : wpQuiet P l.toArray (fun w' => ∃ m, w' = w.drewN m) (fun a' => ∀ w', (∃ m, w' = w.drewN m) → wpList P l.toArray Q (l.drop n) a' w') (l.take n) a) : (Code.region id l.toArray true).wp P Q a w :=
 quiet_tail_any (C := fun w' => ∃ m, w' = w.drewN m) n hm hB ⟨1, rfl⟩ h
set_option maxHeartbeats 2000000 in
set_option maxRecDepth 100000 in
theorem clos_pw (x y : Pw) (W : World) : Calls Tryz.prog 55 #[x.agg, y.agg] W fun e w' => e = .returned (.int .i64 (cmpW x y)) ∧ ∃ q os', w' = grow (W.drewN q) os' := by
 have HC := Lib.hid (fun a b W => compare_any a b W)
 have HO := Lib.hid (fun gg a b W h0 h1 => or_any gg a b W h0 h1)
 have HR : Hid (cmpW x y = if cmp3 x.g y.g = 0 then cmp3 x.p y.p else cmp3 x.g y.g) := rfl
 obtain ⟨xg, xp, xv, ⟨x0, x1, x2, x3, x4, x5, x6, x7⟩⟩ := x
 obtain ⟨yg, yp, yv, ⟨y0, y1, y2, y3, y4, y5, y6, y7⟩⟩ := y
 unfold Pw.agg
 simp only at HR ⊢
 obtain ⟨o1, ho1⟩ : ∃ o : Obj, (Obj.cells #[.int .i64 xg, .int .i64 xp, .int .u64 xv, .int .u8 x0, .int .u8 x1, .int .u8 x2, .int .u8 x3, .int .u8 x4, .int .u8 x5, .int .u8 x6, .int .u8 x7] 64) = o := ⟨_, rfl⟩
 obtain ⟨o2, ho2⟩ : ∃ o : Obj, (Obj.cells #[.int .i64 yg, .int .i64 yp, .int .u64 yv, .int .u8 y0, .int .u8 y1, .int .u8 y2, .int .u8 y3, .int .u8 y4, .int .u8 y5, .int .u8 y6, .int .u8 y7] 64) = o := ⟨_, rfl⟩
 go_enter Tryz.func55, Tryz.ntmps55
 go_upto_region 1 with (fail)
 have hx1 : ((W.alloc o1).alloc o2).heap[W.heap.size]? = some o1 := (Below.heap_alloc _ _ _ (by simp)).trans (heap_alloc_new W o1)
 have hy1 : ((W.alloc o1).alloc o2).heap[W.heap.size + 1]? = some o2 := by
  have := heap_alloc_new (W.alloc o1) o2
  simpa using this
 have HW1 : Hid ((W.alloc o1).alloc o2 = grow W #[o1, o2]) := by rw [Hid, alloc_eq_grow, alloc_eq_grow, grow_grow]; rfl
 generalize (W.alloc o1).alloc o2 = w1 at *
 rw [← ho1] at hx1
 rw [← ho2] at hy1
 have X : ∀ m, (w1.drewN m).cell? ⟨W.heap.size, 0, none⟩ = some (.int .i64 xg) ∧ (w1.drewN m).cell? ⟨W.heap.size, 1, none⟩ = some (.int .i64 xp) ∧ (w1.drewN m).cell? ⟨W.heap.size + 1, 0, none⟩ = some (.int .i64 yg) ∧ (w1.drewN m).cell? ⟨W.heap.size + 1, 1, none⟩ = some (.int .i64 yp) := fun m =>
  ⟨by rw [cell_of_row (w1.drewN m) _ _ _ _ _ hx1]; rfl, by rw [cell_of_row (w1.drewN m) _ _ _ _ _ hx1]; rfl, by rw [cell_of_row (w1.drewN m) _ _ _ _ _ hy1]; rfl, by rw [cell_of_row (w1.drewN m) _ _ _ _ _ hy1]; rfl⟩
 clear ho1 ho2 hx1 hy1
 refine quiet_tail_drewN 10 (by kernel_rfl) (by decide +kernel) ?_
 simp only [List.take_succ_cons, List.take_zero, List.drop_succ_cons, List.drop_zero]
 repeat (go_big_quiet_step (first | (go_at_call 57; exact Calls.quiet_of_same (HC.out _ _ _))))
 refine wpQuiet_nil ?_
 rintro w2 ⟨q, hw2⟩
 clear X
 generalize cmp3 xg yg = ca at *
 generalize cmp3 xp yp = cb at *
 have HO2 := Lib.hid (HO.out w2.heap.size ca cb (w2.alloc (.cells #[.int .i64 ca, .int .i64 cb] 3)) (by rw [cell_of_row _ _ _ _ _ _ (heap_alloc_new w2 _)]; rfl) (by rw [cell_of_row _ _ _ _ _ _ (heap_alloc_new w2 _)]; rfl))
 obtain ⟨rr, hrr⟩ : ∃ rr, (if ca = 0 then cb else ca) = rr := ⟨_, rfl⟩
 rw [hrr] at HO2 HR
 have HEND : Hid (∃ q os', w2.alloc (.cells #[.int .i64 ca, .int .i64 cb] 3) = grow (W.drewN q) os') := by
  refine ⟨q, #[o1, o2] ++ #[.cells #[.int .i64 ca, .int .i64 cb] 3], ?_⟩
  rw [hw2, alloc_eq_grow, HW1.out, ← grow_grow]
  rfl
 clear hrr hw2
 go_wp2_with fail
 refine HO2.out.mono ?_
 rintro r w3 ⟨rfl, rfl⟩
 go_wp2
 go_ret
 exact ⟨by rw [HR.out]; rfl, HEND.out⟩
theorem lays_pw (blk off size : Nat) (w : World) : CmpLays Tryz.prog 55 #[] Pw.cells 11 cmpW blk off size w :=
 fun _ _ _ _ x y => clos_pw x y _
theorem isAgg_pw : ∀ w, (isAgg 64).run Tryz.prog w = .ok true w := Tryz.isAgg64
theorem sizeOf_pw : ∀ w, (Go.sizeOf 64).run Tryz.prog w = .ok 11 w := Tryz.sizeOf64
set_option maxHeartbeats 1000000 in
theorem sortP (ks : List Pw) (v : Value) (base : Nat) (w : World) (h : OwS w base 64 11 v (ks.map Pw.cells)) (hn : ks.length ≤ 1000000) :
  Calls Tryz.prog 103 #[v, .func (.func 55) #[] #[]] w fun e w' => e = .returned (.tuple #[]) ∧ ∃ ts : List Pw, ts.Perm ks ∧ (ts.Pairwise fun a b => ¬ ltW b a) ∧ OwS w' base 64 11 v (ts.map Pw.cells) ∧ w.grownBy w' v.ownBlock := by
 rcases h.2.2 with ⟨rfl, h0⟩ | ⟨g, cap, cur, rfl, hb, hh, hnc, hcm, hsz, ht⟩
 ·have hk : ks = [] := by
   cases ks with
   | nil => rfl
   | cons => simp at h0
  subst hk
  refine (AnyF.slices_SortFunc_none Tryz.sortMem none 0 _ w).mono ?_
  rintro e w' ⟨rfl, rfl⟩
  exact ⟨rfl, [], List.Perm.refl _, List.Pairwise.nil, h, World.grownBy.refl _ _⟩
 ·rw [List.length_map] at hnc ht ⊢
  have hs2 : ∀ (l : List Pw) r, r ∈ l.map Pw.cells → r.length = 11 := fun l r hr => by obtain ⟨x, -, rfl⟩ := List.mem_map.1 hr; rfl
  have hfz : (flatK Pw.cells 11 ks.toArray).size = ks.length * 11 := by simp
  have ht2 : cur.toList.take (flatK Pw.cells 11 ks.toArray).size = (flatK Pw.cells 11 ks.toArray).toList := by rw [hfz, flat_pw]; exact ht
  have hgl : g < w.heap.size := (Array.getElem?_eq_some_iff.1 hh).1
  have hc := AnyQ.slices_SortFunc Tryz.sortMem 11 isAgg_pw sizeOf_pw Pw.cells pwCells_len pwCells_one cmpW swo_pw 55 #[] g 0 cap ks.toArray w (enters_of Tryz.func55 (by kernel_rfl) rfl) (lays_pw g 0 _ w) (holds_id hh ht2) hgl (by simp; omega)
  rw [List.size_toArray] at hc
  refine hc.mono ?_
  rintro e w' ⟨rfl, d', n, os, hp, hs, rfl⟩
  obtain ⟨hp1, -, hp3⟩ := hp
  have hd : d'.size = ks.length := by simpa using hp1
  have hpe : d'.toList.Perm ks := by
   have e1 : (d'.extract 0 ks.length).toList = d'.toList := by rw [← hd]; simp
   have e2 : (ks.toArray.extract 0 ks.length).toList = ks := by simp
   rw [e1, e2] at hp3
   exact hp3
  have hpw : d'.toList.Pairwise fun a b => ¬ ltW b a := by
   rw [List.pairwise_iff_getElem]
   intro i j hi hj hij
   have hi' : i < d'.size := by simpa using hi
   have hj' : j < d'.size := by simpa using hj
   have := hs i j (Nat.zero_le _) hij (by omega)
   rw [lt_pw, decide_eq_false_iff_not, getElem!_pos d' i hi', getElem!_pos d' j hj'] at this
   simpa using this
  refine ⟨rfl, d'.toList, hpe, hpw, ⟨hs2 _, ?_⟩, grownBy_id _⟩
  have hfz2 : (flatK Pw.cells 11 d').size = ks.length * 11 := by simp [hd]
  have hcs : ks.length * 11 ≤ cur.size := by rw [hsz]; exact Nat.mul_le_mul_right 11 hnc
  have hfl := flat_pw d'.toList
  have hda : d'.toList.toArray = d' := by simp
  rw [hda] at hfl
  have hlen : (d'.toList.map Pw.cells).length = ks.length := by simp [hd]
  rw [hlen]
  refine ⟨by rw [flatten_length (hs2 _), hlen], .inr ⟨g, cap, _, rfl, hb, heap_id _ hh, hnc, hcm, by simp [putCells, hsz], ?_⟩⟩
  have := take_id cur (flatK Pw.cells 11 d') (by rw [hfz2]; exact hcs)
  rw [hfz2, hfl] at this
  exact this
end Go.Proofs.YtjgjofepedcfnaaGreat
namespace Go.Proofs.YtjgjofepedcfnaaGreat
open Go.RowKit
open Go.Maps (Keyed)
theorem rowPr : (99 : TypeId) < Tryz.prog.types.size := of_decide_eq_true (by kernel_rfl)
theorem widePr : (match Tryz.prog.underlying 99 with | some (.array _ _) | some (.struct _) => true | _ => false) = true := by rw [Tryz.underlying99]
set_option maxRecDepth 1000000 in
theorem lawPr : WideMaps.KeyLaw Tryz.prog 99 := deep_law_laid laidOutK (m := 2) (by omega) rowPr (by kernel_rfl) widePr
theorem keyedPr : Maps.Keyed Tryz.prog 99 := Maps.Keyed.of_law lawPr
theorem cellsPr : Tryz.prog.cellsOf 99 = 2 := by kernel_rfl
theorem keyLits_pr (d : Nat) (r v : Int) (hr : (Lit.int .i64 r).wf = true) (hv : (Lit.int .i64 v).wf = true) : Tryz.prog.keyLits (d + 2) 99 [.int .i64 r, .int .i64 v] = some [.int .i64 r, .int .i64 v] := by
 simp only [Program.keyLits, Tryz.underlying99, cellsIntK]
 rw [show List.range 2 = [0, 1] from rfl]
 simp [Tryz.underlying3, cellsPr, hr, hv]
theorem keyOf_pr (r v : Int) (hr : (Lit.int .i64 r).wf = true) (hv : (Lit.int .i64 v).wf = true) : keyOf Tryz.prog 99 (.agg #[.int .i64 r, .int .i64 v]) = some (pKey r v) := by
 have hs : ∃ d, Tryz.prog.types.size + 1 = d + 2 := ⟨Tryz.prog.types.size - 1, by have h : (99 : Nat) < Tryz.prog.types.size := rowPr; omega⟩
 obtain ⟨d, hs⟩ := hs
 have hk : Tryz.prog.keyType 99 = true := by kernel_rfl
 have hf : (Value.agg #[.int .i64 r, .int .i64 v]).formed Tryz.prog 99 = true := by simp [Value.formed, Tryz.underlying99, cellsPr]
 have hl := keyLits_pr d r v hr hv
 unfold keyOf
 rw [Tryz.underlying99]
 simp only [hk, hf, Bool.and_self, if_true, hs]
 simp [Value.cells, hl, pKey]
/-! ### writes as what a map holds -/
def Blk.dats (d : Blk) : List (DataW Unit) := [.lit (.int .i64 d.b0), .lit (.int .i64 d.b1), .lit (.int .i64 d.b2), .lit (.int .i64 d.b3), .lit (.int .i64 d.b4), .lit (.int .i64 d.b5), .lit (.int .i64 d.b6), .lit (.int .i64 d.b7)]
def pwD (x : Pw) : DataW Unit := .agg (.lit (.int .i64 x.g) :: .lit (.int .i64 x.p) :: .lit (.int .i64 x.v) :: x.d.dats)
theorem pwD_inj {x y : Pw} (h : pwD x = pwD y) : x = y := by
 obtain ⟨xg, xp, xv, ⟨x0, x1, x2, x3, x4, x5, x6, x7⟩⟩ := x
 obtain ⟨yg, yp, yv, ⟨y0, y1, y2, y3, y4, y5, y6, y7⟩⟩ := y
 simp [pwD, Blk.dats] at h
 simp only [Pw.mk.injEq, Blk.mk.injEq]
 omega
theorem pwAgg_inj {x y : Pw} (h : x.agg = y.agg) : x = y := by
 obtain ⟨xg, xp, xv, ⟨x0, x1, x2, x3, x4, x5, x6, x7⟩⟩ := x
 obtain ⟨yg, yp, yv, ⟨y0, y1, y2, y3, y4, y5, y6, y7⟩⟩ := y
 simp [Pw.agg] at h
 simp only [Pw.mk.injEq, Blk.mk.injEq]
 omega
open Classical in
noncomputable def pwR (v : Value) : Option (DataW Unit × List MemPlace) := if h : ∃ x : Pw, v = x.agg then some (pwD h.choose, []) else none
theorem pwR_val (x : Pw) : pwR x.agg = some (pwD x, []) := by
 have h : ∃ y : Pw, x.agg = y.agg := ⟨x, rfl⟩
 unfold pwR
 rw [dif_pos h, ← pwAgg_inj h.choose_spec]
theorem pwR_inv {v : Value} {y : DataW Unit × List MemPlace} (h : pwR v = some y) : ∃ x : Pw, v = x.agg ∧ y = (pwD x, []) := by
 unfold pwR at h
 split at h
 ·rename_i h0
  cases h
  exact ⟨_, h0.choose_spec, rfl⟩
 ·cases h
def lastW (ws : List Pw) (g p : Int) : Option Pw := ws.reverse.find? fun x => x.g == g && x.p == p
theorem lastW_snoc (ws : List Pw) (x : Pw) (g p : Int) : lastW (ws ++ [x]) g p = if x.g = g ∧ x.p = p then some x else lastW ws g p := by
 unfold lastW
 rw [List.reverse_append, List.reverse_singleton, List.singleton_append, List.find?_cons]
 by_cases h : x.g = g ∧ x.p = p
 ·simp [h]
 ·have : (x.g == g && x.p == p) = false := by
   rw [Bool.eq_false_iff]
   intro e
   simp only [Bool.and_eq_true, beq_iff_eq] at e
   exact h e
  rw [this, if_neg h]
theorem lastW_some {ws : List Pw} {g p : Int} {x : Pw} (h : lastW ws g p = some x) : x ∈ ws ∧ x.g = g ∧ x.p = p := by
 unfold lastW at h
 have h1 := List.find?_some h
 have h2 := List.mem_of_find?_eq_some h
 simp only [Bool.and_eq_true, beq_iff_eq] at h1
 exact ⟨List.mem_reverse.1 h2, h1.1, h1.2⟩
theorem lastW_mem {ws : List Pw} {x : Pw} (h : x ∈ ws) : ∃ y, lastW ws x.g x.p = some y := by
 unfold lastW
 rcases hf : ws.reverse.find? (fun y => y.g == x.g && y.p == x.p) with _ | y
 ·rw [List.find?_eq_none] at hf
  have := hf x (List.mem_reverse.2 h)
  simp at this
 ·exact ⟨y, hf⟩
def pwWf (x : Pw) : Prop := (Lit.int .i64 x.g).wf = true ∧ (Lit.int .i64 x.p).wf = true
structure DatW (D : DataW Unit) (ws : List Pw) : Prop where
 map : Maps.IsMap D
 keys : ∀ kl, Maps.has D kl = true → ∃ x ∈ ws, kl = pKey x.g x.p
 some : ∀ x ∈ ws, ∀ y, lastW ws x.g x.p = some y → Maps.has D (pKey x.g x.p) = true ∧ ∀ zd, D.atKey (pKey x.g x.p) zd = pwD y
theorem DatW.nil : DatW (.map []) [] := ⟨Maps.isMap_empty, (fun kl h => by simp [Maps.has] at h), (fun x h => by cases h)⟩
theorem DatW.put {D : DataW Unit} {ws : List Pw} {x : Pw} (h : DatW D ws) (hwf : ∀ y ∈ ws, pwWf y) (hx : pwWf x) : DatW (D.put (pKey x.g x.p) (pwD x)) (ws ++ [x]) := by
 refine ⟨h.map.put _ _, fun kl hk => ?_, fun y hy z hz => ?_⟩
 ·by_cases e : kl = pKey x.g x.p
  ·exact ⟨x, by simp, e⟩
  ·rw [Maps.has_put_other e] at hk
   obtain ⟨y, hy, he⟩ := h.keys kl hk
   exact ⟨y, by simp [hy], he⟩
 ·rw [lastW_snoc] at hz
  by_cases e : x.g = y.g ∧ x.p = y.p
  ·rw [if_pos e] at hz
   cases hz
   rw [← e.1, ← e.2]
   exact ⟨Maps.has_put_same h.map (pKey_lit _ _) _, fun zd => Maps.atKey_put_same h.map (pKey_lit _ _) _ zd⟩
  ·rw [if_neg e] at hz
   have hyw : y ∈ ws := by
    rcases List.mem_append.1 hy with hy | hy
    ·exact hy
    ·rw [List.mem_singleton] at hy
     subst hy
     exact absurd ⟨rfl, rfl⟩ e
   have hne : pKey y.g y.p ≠ pKey x.g x.p := fun he => by
    obtain ⟨h1, h2⟩ := pKey_inj (hwf y hyw).1 (hwf y hyw).2 hx.1 hx.2 he
    exact e ⟨h1.symm, h2.symm⟩
   obtain ⟨g1, g2⟩ := h.some y hyw z hz
   exact ⟨by rw [Maps.has_put_other hne]; exact g1, fun zd => by rw [Maps.atKey_put_other hne]; exact g2 zd⟩
def MapW (w : World) (b : Nat) (ws : List Pw) : Prop := ∃ D, w.ownsMap Tryz.prog 99 pwR b ws.length D ∧ DatW D ws
section
variable {w w' : World} {b : Nat} {ws : List Pw}
theorem MapW.made (w : World) : MapW (w.alloc (.map #[] 0)) w.heap.size [] := ⟨.map [], World.ownsMap_made w _ _ _, DatW.nil⟩
theorem MapW.lt (h : MapW w b ws) : b < w.heap.size := by obtain ⟨D, h1, _⟩ := h; exact h1.lt
theorem MapW.block (h : MapW w b ws) (hb : w'.heap[b]? = w.heap[b]?) : MapW w' b ws := by
 obtain ⟨D, ⟨es, clock, h0, h1⟩, h2⟩ := h
 exact ⟨D, ⟨es, clock, hb.trans h0, h1⟩, h2⟩
theorem MapW.below (h : MapW w b ws) (hb : Below w.heap.size w w') : MapW w' b ws := h.block (hb.block b h.lt)
theorem wpList_putW {ops : Array Oper} {rest : List Oper} {o : Oper} {a : Act} {Q : Exit → Act → World → Prop} (hg : o.guard = none) (m x v : Operand) (t : TypeId) (hop : o.op = Op.mapUpdate t m x v)
  {e : TypeId} (ht : Tryz.prog.underlying t = some (.map 99 e)) (hm : a.eval m = .map (some b)) (h : MapW w b ws) (hn : ws.length < maxLen) (y : Pw) (hwf : ∀ y ∈ ws, pwWf y) (hy : pwWf y)
  (hx : a.eval x = .agg #[.int .i64 y.g, .int .i64 y.p]) (hv : a.eval v = y.agg)
  (hK : ∀ w', MapW w' b (ws ++ [y]) → w.grownBy w' (some b) → wpList Tryz.prog ops Q rest (a.put o.dst undef) w') : wpList Tryz.prog ops Q (o :: rest) a w := by
 obtain ⟨D, h1, h2⟩ := h
 exact wpList_mapUpdate_own w hg m x v t hop 99 e keyedPr ht pwR b ws.length D hm h1 hn _ _ _ hx hv (keyOf_pr y.g y.p hy.1 hy.2) (pwD y) [] (pwR_val y) fun w' h1' hg' => hK w' ⟨_, by simpa using h1', h2.put hwf hy⟩ hg'
end
structure IterW (ws : List Pw) (left : Lit → Bool) (vs : List Pw) : Prop where
 sub : ∀ kl, left kl = true → ∃ x ∈ ws, kl = pKey x.g x.p
 come : ∀ x ∈ vs, lastW ws x.g x.p = some x ∧ left (pKey x.g x.p) = false
 all : ∀ g p x, lastW ws g p = some x → left (pKey g p) = true ∨ x ∈ vs
 apart : vs.Pairwise fun x y => ¬ (x.g = y.g ∧ x.p = y.p)
theorem IterW.start {D : DataW Unit} {ws : List Pw} (h : DatW D ws) : IterW ws (Maps.has D) [] := by
 refine ⟨h.keys, (fun x hx => by cases hx), fun g p x hx => ?_, List.Pairwise.nil⟩
 obtain ⟨hm, rfl, rfl⟩ := lastW_some hx
 exact .inl (h.some x hm x hx).1
def AllW (ws vs : List Pw) : Prop := (∀ x, x ∈ vs ↔ lastW ws x.g x.p = some x) ∧ vs.Pairwise fun x y => ¬ (x.g = y.g ∧ x.p = y.p)
theorem IterW.done {ws vs : List Pw} {left : Lit → Bool} (h : IterW ws left vs) (h0 : ∀ kl, left kl = false) : AllW ws vs := by
 refine ⟨fun x => ⟨fun hx => (h.come x hx).1, fun hx => ?_⟩, h.apart⟩
 rcases h.all _ _ _ hx with e | e
 ·rw [h0] at e; cases e
 ·exact e
theorem IterW.val {D : DataW Unit} {ws vs : List Pw} {left : Lit → Bool} {kl : Lit} {c : Pw} (h : IterW ws left vs) (hD : DatW D ws) (hl : left kl = true) (ha : ∀ zd, D.atKey kl zd = pwD c) : kl = pKey c.g c.p ∧ lastW ws c.g c.p = some c := by
 obtain ⟨x, hx, rfl⟩ := h.sub kl hl
 obtain ⟨y, hy⟩ := lastW_mem hx
 have h1 := (hD.some x hx y hy).2 (.map [])
 rw [ha] at h1
 have := pwD_inj h1
 subst this
 obtain ⟨-, h2, h3⟩ := lastW_some hy
 rw [h2, h3]
 exact ⟨rfl, hy⟩
theorem IterW.step {ws vs : List Pw} {left : Lit → Bool} {c : Pw} (h : IterW ws left vs) (hwf : ∀ y ∈ ws, pwWf y) (hl : left (pKey c.g c.p) = true) (hc : lastW ws c.g c.p = some c) : IterW ws (fun z => left z && !z.sameKey (pKey c.g c.p)) (vs ++ [c]) := by
 have hcm := (lastW_some hc).1
 refine ⟨fun kl hk => ?_, fun x hx => ?_, fun g p x hx => ?_, ?_⟩
 ·rw [Bool.and_eq_true] at hk
  exact h.sub kl hk.1
 ·rcases List.mem_append.1 hx with hx | hx
  ·obtain ⟨h1, h2⟩ := h.come x hx
   exact ⟨h1, by rw [h2]; rfl⟩
  ·rw [List.mem_singleton] at hx
   subst hx
   refine ⟨hc, ?_⟩
   rw [WideAt.sameKey_self (pKey_lit _ _)]
   simp
 ·rcases h.all g p x hx with e | e
  ·obtain ⟨hm, rfl, rfl⟩ := lastW_some hx
   by_cases he : pKey x.g x.p = pKey c.g c.p
   ·obtain ⟨h1, h2⟩ := pKey_inj (hwf x hm).1 (hwf x hm).2 (hwf c hcm).1 (hwf c hcm).2 he
    rw [h1, h2, hc] at hx
    cases hx
    exact .inr (by simp)
   ·rw [e, Maps.sameKey_ne he]
    exact .inl rfl
  ·exact .inr (by simp [e])
 ·rw [List.pairwise_append]
  refine ⟨h.apart, by simp, fun x hx y hy => ?_⟩
  rw [List.mem_singleton] at hy
  subst hy
  rintro ⟨h1, h2⟩
  have := (h.come x hx).2
  rw [h1, h2, hl] at this
  cases this
end Go.Proofs.YtjgjofepedcfnaaGreat
namespace Go.Proofs.YtjgjofepedcfnaaGreat
open Go.RowKit Go.Maps Go.Shelf
abbrev pwV (x : Pw) : Value := .agg #[.int .i64 x.g, .int .i64 x.p, .int .u64 x.v, .int .u8 x.d.b0, .int .u8 x.d.b1, .int .u8 x.d.b2, .int .u8 x.d.b3, .int .u8 x.d.b4, .int .u8 x.d.b5, .int .u8 x.d.b6, .int .u8 x.d.b7]
set_option maxRecDepth 100000 in
set_option maxHeartbeats 2000000 in
theorem values1_pw (F : Fence) (n : Nat) (h8 : F.fn 104) (hro : F.round = none) (hn : 1 ≤ n) (l Bm b : Nat) (ws : List Pw) (hwf : ∀ x ∈ ws, pwWf x) (J Jx : List Pw → World → Prop)
  (hY : ∀ pre x W, J pre W → pre.length < ws.length → YieldAt F (n - 1) Tryz.prog l #[pwV x] W fun e W' =>
   (e = .returned (.bool true) ∧ J (pre ++ [x]) W' ∧ KeepsWalks W W') ∨ (e = .returned (.bool false) ∧ Jx (pre ++ [x]) W'))
  (W : World) (hJ : AbidesFrom W.heap.size J) (hm : W.cell? ⟨Bm, 0, none⟩ = some (.map (some b))) (hown : MapW W b ws) (h0 : J [] W) :
  CallsIn F n Tryz.prog 104 #[.func (.yield l) #[] #[], .pointer (some ⟨Bm, 0, none⟩)] W fun e W' => (∃ v, e = .returned v) ∧
   ((∃ xs, AllW ws xs ∧ J xs W') ∨ (∃ pre, True ∧ Jx pre W')) := by
 obtain ⟨D, hD, hdat⟩ := hown
 have hsz := hD.size_le
 refine callsIn_of_wp Tryz.func104 rfl h8 ?_ hro
 simp only [Tryz.ntmps104, List.size_toArray, List.length_cons, List.length_nil, Nat.reduceAdd, Nat.reduceSub, Array.replicate_succ, Array.replicate_zero, List.push_toArray, List.append_toArray, List.nil_append, List.cons_append]
 gi_wp2_with (first
  | (gi_at_range; refine wpListIn_range_own _ rfl _ 98 rfl 99 64 keyedPr Tryz.underlying98 _ b ws.length _ rfl hD ?_; intro w0 hrg0 hg0 hs0)
  | gi_in)
 go_frame
 gi_loopw [4] (fun _ wr => ∃ (left : Lit → Bool) (cnt : Nat) (vs : List Pw), wr.ranges Tryz.prog 99 pwR b W.heap.size ws.length D left cnt ∧ vs.length + cnt ≤ Maps.size D ∧ IterW ws left vs ∧ J vs wr)
  (fun _ wr => wr.rangeLeft b W.heap.size)
 case atStart =>
  exact ⟨_, _, [], hrg0, by simp, IterW.start hdat, hJ [] W w0 none h0 hg0 (fun r e => by cases e)⟩
 case round =>
  obtain ⟨left, cnt, vs, hrg, hcs, hC, hJs⟩ := hrel
  gi_wp2_with (first
   | (gi_at_next; refine wpListIn_next_ranges _ rfl _ rfl 99 keyedPr pwR id pwV (fun key kl hk => ⟨key, rfl⟩) (fun v y hv => by obtain ⟨c, rfl, _⟩ := pwR_inv hv; exact ⟨c, rfl⟩) b W.heap.size ws.length _ _ _ rfl hrg ?_ ?_)
   | gi_in)
  ·-- nothing is left
   intro hc0 hl0
   gi_wp2
   go_end0
   exact ⟨⟨_, rfl⟩, .inl ⟨vs, hC.done hl0, hJs⟩⟩
  ·-- an entry has come
   intro x c kl yd yp w2 cnt2 hkey hlk hv hat hrg2 hlt hg2 hs2 hen
   obtain ⟨c', hcc, hy⟩ := pwR_inv hv
   have hc2 : c = c' := pwAgg_inj hcc
   subst hc2
   have hyd : yd = pwD c := (Prod.mk.inj hy).1
   subst hyd
   obtain ⟨rfl, hlw⟩ := hC.val hdat hlk hat
   have HC2 := Lib.hid (hC.step hwf hlk hlw)
   have hJ2 : J vs w2 := hJ _ wr w2 (some W.heap.size) hJs hg2 (fun r e => by cases e; exact ⟨Nat.le_refl _, hrg.iter_walk⟩)
   obtain ⟨o3, ho3⟩ : ∃ o : Obj, (Obj.cells #[.int .i64 c.g, .int .i64 c.p, .int .u64 c.v, .int .u8 c.d.b0, .int .u8 c.d.b1, .int .u8 c.d.b2, .int .u8 c.d.b3, .int .u8 c.d.b4, .int .u8 c.d.b5, .int .u8 c.d.b6, .int .u8 c.d.b7] 64) = o := ⟨_, rfl⟩
   have hJ3 : J vs (w2.alloc o3) := hJ _ w2 (w2.alloc o3) none hJ2 (World.grownBy_alloc _ _ _) (fun r e => by cases e)
   obtain ⟨fn, tmps, assign, body, hyl, hR⟩ := hY vs c (w2.alloc o3) hJ3 (by omega)
   rw [← ho3] at hyl hR
   have HKW : Hid (∀ W3, KeepsWalks (w2.alloc (Obj.cells #[.int .i64 c.g, .int .i64 c.p, .int .u64 c.v, .int .u8 c.d.b0, .int .u8 c.d.b1, .int .u8 c.d.b2, .int .u8 c.d.b3, .int .u8 c.d.b4, .int .u8 c.d.b5, .int .u8 c.d.b6, .int .u8 c.d.b7] 64)) W3 → KeepsWalks w2 W3) := fun W3 h => (KeepsWalks.alloc _ _).trans h
   dsimp only [pwV] at hyl
   clear hs2 ho3 hJ3 hJ2 hcc hv hat hkey hlw hy
   gi_wp2
   refine hR.mono ?_
   rintro e W3 (⟨rfl, hJ3, hk3⟩ | ⟨rfl, hJx3⟩)
   ·gi_wp2
    have hrg3 := hrg2.of_walks (HKW.out _ hk3)
    go_roundw
    case rel => exact ⟨_, cnt2, vs ++ [c], hrg3, by simp; omega, HC2.out, hJ3⟩
    case measure => rw [hrg3.left_eq, hrg.left_eq]; exact hlt
   ·gi_wp2
    refine bodyPost_ret (results_none rfl _ _ _) rfl ?_
    exact ⟨⟨_, rfl⟩, .inr ⟨_, trivial, hJx3⟩⟩
end Go.Proofs.YtjgjofepedcfnaaGreat
namespace Go.Proofs.YtjgjofepedcfnaaGreat
open Go.RowKit Go.Maps Go.Shelf
attribute [local go_sem] Oper.semAt_some
theorem infoPw : (Tryz.prog.info? 64).map (fun i => (i.zero, i.size, i.bytes)) = some (some (.agg #[.int .i64 0, .int .i64 0, .int .u64 0, .int .u8 0, .int .u8 0, .int .u8 0, .int .u8 0, .int .u8 0, .int .u8 0, .int .u8 0, .int .u8 0]), 11, 32) := by kernel_rfl
abbrev valF (Bm : Nat) : Value := .func (.func 104) #[] #[.pointer (some ⟨Bm, 0, none⟩)]
theorem values_stops (F : Fence) (n : Nat) (h8 : F.fn 104) (hro : F.round = none) (hn : 1 ≤ n) (Bm b : Nat) (ws : List Pw) (hwf : ∀ x ∈ ws, pwWf x) (w : World) (hBm : Bm < w.heap.size) (hm : w.cell? ⟨Bm, 0, none⟩ = some (.map (some b))) (hown : MapW w b ws) :
  SeqStopsK F n Tryz.prog 104 #[.pointer (some ⟨Bm, 0, none⟩)] (fun x : Pw => #[pwV x]) KeepsWalks (AllW ws) (fun _ => True) ws.length w := fun l J Jx W hW hJ _ hY h0 =>
 values1_pw F n h8 hro hn l Bm b ws hwf J Jx hY W hJ ((hW.cell (p := ⟨Bm, 0, none⟩) hBm).trans hm) (hown.below hW) h0
def apT (B Bx Bm : Nat) (x : Pw) : Array Value := #[.slice none 0 0, valF Bm, .pointer (some ⟨B, 0, none⟩), undef, .slice none 0 0, .pointer (some ⟨Bx, 0, none⟩), valF Bm, pwV x, undef, undef, undef, undef, undef]
def apAx (B Bm : Nat) (x : Pw) (a' : Act) (W : World) : Prop := ∃ Bx, W.heap[Bx]? = some (.cells #[.int .i64 x.g, .int .i64 x.p, .int .u64 x.v, .int .u8 x.d.b0, .int .u8 x.d.b1, .int .u8 x.d.b2, .int .u8 x.d.b3, .int .u8 x.d.b4, .int .u8 x.d.b5, .int .u8 x.d.b6, .int .u8 x.d.b7] 64 (0, 0)) ∧ a' = { tmps := apT B Bx Bm x, defers := [] }
theorem apAx_own (B Bm C : Nat) (x : Pw) (a' : Act) : OwnFrom C (fun (_ : Unit) W => apAx B Bm x a' W) := fun _ X Y row ⟨Bx, hb, e⟩ hg hr =>
 ⟨Bx, (hg.block Bx ((Array.getElem?_eq_some_iff.1 hb).1) (fun e' => by obtain ⟨_, o, ho, hc⟩ := hr Bx e'.symm; rw [hb] at ho; cases ho; cases hc)).trans hb, e⟩
set_option maxRecDepth 100000 in
set_option maxHeartbeats 2000000 in
theorem appendSeq_pw (F : Fence) (n : Nat) (h11 : F.fn 134) (h8 : F.fn 104) (hro : F.round = none) (hn : 3 ≤ n) (Bm b : Nat) (ws : List Pw) (hwf : ∀ x ∈ ws, pwWf x) (hlen : ws.length ≤ 100000)
  (w : World) (hBm : Bm < w.heap.size) (hm : w.cell? ⟨Bm, 0, none⟩ = some (.map (some b))) (hown : MapW w b ws) :
  CallsIn F n Tryz.prog 134 #[.slice none 0 0, valF Bm] w fun e w' => ∃ v vs, e = .returned v ∧ AllW ws vs ∧ OwS w' w.heap.size 64 11 v (vs.map Pw.cells) ∧ Below w.heap.size w w' := by
 have h1 : 1 ≤ n := by omega
 obtain ⟨i0, hi, hz0, hz1, hz2⟩ := info_parts infoPw
 refine callsIn_of_wp_marks Tryz.func134 rfl h11 ?_ hro
 simp only [Tryz.ntmps134, List.size_toArray, List.length_cons, List.length_nil, Nat.reduceAdd, Nat.reduceSub, Array.replicate_succ, Array.replicate_zero, List.push_toArray, List.append_toArray, List.nil_append, List.cons_append]
 gi_wp2
 have bO := Boxed.new w 24 (.slice none 0 0)
 have hb0 : Below w.heap.size w (w.alloc (.cells #[.slice none 0 0] 24)) := (Below.refl _ w).alloc (Nat.le_refl _) _
 refine wpIn_rangeFunc_ownH hro h1 (gf := 104) (lb := #[.pointer (some ⟨Bm, 0, none⟩)]) rfl h8 (enters_of Tryz.func104 (by kernel_rfl) rfl)
  (values_stops F (n - 1) h8 hro (by omega) Bm b ws hwf _ (by simp; omega) ((hb0.cell (p := ⟨Bm, 0, none⟩) hBm).trans hm) (hown.below hb0)) walksK_t walksK_b (Below.refl _ _) (fun _ => rfl)
  (fun pre W => (∃ v, Boxed W w.heap.size 24 v ∧ W.ownsRow w.heap.size 64 11 v pre.length ((pre.map Pw.cells).flatten) ∧ True) ∧ Below w.heap.size w W)
  (fun _ _ _ => False)
  (OwnFrom.and (Own.from (holdsRow_own w.heap.size w.heap.size 24 64 11 (fun pre : List Pw => pre.length) (fun pre : List Pw => (pre.map Pw.cells).flatten) (fun _ _ => True)) _) (ownFrom_below (Nat.le_refl _) (by simp)))
  (fun _ _ _ _ _ hs _ _ => hs)
  ⟨⟨_, bO, World.ownsRow_nil _ _ _ _, trivial⟩, hb0⟩
  (apAx w.heap.size Bm) (fun x a' => apAx_own _ _ _ x a') ?assign ?body ?done ?stop
 case assign =>
  rintro l pre x W K ⟨⟨v, hv, hrow, -⟩, hB⟩ hK
  gi_wp2
  exact hK _ _ ((KeepsOthers.alloc _ _).from _) (KeepsWalks.alloc _ _) ⟨⟨v, hv.alloc _, hrow.alloc _, trivial⟩, hB.alloc hB.size _⟩ ⟨W.heap.size, World.alloc_heap_new W _, rfl⟩
 case body =>
  rintro l pre x a' W hl hr ⟨⟨v, hv, hrow, -⟩, hB⟩ ⟨Bx, hBx, rfl⟩ hlt
  have hc := hv.cell
  unfold apT
  have x0 : W.cell? ⟨Bx, 0, none⟩ = some (.int .i64 x.g) := by rw [cell_of_row _ _ _ _ _ _ hBx]; rfl
  have x1 : W.cell? ⟨Bx, 1, none⟩ = some (.int .i64 x.p) := by rw [cell_of_row _ _ _ _ _ _ hBx]; rfl
  have x2 : W.cell? ⟨Bx, 2, none⟩ = some (.int .u64 x.v) := by rw [cell_of_row _ _ _ _ _ _ hBx]; rfl
  have x3 : W.cell? ⟨Bx, 3, none⟩ = some (.int .u8 x.d.b0) := by rw [cell_of_row _ _ _ _ _ _ hBx]; rfl
  have x4 : W.cell? ⟨Bx, 4, none⟩ = some (.int .u8 x.d.b1) := by rw [cell_of_row _ _ _ _ _ _ hBx]; rfl
  have x5 : W.cell? ⟨Bx, 5, none⟩ = some (.int .u8 x.d.b2) := by rw [cell_of_row _ _ _ _ _ _ hBx]; rfl
  have x6 : W.cell? ⟨Bx, 6, none⟩ = some (.int .u8 x.d.b3) := by rw [cell_of_row _ _ _ _ _ _ hBx]; rfl
  have x7 : W.cell? ⟨Bx, 7, none⟩ = some (.int .u8 x.d.b4) := by rw [cell_of_row _ _ _ _ _ _ hBx]; rfl
  have x8 : W.cell? ⟨Bx, 8, none⟩ = some (.int .u8 x.d.b5) := by rw [cell_of_row _ _ _ _ _ _ hBx]; rfl
  have x9 : W.cell? ⟨Bx, 9, none⟩ = some (.int .u8 x.d.b6) := by rw [cell_of_row _ _ _ _ _ _ hBx]; rfl
  have x10 : W.cell? ⟨Bx, 10, none⟩ = some (.int .u8 x.d.b7) := by rw [cell_of_row _ _ _ _ _ _ hBx]; rfl
  gi_wp2_with (gi_at_builtin; refine wpListIn_append_own _ rfl _ _ 24 rfl w.heap.size 64 i0 _ 11 32 Tryz.underlying24 hi hz0 hz1 hz2 rfl (by decide) _ _ _ rfl (hrow.alloc _) ⟨W.heap.size, 0, none⟩ 1 1 x.cells rfl rfl (World.news_of_block (heap_alloc_new W _)) (pwCells_one x) (by simp [maxLen]; omega) (by omega) (by have := hB.size; simp; omega) ?_; intro v' w1 hown' hgrow _; obtain ⟨g', cap', rfl⟩ := ownsRow_succ hown'; obtain ⟨hv1, hv2, hr2, hk2, hb2⟩ := hv.appended (by decide) hrow hB.size (Nat.le_refl _) hown' hgrow; have hc1 := hv1.cell; have hf1 := hv1.frozen)
  exact ⟨hk2.from _, hk2.walks, ⟨_, hv2, by simpa using hr2, trivial⟩, hB.trans hb2⟩
 case done =>
  rintro D ys W hD hall ⟨⟨v, hv, hrow, -⟩, hB⟩ hK
  have hc := hv.cell
  gi_wp2
  refine ⟨by simp, .inl ⟨_, _, rfl, run_takeDeferred hK, ?_⟩⟩
  exact ⟨_, results_tmp rfl _ _ _, v, ys, rfl, hall, ⟨fun r hr => by obtain ⟨x, -, rfl⟩ := List.mem_map.1 hr; rfl, by rw [List.length_map]; exact ownsRow_putObj hrow _ hK rfl⟩, hB.trans (belowK_b (w := w) (Nat.le_refl _) W D _ _ (by simp at hD; omega) hK rfl rfl)⟩
 case stop =>
  rintro D c pre W _ _ h _
  exact h.elim
end Go.Proofs.YtjgjofepedcfnaaGreat
namespace Go.Proofs.YtjgjofepedcfnaaGreat
open Go.RowKit Go.Maps Go.Shelf
def ColP (ws : List Pw) (w : World) (e : Ending) (w' : World) : Prop := ∃ v vs, e = .returned v ∧ AllW ws vs ∧ OwS w' w.heap.size 64 11 v (vs.map Pw.cells) ∧ Below w.heap.size w w'
theorem appendSeq_any (Bm b : Nat) (ws : List Pw) (hwf : ∀ x ∈ ws, pwWf x) (hlen : ws.length ≤ 100000) (w : World) (hBm : Bm < w.heap.size) (hm : w.cell? ⟨Bm, 0, none⟩ = some (.map (some b))) (hown : MapW w b ws) :
  Calls Tryz.prog 134 #[.slice none 0 0, .func (.func 104) #[] #[.pointer (some ⟨Bm, 0, none⟩)]] w (ColP ws w) :=
 (callsIn_wide (n := 3)).1 (appendSeq_pw _ 3 trivial trivial rfl (by omega) Bm b ws hwf hlen w hBm hm hown)
theorem collect_any (Bm b : Nat) (ws : List Pw) (hwf : ∀ x ∈ ws, pwWf x) (hlen : ws.length ≤ 100000) (w : World) (hBm : Bm < w.heap.size) (hm : w.cell? ⟨Bm, 0, none⟩ = some (.map (some b))) (hown : MapW w b ws) :
  Calls Tryz.prog 102 #[.func (.func 104) #[] #[.pointer (some ⟨Bm, 0, none⟩)]] w (ColP ws w) := by
 have HA := Lib.hid (appendSeq_any Bm b ws hwf hlen w hBm hm hown)
 clear hown hm hBm hwf
 go_enter Tryz.func102, Tryz.ntmps102
 go_wp2_with fail
 refine HA.out.mono ?_
 rintro e w1 ⟨v, vs, rfl, hall, ho, hb⟩
 have H1 := Lib.hid hall
 have H2 := Lib.hid ho
 have H3 := Lib.hid hb
 clear hall ho hb
 go_wp2
 go_ret
 exact ⟨v, vs, rfl, H1.out, H2.out, H3.out⟩
def SrtW (ws ts : List Pw) : Prop := (∀ x, x ∈ ts ↔ lastW ws x.g x.p = some x) ∧ ts.Pairwise ltW
theorem allW_len {ws vs : List Pw} (h : AllW ws vs) : vs.length ≤ ws.length := by
 haveI : DecidableEq Pw := fun a b => Classical.propDecidable (a = b)
 refine length_le_of_sub _ _ (h.2.imp fun hab e => hab (by rw [e]; exact ⟨rfl, rfl⟩)) fun x hx => (lastW_some ((h.1 x).1 hx)).1
theorem srtW_of {ws vs ts : List Pw} (h : AllW ws vs) (hp : ts.Perm vs) (hs : ts.Pairwise fun a b => ¬ ltW b a) : SrtW ws ts := by
 refine ⟨fun x => ⟨fun hx => (h.1 x).1 (hp.mem_iff.1 hx), fun hx => hp.mem_iff.2 ((h.1 x).2 hx)⟩, ?_⟩
 have ha : ts.Pairwise fun x y => ¬ (x.g = y.g ∧ x.p = y.p) := hp.symm.pairwise h.2 fun hxy e => hxy ⟨e.1.symm, e.2.symm⟩
 refine (hs.and ha).imp fun hab => ?_
 obtain ⟨h1, h2⟩ := hab
 unfold ltW at *
 omega
def SrtP (ws : List Pw) (w : World) (e : Ending) (w' : World) : Prop := ∃ v ts, e = .returned v ∧ SrtW ws ts ∧ OwS w' w.heap.size 64 11 v (ts.map Pw.cells) ∧ Below w.heap.size w w'
theorem sorted_any (Bm b : Nat) (ws : List Pw) (hwf : ∀ x ∈ ws, pwWf x) (hlen : ws.length ≤ 100000) (w : World) (hBm : Bm < w.heap.size) (hm : w.cell? ⟨Bm, 0, none⟩ = some (.map (some b))) (hown : MapW w b ws) :
  Calls Tryz.prog 53 #[.func (.func 104) #[] #[.pointer (some ⟨Bm, 0, none⟩)], .func (.func 55) #[] #[]] w (SrtP ws w) := by
 have HA := Lib.hid (collect_any Bm b ws hwf hlen w hBm hm hown)
 clear hown hm hBm hwf
 go_enter Tryz.func53, Tryz.ntmps53
 go_wp2_with fail
 refine HA.out.mono ?_
 rintro e w1 ⟨v, vs, rfl, hall, ho, hb⟩
 have H1 := Lib.hid hall
 have HSO := Lib.hid (sortP vs v w.heap.size w1 ho (by have := allW_len hall; omega))
 have HLT := Lib.hid (fun k (hk : v.ownBlock = some k) => (ho.lt hk).1)
 have H3 := Lib.hid hb
 clear hall ho hb
 go_wp2_with fail
 refine HSO.out.mono ?_
 rintro e w2 ⟨rfl, ts, hp, hs, ho, hg⟩
 have H4 := Lib.hid (srtW_of H1.out hp hs)
 have H5 := Lib.hid ho
 have H6 := Lib.hid (H3.out.grown hg H3.out.size HLT.out)
 clear hp hs ho hg
 go_wp2
 go_ret
 exact ⟨v, ts, rfl, H4.out, H5.out, H6.out⟩
theorem values_any (b : Nat) (w : World) : Calls Tryz.prog 54 #[.map (some b)] w fun e w' => e = .returned (.func (.func 104) #[] #[.pointer (some ⟨w.heap.size, 0, none⟩)]) ∧ w' = w.alloc (.cells #[.map (some b)] 98) := by
 go_enter Tryz.func54, Tryz.ntmps54
 go_wp2
 go_ret
 exact ⟨rfl, rfl⟩
end Go.Proofs.YtjgjofepedcfnaaGreat
