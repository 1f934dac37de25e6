/- Walks of layout: data, Valid, Width, Data.
slices.SortFunc at plan's helpers, by their disk: the kit's contract at planner.helpers' closure.
What planner.helpers needs: the planner in memory, the list of helpers as it is collected, the operations on the mask of bits. -/
import Derived.Test.YteglnekkkhpikaaGreatGTjk
import Derived.Test.YteglnekkkhpikaaGreatGOdd
import Derived.Test.YteglnekkkhpikaaGreatSfh
import Derived.Test.YteglnekkkhpikaaGreatPwC
import Derived.Test.YteglnekkkhpikaaGreatGTqr
import Derived.Laws.Bits64b
namespace Go.Proofs.YteglnekkkhpikaaGreat
open Go.RowKit

set_option maxHeartbeats 1000000 in
theorem ldataN_any {L : LayD} {A : Option Addr} {c : Nat} {rv ov : Value} {ho ca : Int} (w : World) (hw : 4 ≤ L.w) (hw2 : L.w ≤ 16) : Calls Tryz.prog 70 #[.agg (numC L A c rv ov ho ca)] w fun r w' => r = .returned (.int .i64 ((L.w - 3 : Nat) : Int)) ∧ Below w.heap.size w w' := by
  have hm : IntKind.i64.wrap ((L.w : Int) - 3) = ((L.w - 3 : Nat) : Int) := by rw [IntWalk.i64_in _ (by omega)]; omega
  unfold numC
  go_enter Tryz.func70, Tryz.ntmps70
  go_wp2
  go_ret
  exact ⟨rfl, below_laid⟩
set_option maxHeartbeats 1000000 in
theorem lvalid_zero (w : World) : Calls Tryz.prog 39 #[.agg #[.int .i64 0, .slice none 0 0, .int .i64 0, .int .i64 0]] w fun r w' => r = .returned (.bool false) ∧ Below w.heap.size w w' := by
  have HC := Lib.hid (fun W => measure_zero W)
  unfold numZ at HC
  go_enter Tryz.func39, Tryz.ntmps39
  go_wp2_with fail
  have hb0 : Below w.heap.size w (w.alloc (.cells #[.int .i64 0, .slice none 0 0, .int .i64 0, .int .i64 0] 31)) := below_laid
  generalize w.alloc _ = w0 at *
  refine (HC.out w0).mono ?_
  rintro r w1 ⟨rfl, hb1⟩
  have HB := Lib.hid ((hb0.trans (hb1.mono hb0.size)))
  clear hb0 hb1
  go_wp2
  go_ret
  exact ⟨rfl, HB.out.trans (below_laid.mono HB.out.size)⟩
set_option maxHeartbeats 1000000 in
theorem lvalid_any {L : LayD} {A : Option Addr} {B c : Nat} (w : World) (hx : LayX L) (hv : GsV w B A L.gs) (hB : B ≤ w.heap.size) : Calls Tryz.prog 39 #[layAgg L A c] w fun r w' => r = .returned (.bool true) ∧ Below w.heap.size w w' := by
  have HV := Lib.hid hv
  have HC := Lib.hid (fun W hv hB => measure_any (L := L) (A := A) (B := B) (c := c) W hx hv hB)
  unfold layAgg at *
  clear hv
  go_enter Tryz.func39, Tryz.ntmps39
  go_wp2_with fail
  have hb0 : Below w.heap.size w (w.alloc (.cells #[.int .i64 L.disks, .slice A L.n c, .int .i64 L.tiles, .int .i64 L.spare] 31)) := below_laid
  generalize w.alloc _ = w0 at *
  refine (HC.out w0 (HV.out.below hb0 hB) (Nat.le_trans hB hb0.size)).mono ?_
  rintro r w1 ⟨⟨Ar, cr, O, rfl, -, -⟩, hb1⟩
  have HB := Lib.hid ((hb0.trans (hb1.mono hb0.size)))
  clear hb0 hb1
  unfold numC
  go_wp2
  go_ret
  exact ⟨rfl, HB.out.trans (below_laid.mono HB.out.size)⟩
set_option maxHeartbeats 1000000 in
theorem lwidth_any {L : LayD} {A : Option Addr} {B c : Nat} (w : World) (hx : LayX L) (hv : GsV w B A L.gs) (hB : B ≤ w.heap.size) : Calls Tryz.prog 42 #[layAgg L A c] w fun r w' => r = .returned (.int .i64 (L.w : Int)) ∧ Below w.heap.size w w' := by
  have HV := Lib.hid hv
  have HC := Lib.hid (fun W hv hB => measure_any (L := L) (A := A) (B := B) (c := c) W hx hv hB)
  unfold layAgg at *
  clear hv
  go_enter Tryz.func42, Tryz.ntmps42
  go_wp2_with fail
  have hb0 : Below w.heap.size w (w.alloc (.cells #[.int .i64 L.disks, .slice A L.n c, .int .i64 L.tiles, .int .i64 L.spare] 31)) := below_laid
  generalize w.alloc _ = w0 at *
  refine (HC.out w0 (HV.out.below hb0 hB) (Nat.le_trans hB hb0.size)).mono ?_
  rintro r w1 ⟨⟨Ar, cr, O, rfl, -, -⟩, hb1⟩
  have HB := Lib.hid ((hb0.trans (hb1.mono hb0.size)))
  clear hb0 hb1
  unfold numC
  go_wp2
  go_ret
  exact ⟨rfl, HB.out.trans (below_laid.mono HB.out.size)⟩
set_option maxHeartbeats 1000000 in
theorem ldata2_any {L : LayD} {A : Option Addr} {B c : Nat} (w : World) (hx : LayX L) (hv : GsV w B A L.gs) (hB : B ≤ w.heap.size) : Calls Tryz.prog 41 #[layAgg L A c] w fun r w' => r = .returned (.int .i64 ((L.w - 3 : Nat) : Int)) ∧ Below w.heap.size w w' := by
  have HV := Lib.hid hv
  have HC := Lib.hid (fun W hv hB => measure_any (L := L) (A := A) (B := B) (c := c) W hx hv hB)
  have HG := Lib.hid (fun rv ov W => ldataN_any (L := L) (A := A) (c := c) (rv := rv) (ov := ov) (ho := L.homes) (ca := L.blocks) W hx.ok.w.1 hx.ok.w.2)
  obtain ⟨nd, hnd⟩ : ∃ nd, L.w - 3 = nd := ⟨_, rfl⟩
  rw [hnd] at HG ⊢
  unfold layAgg at *
  unfold numC at HG
  clear hv
  go_enter Tryz.func41, Tryz.ntmps41
  go_wp2_with fail
  have hb0 : Below w.heap.size w (w.alloc (.cells #[.int .i64 L.disks, .slice A L.n c, .int .i64 L.tiles, .int .i64 L.spare] 31)) := below_laid
  generalize w.alloc _ = w0 at *
  refine (HC.out w0 (HV.out.below hb0 hB) (Nat.le_trans hB hb0.size)).mono ?_
  rintro r w1 ⟨⟨Ar, cr, O, rfl, -, -⟩, hb1⟩
  have HB := Lib.hid ((hb0.trans (hb1.mono hb0.size)))
  clear hb0 hb1
  unfold numC
  go_wp2_with fail
  have hb2 : Below w1.heap.size w1 (w1.alloc (.cells #[.int .i64 L.disks, .slice A L.n c, .int .i64 L.tiles, .int .i64 L.spare, .int .i64 L.w, .int .i64 L.r, .int .i64 L.n, .slice Ar L.n cr, .slice (some ⟨O, 0, none⟩) L.disks L.disks, .int .i64 L.homes, .int .i64 L.blocks] 117)) := below_laid
  generalize w1.alloc _ = w2 at *
  refine (HG.out _ _ w2).mono ?_
  rintro r w3 ⟨rfl, hb3⟩
  go_wp2
  go_ret
  exact ⟨rfl, HB.out.trans ((hb2.trans (hb3.mono hb2.size)).mono HB.out.size)⟩
end Go.Proofs.YteglnekkkhpikaaGreat
namespace Go.Proofs.YteglnekkkhpikaaGreat
open Go.RowKit Go.Shelf Go.Lib Go.Sort

/-- a helper: a disk (below 64) and a piece -/
def hlpC (x : Fin 64 × Nat) : List Value := [.int .i64 (x.1.val : Int), .int .i64 (x.2 : Int)]
theorem hlpC_len (x : Fin 64 × Nat) : (hlpC x).length = 2 := rfl
def cmpH (x y : Fin 64 × Nat) : Int := (x.1.val : Int) - (y.1.val : Int)
theorem lt_hlp (x y : Fin 64 × Nat) : ltOf cmpH x y = decide (x.1.val < y.1.val) := by
  unfold ltOf cmpH
  by_cases h1 : x.1.val < y.1.val
  · simp only [h1, decide_true, decide_eq_true_iff]
    omega
  · simp only [h1, decide_false, decide_eq_false_iff_not]
    omega
theorem swo_hlp : SWO (ltOf cmpH) where
  irrefl x := by rw [lt_hlp]; simp
  trans x y z h1 h2 := by rw [lt_hlp] at *; simp only [decide_eq_true_iff] at *; omega
  ntrans x y z h1 h2 := by rw [lt_hlp] at *; simp only [decide_eq_false_iff_not] at *; omega
theorem flat_hlp (d : List (Fin 64 × Nat)) : (flatK hlpC 2 d.toArray).toList = (d.map hlpC).flatten := by
  have hs : ∀ r ∈ d.map hlpC, r.length = 2 := fun r hr => by obtain ⟨x, -, rfl⟩ := List.mem_map.1 hr; rfl
  apply List.ext_getElem?
  intro t
  by_cases ht : t < d.length * 2
  · have hi : t / 2 < d.length := by omega
    have hm : t % 2 < 2 := Nat.mod_lt _ (by omega)
    have hr : (d.map hlpC)[t / 2]? = some (hlpC d[t / 2]) := by rw [List.getElem?_map, List.getElem?_eq_getElem hi]; rfl
    obtain ⟨v, hv⟩ : ∃ v, (hlpC d[t / 2])[t % 2]? = some v := ⟨_, List.getElem?_eq_getElem (show t % 2 < (hlpC d[t / 2]).length from hm)⟩
    have h2 := flatten_get hs _ _ hr _ _ hv
    rw [show t / 2 * 2 + t % 2 = t by omega] at h2
    rw [h2, Array.getElem?_toList]
    have hsz : t < (flatK hlpC 2 d.toArray).size := by simp; exact ht
    rw [Array.getElem?_eq_getElem hsz]
    have h3 := get_flatK hlpC 2 d.toArray t (by simpa using ht)
    rw [getElem!_pos (flatK hlpC 2 d.toArray) t hsz] at h3
    rw [h3]
    have h4 : d.toArray[t / 2]! = d[t / 2] := by rw [getElem!_pos d.toArray (t / 2) (by simpa using hi)]; simp
    rw [h4]
    obtain ⟨hl, hv2⟩ := List.getElem?_eq_some_iff.1 hv
    rw [getElem!_pos (hlpC d[t / 2]) (t % 2) hl, hv2]
  · rw [List.getElem?_eq_none (by simp; omega), List.getElem?_eq_none (by rw [flatten_length hs]; simp; omega)]
set_option maxHeartbeats 1000000 in
/-- the closure of planner.helpers -/
theorem clos_hlp (x y : Fin 64 × Nat) (W : World) : Calls Tryz.prog 88 #[.agg #[.int .i64 (x.1.val : Int), .int .i64 (x.2 : Int)], .agg #[.int .i64 (y.1.val : Int), .int .i64 (y.2 : Int)]] W fun e w' => e = .returned (.int .i64 (cmpH x y)) ∧ ∃ q os', w' = grow (W.drewN q) os' := by
  have hw : IntKind.i64.wrap ((x.1.val : Int) - (y.1.val : Int)) = (x.1.val : Int) - (y.1.val : Int) := IntWalk.i64_in _ (by have := x.1.isLt; have := y.1.isLt; omega)
  unfold cmpH
  go_enter Tryz.func88, Tryz.ntmps88
  go_wp2
  go_ret
  exact ⟨rfl, 0, _, by rw [alloc_eq_grow, alloc_eq_grow, grow_grow]; rfl⟩
theorem lays_hlp (blk off size : Nat) (w : World) : CmpLays Tryz.prog 88 #[] hlpC 2 cmpH blk off size w :=
  fun _ _ _ _ x y => clos_hlp x y _
theorem isAgg_hlp : ∀ w, (isAgg 141).run Tryz.prog w = .ok true w := Tryz.isAgg141
theorem sizeOf_hlp : ∀ w, (Go.sizeOf 141).run Tryz.prog w = .ok 2 w := Tryz.sizeOf141
set_option maxHeartbeats 1000000 in
/-- the library's SortFunc on pieces of the call's own -/
theorem sortH (ks : List (Fin 64 × Nat)) (v : Value) (base : Nat) (w : World) (h : OwS w base 141 2 v (ks.map hlpC)) (hn : ks.length ≤ 1000000) :
    Calls Tryz.prog 87 #[v, .func (.func 88) #[] #[]] w fun e w' => e = .returned (.tuple #[]) ∧ ∃ ts : List (Fin 64 × Nat), ts.Perm ks ∧ (ts.Pairwise fun a b => ¬ b.1.val < a.1.val) ∧ OwS w' base 141 2 v (ts.map hlpC) ∧ w.grownBy w' v.ownBlock := by
  rcases h.2.2 with ⟨rfl, h0⟩ | ⟨g, cap, cur, rfl, hb, hh, hnc, hcm, hsz, ht⟩
  · have hk : ks = [] := by
      cases ks with
      | nil => rfl
      | cons => simp at h0
    subst hk
    refine (AnyF.slices_SortFunc_none Tryz.sortHlp none 0 _ w).mono ?_
    rintro e w' ⟨rfl, rfl⟩
    exact ⟨rfl, [], List.Perm.refl _, List.Pairwise.nil, h, World.grownBy.refl _ _⟩
  · rw [List.length_map] at hnc ht ⊢
    have hs2 : ∀ (l : List (Fin 64 × Nat)) r, r ∈ l.map hlpC → r.length = 2 := fun l r hr => by obtain ⟨x, -, rfl⟩ := List.mem_map.1 hr; rfl
    have hfz : (flatK hlpC 2 ks.toArray).size = ks.length * 2 := by simp
    have ht2 : cur.toList.take (flatK hlpC 2 ks.toArray).size = (flatK hlpC 2 ks.toArray).toList := by rw [hfz, flat_hlp]; exact ht
    have hgl : g < w.heap.size := (Array.getElem?_eq_some_iff.1 hh).1
    have hc := AnyQ.slices_SortFunc Tryz.sortHlp 2 isAgg_hlp sizeOf_hlp hlpC hlpC_len (fun x v hv => by simp [hlpC] at hv; rcases hv with rfl | rfl <;> rfl) cmpH swo_hlp 88 #[] g 0 cap ks.toArray w (enters_of Tryz.func88 (by kernel_rfl) rfl) (lays_hlp g 0 _ w) (holds_id hh ht2) hgl (by simp; omega)
    rw [List.size_toArray] at hc
    refine hc.mono ?_
    rintro e w' ⟨rfl, d', n, os, hp, hs, rfl⟩
    obtain ⟨hp1, -, hp3⟩ := hp
    have hd : d'.size = ks.length := by simpa using hp1
    have hpe : d'.toList.Perm ks := by
      have e1 : (d'.extract 0 ks.length).toList = d'.toList := by rw [← hd]; simp
      have e2 : (ks.toArray.extract 0 ks.length).toList = ks := by simp
      rw [e1, e2] at hp3
      exact hp3
    have hpw : d'.toList.Pairwise fun a b => ¬ b.1.val < a.1.val := by
      rw [List.pairwise_iff_getElem]
      intro i j hi hj hij
      have hi' : i < d'.size := by simpa using hi
      have hj' : j < d'.size := by simpa using hj
      have := hs i j (Nat.zero_le _) hij (by omega)
      rw [lt_hlp, decide_eq_false_iff_not, getElem!_pos d' i hi', getElem!_pos d' j hj'] at this
      simpa using this
    refine ⟨rfl, d'.toList, hpe, hpw, ⟨hs2 _, ?_⟩, grownBy_id _⟩
    have hfz2 : (flatK hlpC 2 d').size = ks.length * 2 := by simp [hd]
    have hcs : ks.length * 2 ≤ cur.size := by rw [hsz]; exact Nat.mul_le_mul_right 2 hnc
    have hfl := flat_hlp d'.toList
    have hda : d'.toList.toArray = d' := by simp
    rw [hda] at hfl
    have hlen : (d'.toList.map hlpC).length = ks.length := by simp [hd]
    rw [hlen]
    refine ⟨by rw [flatten_length (hs2 _), hlen], .inr ⟨g, cap, _, rfl, hb, heap_id _ hh, hnc, hcm, by simp [putCells, hsz], ?_⟩⟩
    have := take_id cur (flatK hlpC 2 d') (by rw [hfz2]; exact hcs)
    rw [hfz2, hfl] at this
    exact this
end Go.Proofs.YteglnekkkhpikaaGreat
namespace Go.Proofs.YteglnekkkhpikaaGreat
open Go.RowKit

/-- a planner in its box -/
def PlnB (w : World) (X : Nat) (L : LayD) (A : Option Addr) (c : Nat) (An : Option Addr) (nn cn : Nat) (Ad : Option Addr) (cd : Nat) : Prop :=
  w.heap[X]? = some (.cells #[.int .i64 (L.disks : Int), .slice A L.n c, .int .i64 (L.tiles : Int), .int .i64 (L.spare : Int), .slice An nn cn, .slice Ad L.disks cd] 73)
section
variable {w w' : World} {X : Nat} {L : LayD} {A An Ad : Option Addr} {c nn cn cd : Nat}
theorem PlnB.cells (h : PlnB w X L A c An nn cn Ad cd) : w.cell? ⟨X, 0, none⟩ = some (.int .i64 (L.disks : Int)) ∧ w.cell? ⟨X, 1, none⟩ = some (.slice A L.n c) ∧ w.cell? ⟨X, 2, none⟩ = some (.int .i64 (L.tiles : Int)) ∧ w.cell? ⟨X, 3, none⟩ = some (.int .i64 (L.spare : Int)) ∧ w.cell? ⟨X, 4, none⟩ = some (.slice An nn cn) ∧ w.cell? ⟨X, 5, none⟩ = some (.slice Ad L.disks cd) := by
  refine ⟨?_, ?_, ?_, ?_, ?_, ?_⟩ <;> (rw [cell_of_row _ _ _ _ _ _ h]; rfl)
theorem PlnB.lt (h : PlnB w X L A c An nn cn Ad cd) : X < w.heap.size := blk_lt h
theorem PlnB.below {C : Nat} (h : PlnB w X L A c An nn cn Ad cd) (hb : Below C w w') (hC : X < C) : PlnB w' X L A c An nn cn Ad cd := (hb.block _ hC).trans h
end
/-- the helpers among the first i pieces, as plan collects them -/
def rawTo (L : LayD) (ms : List Mv) (g : Nat) (dead : List Bool) (i : Nat) : List (Nat × Nat) := ((List.range i).filter fun (i : Nat) => !(dead[(whereL L ms g i).disk.toNat]?.getD false)).map fun (i : Nat) => ((whereL L ms g i).disk.toNat, i)
theorem rawTo_all (L : LayD) (ms : List Mv) (g : Nat) (dead : List Bool) : rawTo L ms g dead L.w = rawH L ms g dead := rfl
theorem rawTo_succ (L : LayD) (ms : List Mv) (g : Nat) (dead : List Bool) (i : Nat) : rawTo L ms g dead (i + 1) = rawTo L ms g dead i ++ if (dead[(whereL L ms g i).disk.toNat]?.getD false) = false then [((whereL L ms g i).disk.toNat, i)] else [] := by
  unfold rawTo
  rw [List.range_succ, List.filter_append, List.map_append]
  congr 1
  simp only [List.filter_cons, List.filter_nil]
  cases dead[(whereL L ms g i).disk.toNat]?.getD false <;> rfl
theorem rawTo_len (L : LayD) (ms : List Mv) (g : Nat) (dead : List Bool) (i : Nat) : (rawTo L ms g dead i).length ≤ i := by
  unfold rawTo
  rw [List.length_map]
  exact Nat.le_trans (List.length_filter_le _ _) (by simp)
theorem rawH_len {L : LayD} (ok : LayOk L) {ms : List Mv} (h : MvOk L ms) (g : Nat) (dead : List Bool) : (rawH L ms g dead).length = (helpL L ms g dead).length := by
  have h1 := sub_len (rawH_nodup (L := L) (ms := ms) (g := g) (dead := dead)) ((helpP_inc ok h g dead).imp fun {a b} (hab : a.1 < b.1) (e : a = b) => by rw [e] at hab; omega) fun x hx => (rawH_mem ok h x).1 hx
  have h2 := sub_len ((helpP_inc ok h g dead).imp fun {a b} (hab : a.1 < b.1) (e : a = b) => by rw [e] at hab; omega) (rawH_nodup (L := L) (ms := ms) (g := g) (dead := dead)) fun x hx => (rawH_mem ok h x).2 hx
  unfold helpL
  rw [List.length_map]
  omega
/-- the rows as the sort takes them -/
def toF (x : Nat × Nat) : Fin 64 × Nat := (⟨x.1 % 64, Nat.mod_lt _ (by decide)⟩, x.2)
def ofF (x : Fin 64 × Nat) : Nat × Nat := (x.1.val, x.2)
theorem memN_toF {l : List (Nat × Nat)} (h : ∀ x ∈ l, x.1 < 64) : (l.map toF).map hlpC = l.map memN := by
  rw [List.map_map]
  apply List.map_congr_left
  intro x hx
  have := h x hx
  simp only [Function.comp, toF, hlpC, memN, Nat.mod_eq_of_lt this]
theorem hlpC_ofF (l : List (Fin 64 × Nat)) : l.map hlpC = (l.map ofF).map memN := by
  rw [List.map_map]
  rfl
theorem ofF_toF {l : List (Nat × Nat)} (h : ∀ x ∈ l, x.1 < 64) : (l.map toF).map ofF = l := by
  rw [List.map_map]
  conv => rhs; rw [← List.map_id l]
  apply List.map_congr_left
  intro x hx
  have := h x hx
  simp only [Function.comp, toF, ofF, Nat.mod_eq_of_lt this, id]
/-- what the sort of the collected helpers gives -/
theorem sorted_help {L : LayD} (ok : LayOk L) {ms : List Mv} (h : MvOk L ms) {g : Nat} {dead : List Bool} {ts : List (Fin 64 × Nat)} (hd : L.disks ≤ 60) (hp : ts.Perm ((rawH L ms g dead).map toF)) (hs : ts.Pairwise fun a b => ¬ b.1.val < a.1.val) : ts.map hlpC = (helpP L ms g dead).map memN := by
  have h64 : ∀ x ∈ rawH L ms g dead, x.1 < 64 := fun x hx => by
    obtain ⟨d, i⟩ := x
    have := (helpP_mem.1 ((rawH_mem ok h _).1 hx)).1
    simp only
    omega
  rw [hlpC_ofF, sort_help ok h (g := g) (dead := dead) (ts := ts.map ofF) (by have := hp.map ofF; rw [ofF_toF h64] at this; exact this) (by
    rw [List.pairwise_map]
    exact hs.imp fun {a b} hab => by unfold ofF; simp only; omega)]
/-! the operations on the mask -/
theorem u64_wrap {a : Nat} (h : a < 2 ^ 64) : IntKind.u64.wrap (a : Int) = (a : Int) := by
  rw [IntKind.wrap_u64]
  have : ((2 : Int) ^ 64) = ((2 ^ 64 : Nat) : Int) := by norm_cast
  omega
theorem u64_pow {k : Nat} (hk : k < 64) : IntKind.u64.wrap (2 ^ k) = ((2 ^ k : Nat) : Int) := by
  have h1 : (2 : Int) ^ k = ((2 ^ k : Nat) : Int) := by simp
  rw [h1]
  exact u64_wrap (Nat.pow_lt_pow_right (by decide) hk)
theorem nat_shr (a k : Nat) : (a : Int) / 2 ^ k = ((a >>> k : Nat) : Int) := by
  rw [Nat.shiftRight_eq_div_pow]
  push_cast
  rfl
theorem bit_and {a k : Nat} : (a >>> k) &&& 1 = if a.testBit k then 1 else 0 := by
  rw [Nat.testBit_eq_decide_div_mod_eq, Nat.and_one_is_mod, Nat.shiftRight_eq_div_pow]
  rcases Nat.mod_two_eq_zero_or_one (a / 2 ^ k) with h | h <;> simp [h]
end Go.Proofs.YteglnekkkhpikaaGreat
