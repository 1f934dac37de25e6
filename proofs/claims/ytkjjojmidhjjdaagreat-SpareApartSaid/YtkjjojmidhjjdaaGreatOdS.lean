/- slices.SortFunc at pieces (layout.Member), by their group: the kit's contract at spare.OnDisk's closure. -/
import Derived.Test.YtkjjojmidhjjdaaGreatGTqr
import Derived.Test.YtkjjojmidhjjdaaGreatSfn
namespace Go.Proofs.YtkjjojmidhjjdaaGreat
open Go.RowKit Go.Shelf Go.Lib Go.Sort

def memC (x : Int × Int) : List Value := [.int .i64 x.1, .int .i64 x.2]
theorem memC_len (x : Int × Int) : (memC x).length = 2 := rfl
def cmpM (x y : Int × Int) : Int := cmp3 x.1 y.1
theorem lt_mem (x y : Int × Int) : ltOf cmpM x y = decide (x.1 < y.1) := by
  unfold ltOf cmpM cmp3
  by_cases h1 : x.1 < y.1
  · simp [h1]
  · by_cases h2 : y.1 < x.1 <;> simp [h1, h2]
theorem swo_mem : SWO (ltOf cmpM) where
  irrefl x := by rw [lt_mem]; simp
  trans x y z h1 h2 := by rw [lt_mem] at *; simp at *; omega
  ntrans x y z h1 h2 := by rw [lt_mem] at *; simp at *; omega
theorem flat_mem (d : List (Int × Int)) : (flatK memC 2 d.toArray).toList = (d.map memC).flatten := by
  have hs : ∀ r ∈ d.map memC, r.length = 2 := fun r hr => by obtain ⟨x, -, rfl⟩ := List.mem_map.1 hr; rfl
  apply List.ext_getElem?
  intro t
  by_cases ht : t < d.length * 2
  · have hi : t / 2 < d.length := by omega
    have hm : t % 2 < 2 := Nat.mod_lt _ (by omega)
    have hr : (d.map memC)[t / 2]? = some (memC d[t / 2]) := by rw [List.getElem?_map, List.getElem?_eq_getElem hi]; rfl
    obtain ⟨v, hv⟩ : ∃ v, (memC d[t / 2])[t % 2]? = some v := ⟨_, List.getElem?_eq_getElem (show t % 2 < (memC d[t / 2]).length from hm)⟩
    have h2 := flatten_get hs _ _ hr _ _ hv
    rw [show t / 2 * 2 + t % 2 = t by omega] at h2
    rw [h2, Array.getElem?_toList]
    have hsz : t < (flatK memC 2 d.toArray).size := by simp; exact ht
    rw [Array.getElem?_eq_getElem hsz]
    have h3 := get_flatK memC 2 d.toArray t (by simpa using ht)
    rw [getElem!_pos (flatK memC 2 d.toArray) t hsz] at h3
    rw [h3]
    have h4 : d.toArray[t / 2]! = d[t / 2] := by rw [getElem!_pos d.toArray (t / 2) (by simpa using hi)]; simp
    rw [h4]
    obtain ⟨hl, hv2⟩ := List.getElem?_eq_some_iff.1 hv
    rw [getElem!_pos (memC d[t / 2]) (t % 2) hl, hv2]
  · rw [List.getElem?_eq_none (by simp; omega), List.getElem?_eq_none (by rw [flatten_length hs]; simp; omega)]
theorem holds_id {w : World} {g : Nat} {cur : Array Value} {e : TypeId} {F : Array Value} (hb : w.heap[g]? = some (.cells cur e (0, 0))) (ht : cur.toList.take F.size = F.toList) : Holds id w g 0 F := by
  intro j hj
  refine ⟨?_, by simp [World.frozen?, hb]⟩
  have h1 : (cur.toList.take F.size)[j]? = F.toList[j]? := by rw [ht]
  rw [List.getElem?_take_of_lt hj] at h1
  simp only [World.cell?, hb, Nat.zero_add]
  simp only [Option.isSome_none, Bool.false_eq_true, if_false]
  rw [← Array.getElem?_toList, h1]
  simp [hj]
theorem heap_id {w : World} {g n : Nat} {os : Array Obj} {cur : Array Value} {e : TypeId} {fr : Nat × Nat} (d : Array Value) (hb : w.heap[g]? = some (.cells cur e fr)) :
    (grow (putRow id (Sort.ahead w n) g 0 d) os).heap[g]? = some (.cells (putCells id 0 d cur) e fr) := by
  have hg : g < w.heap.size := (Array.getElem?_eq_some_iff.1 hb).1
  rw [heap_grow_old _ _ (by simpa using hg)]
  simp [putRow, mapBlock, Sort.ahead, Array.getElem?_modify, hb, onCells]
theorem grownBy_id {w : World} {g n : Nat} {os : Array Obj} (d : Array Value) : w.grownBy (grow (putRow id (Sort.ahead w n) g 0 d) os) (some g) := by
  refine ⟨rfl, rfl, rfl, by simp, fun k hk hne => ?_⟩
  rw [heap_grow_old _ _ (by simpa using hk)]
  have : g ≠ k := fun e => hne (by rw [e])
  simp [putRow, mapBlock, Sort.ahead, Array.getElem?_modify, this]
theorem take_id (cur : Array Value) (F : Array Value) (h : F.size ≤ cur.size) : (putCells id 0 F cur).toList.take F.size = F.toList := by
  apply List.ext_getElem?
  intro j
  by_cases hj : j < F.size
  · rw [List.getElem?_take_of_lt hj, Array.getElem?_toList]
    simp [putCells, hj, show j < cur.size by omega]
  · rw [List.getElem?_take_eq_none (by omega), List.getElem?_eq_none (by simp; omega)]
set_option maxHeartbeats 1000000 in
/-- the closure of spare.OnDisk -/
theorem clos_mem (x y : Int × Int) (W : World) : Calls Tryz.prog 27 #[.agg #[.int .i64 x.1, .int .i64 x.2], .agg #[.int .i64 y.1, .int .i64 y.2]] W fun e w' => e = .returned (.int .i64 (cmpM x y)) ∧ ∃ q os', w' = grow (W.drewN q) os' := by
  have hcon := fun W' => compare_any x.1 y.1 W'
  unfold cmpM
  generalize cmp3 x.1 y.1 = r at hcon ⊢
  go_enter Tryz.func27, Tryz.ntmps27
  go_wp2_with fail
  refine (hcon _).mono ?_
  rintro e w' ⟨rfl, rfl⟩
  go_wp2
  go_ret
  exact ⟨rfl, 0, _, by rw [alloc_eq_grow, alloc_eq_grow, grow_grow]; rfl⟩
theorem lays_mem (blk off size : Nat) (w : World) : CmpLays Tryz.prog 27 #[] memC 2 cmpM blk off size w :=
  fun _ _ _ _ x y => clos_mem x y _
theorem isAgg_mem : ∀ w, (isAgg 45).run Tryz.prog w = .ok true w := Tryz.isAgg45
theorem sizeOf_mem : ∀ w, (Go.sizeOf 45).run Tryz.prog w = .ok 2 w := Tryz.sizeOf45
set_option maxHeartbeats 1000000 in
/-- the library's SortFunc on pieces of the call's own -/
theorem sortM (ks : List (Int × Int)) (v : Value) (base : Nat) (w : World) (h : OwS w base 45 2 v (ks.map memC)) (hn : ks.length ≤ 1000000) :
    Calls Tryz.prog 26 #[v, .func (.func 27) #[] #[]] w fun e w' => e = .returned (.tuple #[]) ∧ ∃ ts : List (Int × Int), ts.Perm ks ∧ (ts.Pairwise fun a b => ¬ b.1 < a.1) ∧ OwS w' base 45 2 v (ts.map memC) ∧ w.grownBy w' v.ownBlock := by
  rcases h.2.2 with ⟨rfl, h0⟩ | ⟨g, cap, cur, rfl, hb, hh, hnc, hcm, hsz, ht⟩
  · have hk : ks = [] := by
      cases ks with
      | nil => rfl
      | cons => simp at h0
    subst hk
    refine (AnyF.slices_SortFunc_none Tryz.sortMem none 0 _ w).mono ?_
    rintro e w' ⟨rfl, rfl⟩
    exact ⟨rfl, [], List.Perm.refl _, List.Pairwise.nil, h, World.grownBy.refl _ _⟩
  · rw [List.length_map] at hnc ht ⊢
    have hs2 : ∀ (l : List (Int × Int)) r, r ∈ l.map memC → r.length = 2 := fun l r hr => by obtain ⟨x, -, rfl⟩ := List.mem_map.1 hr; rfl
    have hfz : (flatK memC 2 ks.toArray).size = ks.length * 2 := by simp
    have ht2 : cur.toList.take (flatK memC 2 ks.toArray).size = (flatK memC 2 ks.toArray).toList := by rw [hfz, flat_mem]; exact ht
    have hgl : g < w.heap.size := (Array.getElem?_eq_some_iff.1 hh).1
    have hc := AnyQ.slices_SortFunc Tryz.sortMem 2 isAgg_mem sizeOf_mem memC memC_len (fun x v hv => by simp [memC] at hv; rcases hv with rfl | rfl <;> rfl) cmpM swo_mem 27 #[] g 0 cap ks.toArray w (enters_of Tryz.func27 (by kernel_rfl) rfl) (lays_mem g 0 _ w) (holds_id hh ht2) hgl (by simp; omega)
    rw [List.size_toArray] at hc
    refine hc.mono ?_
    rintro e w' ⟨rfl, d', n, os, hp, hs, rfl⟩
    obtain ⟨hp1, -, hp3⟩ := hp
    have hd : d'.size = ks.length := by simpa using hp1
    have hpe : d'.toList.Perm ks := by
      have e1 : (d'.extract 0 ks.length).toList = d'.toList := by rw [← hd]; simp
      have e2 : (ks.toArray.extract 0 ks.length).toList = ks := by simp
      rw [e1, e2] at hp3
      exact hp3
    have hpw : d'.toList.Pairwise fun a b => ¬ b.1 < a.1 := by
      rw [List.pairwise_iff_getElem]
      intro i j hi hj hij
      have hi' : i < d'.size := by simpa using hi
      have hj' : j < d'.size := by simpa using hj
      have := hs i j (Nat.zero_le _) hij (by omega)
      rw [lt_mem, decide_eq_false_iff_not, getElem!_pos d' i hi', getElem!_pos d' j hj'] at this
      simpa using this
    refine ⟨rfl, d'.toList, hpe, hpw, ⟨hs2 _, ?_⟩, grownBy_id _⟩
    have hfz2 : (flatK memC 2 d').size = ks.length * 2 := by simp [hd]
    have hcs : ks.length * 2 ≤ cur.size := by rw [hsz]; exact Nat.mul_le_mul_right 2 hnc
    have hfl := flat_mem d'.toList
    have hda : d'.toList.toArray = d' := by simp
    rw [hda] at hfl
    have hlen : (d'.toList.map memC).length = ks.length := by simp [hd]
    rw [hlen]
    refine ⟨by rw [flatten_length (hs2 _), hlen], .inr ⟨g, cap, _, rfl, hb, heap_id _ hh, hnc, hcm, by simp [putCells, hsz], ?_⟩⟩
    have := take_id cur (flatK memC 2 d') (by rw [hfz2]; exact hcs)
    rw [hfz2, hfl] at this
    exact this
end Go.Proofs.YtkjjojmidhjjdaaGreat
