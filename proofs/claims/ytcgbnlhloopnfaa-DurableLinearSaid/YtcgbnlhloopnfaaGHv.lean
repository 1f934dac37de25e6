/- Walk of history.Registers.
The library's sort on a slice of the call's own, and Pending without premise.
history.Registers and history.Pending, whatever Valid says. -/
import Derived.Test.YtcgbnlhloopnfaaGLin
import Derived.Test.YtcgbnlhloopnfaaGPrs
import Derived.Test.YtcgbnlhloopnfaaIter
import Derived.Test.YtcgbnlhloopnfaaShelf
import Derived.Maps.Ext
import Derived.Sort.OwnSortedInts
namespace Go.Proofs.Ytcgbnlhloopnfaa
open Go.RowKit Go.Maps Go.Sort Go.Shelf

/-! ### slices.Sorted(maps.Keys(m)) -/
theorem sorts_in (m : Nat) : AnyZI.SortsIn Try.prog Try.sortedA_ren Fence.wide m :=
  ⟨fun blk off cap ss W hH hblk hsz => callsIn_wide.2 (AnyM.slices_Sort_int Try.sortA blk off cap ss W hH hblk hsz),
   fun p cap W => callsIn_wide.2 (AnyM.slices_Sort_int_none Try.sortA p cap W)⟩
theorem keys_call (mb : Option Nat) (W : World) : Calls Try.prog 41 #[.map mb] W fun e w' => e = .returned (.func (.func 65) #[] #[.pointer (some ⟨W.heap.size, 0, none⟩)]) ∧ w' = W.alloc (.cells #[.map mb] 63) :=
  (callsIn_wide (n := 5)).1 (AnyZI.keys_in Try.keysA Fence.wide 5 trivial rfl mb W)
theorem sorted_call {H : Type} (b nn : Nat) (D0 : DataW H) (R : Value → Option (DataW H × List MemPlace)) (w : World) (hown : w.ownsMap Try.prog 3 R b nn D0) (hmax : Maps.size D0 ≤ maxLen) (hbytes : Maps.size D0 * 8 ≤ 140737488355328) :
    Calls Try.prog 40 #[.func (.func 65) #[] #[.pointer (some ⟨w.heap.size, 0, none⟩)]] (w.alloc (.cells #[.map (some b)] 63)) fun e w' => ∃ (v : Value) (ss : List Int), e = .returned v ∧ ss.Perm (intKeys D0) ∧
      w'.ownsRow (w.alloc (.cells #[.map (some b)] 63)).heap.size 3 1 v ss.length ((ss.mergeSort (fun x y => decide (x ≤ y))).map encZ) ∧ (v = .slice none 0 0 ↔ ss = []) ∧ Below (w.alloc (.cells #[.map (some b)] 63)).heap.size (w.alloc (.cells #[.map (some b)] 63)) w' := by
  refine (callsIn_wide (n := 5)).1 ?_
  have hbl := hown.lt
  have hseq : SeqGives Fence.wide 2 Try.prog 65 #[.pointer (some ⟨w.heap.size, 0, none⟩)] encZ (fun ss => ss.Perm (intKeys D0)) (Maps.size D0) (w.alloc (.cells #[.map (some b)] 63)) :=
    AnyZI.keys_gives (ρ := Try.keysA_ren) { Try.keysA with } Fence.wide _ trivial rfl (by omega) w.heap.size b nn D0 _ (by simp) (by simp) (by
      obtain ⟨es, clock, hb, Ft, hs, hD⟩ := hown
      exact ⟨es, clock, (Below.heap_alloc _ _ b hbl).trans hb, Ft, hs, hD⟩)
  exact AnyZI.sorted_in Try.sortedA Fence.wide 5 trivial trivial trivial trivial rfl (by omega) (sorts_in _) (enters_of Try.func44 (by kernel_rfl) rfl) 65 #[.pointer (some ⟨w.heap.size, 0, none⟩)] trivial (enters_of Try.func65 (by kernel_rfl) rfl) _ _ hmax hbytes _ hseq

/-! ### the set of registers -/
theorem pStep_reg {l : List Ev} {k : Nat} {st st' : List Opr × Int} {e : Ev} (h : pStep l k st e = some st') : ∀ o ∈ st'.1, o.reg = e.reg ∨ ∃ o' ∈ st.1, o.reg = o'.reg := by
  have hfr : ∀ (i : Nat) (o : Opr), (Opr.fin e i o).reg = o.reg := fun i o => by unfold Opr.fin; split <;> rfl
  unfold pStep at h
  split at h
  · split at h
    · cases h
    · split at h
      · cases h
        intro o ho
        rcases List.mem_append.1 ho with ho | ho
        · exact .inr ⟨o, ho, rfl⟩
        · simp [Opr.of] at ho; subst ho; exact .inl rfl
      · cases h
  · split at h
    · split at h
      · cases h
      · unfold pDone at h
        split at h
        · cases h
        · split at h
          · cases h
          · split at h
            · split at h
              · cases h
                intro o ho
                obtain ⟨o', ho', rfl⟩ := List.mem_map.1 ho
                exact .inr ⟨o', ho', hfr _ _⟩
              · cases h
            · cases h
    · split at h
      · split at h
        · cases h
          exact fun o ho => .inr ⟨o, ho, rfl⟩
        · cases h
      · cases h
theorem parseTo_reg {l : List Ev} {k : Nat} {st : List Opr × Int} (h : parseTo l k = some st) : ∀ o ∈ st.1, ∃ e ∈ l, o.reg = e.reg := by
  induction k generalizing st with
  | zero => simp [parseTo] at h; subst h; simp
  | succ k ih =>
    simp only [parseTo] at h
    split at h
    · cases h
    · rename_i st0 h0
      split at h
      · rename_i e he
        intro o ho
        rcases pStep_reg h o ho with h1 | ⟨o', ho', h1⟩
        · exact ⟨e, List.mem_of_getElem? he, h1⟩
        · obtain ⟨e', he', h2⟩ := ih h0 o' ho'
          exact ⟨e', he', h1.trans h2⟩
      · cases h
        exact ih h0
def WfReg (l : List Ev) : Prop := ∀ e ∈ l, (Lit.int .i64 e.reg).wf = true
theorem parseL_reg {l : List Ev} {os : List Opr} (h : parseL l = some os) (hwf : WfReg l) : ∀ o ∈ os, (Lit.int .i64 o.reg).wf = true := by
  unfold parseL at h
  obtain ⟨st, hst, rfl⟩ := Option.map_eq_some_iff.1 h
  intro o ho
  obtain ⟨e, he, h1⟩ := parseTo_reg hst o ho
  rw [h1]
  exact hwf e he

def SetIs (os : List Opr) (left : Lit → Bool) (D : DataW Unit) : Prop := ∀ x : Int, Maps.has D (.int .i64 x) = true ↔ ∃ o ∈ os, effB o = true ∧ left (opKey o) = false ∧ o.reg = x
theorem set_yes {os : List Opr} {left : Lit → Bool} {D : DataW Unit} {o : Opr} {d : DataW Unit} (h : SetIs os left D) (hm : Maps.IsMap D) (ho : o ∈ os) (he : effB o = true) (hids : (os.map (·.id)).Nodup) :
    SetIs os (fun z => left z && !z.sameKey (opKey o)) (D.put (.int .i64 o.reg) d) := by
  intro x
  by_cases hx : x = o.reg
  · subst hx
    rw [Maps.has_put_same hm (show WideAt.IsKeyLit (.int .i64 o.reg) from trivial)]
    exact ⟨fun _ => ⟨o, ho, he, by show (left (opKey o) && !(opKey o).sameKey (opKey o)) = false; rw [same_key]; simp, rfl⟩, fun _ => rfl⟩
  · rw [Maps.has_put_other (by simpa using hx), h x]
    constructor
    · rintro ⟨o', h1, h2, h3, h4⟩
      exact ⟨o', h1, h2, by show (left (opKey o') && _) = false; rw [h3]; rfl, h4⟩
    · rintro ⟨o', h1, h2, h3, h4⟩
      have h3 : (left (opKey o') && !(opKey o').sameKey (opKey o)) = false := h3
      rw [same_key, Bool.and_eq_false_iff] at h3
      rcases h3 with h3 | h3
      · exact ⟨o', h1, h2, h3, h4⟩
      · have h5 : o'.id = o.id := by simpa using h3
        have := idOf hids h1 ho h5
        subst this
        exact absurd h4.symm hx
theorem set_no {os : List Opr} {left : Lit → Bool} {D : DataW Unit} {o : Opr} (h : SetIs os left D) (ho : o ∈ os) (he : effB o = false) (hids : (os.map (·.id)).Nodup) : SetIs os (fun z => left z && !z.sameKey (opKey o)) D := by
  intro x
  rw [h x]
  constructor
  · rintro ⟨o', h1, h2, h3, h4⟩
    exact ⟨o', h1, h2, by show (left (opKey o') && _) = false; rw [h3]; rfl, h4⟩
  · rintro ⟨o', h1, h2, h3, h4⟩
    have h3 : (left (opKey o') && !(opKey o').sameKey (opKey o)) = false := h3
    rw [same_key, Bool.and_eq_false_iff] at h3
    rcases h3 with h3 | h3
    · exact ⟨o', h1, h2, h3, h4⟩
    · have h5 : o'.id = o.id := by simpa using h3
      have := idOf hids h1 ho h5
      subst this
      rw [he] at h2
      cases h2
/-- what the sort of the keys gives -/
theorem keys_are {w : World} {os : List Opr} {left : Lit → Bool} {b n : Nat} {D : DataW Unit} (hown : w.ownsMap Try.prog 3 boolR b n D) (h : SetIs os left D) (hl : ∀ kl, left kl = false) {ss : List Int} (hs : ss.Perm (intKeys D)) :
    ss.mergeSort (fun x y => decide (x ≤ y)) = insAll (regsO os) := by
  obtain ⟨es, rfl, hpw, hkl⟩ := hown.entries keyedInt
  obtain ⟨h1, h2⟩ := insAll_gen (regsO os) [] List.Pairwise.nil
  have hnd : (insAll (regsO os)).Nodup := h1.imp fun h => by omega
  have hkk : ∀ p ∈ es, ∃ x, p.1 = .int .i64 x := by
    obtain ⟨es', hD', hko⟩ := hown.keysOf
    obtain rfl : es = es' := by simpa using hD'
    intro p hp
    obtain ⟨v, hv⟩ := hko p hp
    obtain ⟨x, _, hx, _⟩ := Maps.keyOf_i64 Try.underlying3 hv
    exact ⟨x, hx⟩
  have hp : (insAll (regsO os)).Perm (intKeys (.map es)) := perm_intKeys hpw hkk hnd fun x => by
    rw [h x]
    refine (h2 x).trans ?_
    simp only [List.not_mem_nil, false_or]
    unfold regsO
    rw [List.mem_map]
    constructor
    · rintro ⟨o, h3, h4⟩
      exact ⟨o, (List.mem_filter.1 h3).1, (List.mem_filter.1 h3).2, hl _, h4⟩
    · rintro ⟨o, h3, h4, -, h5⟩
      exact ⟨o, List.mem_filter.2 ⟨h3, h4⟩, h5⟩
  have hle : (insAll (regsO os)).Pairwise (· ≤ ·) := h1.imp fun h => by omega
  have hms := List.pairwise_mergeSort (le := fun x y : Int => decide (x ≤ y)) (fun a b c h1 h2 => by simp at *; omega) (fun a b => by simp; omega) ss
  exact List.Perm.eq_of_pairwise (le := fun x y : Int => x ≤ y) (fun a b _ _ h1 h2 => by omega) (hms.imp fun h => by simpa using h) hle (((List.mergeSort_perm ss _).trans hs).trans hp.symm)

theorem ranges_cnt {H : Type} {P : Program} {k : TypeId} {R : Value → Option (DataW H × List MemPlace)} {w : World} {b r n : Nat} {D : DataW H} {left : Lit → Bool} {cnt : Nat} (h : w.ranges P k R b r n D left cnt) : cnt ≤ n := by
  obtain ⟨es, clock, since, seen, c0, _, _, hs, _, _, _, hc, _⟩ := h
  unfold leftOf at hc
  have := Array.size_filter_le (xs := es) (p := fun e => !seen.contains e.born)
  omega
def RegRel (os : List Opr) (D : DataW Unit) (mb r sb : Nat) (W : World) (wr : World) : Prop :=
  ∃ (left : Lit → Bool) (cnt : Nat) (DS : DataW Unit), wr.ranges Try.prog 3 ptrC.R mb r os.length D left cnt ∧ cnt ≤ os.length ∧ wr.ownsMap Try.prog 3 boolR sb (os.length - cnt) DS ∧ Maps.IsMap DS ∧ SetIs os left DS ∧ (∀ kl, left kl = true → Maps.has D kl = true) ∧ BelR r sb W wr

set_option maxHeartbeats 4000000 in
set_option maxRecDepth 100000 in
theorem registers_some (l : List Ev) (A : Option Addr) (c B : Nat) (w : World) (h : EvS w B A l) (hB : B ≤ w.heap.size) (hlen : l.length ≤ 1000000) (hwf : WfOp l) (hwr : WfReg l) (os : List Opr) (hos : parseL l = some os) :
    Calls Try.prog 14 #[.slice A l.length c] w (LayI w (insAll (regsO os))) := by
  have HP := Lib.hid (parse_any l A c B w h hB hlen hwf)
  unfold ParsePost at HP
  simp only [hos] at HP
  obtain ⟨hids, hol⟩ := parseL_ids hos
  have hwo := parseL_reg hos hwr
  have HIDS := Lib.hid hids
  have HWO := Lib.hid hwo
  have hmm := @run_makeMap Try.prog
  clear hos hids hwo h
  go_enter Try.func14, Try.ntmps14
  go_wp2_with fail
  refine HP.out.mono ?_
  rintro r w1 ⟨v, mb, ps, rfl, hp, hmb, hown, hb1⟩
  have hz1 := hb1.size
  have hp2 := hp.alloc (.map #[] 0)
  obtain ⟨D, hD, hkeys, hhas⟩ := hp2.keys HIDS.out
  have hmbl : mb < w1.heap.size := by obtain ⟨f, hf, _⟩ := hp.map; exact hf.lt
  have HK := Lib.hid hkeys
  have HH := Lib.hid hhas
  have HPR := Lib.hid hp
  have HSET := Lib.hid (World.ownsMap_made w1 Try.prog 3 boolR)
  have hDs := hD.size_le
  clear hkeys hhas hp2 hp hown HP
  go_wp2_with (at_range; refine wpList_range_own _ rfl _ 60 rfl 3 64 keyedInt Try.underlying60 _ mb _ D rfl hD ?_; intro w0 hrg0 hg0 hs0)
  go_frame
  have hset0 := HSET.out.kept hg0 (by simp)
  have hb0 : BelR (w1.alloc (.map #[] 0)).heap.size w1.heap.size (w1.alloc (.map #[] 0)) w0 := ⟨hg0.os, hg0.tape, hg0.output, hg0.size, fun k hk _ => hg0.block k hk (by simp)⟩
  generalize hwa : w1.alloc (.map #[] 0) = wa at *
  clear hD hg0 hs0 HSET
  have hsz : wa.heap.size = w1.heap.size + 1 := by rw [← hwa]; exact World.size_alloc _ _
  have HSZ := Lib.hid hsz
  clear hsz
  go_loopw [8] (fun _ wr => RegRel os D mb wa.heap.size w1.heap.size wa wr) (fun _ wr => wr.rangeLeft mb wa.heap.size)
  case atStart =>
    refine ⟨_, _, .map [], hrg0, ranges_cnt hrg0, hset0.mono (by omega), ⟨[], rfl⟩, fun x => ⟨fun hx => by simp [Maps.has] at hx, fun ⟨o, ho, _, h3, _⟩ => ?_⟩, fun kl h => h, hb0⟩
    rw [HH.out o ho] at h3
    cases h3
  case round =>
    obtain ⟨left, cnt, DS, hrg, hcl, hown, hmap, hset, hlh, hbr⟩ := hrel
    have hzr := hbr.size
    go_wp2_with (at_next; refine wpList_next_ranges _ rfl _ rfl 3 keyedInt ptrC.R (Value.int .i64) ptrV (fun key kl hk => invKI hk) (fun v y hv => invVP hv) mb wa.heap.size os.length D left cnt rfl hrg ?_ ?_)
    · intro hc0 hl0
      have hks : ∀ ss : List Int, ss.Perm (intKeys DS) → ss.mergeSort (fun x y => decide (x ≤ y)) = insAll (regsO os) := fun ss h => keys_are hown hset hl0 h
      have hle := hown.size_le
      have HKS := Lib.hid hks
      have HKC := Lib.hid (keys_call (some w1.heap.size) wr)
      have HSC := Lib.hid (sorted_call w1.heap.size _ DS boolR wr hown (by unfold maxLen; omega) (by omega))
      have hbw : Below w.heap.size w wr := by
        have hsz := HSZ.out
        have h1 : Below w1.heap.size w1 wa := by rw [← hwa]; exact (Below.refl _ _).alloc (Nat.le_refl _) _
        have h2 : Below w1.heap.size wa wr := ⟨hbr.os, hbr.tape, hbr.output, hbr.size, fun k hk => hbr.block k (by omega) (by omega)⟩
        exact hb1.trans ((h1.trans h2).mono hz1)
      have hzw := hbw.size
      clear hown hset hmap hrg hlh hks
      go_wp2_with fail
      refine HKC.out.mono ?_
      rintro s w2 ⟨rfl, rfl⟩
      go_wp2_with fail
      refine HSC.out.mono ?_
      rintro s w2 ⟨v', ss, rfl, hss, hrow, -, hb2⟩
      have hb3 : Below w.heap.size w w2 := (hbw.alloc hzw _).trans (hb2.mono (by simp; omega))
      rw [HKS.out ss hss] at hrow
      have hlen2 : ss.length = (insAll (regsO os)).length := by rw [← HKS.out ss hss, List.length_mergeSort]
      clear hss hb2
      go_wp2
      go_ret
      refine ⟨v', rfl, OwS.mono ⟨?_, ?_⟩ (by simp; omega : w.heap.size ≤ (wr.alloc (.cells #[.map (some w1.heap.size)] 63)).heap.size), hb3⟩
      · intro r hr
        obtain ⟨x, -, rfl⟩ := List.mem_map.1 hr
        rfl
      · have hfl : ∀ ts : List Int, (ts.map icell).flatten = ts.map encZ := fun ts => by
          induction ts with
          | nil => rfl
          | cons x xs ih => simp [icell, encZ] at ih ⊢; exact ih
        rw [hfl, List.length_map, ← hlen2]
        exact hrow
    · intro x c' kl yd yp w2 cnt2 hkey hlk hv hat hrg2 hlt2 hg2 hs2 hen
      obtain ⟨x', ex, rfl, -⟩ := Maps.keyOf_int_inv Try.underlying3 hkey
      cases ex
      obtain ⟨i, o, g, hoi, hgi, hko, hato⟩ := HK.out _ (hlh _ hlk)
      obtain rfl : x = o.id := by injection hko
      obtain rfl : c' = some (g, 0) := ptr_of hv ((hat .nil).symm.trans hato)
      have hsz := HSZ.out
      obtain ⟨-, hblk⟩ := HPR.out.blk i o g hoi hgi
      have hgl : g < w1.heap.size := (Array.getElem?_eq_some_iff.1 hblk).1
      have hblka : wa.heap[g]? = some (.cells o.cells.toArray 39) := by rw [← hwa]; exact ((Below.refl _ _).alloc (Nat.le_refl _) _ |>.block g hgl).trans hblk
      have hblk2 : w2.heap[g]? = some (.cells o.cells.toArray 39) := (hg2.block g (by omega) (by simp; omega)).trans ((hbr.block g (by omega) (by omega)).trans hblka)
      have d1 : w2.cell? ⟨g, 1, none⟩ = some (.int .i64 o.reg) := by rw [cell_of_row _ _ _ _ _ _ hblk2]; rfl
      have d3 : w2.cell? ⟨g, 3, none⟩ = some (.bool o.write) := by rw [cell_of_row _ _ _ _ _ _ hblk2]; rfl
      have d4 : w2.cell? ⟨g, 4, none⟩ = some (.bool o.barrier) := by rw [cell_of_row _ _ _ _ _ _ hblk2]; rfl
      have hgl2 : g < w2.heap.size := (Array.getElem?_eq_some_iff.1 hblk2).1
      have hown2 := hown.kept hg2 (by simp; omega)
      have hom := List.mem_of_getElem? hoi
      have hwr := HWO.out _ hom
      have hb2 : BelR wa.heap.size w1.heap.size wa w2 := hbr.grown hg2 hzr (fun k hk => by cases hk; exact Nat.le_refl _)
      have hlh2 : ∀ kl, (left kl && !kl.sameKey (opKey o)) = true → Maps.has D kl = true := fun kl h => hlh kl (by rw [Bool.and_eq_true] at h; exact h.1)
      have HLH2 := Lib.hid hlh2
      have HRG := Lib.hid hrg
      have HSET2 := Lib.hid hset
      have HOM := Lib.hid hom
      have HWR := Lib.hid hwr
      have HMAP := Lib.hid hmap
      clear hlh2 hlh hato hat hv hkey hko hlk hblk hblka hblk2 hs2 hoi hgi hown hrg hg2 hom hset hwr hmap
      clear hsz
      simp only [ptrV] at hen
      by_cases hp : effB o = true
      · have HP1 := Lib.hid hp
        unfold effB at hp
        have hstep : ∀ w3, w3.ownsMap Try.prog 3 boolR w1.heap.size (os.length - cnt + 1) (DS.put (.int .i64 o.reg) (.lit (.bool true))) → w2.grownBy w3 (some w1.heap.size) → RegRel os D mb wa.heap.size w1.heap.size wa w3 ∧ w3.rangeLeft mb wa.heap.size < wr.rangeLeft mb wa.heap.size := by
          intro w3 hown3 hg3
          have hsz := HSZ.out
          have hrg3 := hrg2.kept hg3 (by simp; omega) (by simp; omega)
          refine ⟨⟨_, cnt2, _, hrg3, by omega, hown3.mono (by omega), HMAP.out.put _ _, set_yes HSET2.out HMAP.out HOM.out HP1.out HIDS.out, HLH2.out, ⟨hg3.os.trans hb2.os, hg3.tape.trans hb2.tape, hg3.output.trans hb2.output, Nat.le_trans hb2.size hg3.size, fun k hk hne => (hg3.block k (by have := hb2.size; omega) (by simp; omega)).trans (hb2.block k hk hne)⟩⟩, ?_⟩
          rw [hrg3.left_eq, HRG.out.left_eq]; exact hlt2
        have HSTEP := Lib.hid hstep
        clear hstep
        rcases hw : o.write with _ | _
        · have hbr : o.barrier = false := by rw [hw] at hp; simpa using hp
          clear hp
          go_wp2_with (at_mapUpdate; refine wpList_mapUpdate_own _ rfl _ _ _ 63 rfl 3 4 keyedInt Try.underlying63 boolR w1.heap.size _ DS rfl hown2 (by unfold maxLen; omega) _ _ _ rfl rfl (Maps.keyOf_int_mk Try.underlying3 HWR.out) (.lit (.bool true)) [] rfl ?_)
          intro w3 hown3 hg3
          go_wp2
          go_roundw
          case rel => exact (HSTEP.out _ hown3 hg3).1
          case measure => exact (HSTEP.out _ hown3 hg3).2
        · clear hp
          go_wp2_with (at_mapUpdate; refine wpList_mapUpdate_own _ rfl _ _ _ 63 rfl 3 4 keyedInt Try.underlying63 boolR w1.heap.size _ DS rfl hown2 (by unfold maxLen; omega) _ _ _ rfl rfl (Maps.keyOf_int_mk Try.underlying3 HWR.out) (.lit (.bool true)) [] rfl ?_)
          intro w3 hown3 hg3
          go_wp2
          go_roundw
          case rel => exact (HSTEP.out _ hown3 hg3).1
          case measure => exact (HSTEP.out _ hown3 hg3).2
      · have hp0 : effB o = false := by simpa using hp
        have HP1 := Lib.hid hp0
        unfold effB at hp0
        have hw : o.write = false := by rcases hq : o.write with _ | _ <;> simp [hq] at hp0 ⊢
        have hbr : o.barrier = true := by simpa [hw] using hp0
        clear hp hp0
        go_wp2
        go_roundw
        case rel => exact ⟨_, cnt2, DS, hrg2, by omega, hown2.mono (by omega), HMAP.out, set_no HSET2.out HOM.out HP1.out HIDS.out, HLH2.out, hb2⟩
        case measure => rw [hrg2.left_eq, HRG.out.left_eq]; exact hlt2
end Go.Proofs.Ytcgbnlhloopnfaa
namespace Go.Proofs.Ytcgbnlhloopnfaa
open Go.RowKit Go.Sort

theorem sort_ok : SortOk := by
  intro ks v base w h hn
  rcases h.2.2 with ⟨rfl, h0⟩ | ⟨g, cap, cur, rfl, hb, hh, hnc, hcm, hsz, ht⟩
  · have hk : ks = [] := by cases ks with | nil => rfl | cons => simp at h0
    subst hk
    refine (Try.slices_Sort_int_none none 0 w).mono ?_
    rintro e w' ⟨rfl, rfl⟩
    exact ⟨rfl, [], List.Perm.refl _, List.Pairwise.nil, h, World.grownBy.refl _ _⟩
  · rw [List.length_map] at hnc ⊢
    have hfl : (ks.map icell).flatten = ks.map (Value.int .i64) := by
      clear h ht hnc hsz hn
      induction ks with
      | nil => rfl
      | cons x xs ih => simp [icell] at ih ⊢; exact ih
    rw [hfl, List.length_map, Nat.mul_one] at ht
    have hgl : g < w.heap.size := (Array.getElem?_eq_some_iff.1 hh).1
    refine (Try.slices_Sort_int g 0 cap ks w (holds_of_blockI hh ht) hgl (by omega)).mono ?_
    rintro e w' ⟨rfl, n, os, rfl⟩
    have hp := List.mergeSort_perm ks (fun x y => decide (x ≤ y))
    have hpw := List.pairwise_mergeSort (le := fun x y : Int => decide (x ≤ y)) (fun a b c h1 h2 => by simp at *; omega) (fun a b => by simp; omega) ks
    refine ⟨rfl, _, hp, hpw.imp fun h => by simpa using h, ?_, grownBy_sortedI _⟩
    have := ownsRow_sortedI (w := w) (n := n) (os := os) (base := base) (cap := cap) (ss := ks) (ts := ks.mergeSort fun x y => decide (x ≤ y)) hp.length_eq hb hh hnc hcm hsz
    generalize (ks.mergeSort fun x y => decide (x ≤ y)) = ts at *
    have hfl2 : (ts.map icell).flatten = ts.map (Value.int .i64) := by
      clear this hp hpw
      induction ts with
      | nil => rfl
      | cons x xs ih => simp [icell] at ih ⊢; exact ih
    refine ⟨fun r hr => ?_, ?_⟩
    · obtain ⟨x, _, rfl⟩ := List.mem_map.1 hr
      rfl
    · rw [hfl2, List.length_map, hp.length_eq]
      exact this

theorem pending_any (l : List Ev) (A : Option Addr) (c B : Nat) (w : World) (h : EvS w B A l) (hB : B ≤ w.heap.size) (hlen : l.length ≤ 1000000) (hwf : WfOp l) (os : List Opr) (hos : parseL l = some os) :
    Calls Try.prog 16 #[.slice A l.length c] w (PendSome w (pendI os (cutsN l l.length))) := pending_some sort_ok l A c B w h hB hlen hwf os hos
end Go.Proofs.Ytcgbnlhloopnfaa
namespace Go.Proofs.Ytcgbnlhloopnfaa
open Go.RowKit Go.Maps Go.Sort Go.Shelf

set_option maxHeartbeats 4000000 in
set_option maxRecDepth 100000 in
theorem registers_none (l : List Ev) (A : Option Addr) (c B : Nat) (w : World) (h : EvS w B A l) (hB : B ≤ w.heap.size) (hlen : l.length ≤ 1000000) (hwf : WfOp l) (hos : parseL l = none) :
    Calls Try.prog 14 #[.slice A l.length c] w (LayI w []) := by
  have HP := Lib.hid (parse_any l A c B w h hB hlen hwf)
  unfold ParsePost at HP
  simp only [hos] at HP
  have hmm := @run_makeMap Try.prog
  clear hos h
  go_enter Try.func14, Try.ntmps14
  go_wp2_with fail
  refine HP.out.mono ?_
  rintro r w1 ⟨rfl, hb1⟩
  have hz1 := hb1.size
  have hrg := run_range_nilMap (P := Try.prog) (w1.alloc (.map #[] 0)) 60 3 64 Try.underlying60
  have hnx : ∀ ty, (Instr.next (.pointer (some ⟨(w1.alloc (.map #[] 0)).heap.size, 0, none⟩)) false ty).run Try.prog ((w1.alloc (.map #[] 0)).alloc (.mapIter none 0 #[] 0)) = _ := fun ty => run_next_nilMap _ ty 0 0 #[]
  have HSET := Lib.hid (((World.ownsMap_made w1 Try.prog 3 boolR).alloc (.mapIter none 0 #[] 0)))
  have hbw : Below w.heap.size w ((w1.alloc (.map #[] 0)).alloc (.mapIter none 0 #[] 0)) := (hb1.alloc hz1 _).alloc (by simp; omega) _
  have hzw := hbw.size
  have HKC := Lib.hid (keys_call (some w1.heap.size) ((w1.alloc (.map #[] 0)).alloc (.mapIter none 0 #[] 0)))
  have hsc := sorted_call w1.heap.size _ (.map [] : DataW Unit) boolR ((w1.alloc (.map #[] 0)).alloc (.mapIter none 0 #[] 0)) HSET.out (by simp [Maps.size]) (by simp [Maps.size])
  have e2 : ((w1.alloc (.map #[] 0)).alloc (.mapIter none 0 #[] 0)).heap.size = w1.heap.size + 1 + 1 := by simp
  rw [e2] at hsc
  have HSC := Lib.hid hsc
  clear hsc e2
  have hbf : ∀ w2, Below (((w1.alloc (.map #[] 0)).alloc (.mapIter none 0 #[] 0)).alloc (.cells #[.map (some w1.heap.size)] 63)).heap.size (((w1.alloc (.map #[] 0)).alloc (.mapIter none 0 #[] 0)).alloc (.cells #[.map (some w1.heap.size)] 63)) w2 → Below w.heap.size w w2 := fun w2 hb2 => (hbw.alloc hzw _).trans (hb2.mono (by simp; omega))
  have HBF := Lib.hid hbf
  clear HSET hbf
  have e1 : (w1.alloc (.map #[] 0)).heap.size = w1.heap.size + 1 := by simp
  rw [e1] at hrg hnx
  go_wp2
  refine wp_loop_rounds 1 ?_
  rw [rounds_succ]
  go_wp2_with fail
  refine HKC.out.mono ?_
  rintro s w2 ⟨rfl, rfl⟩
  go_wp2_with fail
  refine HSC.out.mono ?_
  rintro s w2 ⟨v', ss, rfl, hss, hrow, hnil, hb2⟩
  have hss0 : ss = [] := List.eq_nil_of_length_eq_zero (by have := hss.length_eq; simpa [intKeys] using this)
  have hb3 := HBF.out _ hb2
  have HROW := Lib.hid hrow
  obtain rfl := hnil.2 hss0
  clear hss hb2 HBF hrow
  go_wp2
  go_ret
  exact ⟨_, rfl, OwS.nil _ _ _ _, hb3⟩

theorem registers_any (l : List Ev) (A : Option Addr) (c B : Nat) (w : World) (h : EvS w B A l) (hB : B ≤ w.heap.size) (hlen : l.length ≤ 1000000) (hwf : WfOp l) (hwr : WfReg l) :
    Calls Try.prog 14 #[.slice A l.length c] w (LayI w (insAll (regsO (opsOr l)))) := by
  have hp := parse_eq l
  unfold opsOr
  cases hv : validL l
  · rw [hv] at hp
    exact registers_none l A c B w h hB hlen hwf hp
  · rw [hv] at hp
    exact registers_some l A c B w h hB hlen hwf hwr _ hp

set_option maxHeartbeats 4000000 in
set_option maxRecDepth 100000 in
theorem pending_none (l : List Ev) (A : Option Addr) (c B : Nat) (w : World) (h : EvS w B A l) (hB : B ≤ w.heap.size) (hlen : l.length ≤ 1000000) (hwf : WfOp l) (hos : parseL l = none) :
    Calls Try.prog 16 #[.slice A l.length c] w (LayI w []) := by
  have HP := Lib.hid (parse_any l A c B w h hB hlen hwf)
  unfold ParsePost at HP
  simp only [hos] at HP
  clear hos
  have hrg : ∀ W : World, (Instr.range 60 (.map none)).run Try.prog W = _ := fun W => run_range_nilMap W 60 3 64 Try.underlying60
  have hnx : ∀ (W : World) (ty : TypeId), (Instr.next (.pointer (some ⟨W.heap.size, 0, none⟩)) false ty).run Try.prog (W.alloc (.mapIter none 0 #[] 0)) = _ := fun W ty => run_next_nilMap W ty 0 0 #[]
  go_enter Try.func16, Try.ntmps16
  go_wp2_with fail
  refine HP.out.mono ?_
  rintro r w1 ⟨rfl, hb1⟩
  have hz1 := hb1.size
  clear HP
  go_wp2
  go_loopw [6, 20] (fun n i wr => ∃ k : Nat, k ≤ l.length ∧ i = .int .i64 k ∧ n = .int .i64 (cutsN l k) ∧ Below w1.heap.size w1 wr) (fun _ i _ => l.length - (intOf i).toNat)
  case atStart => exact ⟨0, by omega, rfl, rfl, Below.refl _ _⟩
  case round =>
    obtain ⟨k, hk, rfl, rfl, hb⟩ := hrel
    have hz := hb.size
    have hbd := cutsN_rng l k
    have hbw : Below w.heap.size w wr := hb1.trans (hb.mono hz1)
    by_cases hlt : k < l.length
    · obtain ⟨b', off', e, rfl, hbB, he, c0, c1, c2', c3, c4, c5⟩ := EvS.at_ (h.below' hbw hB) (k := k) hlt
      have HCS := Lib.hid (cutsN_succ he)
      clear he
      have hbl : b' < wr.heap.size := by omega
      by_cases h3 : e.kind = 3
      · rw [if_pos h3] at HCS
        have h3' : (e.kind == 3) = true := by simp [h3]
        clear h3
        go_wp2
        go_roundw
        case rel => exact ⟨k + 1, by omega, by go_num, by rw [HCS.out], hb.alloc hz _⟩
        case measure => simp [intOf]; omega
      · rw [if_neg h3] at HCS
        have h3' : (e.kind == 3) = false := by simp [h3]
        clear h3
        go_wp2
        go_roundw
        case rel => exact ⟨k + 1, by omega, by go_num, by rw [HCS.out]; simp, hb.alloc hz _⟩
        case measure => simp [intOf]; omega
    · obtain rfl : k = l.length := by omega
      clear h hlt hk
      have HS := Lib.hid (Try.slices_Sort_int_none none 0 (wr.alloc (.mapIter none 0 #[] 0)))
      have hrg := hrg wr
      have hnx := hnx wr
      rename World => wm
      go_wp2
      refine wp_loop_rounds 1 ?_
      rw [rounds_succ]
      go_wp2_with fail
      refine HS.out.mono ?_
      rintro s w2 ⟨rfl, rfl⟩
      go_wp2
      go_ret
      exact ⟨_, rfl, OwS.nil _ _ _ _, hbw.alloc (by omega) _⟩

theorem pend_any (l : List Ev) (A : Option Addr) (c B : Nat) (w : World) (h : EvS w B A l) (hB : B ≤ w.heap.size) (hlen : l.length ≤ 1000000) (hwf : WfOp l) :
    Calls Try.prog 16 #[.slice A l.length c] w (LayI w (insAll (pendTo l (opsOr l)))) := by
  have hp := parse_eq l
  unfold opsOr
  cases hv : validL l
  · rw [hv] at hp
    exact pending_none l A c B w h hB hlen hwf hp
  · rw [hv] at hp
    have hp : parseL l = some (rawOps l) := hp
    refine (pending_any l A c B w h hB hlen hwf _ hp).mono ?_
    rintro r w' ⟨v, ks, rfl, hks, hpw, ho, hb⟩
    have h2 : pendI (rawOps l) (cutsN l l.length) = pendTo l (rawOps l) := by
      unfold pendI pendTo
      congr 1
      exact List.filter_congr fun o ho => by unfold pendB refPend; rw [pend_cut hp ho]
    obtain ⟨hids, -⟩ := parseL_ids hp
    have hnd : (pendI (rawOps l) (cutsN l l.length)).Nodup := by unfold pendI; exact List.Nodup.sublist (List.Sublist.map _ List.filter_sublist) hids
    have h3 : ks = insAll (pendTo l (rawOps l)) := insAll_is hpw (hks.nodup_iff.2 hnd) fun x => by rw [← h2]; exact hks.mem_iff
    rw [h3] at ho
    exact ⟨v, rfl, ho, hb⟩
end Go.Proofs.Ytcgbnlhloopnfaa
