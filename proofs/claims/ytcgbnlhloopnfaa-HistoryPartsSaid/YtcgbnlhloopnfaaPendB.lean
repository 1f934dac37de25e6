/- Walk of history.Pending: the operations that were neither answered nor lost, in increasing order. -/
import Derived.Test.YtcgbnlhloopnfaaPendA
import Derived.Test.YtcgbnlhloopnfaaHistLaw
namespace Go.Proofs.Ytcgbnlhloopnfaa
open Go.RowKit
open Go.Maps (Keyed)

theorem cutsN_rng (l : List Ev) (k : Nat) : 0 ≤ cutsN l k ∧ cutsN l k ≤ k := by
  unfold cutsN
  have h1 := List.countP_le_length (p := fun e : Ev => e.kind == 3) (l := l.take k)
  have h2 : (l.take k).length ≤ k := List.length_take_le _ _
  omega
def pendB (c : Int) (o : Opr) : Bool := decide (o.done < 0) && o.era == c
def pendI (os : List Opr) (c : Int) : List Int := (os.filter (pendB c)).map (·.id)
def PendSome (w : World) (ids : List Int) (r : Ending) (w' : World) : Prop := ∃ (v : Value) (ks : List Int), r = .returned v ∧ ks.Perm ids ∧ ks.Pairwise (· ≤ ·) ∧ OwS w' w.heap.size 3 1 v (ks.map icell) ∧ Below w.heap.size w w'
/-- what is asked of the sort -/
def SortOk : Prop := ∀ (ks : List Int) (v : Value) (base : Nat) (w : World), OwS w base 3 1 v (ks.map icell) → ks.length ≤ 1000000 →
  Calls Try.prog 44 #[v] w fun e w' => e = .returned (.tuple #[]) ∧ ∃ ts : List Int, ts.Perm ks ∧ ts.Pairwise (· ≤ ·) ∧ OwS w' base 3 1 v (ts.map icell) ∧ w.grownBy w' v.ownBlock

theorem invKI {key : Value} {kl : Lit} (h : keyOf Try.prog 3 key = some kl) : ∃ x, key = Value.int .i64 x := by
  obtain ⟨x, hx, _, _⟩ := Maps.keyOf_int_inv Try.underlying3 h
  exact ⟨x, hx⟩
theorem invVP {v : Value} {y : DataW Unit × List MemPlace} (h : ptrR v = some y) : ∃ c, v = ptrV c := by
  unfold ptrR at h
  split at h
  · exact ⟨none, rfl⟩
  · exact ⟨some (_, _), rfl⟩
  · cases h
theorem ptr_of {c : Option (Nat × Nat)} {y : DataW Unit × List MemPlace} (h : ptrR (ptrV c) = some y) {a : Option (Nat × Nat)} (hy : y.1 = ptrD a) : c = a := by
  have h1 := ptrC.rval c
  have h2 : ptrR (ptrV c) = some (ptrD c, []) := h1
  rw [h2] at h
  cases h
  have h3 := ptrC.inv (ptrV a) c [] (by show ptrR (ptrV a) = some (ptrD c, []); have h4 : ptrR (ptrV a) = some (ptrD a, []) := ptrC.rval a; rw [h4]; rw [show ptrD c = ptrD a from hy])
  have h5 : ptrV a = ptrV c := h3
  rcases a with _ | ⟨a1, a2⟩ <;> rcases c with _ | ⟨c1, c2⟩ <;> simp [ptrV] at h5 ⊢
  exact ⟨h5.1.symm, h5.2.symm⟩

theorem icellOne (x : Int) : ∀ u ∈ icell x, u.oneCell' = true := by
  intro u hu
  simp [icell] at hu
  subst hu
  rfl
theorem OwS.isSl {w : World} {base size : Nat} {e : TypeId} {v : Value} {rows : List (List Value)} (h : OwS w base e size v rows) : ∃ A n c, v = .slice A n c := by
  obtain ⟨A, c, hv, -, -⟩ := h.form
  exact ⟨A, _, c, hv⟩
theorem idOf {os : List Opr} (hids : (os.map (·.id)).Nodup) {o o' : Opr} (h : o ∈ os) (h' : o' ∈ os) (he : o.id = o'.id) : o = o' := by
  obtain ⟨i, hi⟩ := List.mem_iff_getElem?.1 h
  obtain ⟨j, hj⟩ := List.mem_iff_getElem?.1 h'
  have hij : i = j := (List.getElem?_inj (l := os.map (·.id)) (by rw [List.length_map]; exact (List.getElem?_eq_some_iff.1 hi).1) hids).1 (by rw [List.getElem?_map, List.getElem?_map, hi, hj]; simp [he])
  subst hij
  rw [hi] at hj
  exact Option.some.inj hj
theorem same_key (o o' : Opr) : (opKey o').sameKey (opKey o) = decide (o'.id = o.id) := by
  unfold opKey
  by_cases h : o'.id = o.id
  · rw [h]; simp [Lit.sameKey]
  · simp [Lit.sameKey, h]
section
variable {os : List Opr} {cu : Int} {ks : List Int} {left : Lit → Bool} {o : Opr}
theorem pend_perm (hids : (os.map (·.id)).Nodup) (hnd : ks.Nodup) (hm : ∀ x, x ∈ ks ↔ ∃ o ∈ os, o.id = x ∧ pendB cu o = true) : ks.Perm (pendI os cu) := by
  refine (List.perm_ext_iff_of_nodup hnd ?_).2 fun x => (hm x).trans ?_
  · unfold pendI
    exact List.Nodup.sublist (List.Sublist.map _ List.filter_sublist) hids
  · unfold pendI
    rw [List.mem_map]
    constructor
    · rintro ⟨o, h1, h2, h3⟩
      exact ⟨o, List.mem_filter.2 ⟨h1, h3⟩, h2⟩
    · rintro ⟨o, h1, h2⟩
      exact ⟨o, (List.mem_filter.1 h1).1, h2, (List.mem_filter.1 h1).2⟩
theorem pend_nodup (hids : (os.map (·.id)).Nodup) (hnd : ks.Nodup) (hm : ∀ x, x ∈ ks ↔ ∃ o ∈ os, o.id = x ∧ pendB cu o = true ∧ left (opKey o) = false) (ho : o ∈ os) (hl : left (opKey o) = true) : (ks ++ [o.id]).Nodup := by
  rw [List.nodup_append]
  refine ⟨hnd, by simp, fun a ha b hb => ?_⟩
  simp at hb
  subst hb
  rintro rfl
  obtain ⟨o', h1, h2, -, h4⟩ := (hm _).1 ha
  have := idOf hids h1 ho h2
  subst this
  rw [hl] at h4
  cases h4
theorem pend_yes (hm : ∀ x, x ∈ ks ↔ ∃ o ∈ os, o.id = x ∧ pendB cu o = true ∧ left (opKey o) = false) (ho : o ∈ os) (hp : pendB cu o = true) :
    ∀ x, x ∈ ks ++ [o.id] ↔ ∃ o' ∈ os, o'.id = x ∧ pendB cu o' = true ∧ (left (opKey o') && !(opKey o').sameKey (opKey o)) = false := by
  intro x
  rw [List.mem_append, hm x]
  constructor
  · rintro (⟨o', h1, h2, h3, h4⟩ | h)
    · exact ⟨o', h1, h2, h3, by rw [h4]; rfl⟩
    · simp at h
      exact ⟨o, ho, h.symm, hp, by rw [same_key]; simp⟩
  · rintro ⟨o', h1, h2, h3, h4⟩
    rw [same_key, Bool.and_eq_false_iff] at h4
    rcases h4 with h4 | h4
    · exact .inl ⟨o', h1, h2, h3, h4⟩
    · have : o'.id = o.id := by simpa using h4
      exact .inr (by simp [← h2, this])
theorem pend_no (hids : (os.map (·.id)).Nodup) (hm : ∀ x, x ∈ ks ↔ ∃ o ∈ os, o.id = x ∧ pendB cu o = true ∧ left (opKey o) = false) (ho : o ∈ os) (hp : pendB cu o = false) :
    ∀ x, x ∈ ks ↔ ∃ o' ∈ os, o'.id = x ∧ pendB cu o' = true ∧ (left (opKey o') && !(opKey o').sameKey (opKey o)) = false := by
  intro x
  rw [hm x]
  constructor
  · rintro ⟨o', h1, h2, h3, h4⟩
    exact ⟨o', h1, h2, h3, by rw [h4]; rfl⟩
  · rintro ⟨o', h1, h2, h3, h4⟩
    rw [same_key, Bool.and_eq_false_iff] at h4
    rcases h4 with h4 | h4
    · exact ⟨o', h1, h2, h3, h4⟩
    · have h5 : o'.id = o.id := by simpa using h4
      have := idOf hids h1 ho h5
      subst this
      rw [hp] at h3
      cases h3
end
/-- the relation at the head of the loop over the map -/
def PendRel (os : List Opr) (c : Int) (D : DataW Unit) (mb r : Nat) (W : World) (v : Value) (wr : World) : Prop :=
  ∃ (left : Lit → Bool) (cnt : Nat) (ks : List Int), wr.ranges Try.prog 3 ptrC.R mb r os.length D left cnt ∧ OwS wr (r + 1) 3 1 v (ks.map icell) ∧ ks.Nodup ∧
    (∀ x, x ∈ ks ↔ ∃ o ∈ os, o.id = x ∧ pendB c o = true ∧ left (opKey o) = false) ∧ (∀ kl, left kl = true → Maps.has D kl = true) ∧ Below r W wr

set_option maxHeartbeats 4000000 in
set_option maxRecDepth 100000 in
theorem pending_some (HS : SortOk) (l : List Ev) (A : Option Addr) (c B : Nat) (w : World) (h : EvS w B A l) (hB : B ≤ w.heap.size) (hlen : l.length ≤ 1000000) (hwf : WfOp l) (os : List Opr) (hos : parseL l = some os) :
    Calls Try.prog 16 #[.slice A l.length c] w (PendSome w (pendI os (cutsN l l.length))) := by
  have HP := Lib.hid (parse_any l A c B w h hB hlen hwf)
  unfold ParsePost at HP
  simp only [hos] at HP
  obtain ⟨hids, hol⟩ := parseL_ids hos
  have hwo := parseL_wf hos hwf
  have HIDS := Lib.hid hids
  have HWO := Lib.hid hwo
  have HSO := Lib.hid HS
  clear hos hids hwo HS
  go_enter Try.func16, Try.ntmps16
  go_wp2_with fail
  refine HP.out.mono ?_
  rintro r w1 ⟨v, mb, ps, rfl, hp, hmb, hown, hb1⟩
  have hz1 := hb1.size
  have HPP := Lib.hid hp
  clear hown hp HP
  go_wp2
  go_loopw [6, 20] (fun n i wr => ∃ k : Nat, k ≤ l.length ∧ i = .int .i64 k ∧ n = .int .i64 (cutsN l k) ∧ Below w1.heap.size w1 wr) (fun _ i _ => l.length - (intOf i).toNat)
  case atStart => exact ⟨0, by omega, rfl, rfl, Below.refl _ _⟩
  case round =>
    obtain ⟨k, hk, rfl, rfl, hb⟩ := hrel
    have hz := hb.size
    have hbd := cutsN_rng l k
    have hbw : Below w.heap.size w wr := hb1.trans (hb.mono hz1)
    by_cases hlt : k < l.length
    · obtain ⟨b', off', e, rfl, hbB, he, c0, c1, c2', c3, c4, c5⟩ := EvS.at_ (h.below' hbw hB) (k := k) hlt
      have HCS := Lib.hid (cutsN_succ he)
      clear he
      have hbl : b' < wr.heap.size := by omega
      by_cases h3 : e.kind = 3
      · rw [if_pos h3] at HCS
        have h3' : (e.kind == 3) = true := by simp [h3]
        clear h3
        go_wp2
        go_roundw
        case rel => exact ⟨k + 1, by omega, by go_num, by rw [HCS.out], hb.alloc hz _⟩
        case measure => simp [intOf]; omega
      · rw [if_neg h3] at HCS
        have h3' : (e.kind == 3) = false := by simp [h3]
        clear h3
        go_wp2
        go_roundw
        case rel => exact ⟨k + 1, by omega, by go_num, by rw [HCS.out]; simp, hb.alloc hz _⟩
        case measure => simp [intOf]; omega
    · obtain rfl : k = l.length := by omega
      clear h hlt hk
      generalize cutsN l l.length = cu at *
      have hpr := HPP.out.below hb
      obtain ⟨D, hD, hkeys, hhas⟩ := hpr.keys HIDS.out
      have HK := Lib.hid hkeys
      have HH := Lib.hid hhas
      have HPR := Lib.hid hpr
      clear hkeys hhas hpr
      rename World => wm
      go_wp2_with (at_range; refine wpList_range_own _ rfl _ 60 rfl 3 64 keyedInt Try.underlying60 _ mb _ D rfl hD ?_; intro w0 hrg0 hg0 hs0)
      go_frame
      have hb0 : Below wm.heap.size wm w0 := ⟨hg0.os, hg0.tape, hg0.output, hg0.size, fun k hk => hg0.block k hk (by simp)⟩
      clear hD hg0 hs0
      go_loopw [9] (fun v wr => PendRel os cu D mb wm.heap.size wm v wr) (fun _ wr => wr.rangeLeft mb wm.heap.size)
      case atStart =>
        refine ⟨_, _, [], hrg0, OwS.nil _ _ _ _, by simp, fun x => ⟨fun hx => by simp at hx, fun ⟨o, ho, _, _, h4⟩ => ?_⟩, fun kl h => h, hb0⟩
        rw [HH.out o ho] at h4
        cases h4
      case round =>
        obtain ⟨left, cnt, ks, hrg, hown, hnd, hmem, hlh, hbr⟩ := hrel
        have hzr := hbr.size
        go_wp2_with (at_next; refine wpList_next_ranges _ rfl _ rfl 3 keyedInt ptrC.R (Value.int .i64) ptrV (fun key kl hk => invKI hk) (fun v y hv => invVP hv) mb wm.heap.size os.length D left cnt rfl hrg ?_ ?_)
        · intro hc0 hl0
          have hks := pend_perm HIDS.out hnd (fun x => (hmem x).trans ⟨fun ⟨o, h1, h2, h3, _⟩ => ⟨o, h1, h2, h3⟩, fun ⟨o, h1, h2, h3⟩ => ⟨o, h1, h2, h3, hl0 _⟩⟩)
          have hln : ks.length ≤ 1000000 := by
            have h1 := hks.length_eq
            have h2 : (pendI os cu).length ≤ os.length := by unfold pendI; rw [List.length_map]; exact List.length_filter_le _ _
            omega
          have HSS := Lib.hid (HSO.out ks _ _ wr hown hln)
          have HKS := Lib.hid hks
          obtain ⟨Ak, nk, ck, rfl⟩ := hown.isSl
          clear hmem hlh hnd hks hln hrg
          go_wp2_with fail
          refine HSS.out.mono ?_
          rintro s w2 ⟨rfl, ts, hts, htp, hown2, hg2⟩
          have hbf : Below wm.heap.size wm w2 := hbr.grown hg2 hzr (fun k hk => Nat.le_of_succ_le (hown.lt hk).1)
          go_wp2
          go_ret
          exact ⟨_, ts, rfl, hts.trans HKS.out, htp, hown2.mono (by omega), hbw.trans (hbf.mono (by omega))⟩
        · intro x c' kl yd yp w2 cnt2 hkey hlk hv hat hrg2 hlt2 hg2 hs2 hen
          obtain ⟨x', ex, rfl, -⟩ := Maps.keyOf_int_inv Try.underlying3 hkey
          cases ex
          obtain ⟨i, o, g, hoi, hgi, hko, hato⟩ := HK.out _ (hlh _ hlk)
          obtain rfl : x = o.id := by injection hko
          obtain rfl : c' = some (g, 0) := ptr_of hv ((hat .nil).symm.trans hato)
          obtain ⟨-, hblk⟩ := HPR.out.blk i o g hoi hgi
          have hgl : g < wm.heap.size := (Array.getElem?_eq_some_iff.1 hblk).1
          have hblk2 : w2.heap[g]? = some (.cells o.cells.toArray 39) := (hg2.block g (by omega) (by simp; omega)).trans ((hbr.block g hgl).trans hblk)
          have d5 : w2.cell? ⟨g, 5, none⟩ = some (.int .i64 o.era) := by rw [cell_of_row _ _ _ _ _ _ hblk2]; rfl
          have d7 : w2.cell? ⟨g, 7, none⟩ = some (.int .i64 o.done) := by rw [cell_of_row _ _ _ _ _ _ hblk2]; rfl
          have hgl2 : g < w2.heap.size := (Array.getElem?_eq_some_iff.1 hblk2).1
          have hown2 := hown.kept hg2 (.inr fun e => by have := (hown.lt e).1; omega)
          have hz2 : wm.heap.size < w2.heap.size := hrg2.lt
          have hom := List.mem_of_getElem? hoi
          have hb2 : Below wm.heap.size wm w2 := hbr.grown hg2 hzr (fun k hk => by cases hk; exact Nat.le_refl _)
          have hmbl : mb < wm.heap.size := by obtain ⟨f, hf, _⟩ := HPR.out.map; exact hf.lt
          have hlh2 : ∀ kl, (left kl && !kl.sameKey (opKey o)) = true → Maps.has D kl = true := fun kl h => hlh kl (by rw [Bool.and_eq_true] at h; exact h.1)
          have HLH2 := Lib.hid hlh2
          have HMEM := Lib.hid hmem
          have HND := Lib.hid hnd
          have HRG := Lib.hid hrg
          have HLK := Lib.hid (show left (opKey o) = true from hlk)
          have HOM := Lib.hid hom
          have hlen2 : ks.length ≤ os.length := by
            have := nodup_len hnd (l2 := os.map (·.id)) (fun x hx => by obtain ⟨o, ho, h2, _⟩ := (hmem x).1 hx; exact List.mem_map.2 ⟨o, ho, h2⟩)
            rwa [List.length_map] at this
          clear hlh2 hlh hmem hnd hato hat hv hkey hko hlk hblk hblk2 hs2 hoi hgi hown hrg hg2 hom
          simp only [ptrV] at hen
          by_cases hp : pendB cu o = true
          · have hp2 := hp
            unfold pendB at hp2
            rw [Bool.and_eq_true] at hp2
            obtain ⟨q1, q2⟩ := hp2
            have q1' : o.done < 0 := by simpa using q1
            have HP1 := Lib.hid hp
            clear hp q1
            go_wp2_with (at_builtin; refine wpList_ap1 rfl (.tmp 50) (.tmp 52) _ rfl elemInt rfl hown2 (icell o.id) _ rfl _ rfl (by simp) (icellOne _) (by simp [maxLen]; omega) (by simp; omega) hz2 ?_)
            intro v3 w3 hown3 hg3 hv3
            have hne1 : some mb ≠ (_ : Value).ownBlock := fun e => by have := (hown2.lt e.symm).1; omega
            have hne2 : some wm.heap.size ≠ (_ : Value).ownBlock := fun e => by have := (hown2.lt e.symm).1; omega
            have hrg3 := (hrg2.alloc _).kept hg3 hne1 hne2
            have hb3 : Below wm.heap.size wm w3 := (hb2.alloc (Nat.le_of_lt hz2) _).grown hg3 (by simp; omega) (fun k hk => Nat.le_of_succ_le (hown2.lt hk).1)
            clear hg3 hv3
            go_wp2
            go_roundw
            case rel => exact ⟨_, cnt2, ks ++ [o.id], hrg3, by simpa using hown3, pend_nodup HIDS.out HND.out HMEM.out HOM.out HLK.out, pend_yes HMEM.out HOM.out HP1.out, HLH2.out, hb3⟩
            case measure => rw [hrg3.left_eq, HRG.out.left_eq]; exact hlt2
          · have hp0 : pendB cu o = false := by simpa using hp
            have hp2 := hp0
            unfold pendB at hp2
            have HP1 := Lib.hid hp0
            clear hp hp0
            by_cases q1 : o.done < 0
            · have q2 : (o.era == cu) = false := by simpa [q1] using hp2
              clear hp2
              go_wp2
              go_roundw
              case rel => exact ⟨_, cnt2, ks, hrg2, hown2, HND.out, pend_no HIDS.out HMEM.out HOM.out HP1.out, HLH2.out, hb2⟩
              case measure => rw [hrg2.left_eq, HRG.out.left_eq]; exact hlt2
            · clear hp2
              go_wp2
              go_roundw
              case rel => exact ⟨_, cnt2, ks, hrg2, hown2, HND.out, pend_no HIDS.out HMEM.out HOM.out HP1.out, HLH2.out, hb2⟩
              case measure => rw [hrg2.left_eq, HRG.out.left_eq]; exact hlt2
end Go.Proofs.Ytcgbnlhloopnfaa
