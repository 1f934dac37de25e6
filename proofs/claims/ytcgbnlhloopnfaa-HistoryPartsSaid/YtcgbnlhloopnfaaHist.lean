/- Walks of history.Ops, history.Valid. -/
import Derived.Test.YtcgbnlhloopnfaaParse
namespace Go.Proofs.Ytcgbnlhloopnfaa
open Go.RowKit

theorem elemHOp : Elem Try.prog 34 39 8 56 := Elem.mk (z := (Opr.agg ⟨0, 0, 0, false, false, 0, 0, 0⟩)) Try.underlying34 (by kernel_rfl) (by decide) rfl

theorem lookI_at {os : List Opr} {ps : List Nat} (hids : (os.map (·.id)).Nodup) (hl : ps.length = os.length) {j g : Nat} {o : Opr} (ho : os[j]? = some o) (hg : ps[j]? = some g) : lookI os ps o.id = some (g, 0) := by
  have hf : ∃ o', findO os o.id = some o' := by
    rcases hh : findO os o.id with _ | o'
    · exact absurd rfl (findO_none hh o (List.mem_of_getElem? ho))
    · exact ⟨o', rfl⟩
  obtain ⟨o', hf⟩ := hf
  obtain ⟨i, g', h1, h2, h3, h4⟩ := lookI_some hf hl
  have hij : i = j := by
    refine (List.getElem?_inj (l := os.map (·.id)) (by rw [List.length_map]; exact (List.getElem?_eq_some_iff.1 h1).1) hids).1 ?_
    rw [List.getElem?_map, List.getElem?_map, h1, ho]
    simp [h4]
  subst hij
  rw [hg] at h2
  cases h2
  exact h3
theorem parseL_ids {l : List Ev} {os : List Opr} (h : parseL l = some os) : (os.map (·.id)).Nodup ∧ os.length ≤ l.length := by
  unfold parseL at h
  obtain ⟨st, hst, rfl⟩ := Option.map_eq_some_iff.1 h
  have := PInv.to hst
  exact ⟨this.ids, this.len⟩
theorem pStep_id {l : List Ev} {k : Nat} {st st' : List Opr × Int} {e : Ev} (h : pStep l k st e = some st') : ∀ o ∈ st'.1, o.id = e.op ∨ ∃ o' ∈ st.1, o.id = o'.id := by
  unfold pStep at h
  split at h
  · split at h
    · cases h
    · split at h
      · cases h
        intro o ho
        rcases List.mem_append.1 ho with ho | ho
        · exact .inr ⟨o, ho, rfl⟩
        · simp [Opr.of] at ho; subst ho; exact .inl rfl
      · cases h
  · split at h
    · split at h
      · cases h
      · unfold pDone at h
        split at h
        · cases h
        · split at h
          · cases h
          · split at h
            · split at h
              · cases h
                intro o ho
                obtain ⟨o', ho', rfl⟩ := List.mem_map.1 ho
                exact .inr ⟨o', ho', fin_id _ _ _⟩
              · cases h
            · cases h
    · split at h
      · split at h
        · cases h
          exact fun o ho => .inr ⟨o, ho, rfl⟩
        · cases h
      · cases h
theorem parseTo_id {l : List Ev} {k : Nat} {st : List Opr × Int} (h : parseTo l k = some st) : ∀ o ∈ st.1, ∃ e ∈ l, o.id = e.op := by
  induction k generalizing st with
  | zero => simp [parseTo] at h; subst h; simp
  | succ k ih =>
    simp only [parseTo] at h
    split at h
    · cases h
    · rename_i st0 h0
      split at h
      · rename_i e he
        intro o ho
        rcases pStep_id h o ho with h1 | ⟨o', ho', h1⟩
        · exact ⟨e, List.mem_of_getElem? he, h1⟩
        · obtain ⟨e', he', h2⟩ := ih h0 o' ho'
          exact ⟨e', he', h1.trans h2⟩
      · cases h
        exact ih h0
theorem parseL_wf {l : List Ev} {os : List Opr} (h : parseL l = some os) (hwf : WfOp l) : ∀ o ∈ os, (Lit.int .i64 o.id).wf = true := by
  unfold parseL at h
  obtain ⟨st, hst, rfl⟩ := Option.map_eq_some_iff.1 h
  intro o ho
  obtain ⟨e, he, h1⟩ := parseTo_id hst o ho
  rw [h1]
  exact hwf e he
theorem take_snoc' {α : Type} {l : List α} {k : Nat} {x : α} (h : l[k]? = some x) : l.take (k + 1) = l.take k ++ [x] := by
  rw [List.take_add_one, h]; rfl

def OpsSome (w : World) (e : TypeId) (os : List Opr) (r : Ending) (w' : World) : Prop := ∃ v, r = .returned (.tuple #[v, .int .i64 0]) ∧ OwS w' w.heap.size e 8 v (os.map Opr.cells) ∧ Below w.heap.size w w'

set_option maxHeartbeats 1000000 in
set_option maxRecDepth 100000 in
theorem ops_some (l : List Ev) (A : Option Addr) (c B : Nat) (w : World) (h : EvS w B A l) (hB : B ≤ w.heap.size) (hlen : l.length ≤ 1000000) (hwf : WfOp l) (os : List Opr) (hos : parseL l = some os) :
    Calls Try.prog 19 #[.slice A l.length c] w (OpsSome w 39 os) := by
  have HP := Lib.hid (parse_any l A c B w h hB hlen hwf)
  unfold ParsePost at HP
  simp only [hos] at HP
  obtain ⟨hids, hol⟩ := parseL_ids hos
  have hwo := parseL_wf hos hwf
  have HIDS := Lib.hid hids
  clear hos hids
  go_enter Try.func19, Try.ntmps19
  go_wp2_with fail
  refine HP.out.mono ?_
  rintro r w1 ⟨v, mb, ps, rfl, hp, hmb, hown, hb1⟩
  obtain ⟨Ao, co, hv, hlc, hcm⟩ := hown.form
  rw [List.length_map] at hv hlc
  subst hv
  go_wp2
  go_loopw [7, 20] (fun v i wr => ∃ k : Nat, k ≤ os.length ∧ i = .int .i64 k ∧ OwS wr w1.heap.size 39 8 v ((os.take k).map Opr.cells) ∧ Below w1.heap.size w1 wr) (fun _ i _ => os.length - (intOf i).toNat)
  case atStart => exact ⟨0, by omega, rfl, OwS.nil _ _ _ _, Below.refl _ _⟩
  case round =>
    obtain ⟨k, hk, rfl, hout, hb⟩ := hrel
    have hz1 := hb.size
    have hz0 := hb1.size
    by_cases hlt : k < os.length
    · obtain ⟨o, ho⟩ : ∃ o, os[k]? = some o := ⟨os[k], List.getElem?_eq_getElem hlt⟩
      obtain ⟨g, hg⟩ : ∃ g, ps[k]? = some g := ⟨ps[k]'(by rw [hp.len]; exact hlt), List.getElem?_eq_getElem _⟩
      have hpr := hp.below hb
      obtain ⟨hgb, hblk⟩ := hpr.blk k o g ho hg
      have hord := (hown.below hb).reads
      obtain ⟨b, off, hA, hbb, hcell⟩ : ∃ b off, Ao = some ⟨b, off, none⟩ ∧ b < wr.heap.size ∧ wr.cell? ⟨b, off + k, none⟩ = some (.int .i64 o.id) := by
        obtain ⟨b, off, hA, hbb, hc⟩ := hord.2 (by rw [List.length_map]; omega)
        refine ⟨b, off, hA, hbb, ?_⟩
        have := hc k (idCell o) (by rw [List.getElem?_map, ho]; rfl) 0 _ rfl
        simpa using this
      subst hA
      have hgl : g < wr.heap.size := (Array.getElem?_eq_some_iff.1 hblk).1
      have d0 : wr.cell? ⟨g, 0, none⟩ = some (.int .i64 o.id) := by rw [cell_of_row _ _ _ _ _ _ hblk]; rfl
      have d1 : wr.cell? ⟨g, 1, none⟩ = some (.int .i64 o.reg) := by rw [cell_of_row _ _ _ _ _ _ hblk]; rfl
      have d2 : wr.cell? ⟨g, 2, none⟩ = some (.int .i64 o.val) := by rw [cell_of_row _ _ _ _ _ _ hblk]; rfl
      have d3 : wr.cell? ⟨g, 3, none⟩ = some (.bool o.write) := by rw [cell_of_row _ _ _ _ _ _ hblk]; rfl
      have d4 : wr.cell? ⟨g, 4, none⟩ = some (.bool o.barrier) := by rw [cell_of_row _ _ _ _ _ _ hblk]; rfl
      have d5 : wr.cell? ⟨g, 5, none⟩ = some (.int .i64 o.era) := by rw [cell_of_row _ _ _ _ _ _ hblk]; rfl
      have d6 : wr.cell? ⟨g, 6, none⟩ = some (.int .i64 o.call) := by rw [cell_of_row _ _ _ _ _ _ hblk]; rfl
      have d7 : wr.cell? ⟨g, 7, none⟩ = some (.int .i64 o.done) := by rw [cell_of_row _ _ _ _ _ _ hblk]; rfl
      obtain ⟨f, hf, hfx⟩ := hpr.map
      have hlook := hf.look keyedInt Try.underlying60 (zeroPtrOp _) (Maps.keyOf_int_mk Try.underlying3 (hwo o (List.mem_of_getElem? ho))) trivial
      rw [hfx, lookI_at HIDS.out hp.len ho hg] at hlook
      change (Instr.lookup _ _ _ _).run _ _ = Result.ok (Value.pointer (some ⟨g, 0, none⟩)) _ at hlook
      have HO := Lib.hid ho
      clear ho hg hfx hblk hwo
      go_wp2_with (at_builtin; refine wpList_ap1 rfl (.tmp 24) (.tmp 30) _ rfl elemHOp rfl hout (Opr.cells o) _ rfl _ rfl (by simp) (Opr.one _) (by simp [maxLen]; omega) (by simp; omega) hz1 ?_)
      intro v3 w3 hown3 hg3 _
      have hb3 : Below w1.heap.size w1 w3 := (hb.alloc hz1 _).grown hg3 (by simp; omega) (fun g hg => (hout.lt hg).1)
      clear hg3
      go_wp2
      go_roundw
      case rel => exact ⟨k + 1, by omega, by go_num, by rw [take_snoc' HO.out]; simpa using hown3, hb3⟩
      case measure => simp [intOf]; omega
    · obtain rfl : k = os.length := by omega
      rw [List.take_length] at hout
      go_wp2
      go_ret2
      exact ⟨_, rfl, hout.mono hz0, hb1.trans (hb.mono hz0)⟩

set_option maxHeartbeats 1000000 in
theorem ops_none (l : List Ev) (A : Option Addr) (c B : Nat) (w : World) (h : EvS w B A l) (hB : B ≤ w.heap.size) (hlen : l.length ≤ 1000000) (hwf : WfOp l) (hos : parseL l = none) :
    Calls Try.prog 19 #[.slice A l.length c] w fun r w' => r = .returned (.tuple #[.slice none 0 0, .int .i64 1]) ∧ Below w.heap.size w w' := by
  have HP := Lib.hid (parse_any l A c B w h hB hlen hwf)
  unfold ParsePost at HP
  simp only [hos] at HP
  clear hos
  go_enter Try.func19, Try.ntmps19
  go_wp2_with fail
  refine HP.out.mono ?_
  rintro r w1 ⟨rfl, hb1⟩
  go_wp2
  go_ret2
  exact ⟨rfl, hb1⟩

set_option maxHeartbeats 1000000 in
theorem hvalid_any (l : List Ev) (A : Option Addr) (c B : Nat) (w : World) (h : EvS w B A l) (hB : B ≤ w.heap.size) (hlen : l.length ≤ 1000000) (hwf : WfOp l) :
    Calls Try.prog 11 #[.slice A l.length c] w fun r w' => r = .returned (.bool (parseL l).isSome) ∧ Below w.heap.size w w' := by
  have HP := Lib.hid (parse_any l A c B w h hB hlen hwf)
  unfold ParsePost at HP
  rcases hos : parseL l with _ | os
  · simp only [hos] at HP
    clear hos
    go_enter Try.func11, Try.ntmps11
    go_wp2_with fail
    refine HP.out.mono ?_
    rintro r w1 ⟨rfl, hb1⟩
    go_wp2
    go_ret
    exact ⟨rfl, hb1⟩
  · simp only [hos] at HP
    clear hos
    go_enter Try.func11, Try.ntmps11
    go_wp2_with fail
    refine HP.out.mono ?_
    rintro r w1 ⟨v, mb, ps, rfl, hp, hmb, hown, hb1⟩
    go_wp2
    go_ret
    exact ⟨rfl, hb1⟩
end Go.Proofs.Ytcgbnlhloopnfaa
