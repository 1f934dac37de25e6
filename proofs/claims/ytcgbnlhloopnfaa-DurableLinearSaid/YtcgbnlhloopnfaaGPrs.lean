/- Walks of history: flush, proper, answers.
The memory of history.parse: one block an operation, a map of pointers to them.
Walk of history.parse.
Walks of history.Ops, history.Valid.
The operations of a history as the entries of a map: plain laws for a loop that ranges over it.
Walk of history.Pending: the operations that were neither answered nor lost, in increasing order. -/
import Derived.Test.YtcgbnlhloopnfaaGPln
import Derived.Test.YtcgbnlhloopnfaaGMem
import Derived.Deep.QuietTactic
import Derived.BigQuiet
import Derived.StillTailTactics
import Derived.Outline
import Derived.RegionTactic
import Derived.BigRegion
import Derived.Carry
import Derived.Maps.RangeWalk
import Derived.Maps.Views
namespace Go.Proofs.Ytcgbnlhloopnfaa
open Go.RowKit

set_option maxHeartbeats 400000 in
theorem flush_any (e : Ev) (w : World) : Calls Try.prog 36 #[e.agg] w fun r w' => r = .returned (.bool (flushB e)) ∧ Below w.heap.size w w' := by
  unfold Ev.agg
  go_enter Try.func36, Try.ntmps36
  go_wp2
  all_goals
    go_ret
    exact ⟨ret_bool (by simp_all [flushB]), (Below.refl _ _).alloc (Nat.le_refl _) _⟩

set_option maxHeartbeats 400000 in
theorem proper_any (e : Ev) (w : World) : Calls Try.prog 61 #[e.agg] w fun r w' => r = .returned (.bool (properB e)) ∧ Below w.heap.size w w' := by
  by_cases h0 : e.op < 0 ∨ e.reg < 0 ∨ e.val < 0
  · have HV : Hid (properB e = false) := by unfold properB; rw [if_pos h0]; rfl
    unfold Ev.agg
    go_enter Try.func61, Try.ntmps61
    go_wp2_with fail
    all_goals first
      | (go_ret; exact ⟨ret_bool HV.out.symm, (Below.refl _ _).alloc (Nat.le_refl _) _⟩)
      | (exfalso; omega)
  · have HV : Hid (properB e = if flushB e then e.reg == 0 && e.val == 0 else e.write || e.val == 0) := by unfold properB; rw [if_neg h0]; rfl
    have h1 : 0 ≤ e.op := by omega
    have h2 : 0 ≤ e.reg := by omega
    have h3 : 0 ≤ e.val := by omega
    clear h0
    have HF := Lib.hid (fun w => flush_any e w)
    generalize flushB e = fb at *
    unfold Ev.agg
    go_enter Try.func61, Try.ntmps61
    go_wp2_with fail
    refine (HF.out _).mono ?_
    rintro r w1 ⟨rfl, hb1⟩
    obtain ⟨hc1, hf1⟩ := bcell hb1
    have hb : Below w.heap.size w w1 := ((Below.refl _ _).alloc (Nat.le_refl _) _).trans (hb1.mono (by simp))
    cases fb
    · go_wp2
      all_goals
        go_ret
        exact ⟨ret_bool (by rw [HV.out]; simp_all), hb⟩
    · go_wp2
      all_goals
        go_ret
        exact ⟨ret_bool (by rw [HV.out]; simp_all), hb⟩



set_option maxHeartbeats 1000000 in
theorem answers_any (e c : Ev) (w : World) : Calls Try.prog 62 #[e.agg, c.agg] w fun r w' => r = .returned (.bool (ansOk e c)) ∧ Below w.heap.size w w' := by
  by_cases h0 : e.write = false ∧ e.barrier = false
  · obtain ⟨h1, h2⟩ := h0
    unfold Ev.agg
    go_enter Try.func62, Try.ntmps62
    go_wp2
    all_goals
      go_ret
      exact ⟨ret_bool (by simp_all [ansOk]), below_two _ _ _⟩
  · by_cases h1 : e.write = true
    · clear h0
      unfold Ev.agg
      go_enter Try.func62, Try.ntmps62
      go_wp2
      all_goals
        go_ret
        exact ⟨ret_bool (by simp_all [ansOk]), below_two _ _ _⟩
    · have h2 : e.write = false := by simpa using h1
      have h3 : e.barrier = true := by simpa [h2] using h0
      clear h0 h1
      unfold Ev.agg
      go_enter Try.func62, Try.ntmps62
      go_wp2
      all_goals
        go_ret
        exact ⟨ret_bool (by simp_all [ansOk]), below_two _ _ _⟩
end Go.Proofs.Ytcgbnlhloopnfaa
namespace Go.Proofs.Ytcgbnlhloopnfaa
open Go.RowKit

def lookI (os : List Opr) (ps : List Nat) (x : Int) : Option (Nat × Nat) := ((os.zip ps).find? (fun p => p.1.id == x)).map (fun p => (p.2, 0))
theorem lookI_none {os : List Opr} {ps : List Nat} {x : Int} (h : findO os x = none) : lookI os ps x = none := by
  unfold lookI
  rw [List.find?_eq_none.2]
  · rfl
  · intro p hp
    have := findO_none h p.1 (List.of_mem_zip hp).1
    simpa using this
theorem lookI_some {os : List Opr} {x : Int} {o : Opr} (h : findO os x = some o) : ∀ {ps : List Nat}, ps.length = os.length → ∃ (i g : Nat), os[i]? = some o ∧ ps[i]? = some g ∧ lookI os ps x = some (g, 0) ∧ o.id = x := by
  induction os with
  | nil => simp [findO] at h
  | cons a os ih =>
    intro ps hl
    cases ps with
    | nil => simp at hl
    | cons g ps =>
      unfold findO at h
      rw [List.find?_cons] at h
      by_cases ha : (a.id == x) = true
      · rw [ha] at h
        cases h
        exact ⟨0, g, rfl, rfl, by simp [lookI, ha], by simpa using ha⟩
      · have ha' : (a.id == x) = false := by simpa using ha
        rw [ha'] at h
        obtain ⟨i, g', h1, h2, h3, h4⟩ := ih h (ps := ps) (by simpa using hl)
        refine ⟨i + 1, g', by simpa using h1, by simpa using h2, ?_, h4⟩
        unfold lookI at h3 ⊢
        rw [List.zip_cons_cons, List.find?_cons, ha']
        exact h3
theorem lookI_app {os : List Opr} {ps : List Nat} {x : Int} {o : Opr} {g : Nat} (hl : ps.length = os.length) (hn : findO os o.id = none) : lookI (os ++ [o]) (ps ++ [g]) x = if x = o.id then some (g, 0) else lookI os ps x := by
  unfold lookI
  rw [List.zip_append hl.symm, List.find?_append]
  by_cases hx : x = o.id
  · subst hx
    have := lookI_none (ps := ps) hn
    unfold lookI at this
    rw [Option.map_eq_none_iff] at this
    rw [this]
    simp
  · rw [if_neg hx]
    have : (o.id == x) = false := by simp; exact fun h => hx h.symm
    simp [this]
theorem lookI_fin {e : Ev} {k : Nat} {x : Int} : ∀ {os : List Opr} {ps : List Nat}, lookI (os.map (Opr.fin e k)) ps x = lookI os ps x
  | [], _ => rfl
  | a :: os, [] => rfl
  | a :: os, g :: ps => by
    have ih := lookI_fin (e := e) (k := k) (x := x) (os := os) (ps := ps)
    unfold lookI at ih ⊢
    simp only [List.map_cons, List.zip_cons_cons, List.find?_cons, fin_id]
    split
    · rfl
    · exact ih

structure HP (w : World) (base mb : Nat) (os : List Opr) (ps : List Nat) : Prop where
  len : ps.length = os.length
  blk : ∀ (i : Nat) (o : Opr) (g : Nat), os[i]? = some o → ps[i]? = some g → base ≤ g ∧ w.heap[g]? = some (.cells o.cells.toArray 39)
  nodup : ps.Nodup
  map : ∃ f, MapG ptrC w Try.prog 3 mb os.length f ∧ ∀ x : Int, f (.int .i64 x) = lookI os ps x

section
variable {w w' : World} {base mb : Nat} {os : List Opr} {ps : List Nat}
theorem HP.made (w : World) (base : Nat) : HP (w.alloc (.map #[] 0)) base w.heap.size [] [] :=
  ⟨rfl, by simp, by simp, fun _ => none, MapG.made w Try.prog 3, fun _ => rfl⟩
theorem HP.at_ (h : HP w base mb os ps) {g : Nat} (hg : g ∈ ps) : ∃ (i : Nat) (o : Opr), os[i]? = some o ∧ ps[i]? = some g ∧ base ≤ g ∧ w.heap[g]? = some (.cells o.cells.toArray 39) := by
  obtain ⟨i, hi⟩ := List.mem_iff_getElem?.1 hg
  have hl : i < os.length := by rw [← h.len]; exact (List.getElem?_eq_some_iff.1 hi).1
  have ho := List.getElem?_eq_getElem hl
  exact ⟨i, _, ho, hi, h.blk i _ g ho hi⟩
theorem HP.mb_ne (h : HP w base mb os ps) {g : Nat} (hg : g ∈ ps) : g ≠ mb := by
  rintro rfl
  obtain ⟨i, o, _, _, _, hb⟩ := h.at_ hg
  obtain ⟨f, ⟨D, ⟨es, clock, hm, _⟩, _⟩, _⟩ := h.map
  rw [hb] at hm
  cases hm
theorem HP.kept (h : HP w base mb os ps) {row : Option Nat} (hg : w.grownBy w' row) (hps : ∀ g ∈ ps, some g ≠ row) (hmb : some mb ≠ row) : HP w' base mb os ps := by
  refine ⟨h.len, fun i o g ho hgi => ?_, h.nodup, ?_⟩
  · obtain ⟨h1, h2⟩ := h.blk i o g ho hgi
    exact ⟨h1, (hg.block g (Array.getElem?_eq_some_iff.1 h2).1 (hps g (List.mem_of_getElem? hgi))).trans h2⟩
  · obtain ⟨f, hf, hx⟩ := h.map
    exact ⟨f, hf.kept hg hmb, hx⟩
theorem HP.below (h : HP w base mb os ps) (hb : Below w.heap.size w w') : HP w' base mb os ps :=
  h.kept (row := none) ⟨hb.os, hb.tape, hb.output, hb.size, fun k hk _ => hb.block k hk⟩ (by simp) (by simp)
theorem HP.alloc (h : HP w base mb os ps) (o : Obj) : HP (w.alloc o) base mb os ps := h.kept (World.grownBy_alloc w o none) (by simp) (by simp)
theorem HP.drewN (h : HP w base mb os ps) (n : Nat) : HP (w.drewN n) base mb os ps := h.kept (row := none) ⟨rfl, rfl, rfl, Nat.le_refl _, fun _ _ _ => rfl⟩ (by simp) (by simp)
theorem OwS.ne_map {e : TypeId} {size : Nat} {v : Value} {rows : List (List Value)} {b : Nat} {P : Program} {kt : TypeId} {n : Nat} {β : Type} {C : Codec β} {f : Lit → β} (h : OwS w base e size v rows) (hm : MapG C w P kt b n f) : v.ownBlock ≠ some b := by
  rcases h.2.2 with ⟨rfl, _⟩ | ⟨g, cap, cur, rfl, _, hg, _⟩
  · simp [Value.ownBlock]
  · obtain ⟨D, ⟨es, clock, h0, _⟩, _⟩ := hm
    simp only [Value.ownBlock]
    rintro hgg
    injection hgg with hgg
    subst hgg
    rw [hg] at h0
    cases h0
/-- one operation more -/
theorem HP.add (h : HP w base mb os ps) (hbs : base ≤ w.heap.size) {o : Opr} (hn : findO os o.id = none) {w2 : World} {f f' : Lit → Option (Nat × Nat)} (hf : ∀ x : Int, f (.int .i64 x) = lookI os ps x)
    (hf' : f' = updK f (.int .i64 o.id) (some (w.heap.size, 0))) (hm : MapG ptrC w2 Try.prog 3 mb (os.length + 1) f') (hg : (w.alloc (.cells o.cells.toArray 39)).grownBy w2 (some mb)) : HP w2 base mb (os ++ [o]) (ps ++ [w.heap.size]) := by
  have hmlt : mb < w.heap.size := by obtain ⟨f, hf, _⟩ := h.map; exact hf.lt
  have hlt : ∀ g ∈ ps, g < w.heap.size := fun g hg => by obtain ⟨i, o, _, _, _, hb⟩ := h.at_ hg; exact (Array.getElem?_eq_some_iff.1 hb).1
  refine ⟨by simp [h.len], fun i o' g ho hgi => ?_, ?_, f', by simpa using hm, fun x => ?_⟩
  · rcases Nat.lt_or_ge i os.length with hi | hi
    · rw [List.getElem?_append_left hi] at ho
      rw [List.getElem?_append_left (by rw [h.len]; exact hi)] at hgi
      obtain ⟨h1, h2⟩ := h.blk i o' g ho hgi
      have hgl := (Array.getElem?_eq_some_iff.1 h2).1
      refine ⟨h1, ?_⟩
      rw [hg.block g (by simp; omega) (by simp; exact h.mb_ne (List.mem_of_getElem? hgi)), heap_alloc_old, h2]
      exact hgl
    · rw [List.getElem?_append_right hi] at ho
      rw [List.getElem?_append_right (by rw [h.len]; exact hi), h.len] at hgi
      have hi0 : i - os.length = 0 := by
        rcases Nat.eq_zero_or_pos (i - os.length) with h0 | h0
        · exact h0
        · rw [List.getElem?_eq_none (by simp; omega)] at ho; cases ho
      rw [hi0] at ho hgi
      simp at ho hgi
      subst ho hgi
      refine ⟨hbs, ?_⟩
      rw [hg.block w.heap.size (by simp) (by simp; omega), heap_alloc_new]
  · rw [List.nodup_append]
    refine ⟨h.nodup, by simp, fun a ha b hb => ?_⟩
    simp at hb
    subst hb
    have := hlt a ha
    omega
  · rw [hf', lookI_app h.len hn]
    unfold updK
    by_cases hx : x = o.id
    · subst hx; simp [Lit.sameKey]
    · simp [Lit.sameKey, hx, hf]
/-- an append onto a slice of another element type -/
theorem HP.app (h : HP w base mb os ps) {base' : Nat} {e : TypeId} {size : Nat} {v : Value} {rows : List (List Value)} (hown : OwS w base' e size v rows) (hne : e ≠ 39) (hg : w.grownBy w' v.ownBlock) : HP w' base mb os ps := by
  refine h.kept hg (fun g hgm e => ?_) (fun e => ?_)
  · obtain ⟨_, _, _, _, _, hb⟩ := h.at_ hgm
    exact hown.blk_ne hb hne e.symm
  · obtain ⟨f, hf, _⟩ := h.map
    exact OwS.ne_map hown hf e.symm
/-- an answer -/
theorem HP.fin (h : HP w base mb os ps) (hids : (os.map (·.id)).Nodup) {e : Ev} {k i g : Nat} {o : Opr} (ho : os[i]? = some o) (hg : ps[i]? = some g) (hid : o.id = e.op) :
    HP ((w.setCell ⟨g, 7, none⟩ (.int .i64 k)).setCell ⟨g, 2, none⟩ (.int .i64 e.val)) base mb (os.map (Opr.fin e k)) ps := by
  obtain ⟨hbg, hblk⟩ := h.blk i o g ho hg
  have hgm := List.mem_of_getElem? hg
  have hother : ∀ b, b ≠ g → ((w.setCell ⟨g, 7, none⟩ (.int .i64 k)).setCell ⟨g, 2, none⟩ (.int .i64 e.val)).heap[b]? = w.heap[b]? := fun b hb => by
    rw [heap_setCell_other _ _ _ _ hb, heap_setCell_other _ _ _ _ hb]
  refine ⟨by rw [List.length_map]; exact h.len, fun j o' g' ho' hg' => ?_, h.nodup, ?_⟩
  · rw [List.getElem?_map] at ho'
    obtain ⟨o2, ho2, rfl⟩ := Option.map_eq_some_iff.1 ho'
    by_cases hj : j = i
    · subst hj
      rw [ho] at ho2; cases ho2
      rw [hg] at hg'; cases hg'
      refine ⟨hbg, ?_⟩
      rw [heap_setCell_same _ _ _ _ _ _ (heap_setCell_same _ _ _ _ _ _ hblk)]
      simp [Opr.fin, hid, Opr.cells]
    · have hne : g' ≠ g := by
        rintro rfl
        exact hj ((List.getElem?_inj (List.getElem?_eq_some_iff.1 hg').1 h.nodup).1 (hg'.trans hg.symm))
      obtain ⟨h1, h2⟩ := h.blk j o2 g' ho2 hg'
      refine ⟨h1, ?_⟩
      rw [hother g' hne, h2]
      have : o2.id ≠ e.op := by
        rintro h3
        refine hj ((List.getElem?_inj (l := os.map (·.id)) (by rw [List.length_map]; exact (List.getElem?_eq_some_iff.1 ho2).1) hids).1 ?_)
        rw [List.getElem?_map, List.getElem?_map, ho2, ho]
        simp [h3, hid]
      simp [Opr.fin, this]
  · obtain ⟨f, hf, hx⟩ := h.map
    exact ⟨f, by rw [List.length_map]; exact hf.block (hother mb (fun e => h.mb_ne hgm e.symm)), fun x => by rw [hx, lookI_fin]⟩
end
end Go.Proofs.Ytcgbnlhloopnfaa
namespace Go.Proofs.Ytcgbnlhloopnfaa
open Go.RowKit

theorem elemInt : Elem Try.prog 29 3 1 8 := Elem.mk (z := .int .i64 0) Try.underlying29 (by kernel_rfl) (by decide) rfl
theorem keyedInt : Maps.Keyed Try.prog 3 := Maps.int_keyed Try.underlying3
theorem zeroPtrOp (w : World) : (zeroValue 64).run Try.prog w = .ok (ptrC.val ptrC.zero) w := by kernel_rfl

def WfOp (l : List Ev) : Prop := ∀ e ∈ l, (Lit.int .i64 e.op).wf = true
def idCell (o : Opr) : List Value := [.int .i64 o.id]
def ParseSome (w : World) (os : List Opr) (r : Ending) (w' : World) : Prop :=
  ∃ v mb ps, r = .returned (.tuple #[.map (some mb), v, .bool true]) ∧ HP w' w.heap.size mb os ps ∧ w.heap.size ≤ mb ∧ OwS w' w.heap.size 3 1 v (os.map idCell) ∧ Below w.heap.size w w'
def ParsePost (l : List Ev) (w : World) (r : Ending) (w' : World) : Prop :=
  match parseL l with
  | none => r = .returned (.tuple #[.map none, .slice none 0 0, .bool false]) ∧ Below w.heap.size w w'
  | some os => ParseSome w os r w'
theorem ParsePost.none_ {l : List Ev} {w w' : World} (h : parseL l = none) (hb : Below w.heap.size w w') : ParsePost l w (.returned (.tuple #[.map none, .slice none 0 0, .bool false])) w' := by
  unfold ParsePost; rw [h]; exact ⟨rfl, hb⟩
theorem ParsePost.some_ {l : List Ev} {w w' : World} {os : List Opr} {r : Ending} (h : parseL l = some os) (hb : ParseSome w os r w') : ParsePost l w r w' := by
  unfold ParsePost; rw [h]; exact hb

/-- the relation at the head of the loop -/
def ParseRel (l : List Ev) (w : World) (v er i : Value) (wr : World) : Prop :=
  ∃ (k : Nat) (st : List Opr × Int) (ps : List Nat), k ≤ l.length ∧ i = .int .i64 k ∧ er = .int .i64 st.2 ∧ parseTo l k = some st ∧ HP wr w.heap.size w.heap.size st.1 ps ∧ OwS wr w.heap.size 3 1 v (st.1.map idCell) ∧ Below w.heap.size w wr

set_option maxHeartbeats 2000000 in
set_option maxRecDepth 100000 in
theorem parse_any (l : List Ev) (A : Option Addr) (c B : Nat) (w : World) (h : EvS w B A l) (hB : B ≤ w.heap.size) (hlen : l.length ≤ 1000000) (hwf : WfOp l) :
    Calls Try.prog 38 #[.slice A l.length c] w (ParsePost l w) := by
  have hmm := @run_makeMap Try.prog
  go_enter Try.func38, Try.ntmps38
  go_wp2
  go_loopw [6, 7, 14] (ParseRel l w) (fun _ _ i _ => l.length - (intOf i).toNat)
  case atStart => exact ⟨0, ([], 0), [], by omega, rfl, rfl, rfl, HP.made _ _, OwS.nil _ _ _ _, (Below.refl _ _).alloc (Nat.le_refl _) _⟩
  case round =>
    obtain ⟨k, st, ps, hk, rfl, rfl, hst, hp, hown, hb⟩ := hrel
    obtain ⟨os, era⟩ := st
    have hinv := PInv.to hst
    have hera0 := hinv.era0
    have herak := hinv.erak
    simp only at hera0 herak hp hown
    have HST := Lib.hid hst
    have HINV := Lib.hid hinv
    have HP0 := Lib.hid hp
    clear hst hinv
    by_cases hlt : k < l.length
    · obtain ⟨b, off, e, rfl, hbB, he, c0, c1, c2, c3, c4, c5⟩ := EvS.at_ (h.below' hb hB) (k := k) hlt
      have hzw := hb.size
      have hbw : b < wr.heap.size := by omega
      have hwfe : (Lit.int .i64 e.op).wf = true := hwf e (List.mem_of_getElem? he)
      have HE := Lib.hid he
      clear he
      obtain ⟨f, hf, hfx⟩ := hp.map
      have hlook := fun o => (hf.alloc (w := wr) o).look keyedInt Try.underlying60 (zeroPtrOp _) (Maps.keyOf_int_mk Try.underlying3 hwfe) trivial
      rw [hfx e.op] at hlook
      have HF := Lib.hid hf
      have HFX := Lib.hid hfx
      have HW := Lib.hid hwfe
      clear hf hfx hwfe hp
      by_cases h1 : e.kind = 1
      · have h1' : (e.kind == 1) = true := by simp [h1]
        rcases hfo : findO os e.op with _ | o
        · rw [lookI_none hfo] at hlook
          change ∀ o, (Instr.lookup _ _ _ _).run _ _ = Result.ok (Value.pointer none) _ at hlook
          have HPR := Lib.hid (fun w => proper_any e w)
          have HSTEP := Lib.hid (show pStep l k (os, era) e = if properB e then some (os ++ [Opr.of e era k], era) else none by simp [pStep, h1, hfo])
          have HFO := Lib.hid hfo
          clear hfo h1
          generalize properB e = pb at *
          go_wp2_with fail
          refine (HPR.out _).mono ?_
          rintro r w1 ⟨rfl, hb1⟩
          obtain ⟨hc1, hf1⟩ := bcell hb1
          have hb1' : Below w.heap.size w w1 := (hb.alloc hb.size _).trans (hb1.mono (by simp; omega))
          have hp1 : HP w1 w.heap.size w.heap.size os ps := (HP0.out.alloc _).below hb1
          have hown1 := (hown.alloc (.cells #[.int .i64 e.kind, .int .i64 e.op, .bool e.write, .int .i64 e.reg, .int .i64 e.val, .bool e.barrier] 56)).below hb1
          have hz1 : w.heap.size ≤ w1.heap.size := hb1'.size
          have hlen1 := HINV.out.len
          simp only at hlen1
          cases pb
          · have HN := Lib.hid (parseL_none HST.out HE.out (by rw [HSTEP.out]; rfl))
            go_wp2
            go_ret3
            exact ParsePost.none_ HN.out hb1'
          · have HP1 := Lib.hid hp1
            obtain ⟨f1, hm1, hx1⟩ := hp1.map
            have HX1 := Lib.hid hx1
            clear hp1 hx1
            go_wp2_with (at_mapUpdate; refine wpList_putG rfl (.tmp 34) (.tmp 36) (.tmp 50) _ rfl keyedInt Try.underlying60 rfl (hm1.alloc _) (by unfold maxLen; omega) _ (.int .i64 e.op) rfl (Maps.keyOf_int_mk Try.underlying3 HW.out) trivial (some (w1.heap.size, 0)) rfl ?_)
            intro w2 hm2 hg2
            have hp2 := HP1.out.add (o := Opr.of e era k) hz1 HFO.out HX1.out rfl hm2 hg2
            have hown2 := (hown1.alloc _).kept hg2 (.inr (OwS.ne_map hown1 hm1))
            have hb2 : Below w.heap.size w w2 := (hb1'.alloc hz1 _).grown hg2 (by simp; omega) (by intro g hg; cases hg; exact Nat.le_refl _)
            have hz2 := hb2.size
            have HP2 := Lib.hid hp2
            have b1 : w2.cell? ⟨wr.heap.size, 1, none⟩ = some (.int .i64 e.op) := by
              have hml := HF.out.lt
              refine (World.cell?_of_block (hg2.block wr.heap.size (by have := hb1.size; simp at this ⊢; omega) (by simp; omega))).trans ?_
              rw [World.cell?_alloc_past _ _ _ (by have := hb1.size; simp at this ⊢; omega), hc1 _ _ (by simp)]
              exact World.cell?_alloc_at _ _ _ _ rfl
            clear hm2 hg2 hp2
            go_wp2_with (at_builtin; refine wpList_ap1 rfl (.tmp 51) (.tmp 54) _ rfl elemInt rfl hown2 (idCell (Opr.of e era k)) _ rfl _ rfl (by simp) (by intro u hu; simp [idCell] at hu; subst hu; rfl) (by simp [maxLen]; omega) (by simp; omega) hz2 ?_)
            intro v3 w3 hown3 hg3 _
            have hp3 := (HP2.out.alloc _).app (hown2.alloc _) (by decide) hg3
            have hb3 : Below w.heap.size w w3 := (hb2.alloc hz2 _).grown hg3 (by simp; omega) (fun g hg => (hown2.lt hg).1)
            clear hg3
            go_wp2
            go_roundw
            case rel => exact ⟨k + 1, (os ++ [Opr.of e era k], era), ps ++ [w1.heap.size], by omega, by go_num, rfl, by rw [parseTo_at HST.out HE.out, HSTEP.out]; rfl, hp3, by simpa using hown3, hb3⟩
            case measure => simp [intOf]; omega
        · obtain ⟨i, g, hi, hg, hl, hid⟩ := lookI_some hfo HP0.out.len
          rw [hl] at hlook
          change ∀ o, (Instr.lookup _ _ _ _).run _ _ = Result.ok (Value.pointer (some ⟨g, 0, none⟩)) _ at hlook
          have HN := Lib.hid (parseL_none HST.out HE.out (by simp [pStep, h1, hfo]))
          clear hfo hi hg hl hid h1
          go_wp2_with fail
          go_ret3
          exact ParsePost.none_ HN.out (hb.alloc hb.size _)
      have h1' : (e.kind == 1) = false := by simp [h1]
      by_cases h2 : e.kind = 2
      · have h2' : (e.kind == 2) = true := by simp [h2]
        rcases hfo : findO os e.op with _ | o
        · rw [lookI_none hfo] at hlook
          change ∀ o, (Instr.lookup _ _ _ _).run _ _ = Result.ok (Value.pointer none) _ at hlook
          have HN := Lib.hid (parseL_none HST.out HE.out (by simp [pStep, h2, hfo]))
          clear hfo h1 h2
          go_wp2_with fail
          go_quiet (fail)
          go_wp2
          go_ret3
          exact ParsePost.none_ HN.out (below_drewN (hb.alloc hb.size _) _)
        · obtain ⟨i, g, hi, hg, hl, hid⟩ := lookI_some hfo HP0.out.len
          rw [hl] at hlook
          change ∀ o, (Instr.lookup _ _ _ _).run _ _ = Result.ok (Value.pointer (some ⟨g, 0, none⟩)) _ at hlook
          obtain ⟨hgb, hblk⟩ := HP0.out.blk i o g hi hg
          have hgl : g < wr.heap.size := (Array.getElem?_eq_some_iff.1 hblk).1
          have d2 : wr.cell? ⟨g, 2, none⟩ = some (.int .i64 o.val) := by rw [cell_of_row _ _ _ _ _ _ hblk]; rfl
          have d5 : wr.cell? ⟨g, 5, none⟩ = some (.int .i64 o.era) := by rw [cell_of_row _ _ _ _ _ _ hblk]; rfl
          have d6 : wr.cell? ⟨g, 6, none⟩ = some (.int .i64 o.call) := by rw [cell_of_row _ _ _ _ _ _ hblk]; rfl
          have d7 : wr.cell? ⟨g, 7, none⟩ = some (.int .i64 o.done) := by rw [cell_of_row _ _ _ _ _ _ hblk]; rfl
          have HSTEP := Lib.hid (show pStep l k (os, era) e = pDone l k (os, era) e o by simp [pStep, h2, hfo])
          have HBLK := Lib.hid hblk
          have HI := Lib.hid hi
          have HG := Lib.hid hg
          have HID := Lib.hid hid
          clear hfo h1 h2 hblk hi hg hl hid
          by_cases hd : 0 ≤ o.done
          · have HN := Lib.hid (parseL_none HST.out HE.out (by rw [HSTEP.out, pDone_done hd]))
            go_wp2_with fail
            go_quiet (fail)
            go_wp2
            go_ret3
            exact ParsePost.none_ HN.out (below_drewN (hb.alloc hb.size _) _)
          have hd' : decide (0 ≤ o.done) = false := by simpa using hd
          by_cases hera : o.era = era
          · have hera' : (o.era != era) = false := by simp [hera]
            obtain ⟨cn, hcn⟩ := Int.eq_ofNat_of_zero_le (HINV.out.call o (List.mem_of_getElem? HI.out)).1
            have hck : cn < k := by have := (HINV.out.call o (List.mem_of_getElem? HI.out)).2; omega
            rw [hcn] at d6
            obtain ⟨b', off', e', hbe, _, he', f0, f1, f2, f3, f4, f5⟩ := EvS.at_ (h.below' hb hB) (k := cn) (by omega)
            cases hbe
            have HD := Lib.hid (HSTEP.out.trans (pDone_at (l := l) (i := k) (st := (os, era)) (e := e) hd hera hcn he'))
            have HA := Lib.hid (fun w => answers_any e e' w)
            have hfr7 : wr.frozen? ⟨g, 7, none⟩ = false := frozen_of_row _ _ _ _ _ HBLK.out
            have hfr2 : wr.frozen? ⟨g, 2, none⟩ = false := frozen_of_row _ _ _ _ _ HBLK.out
            have hckl : (cn : Int) < (l.length : Int) := by omega
            clear hera he' hcn HSTEP
            generalize ansOk e e' = ab at *
            go_wp2_with fail
            refine still_tail_drew 26 (by kernel_rfl) (by kernel_rfl) ?_
            simp only [List.take_succ_cons, List.take_zero, List.drop_succ_cons, List.drop_zero]
            repeat still_step
            refine wpStill_nil ?_
            go_wp2_with fail
            refine (HA.out _).mono ?_
            rintro r w1 ⟨rfl, hb1⟩
            have hbx : Below (wr.alloc (.cells #[.int .i64 e.kind, .int .i64 e.op, .bool e.write, .int .i64 e.reg, .int .i64 e.val, .bool e.barrier] 56)).heap.size (wr.alloc (.cells #[.int .i64 e.kind, .int .i64 e.op, .bool e.write, .int .i64 e.reg, .int .i64 e.val, .bool e.barrier] 56)) w1 := ⟨hb1.os, hb1.tape, hb1.output, hb1.size, hb1.block⟩
            have HP1 := Lib.hid ((HP0.out.alloc _).below hbx)
            have hown1 := (hown.alloc _).below hbx
            have hb1' : Below w.heap.size w w1 := (hb.alloc hb.size _).trans (hbx.mono (by simp; omega))
            have g2 : w1.cell? ⟨g, 2, none⟩ = some (.int .i64 o.val) := by rw [hbx.cell (by simp; omega), World.cell?_alloc_past _ _ _ hgl]; exact d2
            have g7 : w1.cell? ⟨g, 7, none⟩ = some (.int .i64 o.done) := by rw [hbx.cell (by simp; omega), World.cell?_alloc_past _ _ _ hgl]; exact d7
            have gf2 : w1.frozen? ⟨g, 2, none⟩ = false := by rw [hbx.frozen (by simp; omega), World.frozen?_alloc_past _ _ _ hgl]; exact hfr2
            have gf7 : w1.frozen? ⟨g, 7, none⟩ = false := by rw [hbx.frozen (by simp; omega), World.frozen?_alloc_past _ _ _ hgl]; exact hfr7
            have b4 : w1.cell? ⟨wr.heap.size, 4, none⟩ = some (.int .i64 e.val) := by rw [hbx.cell (by simp)]; exact World.cell?_alloc_at _ _ _ _ rfl
            have hne : g ≠ wr.heap.size := by omega
            clear d2 d5 d6 d7 hfr2 hfr7 hb1 hbx c0 c1 c2 c3 c4 c5 f0 f1 f2 f3 f4 f5 hlook
            cases ab
            · have HN := Lib.hid (parseL_none HST.out HE.out HD.out)
              go_wp2
              go_ret3
              exact ParsePost.none_ HN.out hb1'
            · go_wp2
              go_region
              all_goals (try go_wp2)
              have hp2 := HP1.out.fin HINV.out.ids HI.out HG.out HID.out (e := e) (k := k)
              obtain ⟨_, hblk1⟩ := HP1.out.blk i o g HI.out HG.out
              have hgne := hown1.blk_ne hblk1 (by decide)
              have hgb' : w.heap.size ≤ g := hgb
              go_roundw
              case rel => exact ⟨k + 1, (os.map (Opr.fin e k), era), ps, by omega, by go_num, rfl, by rw [parseTo_at HST.out HE.out, HD.out]; rfl, hp2.kept (row := none) ⟨rfl, rfl, rfl, Nat.le_refl _, fun _ _ _ => rfl⟩ (by simp) (by simp), by
                have := (hown1.far (p := ⟨g, 7, none⟩) hgne (.int .i64 k)).far (p := ⟨g, 2, none⟩) hgne (.int .i64 e.val)
                have hids : (os.map (Opr.fin e k)).map idCell = os.map idCell := by
                  rw [List.map_map]
                  apply List.map_congr_left
                  intro a _
                  simp [idCell, fin_id]
                rw [hids]
                exact this, ((hb1'.setCell hgb' _).setCell hgb' _).drew⟩
              case measure => simp [intOf]; omega
          · have hera' : (o.era != era) = true := by simp [hera]
            have HN := Lib.hid (parseL_none HST.out HE.out (by rw [HSTEP.out, pDone_era hera]))
            clear hera
            go_wp2_with fail
            go_quiet (fail)
            go_wp2
            go_ret3
            exact ParsePost.none_ HN.out (below_drewN (hb.alloc hb.size _) _)
      have h2' : (e.kind == 2) = false := by simp [h2]
      by_cases h3 : e.kind = 3
      · have h3' : (e.kind == 3) = true := by simp [h3]
        have HSTEP := Lib.hid (show pStep l k (os, era) e = if e = Ev.cut then some (os, era + 1) else none by simp [pStep, h3])
        have HK := Lib.hid h3
        clear h1 h2 h3
        by_cases hcut : e = Ev.cut
        · have e1 : e.op = 0 := by rw [hcut]; rfl
          have e2 : e.write = false := by rw [hcut]; rfl
          have e3 : e.reg = 0 := by rw [hcut]; rfl
          have e4 : e.val = 0 := by rw [hcut]; rfl
          have e5 : e.barrier = false := by rw [hcut]; rfl
          have HT := Lib.hid (HSTEP.out.trans (if_pos hcut))
          clear hcut
          simp only [e1] at hlook
          go_wp2
          go_roundw
          case rel => exact ⟨k + 1, (os, era + 1), ps, by omega, by go_num, rfl, by rw [parseTo_at HST.out HE.out, HT.out], HP0.out.alloc _, hown.alloc _, hb.alloc hb.size _⟩
          case measure => simp [intOf]; omega
        · have HN := Lib.hid (parseL_none HST.out HE.out (HSTEP.out.trans (if_neg hcut)))
          have HC := Lib.hid hcut
          clear hcut
          go_wp2
          all_goals first
            | (go_ret3; exact ParsePost.none_ HN.out (hb.alloc hb.size _))
            | (exfalso; exact HC.out (cut_of HK.out (by assumption) (by simp_all) (by assumption) (by assumption) (by simp_all)))
      · have h3' : (e.kind == 3) = false := by simp [h3]
        have HN := Lib.hid (parseL_none HST.out HE.out (by simp [pStep, h1, h2, h3]))
        clear h1 h2 h3
        go_wp2
        go_ret3
        exact ParsePost.none_ HN.out (hb.alloc hb.size _)
    · obtain rfl : k = l.length := by omega
      go_wp2
      go_ret3
      exact ParsePost.some_ (by unfold parseL; rw [HST.out]; rfl) ⟨_, _, ps, rfl, HP0.out, Nat.le_refl _, hown, hb⟩
end Go.Proofs.Ytcgbnlhloopnfaa
namespace Go.Proofs.Ytcgbnlhloopnfaa
open Go.RowKit

theorem elemHOp : Elem Try.prog 34 39 8 56 := Elem.mk (z := (Opr.agg ⟨0, 0, 0, false, false, 0, 0, 0⟩)) Try.underlying34 (by kernel_rfl) (by decide) rfl

theorem lookI_at {os : List Opr} {ps : List Nat} (hids : (os.map (·.id)).Nodup) (hl : ps.length = os.length) {j g : Nat} {o : Opr} (ho : os[j]? = some o) (hg : ps[j]? = some g) : lookI os ps o.id = some (g, 0) := by
  have hf : ∃ o', findO os o.id = some o' := by
    rcases hh : findO os o.id with _ | o'
    · exact absurd rfl (findO_none hh o (List.mem_of_getElem? ho))
    · exact ⟨o', rfl⟩
  obtain ⟨o', hf⟩ := hf
  obtain ⟨i, g', h1, h2, h3, h4⟩ := lookI_some hf hl
  have hij : i = j := by
    refine (List.getElem?_inj (l := os.map (·.id)) (by rw [List.length_map]; exact (List.getElem?_eq_some_iff.1 h1).1) hids).1 ?_
    rw [List.getElem?_map, List.getElem?_map, h1, ho]
    simp [h4]
  subst hij
  rw [hg] at h2
  cases h2
  exact h3
theorem parseL_ids {l : List Ev} {os : List Opr} (h : parseL l = some os) : (os.map (·.id)).Nodup ∧ os.length ≤ l.length := by
  unfold parseL at h
  obtain ⟨st, hst, rfl⟩ := Option.map_eq_some_iff.1 h
  have := PInv.to hst
  exact ⟨this.ids, this.len⟩
theorem pStep_id {l : List Ev} {k : Nat} {st st' : List Opr × Int} {e : Ev} (h : pStep l k st e = some st') : ∀ o ∈ st'.1, o.id = e.op ∨ ∃ o' ∈ st.1, o.id = o'.id := by
  unfold pStep at h
  split at h
  · split at h
    · cases h
    · split at h
      · cases h
        intro o ho
        rcases List.mem_append.1 ho with ho | ho
        · exact .inr ⟨o, ho, rfl⟩
        · simp [Opr.of] at ho; subst ho; exact .inl rfl
      · cases h
  · split at h
    · split at h
      · cases h
      · unfold pDone at h
        split at h
        · cases h
        · split at h
          · cases h
          · split at h
            · split at h
              · cases h
                intro o ho
                obtain ⟨o', ho', rfl⟩ := List.mem_map.1 ho
                exact .inr ⟨o', ho', fin_id _ _ _⟩
              · cases h
            · cases h
    · split at h
      · split at h
        · cases h
          exact fun o ho => .inr ⟨o, ho, rfl⟩
        · cases h
      · cases h
theorem parseTo_id {l : List Ev} {k : Nat} {st : List Opr × Int} (h : parseTo l k = some st) : ∀ o ∈ st.1, ∃ e ∈ l, o.id = e.op := by
  induction k generalizing st with
  | zero => simp [parseTo] at h; subst h; simp
  | succ k ih =>
    simp only [parseTo] at h
    split at h
    · cases h
    · rename_i st0 h0
      split at h
      · rename_i e he
        intro o ho
        rcases pStep_id h o ho with h1 | ⟨o', ho', h1⟩
        · exact ⟨e, List.mem_of_getElem? he, h1⟩
        · obtain ⟨e', he', h2⟩ := ih h0 o' ho'
          exact ⟨e', he', h1.trans h2⟩
      · cases h
        exact ih h0
theorem parseL_wf {l : List Ev} {os : List Opr} (h : parseL l = some os) (hwf : WfOp l) : ∀ o ∈ os, (Lit.int .i64 o.id).wf = true := by
  unfold parseL at h
  obtain ⟨st, hst, rfl⟩ := Option.map_eq_some_iff.1 h
  intro o ho
  obtain ⟨e, he, h1⟩ := parseTo_id hst o ho
  rw [h1]
  exact hwf e he
theorem take_snoc' {α : Type} {l : List α} {k : Nat} {x : α} (h : l[k]? = some x) : l.take (k + 1) = l.take k ++ [x] := by
  rw [List.take_add_one, h]; rfl

def OpsSome (w : World) (e : TypeId) (os : List Opr) (r : Ending) (w' : World) : Prop := ∃ v, r = .returned (.tuple #[v, .int .i64 0]) ∧ OwS w' w.heap.size e 8 v (os.map Opr.cells) ∧ Below w.heap.size w w'

set_option maxHeartbeats 1000000 in
set_option maxRecDepth 100000 in
theorem ops_some (l : List Ev) (A : Option Addr) (c B : Nat) (w : World) (h : EvS w B A l) (hB : B ≤ w.heap.size) (hlen : l.length ≤ 1000000) (hwf : WfOp l) (os : List Opr) (hos : parseL l = some os) :
    Calls Try.prog 19 #[.slice A l.length c] w (OpsSome w 39 os) := by
  have HP := Lib.hid (parse_any l A c B w h hB hlen hwf)
  unfold ParsePost at HP
  simp only [hos] at HP
  obtain ⟨hids, hol⟩ := parseL_ids hos
  have hwo := parseL_wf hos hwf
  have HIDS := Lib.hid hids
  clear hos hids
  go_enter Try.func19, Try.ntmps19
  go_wp2_with fail
  refine HP.out.mono ?_
  rintro r w1 ⟨v, mb, ps, rfl, hp, hmb, hown, hb1⟩
  obtain ⟨Ao, co, hv, hlc, hcm⟩ := hown.form
  rw [List.length_map] at hv hlc
  subst hv
  go_wp2
  go_loopw [7, 20] (fun v i wr => ∃ k : Nat, k ≤ os.length ∧ i = .int .i64 k ∧ OwS wr w1.heap.size 39 8 v ((os.take k).map Opr.cells) ∧ Below w1.heap.size w1 wr) (fun _ i _ => os.length - (intOf i).toNat)
  case atStart => exact ⟨0, by omega, rfl, OwS.nil _ _ _ _, Below.refl _ _⟩
  case round =>
    obtain ⟨k, hk, rfl, hout, hb⟩ := hrel
    have hz1 := hb.size
    have hz0 := hb1.size
    by_cases hlt : k < os.length
    · obtain ⟨o, ho⟩ : ∃ o, os[k]? = some o := ⟨os[k], List.getElem?_eq_getElem hlt⟩
      obtain ⟨g, hg⟩ : ∃ g, ps[k]? = some g := ⟨ps[k]'(by rw [hp.len]; exact hlt), List.getElem?_eq_getElem _⟩
      have hpr := hp.below hb
      obtain ⟨hgb, hblk⟩ := hpr.blk k o g ho hg
      have hord := (hown.below hb).reads
      obtain ⟨b, off, hA, hbb, hcell⟩ : ∃ b off, Ao = some ⟨b, off, none⟩ ∧ b < wr.heap.size ∧ wr.cell? ⟨b, off + k, none⟩ = some (.int .i64 o.id) := by
        obtain ⟨b, off, hA, hbb, hc⟩ := hord.2 (by rw [List.length_map]; omega)
        refine ⟨b, off, hA, hbb, ?_⟩
        have := hc k (idCell o) (by rw [List.getElem?_map, ho]; rfl) 0 _ rfl
        simpa using this
      subst hA
      have hgl : g < wr.heap.size := (Array.getElem?_eq_some_iff.1 hblk).1
      have d0 : wr.cell? ⟨g, 0, none⟩ = some (.int .i64 o.id) := by rw [cell_of_row _ _ _ _ _ _ hblk]; rfl
      have d1 : wr.cell? ⟨g, 1, none⟩ = some (.int .i64 o.reg) := by rw [cell_of_row _ _ _ _ _ _ hblk]; rfl
      have d2 : wr.cell? ⟨g, 2, none⟩ = some (.int .i64 o.val) := by rw [cell_of_row _ _ _ _ _ _ hblk]; rfl
      have d3 : wr.cell? ⟨g, 3, none⟩ = some (.bool o.write) := by rw [cell_of_row _ _ _ _ _ _ hblk]; rfl
      have d4 : wr.cell? ⟨g, 4, none⟩ = some (.bool o.barrier) := by rw [cell_of_row _ _ _ _ _ _ hblk]; rfl
      have d5 : wr.cell? ⟨g, 5, none⟩ = some (.int .i64 o.era) := by rw [cell_of_row _ _ _ _ _ _ hblk]; rfl
      have d6 : wr.cell? ⟨g, 6, none⟩ = some (.int .i64 o.call) := by rw [cell_of_row _ _ _ _ _ _ hblk]; rfl
      have d7 : wr.cell? ⟨g, 7, none⟩ = some (.int .i64 o.done) := by rw [cell_of_row _ _ _ _ _ _ hblk]; rfl
      obtain ⟨f, hf, hfx⟩ := hpr.map
      have hlook := hf.look keyedInt Try.underlying60 (zeroPtrOp _) (Maps.keyOf_int_mk Try.underlying3 (hwo o (List.mem_of_getElem? ho))) trivial
      rw [hfx, lookI_at HIDS.out hp.len ho hg] at hlook
      change (Instr.lookup _ _ _ _).run _ _ = Result.ok (Value.pointer (some ⟨g, 0, none⟩)) _ at hlook
      have HO := Lib.hid ho
      clear ho hg hfx hblk hwo
      go_wp2_with (at_builtin; refine wpList_ap1 rfl (.tmp 24) (.tmp 30) _ rfl elemHOp rfl hout (Opr.cells o) _ rfl _ rfl (by simp) (Opr.one _) (by simp [maxLen]; omega) (by simp; omega) hz1 ?_)
      intro v3 w3 hown3 hg3 _
      have hb3 : Below w1.heap.size w1 w3 := (hb.alloc hz1 _).grown hg3 (by simp; omega) (fun g hg => (hout.lt hg).1)
      clear hg3
      go_wp2
      go_roundw
      case rel => exact ⟨k + 1, by omega, by go_num, by rw [take_snoc' HO.out]; simpa using hown3, hb3⟩
      case measure => simp [intOf]; omega
    · obtain rfl : k = os.length := by omega
      rw [List.take_length] at hout
      go_wp2
      go_ret2
      exact ⟨_, rfl, hout.mono hz0, hb1.trans (hb.mono hz0)⟩

set_option maxHeartbeats 1000000 in
theorem ops_none (l : List Ev) (A : Option Addr) (c B : Nat) (w : World) (h : EvS w B A l) (hB : B ≤ w.heap.size) (hlen : l.length ≤ 1000000) (hwf : WfOp l) (hos : parseL l = none) :
    Calls Try.prog 19 #[.slice A l.length c] w fun r w' => r = .returned (.tuple #[.slice none 0 0, .int .i64 1]) ∧ Below w.heap.size w w' := by
  have HP := Lib.hid (parse_any l A c B w h hB hlen hwf)
  unfold ParsePost at HP
  simp only [hos] at HP
  clear hos
  go_enter Try.func19, Try.ntmps19
  go_wp2_with fail
  refine HP.out.mono ?_
  rintro r w1 ⟨rfl, hb1⟩
  go_wp2
  go_ret2
  exact ⟨rfl, hb1⟩

set_option maxHeartbeats 1000000 in
theorem hvalid_any (l : List Ev) (A : Option Addr) (c B : Nat) (w : World) (h : EvS w B A l) (hB : B ≤ w.heap.size) (hlen : l.length ≤ 1000000) (hwf : WfOp l) :
    Calls Try.prog 11 #[.slice A l.length c] w fun r w' => r = .returned (.bool (parseL l).isSome) ∧ Below w.heap.size w w' := by
  have HP := Lib.hid (parse_any l A c B w h hB hlen hwf)
  unfold ParsePost at HP
  rcases hos : parseL l with _ | os
  · simp only [hos] at HP
    clear hos
    go_enter Try.func11, Try.ntmps11
    go_wp2_with fail
    refine HP.out.mono ?_
    rintro r w1 ⟨rfl, hb1⟩
    go_wp2
    go_ret
    exact ⟨rfl, hb1⟩
  · simp only [hos] at HP
    clear hos
    go_enter Try.func11, Try.ntmps11
    go_wp2_with fail
    refine HP.out.mono ?_
    rintro r w1 ⟨v, mb, ps, rfl, hp, hmb, hown, hb1⟩
    go_wp2
    go_ret
    exact ⟨rfl, hb1⟩
end Go.Proofs.Ytcgbnlhloopnfaa
namespace Go.Proofs.Ytcgbnlhloopnfaa
open Go.RowKit

theorem nodup_len {α : Type} [DecidableEq α] : ∀ {l1 l2 : List α}, l1.Nodup → (∀ x ∈ l1, x ∈ l2) → l1.length ≤ l2.length
  | [], _, _, _ => Nat.zero_le _
  | x :: l1, l2, hn, hs => by
    have hx : x ∈ l2 := hs x (by simp)
    have h1 := List.nodup_cons.1 hn
    have := nodup_len (l1 := l1) (l2 := l2.erase x) h1.2 (fun y hy => (List.mem_erase_of_ne (by rintro rfl; exact h1.1 hy)).2 (hs y (by simp [hy])))
    rw [List.length_erase_of_mem hx] at this
    have := List.length_pos_of_mem hx
    simp only [List.length_cons]
    omega
theorem pigeon {α : Type} {l1 l2 : List α} (hn : l1.Nodup) (hs : ∀ x ∈ l1, x ∈ l2) (hl : l2.length ≤ l1.length) : ∀ x ∈ l2, x ∈ l1 := by
  haveI : DecidableEq α := fun a b => Classical.propDecidable (a = b)
  intro x hx
  refine Classical.byContradiction fun hc => ?_
  have := nodup_len (l1 := l1) (l2 := l2.erase x) hn (fun y hy => (List.mem_erase_of_ne (by rintro rfl; exact hc hy)).2 (hs y hy))
  rw [List.length_erase_of_mem hx] at this
  have := List.length_pos_of_mem hx
  omega

def opKey (o : Opr) : Lit := .int .i64 o.id
/-- the entries are the operations -/
theorem HP.keys {w : World} {base mb : Nat} {os : List Opr} {ps : List Nat} (h : HP w base mb os ps) (hids : (os.map (·.id)).Nodup) :
    ∃ D, w.ownsMap Try.prog 3 ptrC.R mb os.length D ∧ (∀ kl, Maps.has D kl = true → ∃ (i : Nat) (o : Opr) (g : Nat), os[i]? = some o ∧ ps[i]? = some g ∧ kl = opKey o ∧ D.atKey kl .nil = ptrD (some (g, 0))) ∧
      (∀ o ∈ os, Maps.has D (opKey o) = true) := by
  obtain ⟨f, ⟨D, h1, h2, h3⟩, hf⟩ := h.map
  have hsz := h1.size_le
  obtain ⟨es, rfl, hpw, hkl⟩ := h1.entries keyedInt
  have hat : ∀ (i : Nat) (o : Opr) (g : Nat), os[i]? = some o → ps[i]? = some g → (DataW.map es).atKey (opKey o) .nil = ptrD (some (g, 0)) := by
    intro i o g ho hg
    have := h3 (opKey o) trivial
    rw [show f (opKey o) = some (g, 0) from (hf o.id).trans (lookI_at hids h.len ho hg)] at this
    exact this
  have hex : ∀ (i : Nat) (o : Opr), os[i]? = some o → ∃ g, ps[i]? = some g := fun i o ho => ⟨ps[i]'(by rw [h.len]; exact (List.getElem?_eq_some_iff.1 ho).1), List.getElem?_eq_getElem _⟩
  have hhas : ∀ o ∈ os, Maps.has (DataW.map es) (opKey o) = true := by
    intro o ho
    obtain ⟨i, hi⟩ := List.mem_iff_getElem?.1 ho
    obtain ⟨g, hg⟩ := hex i o hi
    have h4 := hat i o g hi hg
    cases hb : Maps.has (DataW.map es) (opKey o)
    · rw [Maps.atKey_of_not_has hb] at h4
      cases h4
    · rfl
  refine ⟨_, h1, fun kl hk => ?_, hhas⟩
  have hmem : ∀ o ∈ os, opKey o ∈ es.map (·.1) := by
    intro o ho
    have h4 := hhas o ho
    rw [Maps.has_eq, List.any_eq_true] at h4
    obtain ⟨p, hp, h5⟩ := h4
    rw [← WideAt.sameKey_eq h5]
    exact List.mem_map.2 ⟨p, hp, rfl⟩
  have hnd : (os.map opKey).Nodup := by
    have : os.map opKey = (os.map (·.id)).map (Lit.int .i64) := by rw [List.map_map]; rfl
    rw [this]
    unfold List.Nodup
    rw [List.pairwise_map]
    exact List.Pairwise.imp (fun h1 h2 => h1 (by injection h2)) hids
  have hall := pigeon (l1 := os.map opKey) (l2 := es.map (·.1)) hnd (by
    intro x hx
    obtain ⟨o, ho, rfl⟩ := List.mem_map.1 hx
    exact hmem o ho) (by rw [List.length_map, List.length_map]; exact hsz)
  rw [Maps.has_eq, List.any_eq_true] at hk
  obtain ⟨p, hp, h5⟩ := hk
  have hkl' := WideAt.sameKey_eq h5
  obtain ⟨o, ho, h6⟩ := List.mem_map.1 (hall p.1 (List.mem_map.2 ⟨p, hp, rfl⟩))
  obtain ⟨i, hi⟩ := List.mem_iff_getElem?.1 ho
  obtain ⟨g, hg⟩ := hex i o hi
  have : kl = opKey o := by rw [← hkl', h6]
  subst this
  exact ⟨i, o, g, hi, hg, rfl, hat i o g hi hg⟩
end Go.Proofs.Ytcgbnlhloopnfaa
namespace Go.Proofs.Ytcgbnlhloopnfaa
open Go.RowKit
open Go.Maps (Keyed)

theorem cutsN_rng (l : List Ev) (k : Nat) : 0 ≤ cutsN l k ∧ cutsN l k ≤ k := by
  unfold cutsN
  have h1 := List.countP_le_length (p := fun e : Ev => e.kind == 3) (l := l.take k)
  have h2 : (l.take k).length ≤ k := List.length_take_le _ _
  omega
def pendB (c : Int) (o : Opr) : Bool := decide (o.done < 0) && o.era == c
def pendI (os : List Opr) (c : Int) : List Int := (os.filter (pendB c)).map (·.id)
def PendSome (w : World) (ids : List Int) (r : Ending) (w' : World) : Prop := ∃ (v : Value) (ks : List Int), r = .returned v ∧ ks.Perm ids ∧ ks.Pairwise (· ≤ ·) ∧ OwS w' w.heap.size 3 1 v (ks.map icell) ∧ Below w.heap.size w w'
/-- what is asked of the sort -/
def SortOk : Prop := ∀ (ks : List Int) (v : Value) (base : Nat) (w : World), OwS w base 3 1 v (ks.map icell) → ks.length ≤ 1000000 →
  Calls Try.prog 44 #[v] w fun e w' => e = .returned (.tuple #[]) ∧ ∃ ts : List Int, ts.Perm ks ∧ ts.Pairwise (· ≤ ·) ∧ OwS w' base 3 1 v (ts.map icell) ∧ w.grownBy w' v.ownBlock

theorem invKI {key : Value} {kl : Lit} (h : keyOf Try.prog 3 key = some kl) : ∃ x, key = Value.int .i64 x := by
  obtain ⟨x, hx, _, _⟩ := Maps.keyOf_int_inv Try.underlying3 h
  exact ⟨x, hx⟩
theorem invVP {v : Value} {y : DataW Unit × List MemPlace} (h : ptrR v = some y) : ∃ c, v = ptrV c := by
  unfold ptrR at h
  split at h
  · exact ⟨none, rfl⟩
  · exact ⟨some (_, _), rfl⟩
  · cases h
theorem ptr_of {c : Option (Nat × Nat)} {y : DataW Unit × List MemPlace} (h : ptrR (ptrV c) = some y) {a : Option (Nat × Nat)} (hy : y.1 = ptrD a) : c = a := by
  have h1 := ptrC.rval c
  have h2 : ptrR (ptrV c) = some (ptrD c, []) := h1
  rw [h2] at h
  cases h
  have h3 := ptrC.inv (ptrV a) c [] (by show ptrR (ptrV a) = some (ptrD c, []); have h4 : ptrR (ptrV a) = some (ptrD a, []) := ptrC.rval a; rw [h4]; rw [show ptrD c = ptrD a from hy])
  have h5 : ptrV a = ptrV c := h3
  rcases a with _ | ⟨a1, a2⟩ <;> rcases c with _ | ⟨c1, c2⟩ <;> simp [ptrV] at h5 ⊢
  exact ⟨h5.1.symm, h5.2.symm⟩

theorem icellOne (x : Int) : ∀ u ∈ icell x, u.oneCell' = true := by
  intro u hu
  simp [icell] at hu
  subst hu
  rfl
theorem OwS.isSl {w : World} {base size : Nat} {e : TypeId} {v : Value} {rows : List (List Value)} (h : OwS w base e size v rows) : ∃ A n c, v = .slice A n c := by
  obtain ⟨A, c, hv, -, -⟩ := h.form
  exact ⟨A, _, c, hv⟩
theorem idOf {os : List Opr} (hids : (os.map (·.id)).Nodup) {o o' : Opr} (h : o ∈ os) (h' : o' ∈ os) (he : o.id = o'.id) : o = o' := by
  obtain ⟨i, hi⟩ := List.mem_iff_getElem?.1 h
  obtain ⟨j, hj⟩ := List.mem_iff_getElem?.1 h'
  have hij : i = j := (List.getElem?_inj (l := os.map (·.id)) (by rw [List.length_map]; exact (List.getElem?_eq_some_iff.1 hi).1) hids).1 (by rw [List.getElem?_map, List.getElem?_map, hi, hj]; simp [he])
  subst hij
  rw [hi] at hj
  exact Option.some.inj hj
theorem same_key (o o' : Opr) : (opKey o').sameKey (opKey o) = decide (o'.id = o.id) := by
  unfold opKey
  by_cases h : o'.id = o.id
  · rw [h]; simp [Lit.sameKey]
  · simp [Lit.sameKey, h]
section
variable {os : List Opr} {cu : Int} {ks : List Int} {left : Lit → Bool} {o : Opr}
theorem pend_perm (hids : (os.map (·.id)).Nodup) (hnd : ks.Nodup) (hm : ∀ x, x ∈ ks ↔ ∃ o ∈ os, o.id = x ∧ pendB cu o = true) : ks.Perm (pendI os cu) := by
  refine (List.perm_ext_iff_of_nodup hnd ?_).2 fun x => (hm x).trans ?_
  · unfold pendI
    exact List.Nodup.sublist (List.Sublist.map _ List.filter_sublist) hids
  · unfold pendI
    rw [List.mem_map]
    constructor
    · rintro ⟨o, h1, h2, h3⟩
      exact ⟨o, List.mem_filter.2 ⟨h1, h3⟩, h2⟩
    · rintro ⟨o, h1, h2⟩
      exact ⟨o, (List.mem_filter.1 h1).1, h2, (List.mem_filter.1 h1).2⟩
theorem pend_nodup (hids : (os.map (·.id)).Nodup) (hnd : ks.Nodup) (hm : ∀ x, x ∈ ks ↔ ∃ o ∈ os, o.id = x ∧ pendB cu o = true ∧ left (opKey o) = false) (ho : o ∈ os) (hl : left (opKey o) = true) : (ks ++ [o.id]).Nodup := by
  rw [List.nodup_append]
  refine ⟨hnd, by simp, fun a ha b hb => ?_⟩
  simp at hb
  subst hb
  rintro rfl
  obtain ⟨o', h1, h2, -, h4⟩ := (hm _).1 ha
  have := idOf hids h1 ho h2
  subst this
  rw [hl] at h4
  cases h4
theorem pend_yes (hm : ∀ x, x ∈ ks ↔ ∃ o ∈ os, o.id = x ∧ pendB cu o = true ∧ left (opKey o) = false) (ho : o ∈ os) (hp : pendB cu o = true) :
    ∀ x, x ∈ ks ++ [o.id] ↔ ∃ o' ∈ os, o'.id = x ∧ pendB cu o' = true ∧ (left (opKey o') && !(opKey o').sameKey (opKey o)) = false := by
  intro x
  rw [List.mem_append, hm x]
  constructor
  · rintro (⟨o', h1, h2, h3, h4⟩ | h)
    · exact ⟨o', h1, h2, h3, by rw [h4]; rfl⟩
    · simp at h
      exact ⟨o, ho, h.symm, hp, by rw [same_key]; simp⟩
  · rintro ⟨o', h1, h2, h3, h4⟩
    rw [same_key, Bool.and_eq_false_iff] at h4
    rcases h4 with h4 | h4
    · exact .inl ⟨o', h1, h2, h3, h4⟩
    · have : o'.id = o.id := by simpa using h4
      exact .inr (by simp [← h2, this])
theorem pend_no (hids : (os.map (·.id)).Nodup) (hm : ∀ x, x ∈ ks ↔ ∃ o ∈ os, o.id = x ∧ pendB cu o = true ∧ left (opKey o) = false) (ho : o ∈ os) (hp : pendB cu o = false) :
    ∀ x, x ∈ ks ↔ ∃ o' ∈ os, o'.id = x ∧ pendB cu o' = true ∧ (left (opKey o') && !(opKey o').sameKey (opKey o)) = false := by
  intro x
  rw [hm x]
  constructor
  · rintro ⟨o', h1, h2, h3, h4⟩
    exact ⟨o', h1, h2, h3, by rw [h4]; rfl⟩
  · rintro ⟨o', h1, h2, h3, h4⟩
    rw [same_key, Bool.and_eq_false_iff] at h4
    rcases h4 with h4 | h4
    · exact ⟨o', h1, h2, h3, h4⟩
    · have h5 : o'.id = o.id := by simpa using h4
      have := idOf hids h1 ho h5
      subst this
      rw [hp] at h3
      cases h3
end
/-- the relation at the head of the loop over the map -/
def PendRel (os : List Opr) (c : Int) (D : DataW Unit) (mb r : Nat) (W : World) (v : Value) (wr : World) : Prop :=
  ∃ (left : Lit → Bool) (cnt : Nat) (ks : List Int), wr.ranges Try.prog 3 ptrC.R mb r os.length D left cnt ∧ OwS wr (r + 1) 3 1 v (ks.map icell) ∧ ks.Nodup ∧
    (∀ x, x ∈ ks ↔ ∃ o ∈ os, o.id = x ∧ pendB c o = true ∧ left (opKey o) = false) ∧ (∀ kl, left kl = true → Maps.has D kl = true) ∧ Below r W wr

set_option maxHeartbeats 4000000 in
set_option maxRecDepth 100000 in
theorem pending_some (HS : SortOk) (l : List Ev) (A : Option Addr) (c B : Nat) (w : World) (h : EvS w B A l) (hB : B ≤ w.heap.size) (hlen : l.length ≤ 1000000) (hwf : WfOp l) (os : List Opr) (hos : parseL l = some os) :
    Calls Try.prog 16 #[.slice A l.length c] w (PendSome w (pendI os (cutsN l l.length))) := by
  have HP := Lib.hid (parse_any l A c B w h hB hlen hwf)
  unfold ParsePost at HP
  simp only [hos] at HP
  obtain ⟨hids, hol⟩ := parseL_ids hos
  have hwo := parseL_wf hos hwf
  have HIDS := Lib.hid hids
  have HWO := Lib.hid hwo
  have HSO := Lib.hid HS
  clear hos hids hwo HS
  go_enter Try.func16, Try.ntmps16
  go_wp2_with fail
  refine HP.out.mono ?_
  rintro r w1 ⟨v, mb, ps, rfl, hp, hmb, hown, hb1⟩
  have hz1 := hb1.size
  have HPP := Lib.hid hp
  clear hown hp HP
  go_wp2
  go_loopw [6, 20] (fun n i wr => ∃ k : Nat, k ≤ l.length ∧ i = .int .i64 k ∧ n = .int .i64 (cutsN l k) ∧ Below w1.heap.size w1 wr) (fun _ i _ => l.length - (intOf i).toNat)
  case atStart => exact ⟨0, by omega, rfl, rfl, Below.refl _ _⟩
  case round =>
    obtain ⟨k, hk, rfl, rfl, hb⟩ := hrel
    have hz := hb.size
    have hbd := cutsN_rng l k
    have hbw : Below w.heap.size w wr := hb1.trans (hb.mono hz1)
    by_cases hlt : k < l.length
    · obtain ⟨b', off', e, rfl, hbB, he, c0, c1, c2', c3, c4, c5⟩ := EvS.at_ (h.below' hbw hB) (k := k) hlt
      have HCS := Lib.hid (cutsN_succ he)
      clear he
      have hbl : b' < wr.heap.size := by omega
      by_cases h3 : e.kind = 3
      · rw [if_pos h3] at HCS
        have h3' : (e.kind == 3) = true := by simp [h3]
        clear h3
        go_wp2
        go_roundw
        case rel => exact ⟨k + 1, by omega, by go_num, by rw [HCS.out], hb.alloc hz _⟩
        case measure => simp [intOf]; omega
      · rw [if_neg h3] at HCS
        have h3' : (e.kind == 3) = false := by simp [h3]
        clear h3
        go_wp2
        go_roundw
        case rel => exact ⟨k + 1, by omega, by go_num, by rw [HCS.out]; simp, hb.alloc hz _⟩
        case measure => simp [intOf]; omega
    · obtain rfl : k = l.length := by omega
      clear h hlt hk
      generalize cutsN l l.length = cu at *
      have hpr := HPP.out.below hb
      obtain ⟨D, hD, hkeys, hhas⟩ := hpr.keys HIDS.out
      have HK := Lib.hid hkeys
      have HH := Lib.hid hhas
      have HPR := Lib.hid hpr
      clear hkeys hhas hpr
      rename World => wm
      go_wp2_with (at_range; refine wpList_range_own _ rfl _ 60 rfl 3 64 keyedInt Try.underlying60 _ mb _ D rfl hD ?_; intro w0 hrg0 hg0 hs0)
      go_frame
      have hb0 : Below wm.heap.size wm w0 := ⟨hg0.os, hg0.tape, hg0.output, hg0.size, fun k hk => hg0.block k hk (by simp)⟩
      clear hD hg0 hs0
      go_loopw [9] (fun v wr => PendRel os cu D mb wm.heap.size wm v wr) (fun _ wr => wr.rangeLeft mb wm.heap.size)
      case atStart =>
        refine ⟨_, _, [], hrg0, OwS.nil _ _ _ _, by simp, fun x => ⟨fun hx => by simp at hx, fun ⟨o, ho, _, _, h4⟩ => ?_⟩, fun kl h => h, hb0⟩
        rw [HH.out o ho] at h4
        cases h4
      case round =>
        obtain ⟨left, cnt, ks, hrg, hown, hnd, hmem, hlh, hbr⟩ := hrel
        have hzr := hbr.size
        go_wp2_with (at_next; refine wpList_next_ranges _ rfl _ rfl 3 keyedInt ptrC.R (Value.int .i64) ptrV (fun key kl hk => invKI hk) (fun v y hv => invVP hv) mb wm.heap.size os.length D left cnt rfl hrg ?_ ?_)
        · intro hc0 hl0
          have hks := pend_perm HIDS.out hnd (fun x => (hmem x).trans ⟨fun ⟨o, h1, h2, h3, _⟩ => ⟨o, h1, h2, h3⟩, fun ⟨o, h1, h2, h3⟩ => ⟨o, h1, h2, h3, hl0 _⟩⟩)
          have hln : ks.length ≤ 1000000 := by
            have h1 := hks.length_eq
            have h2 : (pendI os cu).length ≤ os.length := by unfold pendI; rw [List.length_map]; exact List.length_filter_le _ _
            omega
          have HSS := Lib.hid (HSO.out ks _ _ wr hown hln)
          have HKS := Lib.hid hks
          obtain ⟨Ak, nk, ck, rfl⟩ := hown.isSl
          clear hmem hlh hnd hks hln hrg
          go_wp2_with fail
          refine HSS.out.mono ?_
          rintro s w2 ⟨rfl, ts, hts, htp, hown2, hg2⟩
          have hbf : Below wm.heap.size wm w2 := hbr.grown hg2 hzr (fun k hk => Nat.le_of_succ_le (hown.lt hk).1)
          go_wp2
          go_ret
          exact ⟨_, ts, rfl, hts.trans HKS.out, htp, hown2.mono (by omega), hbw.trans (hbf.mono (by omega))⟩
        · intro x c' kl yd yp w2 cnt2 hkey hlk hv hat hrg2 hlt2 hg2 hs2 hen
          obtain ⟨x', ex, rfl, -⟩ := Maps.keyOf_int_inv Try.underlying3 hkey
          cases ex
          obtain ⟨i, o, g, hoi, hgi, hko, hato⟩ := HK.out _ (hlh _ hlk)
          obtain rfl : x = o.id := by injection hko
          obtain rfl : c' = some (g, 0) := ptr_of hv ((hat .nil).symm.trans hato)
          obtain ⟨-, hblk⟩ := HPR.out.blk i o g hoi hgi
          have hgl : g < wm.heap.size := (Array.getElem?_eq_some_iff.1 hblk).1
          have hblk2 : w2.heap[g]? = some (.cells o.cells.toArray 39) := (hg2.block g (by omega) (by simp; omega)).trans ((hbr.block g hgl).trans hblk)
          have d5 : w2.cell? ⟨g, 5, none⟩ = some (.int .i64 o.era) := by rw [cell_of_row _ _ _ _ _ _ hblk2]; rfl
          have d7 : w2.cell? ⟨g, 7, none⟩ = some (.int .i64 o.done) := by rw [cell_of_row _ _ _ _ _ _ hblk2]; rfl
          have hgl2 : g < w2.heap.size := (Array.getElem?_eq_some_iff.1 hblk2).1
          have hown2 := hown.kept hg2 (.inr fun e => by have := (hown.lt e).1; omega)
          have hz2 : wm.heap.size < w2.heap.size := hrg2.lt
          have hom := List.mem_of_getElem? hoi
          have hb2 : Below wm.heap.size wm w2 := hbr.grown hg2 hzr (fun k hk => by cases hk; exact Nat.le_refl _)
          have hmbl : mb < wm.heap.size := by obtain ⟨f, hf, _⟩ := HPR.out.map; exact hf.lt
          have hlh2 : ∀ kl, (left kl && !kl.sameKey (opKey o)) = true → Maps.has D kl = true := fun kl h => hlh kl (by rw [Bool.and_eq_true] at h; exact h.1)
          have HLH2 := Lib.hid hlh2
          have HMEM := Lib.hid hmem
          have HND := Lib.hid hnd
          have HRG := Lib.hid hrg
          have HLK := Lib.hid (show left (opKey o) = true from hlk)
          have HOM := Lib.hid hom
          have hlen2 : ks.length ≤ os.length := by
            have := nodup_len hnd (l2 := os.map (·.id)) (fun x hx => by obtain ⟨o, ho, h2, _⟩ := (hmem x).1 hx; exact List.mem_map.2 ⟨o, ho, h2⟩)
            rwa [List.length_map] at this
          clear hlh2 hlh hmem hnd hato hat hv hkey hko hlk hblk hblk2 hs2 hoi hgi hown hrg hg2 hom
          simp only [ptrV] at hen
          by_cases hp : pendB cu o = true
          · have hp2 := hp
            unfold pendB at hp2
            rw [Bool.and_eq_true] at hp2
            obtain ⟨q1, q2⟩ := hp2
            have q1' : o.done < 0 := by simpa using q1
            have HP1 := Lib.hid hp
            clear hp q1
            go_wp2_with (at_builtin; refine wpList_ap1 rfl (.tmp 50) (.tmp 52) _ rfl elemInt rfl hown2 (icell o.id) _ rfl _ rfl (by simp) (icellOne _) (by simp [maxLen]; omega) (by simp; omega) hz2 ?_)
            intro v3 w3 hown3 hg3 hv3
            have hne1 : some mb ≠ (_ : Value).ownBlock := fun e => by have := (hown2.lt e.symm).1; omega
            have hne2 : some wm.heap.size ≠ (_ : Value).ownBlock := fun e => by have := (hown2.lt e.symm).1; omega
            have hrg3 := (hrg2.alloc _).kept hg3 hne1 hne2
            have hb3 : Below wm.heap.size wm w3 := (hb2.alloc (Nat.le_of_lt hz2) _).grown hg3 (by simp; omega) (fun k hk => Nat.le_of_succ_le (hown2.lt hk).1)
            clear hg3 hv3
            go_wp2
            go_roundw
            case rel => exact ⟨_, cnt2, ks ++ [o.id], hrg3, by simpa using hown3, pend_nodup HIDS.out HND.out HMEM.out HOM.out HLK.out, pend_yes HMEM.out HOM.out HP1.out, HLH2.out, hb3⟩
            case measure => rw [hrg3.left_eq, HRG.out.left_eq]; exact hlt2
          · have hp0 : pendB cu o = false := by simpa using hp
            have hp2 := hp0
            unfold pendB at hp2
            have HP1 := Lib.hid hp0
            clear hp hp0
            by_cases q1 : o.done < 0
            · have q2 : (o.era == cu) = false := by simpa [q1] using hp2
              clear hp2
              go_wp2
              go_roundw
              case rel => exact ⟨_, cnt2, ks, hrg2, hown2, HND.out, pend_no HIDS.out HMEM.out HOM.out HP1.out, HLH2.out, hb2⟩
              case measure => rw [hrg2.left_eq, HRG.out.left_eq]; exact hlt2
            · clear hp2
              go_wp2
              go_roundw
              case rel => exact ⟨_, cnt2, ks, hrg2, hown2, HND.out, pend_no HIDS.out HMEM.out HOM.out HP1.out, HLH2.out, hb2⟩
              case measure => rw [hrg2.left_eq, HRG.out.left_eq]; exact hlt2
end Go.Proofs.Ytcgbnlhloopnfaa
