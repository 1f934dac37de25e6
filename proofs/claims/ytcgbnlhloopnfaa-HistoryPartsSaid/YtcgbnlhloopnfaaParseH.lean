/- The memory of history.parse: one block an operation, a map of pointers to them. -/
import Derived.Test.YtcgbnlhloopnfaaParseSpec
import Derived.Test.YtcgbnlhloopnfaaMem
import Derived.Test.YtcgbnlhloopnfaaMaps
namespace Go.Proofs.Ytcgbnlhloopnfaa
open Go.RowKit

def lookI (os : List Opr) (ps : List Nat) (x : Int) : Option (Nat × Nat) := ((os.zip ps).find? (fun p => p.1.id == x)).map (fun p => (p.2, 0))
theorem lookI_none {os : List Opr} {ps : List Nat} {x : Int} (h : findO os x = none) : lookI os ps x = none := by
  unfold lookI
  rw [List.find?_eq_none.2]
  · rfl
  · intro p hp
    have := findO_none h p.1 (List.of_mem_zip hp).1
    simpa using this
theorem lookI_some {os : List Opr} {x : Int} {o : Opr} (h : findO os x = some o) : ∀ {ps : List Nat}, ps.length = os.length → ∃ (i g : Nat), os[i]? = some o ∧ ps[i]? = some g ∧ lookI os ps x = some (g, 0) ∧ o.id = x := by
  induction os with
  | nil => simp [findO] at h
  | cons a os ih =>
    intro ps hl
    cases ps with
    | nil => simp at hl
    | cons g ps =>
      unfold findO at h
      rw [List.find?_cons] at h
      by_cases ha : (a.id == x) = true
      · rw [ha] at h
        cases h
        exact ⟨0, g, rfl, rfl, by simp [lookI, ha], by simpa using ha⟩
      · have ha' : (a.id == x) = false := by simpa using ha
        rw [ha'] at h
        obtain ⟨i, g', h1, h2, h3, h4⟩ := ih h (ps := ps) (by simpa using hl)
        refine ⟨i + 1, g', by simpa using h1, by simpa using h2, ?_, h4⟩
        unfold lookI at h3 ⊢
        rw [List.zip_cons_cons, List.find?_cons, ha']
        exact h3
theorem lookI_app {os : List Opr} {ps : List Nat} {x : Int} {o : Opr} {g : Nat} (hl : ps.length = os.length) (hn : findO os o.id = none) : lookI (os ++ [o]) (ps ++ [g]) x = if x = o.id then some (g, 0) else lookI os ps x := by
  unfold lookI
  rw [List.zip_append hl.symm, List.find?_append]
  by_cases hx : x = o.id
  · subst hx
    have := lookI_none (ps := ps) hn
    unfold lookI at this
    rw [Option.map_eq_none_iff] at this
    rw [this]
    simp
  · rw [if_neg hx]
    have : (o.id == x) = false := by simp; exact fun h => hx h.symm
    simp [this]
theorem lookI_fin {e : Ev} {k : Nat} {x : Int} : ∀ {os : List Opr} {ps : List Nat}, lookI (os.map (Opr.fin e k)) ps x = lookI os ps x
  | [], _ => rfl
  | a :: os, [] => rfl
  | a :: os, g :: ps => by
    have ih := lookI_fin (e := e) (k := k) (x := x) (os := os) (ps := ps)
    unfold lookI at ih ⊢
    simp only [List.map_cons, List.zip_cons_cons, List.find?_cons, fin_id]
    split
    · rfl
    · exact ih

structure HP (w : World) (base mb : Nat) (os : List Opr) (ps : List Nat) : Prop where
  len : ps.length = os.length
  blk : ∀ (i : Nat) (o : Opr) (g : Nat), os[i]? = some o → ps[i]? = some g → base ≤ g ∧ w.heap[g]? = some (.cells o.cells.toArray 39)
  nodup : ps.Nodup
  map : ∃ f, MapG ptrC w Try.prog 3 mb os.length f ∧ ∀ x : Int, f (.int .i64 x) = lookI os ps x

section
variable {w w' : World} {base mb : Nat} {os : List Opr} {ps : List Nat}
theorem HP.made (w : World) (base : Nat) : HP (w.alloc (.map #[] 0)) base w.heap.size [] [] :=
  ⟨rfl, by simp, by simp, fun _ => none, MapG.made w Try.prog 3, fun _ => rfl⟩
theorem HP.at_ (h : HP w base mb os ps) {g : Nat} (hg : g ∈ ps) : ∃ (i : Nat) (o : Opr), os[i]? = some o ∧ ps[i]? = some g ∧ base ≤ g ∧ w.heap[g]? = some (.cells o.cells.toArray 39) := by
  obtain ⟨i, hi⟩ := List.mem_iff_getElem?.1 hg
  have hl : i < os.length := by rw [← h.len]; exact (List.getElem?_eq_some_iff.1 hi).1
  have ho := List.getElem?_eq_getElem hl
  exact ⟨i, _, ho, hi, h.blk i _ g ho hi⟩
theorem HP.mb_ne (h : HP w base mb os ps) {g : Nat} (hg : g ∈ ps) : g ≠ mb := by
  rintro rfl
  obtain ⟨i, o, _, _, _, hb⟩ := h.at_ hg
  obtain ⟨f, ⟨D, ⟨es, clock, hm, _⟩, _⟩, _⟩ := h.map
  rw [hb] at hm
  cases hm
theorem HP.kept (h : HP w base mb os ps) {row : Option Nat} (hg : w.grownBy w' row) (hps : ∀ g ∈ ps, some g ≠ row) (hmb : some mb ≠ row) : HP w' base mb os ps := by
  refine ⟨h.len, fun i o g ho hgi => ?_, h.nodup, ?_⟩
  · obtain ⟨h1, h2⟩ := h.blk i o g ho hgi
    exact ⟨h1, (hg.block g (Array.getElem?_eq_some_iff.1 h2).1 (hps g (List.mem_of_getElem? hgi))).trans h2⟩
  · obtain ⟨f, hf, hx⟩ := h.map
    exact ⟨f, hf.kept hg hmb, hx⟩
theorem HP.below (h : HP w base mb os ps) (hb : Below w.heap.size w w') : HP w' base mb os ps :=
  h.kept (row := none) ⟨hb.os, hb.tape, hb.output, hb.size, fun k hk _ => hb.block k hk⟩ (by simp) (by simp)
theorem HP.alloc (h : HP w base mb os ps) (o : Obj) : HP (w.alloc o) base mb os ps := h.kept (World.grownBy_alloc w o none) (by simp) (by simp)
theorem HP.drewN (h : HP w base mb os ps) (n : Nat) : HP (w.drewN n) base mb os ps := h.kept (row := none) ⟨rfl, rfl, rfl, Nat.le_refl _, fun _ _ _ => rfl⟩ (by simp) (by simp)
theorem OwS.ne_map {e : TypeId} {size : Nat} {v : Value} {rows : List (List Value)} {b : Nat} {P : Program} {kt : TypeId} {n : Nat} {β : Type} {C : Codec β} {f : Lit → β} (h : OwS w base e size v rows) (hm : MapG C w P kt b n f) : v.ownBlock ≠ some b := by
  rcases h.2.2 with ⟨rfl, _⟩ | ⟨g, cap, cur, rfl, _, hg, _⟩
  · simp [Value.ownBlock]
  · obtain ⟨D, ⟨es, clock, h0, _⟩, _⟩ := hm
    simp only [Value.ownBlock]
    rintro hgg
    injection hgg with hgg
    subst hgg
    rw [hg] at h0
    cases h0
/-- one operation more -/
theorem HP.add (h : HP w base mb os ps) (hbs : base ≤ w.heap.size) {o : Opr} (hn : findO os o.id = none) {w2 : World} {f f' : Lit → Option (Nat × Nat)} (hf : ∀ x : Int, f (.int .i64 x) = lookI os ps x)
    (hf' : f' = updK f (.int .i64 o.id) (some (w.heap.size, 0))) (hm : MapG ptrC w2 Try.prog 3 mb (os.length + 1) f') (hg : (w.alloc (.cells o.cells.toArray 39)).grownBy w2 (some mb)) : HP w2 base mb (os ++ [o]) (ps ++ [w.heap.size]) := by
  have hmlt : mb < w.heap.size := by obtain ⟨f, hf, _⟩ := h.map; exact hf.lt
  have hlt : ∀ g ∈ ps, g < w.heap.size := fun g hg => by obtain ⟨i, o, _, _, _, hb⟩ := h.at_ hg; exact (Array.getElem?_eq_some_iff.1 hb).1
  refine ⟨by simp [h.len], fun i o' g ho hgi => ?_, ?_, f', by simpa using hm, fun x => ?_⟩
  · rcases Nat.lt_or_ge i os.length with hi | hi
    · rw [List.getElem?_append_left hi] at ho
      rw [List.getElem?_append_left (by rw [h.len]; exact hi)] at hgi
      obtain ⟨h1, h2⟩ := h.blk i o' g ho hgi
      have hgl := (Array.getElem?_eq_some_iff.1 h2).1
      refine ⟨h1, ?_⟩
      rw [hg.block g (by simp; omega) (by simp; exact h.mb_ne (List.mem_of_getElem? hgi)), heap_alloc_old, h2]
      exact hgl
    · rw [List.getElem?_append_right hi] at ho
      rw [List.getElem?_append_right (by rw [h.len]; exact hi), h.len] at hgi
      have hi0 : i - os.length = 0 := by
        rcases Nat.eq_zero_or_pos (i - os.length) with h0 | h0
        · exact h0
        · rw [List.getElem?_eq_none (by simp; omega)] at ho; cases ho
      rw [hi0] at ho hgi
      simp at ho hgi
      subst ho hgi
      refine ⟨hbs, ?_⟩
      rw [hg.block w.heap.size (by simp) (by simp; omega), heap_alloc_new]
  · rw [List.nodup_append]
    refine ⟨h.nodup, by simp, fun a ha b hb => ?_⟩
    simp at hb
    subst hb
    have := hlt a ha
    omega
  · rw [hf', lookI_app h.len hn]
    unfold updK
    by_cases hx : x = o.id
    · subst hx; simp [Lit.sameKey]
    · simp [Lit.sameKey, hx, hf]
/-- an append onto a slice of another element type -/
theorem HP.app (h : HP w base mb os ps) {base' : Nat} {e : TypeId} {size : Nat} {v : Value} {rows : List (List Value)} (hown : OwS w base' e size v rows) (hne : e ≠ 39) (hg : w.grownBy w' v.ownBlock) : HP w' base mb os ps := by
  refine h.kept hg (fun g hgm e => ?_) (fun e => ?_)
  · obtain ⟨_, _, _, _, _, hb⟩ := h.at_ hgm
    exact hown.blk_ne hb hne e.symm
  · obtain ⟨f, hf, _⟩ := h.map
    exact OwS.ne_map hown hf e.symm
/-- an answer -/
theorem HP.fin (h : HP w base mb os ps) (hids : (os.map (·.id)).Nodup) {e : Ev} {k i g : Nat} {o : Opr} (ho : os[i]? = some o) (hg : ps[i]? = some g) (hid : o.id = e.op) :
    HP ((w.setCell ⟨g, 7, none⟩ (.int .i64 k)).setCell ⟨g, 2, none⟩ (.int .i64 e.val)) base mb (os.map (Opr.fin e k)) ps := by
  obtain ⟨hbg, hblk⟩ := h.blk i o g ho hg
  have hgm := List.mem_of_getElem? hg
  have hother : ∀ b, b ≠ g → ((w.setCell ⟨g, 7, none⟩ (.int .i64 k)).setCell ⟨g, 2, none⟩ (.int .i64 e.val)).heap[b]? = w.heap[b]? := fun b hb => by
    rw [heap_setCell_other _ _ _ _ hb, heap_setCell_other _ _ _ _ hb]
  refine ⟨by rw [List.length_map]; exact h.len, fun j o' g' ho' hg' => ?_, h.nodup, ?_⟩
  · rw [List.getElem?_map] at ho'
    obtain ⟨o2, ho2, rfl⟩ := Option.map_eq_some_iff.1 ho'
    by_cases hj : j = i
    · subst hj
      rw [ho] at ho2; cases ho2
      rw [hg] at hg'; cases hg'
      refine ⟨hbg, ?_⟩
      rw [heap_setCell_same _ _ _ _ _ _ (heap_setCell_same _ _ _ _ _ _ hblk)]
      simp [Opr.fin, hid, Opr.cells]
    · have hne : g' ≠ g := by
        rintro rfl
        exact hj ((List.getElem?_inj (List.getElem?_eq_some_iff.1 hg').1 h.nodup).1 (hg'.trans hg.symm))
      obtain ⟨h1, h2⟩ := h.blk j o2 g' ho2 hg'
      refine ⟨h1, ?_⟩
      rw [hother g' hne, h2]
      have : o2.id ≠ e.op := by
        rintro h3
        refine hj ((List.getElem?_inj (l := os.map (·.id)) (by rw [List.length_map]; exact (List.getElem?_eq_some_iff.1 ho2).1) hids).1 ?_)
        rw [List.getElem?_map, List.getElem?_map, ho2, ho]
        simp [h3, hid]
      simp [Opr.fin, this]
  · obtain ⟨f, hf, hx⟩ := h.map
    exact ⟨f, by rw [List.length_map]; exact hf.block (hother mb (fun e => h.mb_ne hgm e.symm)), fun x => by rw [hx, lookI_fin]⟩
end
end Go.Proofs.Ytcgbnlhloopnfaa
