/- tegularef50.put: plain, and its walk. -/
import Derived.Test.YtjgjofepedcfnaaGreatRqI
namespace Go.Proofs.YtjgjofepedcfnaaGreat
open Go.RowKit Go.Maps
def lateB (y x : Pw) : Bool := decide (x.g < y.g) || (y.g == x.g && decide (x.p ≤ y.p))
def sameB (y x : Pw) : Bool := y.g == x.g && y.p == x.p
def putL (x : Pw) : Bool → List Pw → List Pw
 | done, [] => if done then [] else [x]
 | done, y :: l => (if lateB y x && !done then [x] else []) ++ ((if sameB y x then [] else [y]) ++ putL x (done || lateB y x) l)
def putW (l : List Pw) (x : Pw) : List Pw := putL x false l
def gtB (x y : Pw) : Bool := decide (ltW x y)
theorem ltW_tr {x y z : Pw} (h : ltW x y) (k : ltW y z) : ltW x z := by unfold ltW at *; omega
theorem ltW_ir {x : Pw} (h : ltW x x) : False := by unfold ltW at h; omega
theorem putL_true (x : Pw) : ∀ l : List Pw, (∀ y ∈ l, ltW x y) → putL x true l = l
 | [], _ => rfl
 | y :: l, h => by
  have h1 := h y List.mem_cons_self
  have h2 : sameB y x = false := by
   unfold sameB
   unfold ltW at h1
   rw [Bool.and_eq_false_iff]
   by_cases e : y.g = x.g
   ·right; simp; omega
   ·left; simpa using e
  have ih := putL_true x l fun z hz => h z (List.mem_cons_of_mem _ hz)
  simp [putL, h2, ih]
theorem putL_eq (x : Pw) : ∀ l : List Pw, l.Pairwise ltW → putL x false l = (l.filter fun y => gtB y x) ++ x :: (l.filter fun y => gtB x y)
 | [], _ => by simp [putL]
 | y :: l, h => by
  rw [List.pairwise_cons] at h
  by_cases h1 : ltW y x
  ·have e1 : lateB y x = false := by
    unfold lateB
    unfold ltW at h1
    simp
    omega
   have e2 : sameB y x = false := by
    unfold sameB
    unfold ltW at h1
    rw [Bool.and_eq_false_iff]
    by_cases e : y.g = x.g
    ·right; simp; omega
    ·left; simpa using e
   have e3 : gtB y x = true := by simp [gtB, h1]
   have e4 : gtB x y = false := by
    simp only [gtB, decide_eq_false_iff_not]
    intro h2
    exact ltW_ir (ltW_tr h1 h2)
   have ih := putL_eq x l h.2
   simp [putL, e1, e2, e3, e4, ih]
  ·have e1 : lateB y x = true := by
    unfold lateB
    unfold ltW at h1
    simp
    omega
   have hall : ∀ z ∈ l, ltW x z := fun z hz => by
    have h2 := h.1 z hz
    unfold ltW at *
    omega
   have e3 : gtB y x = false := by simp [gtB, h1]
   have f1 : (l.filter fun y => gtB y x) = [] := by
    rw [List.filter_eq_nil_iff]
    intro z hz
    simp only [gtB, decide_eq_true_eq]
    intro h2
    exact ltW_ir (ltW_tr h2 (hall z hz))
   have f2 : (l.filter fun y => gtB x y) = l := by
    rw [List.filter_eq_self]
    intro z hz
    simpa [gtB] using hall z hz
   have hp := putL_true x l hall
   by_cases e : sameB y x = true
   ·have e4 : gtB x y = false := by
     simp only [gtB, decide_eq_false_iff_not]
     unfold sameB at e
     simp at e
     unfold ltW
     omega
    simp [putL, e1, e, e3, e4, hp, f1, f2]
   ·have e4 : gtB x y = true := by
     simp only [gtB, decide_eq_true_eq]
     unfold sameB at e
     simp at e
     unfold ltW at *
     omega
    rw [Bool.not_eq_true] at e
    simp [putL, e1, e, e3, e4, hp, f1, f2]
theorem putW_srt {ws l : List Pw} {x : Pw} (h : SrtW ws l) : SrtW (ws ++ [x]) (putW l x) := by
 unfold putW
 rw [putL_eq x l h.2]
 refine ⟨fun z => ?_, ?_⟩
 ·rw [lastW_snoc]
  simp only [List.mem_append, List.mem_filter, List.mem_cons, gtB, decide_eq_true_eq]
  by_cases e : x.g = z.g ∧ x.p = z.p
  ·rw [if_pos e]
   constructor
   ·rintro (h1 | h1 | h1)
    ·exact absurd h1.2 (by unfold ltW; omega)
    ·rw [h1]
    ·exact absurd h1.2 (by unfold ltW; omega)
   ·intro h1
    injection h1 with h1
    exact .inr (.inl h1.symm)
  ·rw [if_neg e, ← h.1 z]
   constructor
   ·rintro (h1 | h1 | h1)
    ·exact h1.1
    ·exact absurd ⟨by rw [h1], by rw [h1]⟩ e
    ·exact h1.1
   ·intro h1
    by_cases h2 : ltW z x
    ·exact .inl ⟨h1, h2⟩
    ·refine .inr (.inr ⟨h1, ?_⟩)
     unfold ltW at *
     omega
 ·rw [List.pairwise_append]
  refine ⟨h.2.filter _, ?_, ?_⟩
  ·rw [List.pairwise_cons]
   exact ⟨fun z hz => by simpa [gtB] using (List.mem_filter.1 hz).2, h.2.filter _⟩
  ·intro a ha b hb
   have h1 : ltW a x := by simpa [gtB] using (List.mem_filter.1 ha).2
   rcases List.mem_cons.1 hb with rfl | hb
   ·exact h1
   ·have h2 : ltW x b := by simpa [gtB] using (List.mem_filter.1 hb).2
    exact ltW_tr h1 h2
theorem srt_nil : SrtW [] [] := ⟨fun x => by simp [lastW], List.Pairwise.nil⟩
theorem srt_unique {ws l l' : List Pw} (h : SrtW ws l) (h' : SrtW ws l') : l = l' := by
 have key : ∀ l l' : List Pw, l.Pairwise ltW → l'.Pairwise ltW → (∀ x, x ∈ l ↔ x ∈ l') → l = l' := by
  intro l
  induction l with
  | nil =>
   intro l' _ _ hm
   cases l' with
   | nil => rfl
   | cons b m => exact absurd ((hm b).2 List.mem_cons_self) (by simp)
  | cons a l ih =>
   intro l' h1 h2 hm
   cases l' with
   | nil => exact absurd ((hm a).1 List.mem_cons_self) (by simp)
   | cons b m =>
    rw [List.pairwise_cons] at h1 h2
    have hab : a = b := by
     rcases List.mem_cons.1 ((hm a).1 List.mem_cons_self) with e | e
     ·exact e
     ·rcases List.mem_cons.1 ((hm b).2 List.mem_cons_self) with e2 | e2
      ·exact e2.symm
      ·exact absurd (ltW_tr (h1.1 _ e2) (h2.1 _ e)) ltW_ir
    subst hab
    congr 1
    refine ih m h1.2 h2.2 fun z => ⟨fun hz => ?_, fun hz => ?_⟩
    ·rcases List.mem_cons.1 ((hm z).1 (List.mem_cons_of_mem _ hz)) with e | e
     ·subst e; exact absurd (h1.1 _ hz) ltW_ir
     ·exact e
    ·rcases List.mem_cons.1 ((hm z).2 (List.mem_cons_of_mem _ hz)) with e | e
     ·subst e; exact absurd (h2.1 _ hz) ltW_ir
     ·exact e
 exact key l l' h.2 h'.2 fun x => (h.1 x).trans (h'.1 x).symm
theorem putL_len (x : Pw) : ∀ (l : List Pw) (done : Bool), (putL x done l).length ≤ l.length + (if done then 0 else 1)
 | [], true => by simp [putL]
 | [], false => by simp [putL]
 | y :: l, done => by
  have ih := putL_len x l (done || lateB y x)
  simp only [putL, List.length_append, List.length_cons]
  have h2 : (if sameB y x then ([] : List Pw) else [y]).length ≤ 1 := by split <;> simp
  cases done
  ·cases hl : lateB y x
   ·simp [hl] at ih ⊢; omega
   ·simp [hl] at ih ⊢; omega
  ·simp at ih ⊢; omega
/-! ### memory -/
theorem PwS.at2 {w : World} {B : Nat} {A : Option Addr} {l : List Pw} (h : PwS w B A l) (hB : B ≤ w.heap.size) {k : Nat} {m : Pw} (hm : l[k]? = some m) : ∃ b off, A = some ⟨b, off, none⟩ ∧ b < B ∧ ∀ W, Below w.heap.size w W → ∀ (j : Nat) (u : Value), m.cells[j]? = some u → W.cell? ⟨b, off + k * 11 + j, none⟩ = some u := by
 obtain ⟨b, off, rfl, hb, hc⟩ := h.at_ hm
 exact ⟨b, off, rfl, hb, fun W hW j u hu => (hW.cell (p := ⟨b, off + k * 11 + j, none⟩) (by show b < _; omega)).trans (hc j u hu)⟩
def PwB (w : World) (X : Nat) (m : Pw) : Prop := w.heap[X]? = some (.cells #[.int .i64 m.g, .int .i64 m.p, .int .u64 m.v, .int .u8 m.d.b0, .int .u8 m.d.b1, .int .u8 m.d.b2, .int .u8 m.d.b3, .int .u8 m.d.b4, .int .u8 m.d.b5, .int .u8 m.d.b6, .int .u8 m.d.b7] 64 (0, 0))
section
variable {w w' : World} {X B : Nat} {m : Pw}
theorem PwB.lt (h : PwB w X m) : X < w.heap.size := (Array.getElem?_eq_some_iff.1 h).1
theorem PwB.below (h : PwB w X m) (hb : Below B w w') (hX : X < B) : PwB w' X m := (hb.block _ hX).trans h
theorem PwB.grown {o : Option Nat} (h : PwB w X m) (hg : w.grownBy w' o) (hne : o ≠ some X) : PwB w' X m := (hg.block _ h.lt (fun he => hne he.symm)).trans h
theorem PwB.made (w : World) (m : Pw) : PwB (w.alloc (.cells #[.int .i64 m.g, .int .i64 m.p, .int .u64 m.v, .int .u8 m.d.b0, .int .u8 m.d.b1, .int .u8 m.d.b2, .int .u8 m.d.b3, .int .u8 m.d.b4, .int .u8 m.d.b5, .int .u8 m.d.b6, .int .u8 m.d.b7] 64)) w.heap.size m := heap_alloc_new w _
theorem PwB.cell (h : PwB w X m) {j : Nat} {u : Value} (hu : m.cells[j]? = some u) : w.cell? ⟨X, j, none⟩ = some u := by
 rw [cell_of_row _ _ _ _ _ _ h]
 have : (#[.int .i64 m.g, .int .i64 m.p, .int .u64 m.v, .int .u8 m.d.b0, .int .u8 m.d.b1, .int .u8 m.d.b2, .int .u8 m.d.b3, .int .u8 m.d.b4, .int .u8 m.d.b5, .int .u8 m.d.b6, .int .u8 m.d.b7] : Array Value) = m.cells.toArray := rfl
 rw [this, List.getElem?_toArray]
 exact hu
end
theorem Pw.one (m : Pw) : ∀ u ∈ m.cells, u.oneCell' = true := by
 intro u hu
 simp only [Pw.cells, List.mem_cons, List.not_mem_nil, or_false] at hu
 rcases hu with rfl | rfl | rfl | rfl | rfl | rfl | rfl | rfl | rfl | rfl | rfl <;> rfl
theorem elemPwS : Elem Tryz.prog 24 64 11 32 := Elem.mk (z := .agg #[.int .i64 0, .int .i64 0, .int .u64 0, .int .u8 0, .int .u8 0, .int .u8 0, .int .u8 0, .int .u8 0, .int .u8 0, .int .u8 0, .int .u8 0]) Tryz.underlying24 (by kernel_rfl) (by decide) rfl
theorem kOpen {P : Program} {c : Code} {Q : Exit → Act → World → Prop} {K : Act → World → Prop} {a : Act} {w : World} (h : ∀ a w, Code.wp P c Q a w → K a w) (g : Code.wp P c Q a w) : K a w := h a w g
def PutR (w : World) (ms : List Pw) (m : Pw) (s5 s6 s7 : Value) (wr : World) : Prop :=
 ∃ (k : Nat) (done : Bool) (out : List Pw), k ≤ ms.length ∧ s6 = .bool done ∧ s7 = .int .i64 k ∧ out ++ putL m done (ms.drop k) = putW ms m ∧ OwS wr (w.heap.size + 1) 64 11 s5 (out.map Pw.cells) ∧ Below w.heap.size w wr ∧ PwB wr w.heap.size m
set_option maxHeartbeats 4000000 in
set_option maxRecDepth 100000 in
theorem r50put {Am : Option Addr} {B cm : Nat} {ms : List Pw} (m : Pw) (w : World) (hM : PwS w B Am ms) (hB : B ≤ w.heap.size) (hlen : ms.length ≤ 100000) :
  Calls Tryz.prog 58 #[.slice Am ms.length cm, m.agg] w fun r w' => (∃ v, r = .returned v ∧ OwS w' w.heap.size 64 11 v ((putW ms m).map Pw.cells)) ∧ Below w.heap.size w w' := by
 have HM := Lib.hid hM
 have HBW := Lib.hid hB
 have hwl := putL_len m ms false
 simp only [Bool.false_eq_true, if_false] at hwl
 have HWL : Hid ((putW ms m).length ≤ ms.length + 1) := hwl
 unfold Pw.agg
 clear hM hwl
 go_enter Tryz.func58, Tryz.ntmps58
 go_wp2
 have hmb := PwB.made w m
 have hb0 : Below w.heap.size w (w.alloc (.cells #[.int .i64 m.g, .int .i64 m.p, .int .u64 m.v, .int .u8 m.d.b0, .int .u8 m.d.b1, .int .u8 m.d.b2, .int .u8 m.d.b3, .int .u8 m.d.b4, .int .u8 m.d.b5, .int .u8 m.d.b6, .int .u8 m.d.b7] 64)) := below_laid
 generalize w.alloc _ = w0 at *
 have H0 : Hid (PutR w ms m (.slice none 0 0) (.bool false) (.int .i64 0) w0) := ⟨0, false, [], by omega, rfl, rfl, rfl, OwS.nil _ _ _ _, hb0, hmb⟩
 clear hb0 hmb
 go_loopw [5, 6, 7, 8] (fun s5 s6 s7 _ wr => PutR w ms m s5 s6 s7 wr) (fun _ _ s7 _ _ => ms.length - (intOf s7).toNat)
 case atStart => exact H0.out
 case round =>
  clear H0
  obtain ⟨k, done, out, hk, rfl, rfl, heq, hown, hb, hmb⟩ := hrel
  obtain ⟨A5, c5, rfl, -, -⟩ := hown.form
  rw [List.length_map] at hown ⊢
  have hol : out.length ≤ ms.length + 1 := by
   have := HWL.out
   rw [← heq, List.length_append] at this
   omega
  have HO := Lib.hid hown
  have HB := Lib.hid hb
  have HMB := Lib.hid hmb
  have HEQ := Lib.hid heq
  have hxl : w.heap.size < wr.heap.size := hmb.lt
  clear heq
  by_cases hkn : k < ms.length
  ·have hkI : (k : Int) < (ms.length : Int) := by omega
   have hk0 : ¬ (k : Int) < 0 := by omega
   obtain ⟨x, hxk⟩ := at_some hkn
   obtain ⟨b, off, rfl, -, hcx⟩ := PwS.at2 HM.out HBW.out hxk
   have HCX := Lib.hid hcx
   have hdrop : ms.drop k = x :: ms.drop (k + 1) := by
    obtain ⟨h1, rfl⟩ := List.getElem?_eq_some_iff.1 hxk
    exact List.drop_eq_getElem_cons h1
   have HDR : Hid (putL m done (ms.drop k) = (if lateB x m && !done then [m] else []) ++ ((if sameB x m then [] else [x]) ++ putL m (done || lateB x m) (ms.drop (k + 1)))) := by rw [Hid, hdrop]; rfl
   obtain ⟨late, hlate⟩ : ∃ q, lateB x m = q := ⟨_, rfl⟩
   obtain ⟨same, hsame⟩ : ∃ q, sameB x m = q := ⟨_, rfl⟩
   rw [hlate, hsame] at HDR
   have HLA := Lib.hid hlate
   have HSA := Lib.hid hsame
   have x0 := hcx wr hb 0 _ rfl
   have x1 := hcx wr hb 1 _ rfl
   simp only [Nat.add_zero] at x0
   have m0 := hmb.cell (j := 0) rfl
   have m1 := hmb.cell (j := 1) rfl
   clear hxk hdrop hown hb hmb hcx hlate hsame
   go_upto_region 6 with (fail)
   go_cut [8] (fun s8 wx => s8 = .bool late ∧ ∃ n, wx = wr.drewN n)
   case first =>
    rcases (show m.g < x.g ∨ (¬ m.g < x.g ∧ x.g ≠ m.g) ∨ (¬ m.g < x.g ∧ x.g = m.g ∧ m.p ≤ x.p) ∨ (¬ m.g < x.g ∧ x.g = m.g ∧ ¬ m.p ≤ x.p) by omega) with e1 | ⟨e1, e2⟩ | ⟨e1, e2, e3⟩ | ⟨e1, e2, e3⟩
    ·obtain rfl : late = true := by rw [← HLA.out]; simp [lateB, e1]
     have f1 : decide (m.g < x.g) = true := by rw [decide_eq_true_iff]; exact e1
     clear e1
     go_quiet (fail)
     go_wp2
     go_meet
     exact ⟨rfl, _, rfl⟩
    ·obtain rfl : late = false := by rw [← HLA.out]; simp [lateB, e1, e2]
     have f1 : decide (m.g < x.g) = false := by rw [decide_eq_false_iff_not]; exact e1
     have f2 : (x.g == m.g) = false := by simpa using e2
     clear e1 e2
     go_quiet (fail)
     go_wp2
     go_meet
     exact ⟨rfl, _, rfl⟩
    ·obtain rfl : late = true := by rw [← HLA.out]; simp [lateB, e2, e3]
     have f1 : decide (m.g < x.g) = false := by rw [decide_eq_false_iff_not]; exact e1
     have f2 : (x.g == m.g) = true := by simpa using e2
     have f3 : decide (m.p ≤ x.p) = true := by rw [decide_eq_true_iff]; exact e3
     clear e1 e2 e3
     go_quiet (fail)
     go_wp2
     go_meet
     exact ⟨rfl, _, rfl⟩
    ·obtain rfl : late = false := by rw [← HLA.out]; simp [lateB, e2, e3]
     have f1 : decide (m.g < x.g) = false := by rw [decide_eq_false_iff_not]; exact e1
     have f2 : (x.g == m.g) = true := by simpa using e2
     have f3 : decide (m.p ≤ x.p) = false := by rw [decide_eq_false_iff_not]; exact e3
     clear e1 e2 e3
     go_quiet (fail)
     go_wp2
     go_meet
     exact ⟨rfl, _, rfl⟩
   obtain ⟨rfl, nd, rfl⟩ := hcut
   have hb1 : Below wr.heap.size wr (wr.drewN nd) := below_drewN (Below.refl _ _) _
   have hown1 : OwS (wr.drewN nd) (w.heap.size + 1) 64 11 (.slice A5 out.length c5) (out.map Pw.cells) := HO.out.below hb1
   have hmb1 : PwB (wr.drewN nd) w.heap.size m := HMB.out.below hb1 hxl
   have hbb1 : Below w.heap.size w (wr.drewN nd) := HB.out.trans (hb1.mono HB.out.size)
   generalize wr.drewN nd = w1 at *
   clear HO HB HMB x0 x1 m0 m1 hb1
   have HO := Lib.hid hown1
   have HB := Lib.hid hbb1
   have HMB := Lib.hid hmb1
   have hxl1 : w.heap.size < w1.heap.size := hmb1.lt
   clear hown1 hmb1 hbb1 hxl
   go_upto_region 7 with (fail)
   go_cut [47] (fun s47 wx => s47 = .bool (late && !done) ∧ wx = w1)
   case first =>
    clear HDR
    cases late
    ·go_wp2_with fail
     go_meet
     exact ⟨rfl, rfl⟩
    ·cases done
     ·go_wp2_with fail
      go_meet
      exact ⟨rfl, rfl⟩
     ·go_wp2_with fail
      go_meet
      exact ⟨rfl, rfl⟩
   obtain ⟨rfl, rfl⟩ := hcut
   obtain ⟨ins, hins⟩ : ∃ q, (late && !done) = q := ⟨_, rfl⟩
   rw [hins] at HDR
   simp only [hins]
   have HINS := Lib.hid hins
   clear hins
   refine kOpen (by assumption) ?_
   go_cut [5, 6] (fun s5 s6 wx => ∃ out1 : List Pw, out1 = out ++ (if ins then [m] else []) ∧ s6 = .bool (done || late) ∧ OwS wx (w.heap.size + 1) 64 11 s5 (out1.map Pw.cells) ∧ Below w.heap.size w wx ∧ PwB wx w.heap.size m)
   case first =>
    clear HDR
    cases ins
    ·go_wp2_with fail
     go_meet
     exact ⟨out, by simp, by have := HINS.out; cases late <;> cases done <;> simp_all, HO.out, HB.out, HMB.out⟩
    ·have p0 := HMB.out.cell (j := 0) rfl
     have p1 := HMB.out.cell (j := 1) rfl
     have p2 := HMB.out.cell (j := 2) rfl
     have p3 := HMB.out.cell (j := 3) rfl
     have p4 := HMB.out.cell (j := 4) rfl
     have p5 := HMB.out.cell (j := 5) rfl
     have p6 := HMB.out.cell (j := 6) rfl
     have p7 := HMB.out.cell (j := 7) rfl
     have p8 := HMB.out.cell (j := 8) rfl
     have p9 := HMB.out.cell (j := 9) rfl
     have p10 := HMB.out.cell (j := 10) rfl
     go_wp2_with (at_builtin; refine wpList_ap1 rfl (.tmp 48) (.tmp 50) _ rfl elemPwS rfl HO.out m.cells _ (by rfl) wc.heap.size (by rfl) (by rfl) (Pw.one m) (by simp [maxLen]; omega) (by simp; omega) (by omega) ?_)
     rintro v1 w3 hown1 hg1 -
     have HO1 : Hid (OwS w3 (w.heap.size + 1) 64 11 v1 ((out ++ [m]).map Pw.cells)) := by
      rw [Hid, List.map_append]
      exact hown1
     have HB1 : Hid (Below w.heap.size w w3) := (HB.out.alloc HB.out.size _).grown hg1 (by simp; omega) (fun g hg => by have := (HO.out.lt hg).1; omega)
     have HM2 : Hid (PwB w3 w.heap.size m) := (HMB.out.below below_laid HMB.out.lt).grown hg1 (fun he => by have := (HO.out.lt he).1; omega)
     clear hown1 hg1 p0 p1 p2 p3 p4 p5 p6 p7 p8 p9 p10
     go_wp2
     go_meet
     exact ⟨out ++ [m], by simp, by have := HINS.out; cases late <;> cases done <;> simp_all, HO1.out, HB1.out, HM2.out⟩
   obtain ⟨out1, ho1, rfl, hown1, hb1, hmb1⟩ := hcut
   obtain ⟨A6, c6, rfl, -, -⟩ := hown1.form
   rw [List.length_map] at hown1 ⊢
   have hol1 : out1.length ≤ ms.length + 2 := by
    rw [ho1, List.length_append]
    split <;> simp <;> omega
   have HE1 := Lib.hid ho1
   clear HO HB HMB ho1
   rename_i wd
   have HO := Lib.hid hown1
   have HB := Lib.hid hb1
   have HMB := Lib.hid hmb1
   have hxl2 : w.heap.size < wc.heap.size := hmb1.lt
   have x0 := HCX.out wc hb1 0 _ rfl
   have x1 := HCX.out wc hb1 1 _ rfl
   simp only [Nat.add_zero] at x0
   have m0 := hmb1.cell (j := 0) rfl
   have m1 := hmb1.cell (j := 1) rfl
   clear hown1 hb1 hmb1 hxl1
   go_upto_region 10 with (fail)
   go_cut [69] (fun s69 wx => s69 = .bool (!same) ∧ ∃ n, wx = wc.drewN n)
   case first =>
    rcases (show x.g ≠ m.g ∨ (x.g = m.g ∧ x.p ≠ m.p) ∨ (x.g = m.g ∧ x.p = m.p) by omega) with e1 | ⟨e1, e2⟩ | ⟨e1, e2⟩
    ·obtain rfl : same = false := by rw [← HSA.out]; simp [sameB, e1]
     have f1 : (x.g != m.g) = true := by simpa using e1
     have f2 : (x.g == m.g) = false := by simpa using e1
     clear e1
     go_quiet (fail)
     go_wp2
     go_meet
     exact ⟨rfl, _, rfl⟩
    ·obtain rfl : same = false := by rw [← HSA.out]; simp [sameB, e2]
     have f1 : (x.g != m.g) = false := by simpa using e1
     have f2 : (x.g == m.g) = true := by simpa using e1
     have f3 : (x.p != m.p) = true := by simpa using e2
     have f4 : (x.p == m.p) = false := by simpa using e2
     clear e1 e2
     go_quiet (fail)
     go_wp2
     go_meet
     exact ⟨rfl, _, rfl⟩
    ·obtain rfl : same = true := by rw [← HSA.out]; simp [sameB, e1, e2]
     have f1 : (x.g != m.g) = false := by simpa using e1
     have f2 : (x.g == m.g) = true := by simpa using e1
     have f3 : (x.p != m.p) = false := by simpa using e2
     have f4 : (x.p == m.p) = true := by simpa using e2
     clear e1 e2
     go_quiet (fail)
     go_wp2
     go_meet
     exact ⟨rfl, _, rfl⟩
   obtain ⟨rfl, nd2, rfl⟩ := hcut
   have hb2 : Below wc.heap.size wc (wc.drewN nd2) := below_drewN (Below.refl _ _) _
   have hown2 : OwS (wc.drewN nd2) (w.heap.size + 1) 64 11 (.slice A6 out1.length c6) (out1.map Pw.cells) := HO.out.below hb2
   have hmb2 : PwB (wc.drewN nd2) w.heap.size m := HMB.out.below hb2 hxl2
   have hbb2 : Below w.heap.size w (wc.drewN nd2) := HB.out.trans (hb2.mono HB.out.size)
   generalize wc.drewN nd2 = w5 at *
   clear HO HB HMB x0 x1 m0 m1 hb2
   have HO := Lib.hid hown2
   have HB := Lib.hid hbb2
   have HMB := Lib.hid hmb2
   have hxl3 : w.heap.size < w5.heap.size := hmb2.lt
   have x0 := HCX.out w5 hbb2 0 _ rfl
   have x1 := HCX.out w5 hbb2 1 _ rfl
   have x2 := HCX.out w5 hbb2 2 _ rfl
   have x3 := HCX.out w5 hbb2 3 _ rfl
   have x4 := HCX.out w5 hbb2 4 _ rfl
   have x5 := HCX.out w5 hbb2 5 _ rfl
   have x6 := HCX.out w5 hbb2 6 _ rfl
   have x7 := HCX.out w5 hbb2 7 _ rfl
   have x8 := HCX.out w5 hbb2 8 _ rfl
   have x9 := HCX.out w5 hbb2 9 _ rfl
   have x10 := HCX.out w5 hbb2 10 _ rfl
   simp only [Nat.add_zero] at x0
   have HEV : Hid (out1 ++ ((if same then [] else [x]) ++ putL m (done || late) (ms.drop (k + 1))) = putW ms m) := by
    rw [Hid, HE1.out, ← HEQ.out, HDR.out, List.append_assoc]
   clear hown2 hmb2 hbb2 hxl2 HDR HEQ HE1
   cases same
   ·go_wp2_with (at_builtin; refine wpList_ap1 rfl (.tmp 70) (.tmp 75) _ rfl elemPwS rfl HO.out x.cells _ (by rfl) w5.heap.size (by rfl) (by rfl) (Pw.one x) (by simp [maxLen]; omega) (by simp; omega) (by omega) ?_)
    rintro v1 w3 hown1 hg1 -
    have HO1 : Hid (OwS w3 (w.heap.size + 1) 64 11 v1 ((out1 ++ [x]).map Pw.cells)) := by
     rw [Hid, List.map_append]
     exact hown1
    have HB1 : Hid (Below w.heap.size w w3) := (HB.out.alloc HB.out.size _).grown hg1 (by simp; omega) (fun g hg => by have := (HO.out.lt hg).1; omega)
    have HM2 : Hid (PwB w3 w.heap.size m) := (HMB.out.below below_laid HMB.out.lt).grown hg1 (fun he => by have := (HO.out.lt he).1; omega)
    clear hown1 hg1 x0 x1 x2 x3 x4 x5 x6 x7 x8 x9 x10
    go_wp2
    go_roundw
    case rel => exact ⟨k + 1, _, out1 ++ [x], by omega, rfl, by go_num, by rw [← HEV.out]; simp, HO1.out, HB1.out, HM2.out⟩
    case measure => simp [intOf] <;> omega
   ·clear x0 x1 x2 x3 x4 x5 x6 x7 x8 x9 x10
    go_wp2
    go_roundw
    case rel => exact ⟨k + 1, _, out1, by omega, rfl, by go_num, by rw [← HEV.out]; simp, HO.out, HB.out, HMB.out⟩
    case measure => simp [intOf] <;> omega
  ·have hkI : ¬ (k : Int) < (ms.length : Int) := by omega
   have hdr : ms.drop k = [] := List.drop_eq_nil_of_le (by omega)
   cases done
   ·have HR : Hid (putW ms m = out ++ [m]) := by rw [Hid, ← HEQ.out, hdr]; simp [putL]
    have p0 := hmb.cell (j := 0) rfl
    have p1 := hmb.cell (j := 1) rfl
    have p2 := hmb.cell (j := 2) rfl
    have p3 := hmb.cell (j := 3) rfl
    have p4 := hmb.cell (j := 4) rfl
    have p5 := hmb.cell (j := 5) rfl
    have p6 := hmb.cell (j := 6) rfl
    have p7 := hmb.cell (j := 7) rfl
    have p8 := hmb.cell (j := 8) rfl
    have p9 := hmb.cell (j := 9) rfl
    have p10 := hmb.cell (j := 10) rfl
    clear hdr hown hb hmb
    go_wp2_with (at_builtin; refine wpList_ap1 rfl (.tmp 79) (.tmp 81) _ rfl elemPwS rfl HO.out m.cells _ (by rfl) wr.heap.size (by rfl) (by rfl) (Pw.one m) (by simp [maxLen]; omega) (by simp; omega) (by omega) ?_)
    rintro v1 w3 hown1 hg1 -
    have HO1 : Hid (OwS w3 (w.heap.size + 1) 64 11 v1 ((putW ms m).map Pw.cells)) := by
     rw [Hid, HR.out, List.map_append]
     exact hown1
    have HB1 : Hid (Below w.heap.size w w3) := (HB.out.alloc HB.out.size _).grown hg1 (by simp; omega) (fun g hg => by have := (HO.out.lt hg).1; omega)
    clear hown1 hg1 p0 p1 p2 p3 p4 p5 p6 p7 p8 p9 p10
    go_wp2
    go_ret
    exact ⟨⟨_, rfl, HO1.out.mono (by omega)⟩, HB1.out⟩
   ·have HR : Hid (putW ms m = out) := by rw [Hid, ← HEQ.out, hdr]; simp [putL]
    clear hdr hown hb hmb
    go_wp2
    go_ret
    exact ⟨⟨_, rfl, by rw [HR.out]; exact HO.out.mono (by omega)⟩, HB.out⟩
end Go.Proofs.YtjgjofepedcfnaaGreat
