/- Walk of the searcher's from: a method that calls itself by way of the visits. -/
import Derived.Test.YtcgbnlhloopnfaaFndV
namespace Go.Proofs.Ytcgbnlhloopnfaa
open Go.RowKit

theorem SInv.mark [BaseW] {w w' : World} {os : List Opr} {cuts sb mb eb ce : Nat} {LF : List Lit} {out : List (List Int × Int)} {ov : Value} {ff ff' : Lit → Bool} (h : SInv w os cuts sb mb eb ce LF out ov ff) (hg : w.grownBy w' (some mb)) (hm : MapS w' Try.prog 125 mb LF ff')
    (hs : ∀ k v, k ≤ cuts → v ∈ valsO os → ff' (pKey (k : Int) v) = true → ¬ ExpO os cuts k v) : SInv w' os cuts sb mb eb ce LF out ov ff' := by
  have hb : BelR w.heap.size mb w w' := ⟨hg.os, hg.tape, hg.output, hg.size, fun k hk hne => hg.block k hk (by simpa using hne)⟩
  exact ⟨cells_stay h.blk hb h.map.isMap, h.eras.stay hb h.map.isMap, h.out.stay hb h.map.isMap, hm, hs, h.bb⟩
theorem updP_key {f : Lit → Bool} {a : Bool} {k k' : Nat} {v v' : Int} (hk : (Lit.int .i64 (k : Int)).wf = true) (hk' : (Lit.int .i64 (k' : Int)).wf = true) (hv : (Lit.int .i64 v).wf = true) (hv' : (Lit.int .i64 v').wf = true) (h : updK f (pKey (k : Int) v) a (pKey (k' : Int) v') = true) : (k' = k ∧ v' = v ∧ a = true) ∨ f (pKey (k' : Int) v') = true := by
  unfold updK at h
  by_cases he : pKey (k' : Int) v' = pKey (k : Int) v
  · obtain ⟨e1, e2⟩ := pKey_inj hk' hv' hk hv he
    rw [he, WideAt.sameKey_self (pKey_lit _ _)] at h
    exact .inl ⟨Int.ofNat_inj.1 e1, e2, by simpa using h⟩
  · rw [Maps.sameKey_ne he] at h
    exact .inr h

/-- the finder of an era is laid -/
def FinR (os : List Opr) (cuts k : Nat) (v : Int) (L : List Lit) (w : World) (sv : Value) (w' : World) : Prop :=
  ∃ me fb c1 Ao co As cs, sv = .pointer (some ⟨c1, 0, none⟩) ∧ Below w.heap.size w w' ∧ w.heap.size ≤ me ∧ MapS w' Try.prog 132 me L (fun _ => false) ∧ FinV w' fb me (eraX os k) (sfX os k) (k == cuts) v Ao As co cs ∧ Var1 w' c1 (.pointer (some ⟨fb, 0, none⟩)) 126
theorem three_new (w : World) (a b c : Obj) : (((w.alloc a).alloc b).alloc c).drew.heap[w.heap.size]? = some a ∧ (((w.alloc a).alloc b).alloc c).drew.heap[w.heap.size + 1]? = some b ∧ (((w.alloc a).alloc b).alloc c).drew.heap[w.heap.size + 1 + 1]? = some c ∧ Below w.heap.size w (((w.alloc a).alloc b).alloc c).drew := by
  refine ⟨?_, ?_, ?_, ((below_laid.alloc (by simp) _).alloc (by simp; omega) _).drew⟩
  · show (((w.alloc a).alloc b).alloc c).heap[_]? = _
    rw [Below.heap_alloc _ _ _ (by simp; omega), Below.heap_alloc _ _ _ (by simp)]
    exact heap_new_at _ _ rfl
  · show (((w.alloc a).alloc b).alloc c).heap[_]? = _
    rw [Below.heap_alloc _ _ _ (by simp)]
    exact heap_new_at _ _ (by simp)
  · show (((w.alloc a).alloc b).alloc c).heap[_]? = _
    exact heap_new_at _ _ (by simp)
theorem MapS.fresh {w : World} {me : Nat} (h : w.heap[me]? = some (.map #[] 0)) (P : Program) (k : TypeId) (L : List Lit) : MapS w P k me L (fun _ => false) := by
  obtain ⟨D, ⟨es, clock, h0, h1⟩, h2⟩ := MapS.made w P k L
  rw [heap_alloc_new w] at h0
  injection h0 with h0
  injection h0 with e1 e2
  subst e1 e2
  exact ⟨D, ⟨#[], 0, h, h1⟩, h2⟩
theorem FinR.mk_ {os : List Opr} {cuts k : Nat} {v : Int} {L : List Lit} {w w' : World} {me fb c1 : Nat} {Ao As : Option Addr} {co cs : Nat} (hb : Below w.heap.size w w') (hme : w.heap.size ≤ me) (hm : w'.heap[me]? = some (.map #[] 0))
    (hf : w'.heap[fb]? = some (.cells #[.slice Ao (eraX os k).length co, .slice As (eraX os k).length cs, .bool (k == cuts), .int .i64 v, .map (some me)] 129 (0, 0))) (hc : w'.heap[c1]? = some (.cells #[.pointer (some ⟨fb, 0, none⟩)] 126 (0, 0)))
    (h3 : OwS w 0 39 8 (.slice Ao (eraX os k).length co) ((eraX os k).map Opr.cells)) (h4 : OwS w 0 4 1 (.slice As (eraX os k).length cs) ((sfX os k).map fun x => [.bool x])) : FinR os cuts k v L w (.pointer (some ⟨c1, 0, none⟩)) w' :=
  ⟨me, fb, c1, Ao, co, As, cs, rfl, hb, hme, MapS.fresh hm _ _ _, ⟨hf, h3.below hb, h4.below hb, by simp [sfX]⟩, hc⟩
set_option maxHeartbeats 8000000 in
set_option maxRecDepth 100000 in
theorem from_any [BaseW] {os : List Opr} {cuts sb mb eb ce : Nat} {LF L : List Lit} (hids : (os.map (·.id)).Nodup) (hcuts : cuts ≤ 100000) (hwf : ∀ v ∈ valsO os, (Lit.int .i64 v).wf = true) (h16 : ∀ k, k ≤ cuts → (eraX os k).length ≤ 16)
    (hL : ∀ (S : Nat) (l : Int), S < 65536 → -1 ≤ l → l < 16 → pKey (S : Int) l ∈ L) (hLn : L.length < maxLen) (hLF : ∀ k v, k ≤ cuts → v ∈ valsO os → pKey (k : Int) v ∈ LF) (hLFn : LF.length < maxLen) :
    ∀ (d k : Nat) (v : Int) (out : List (List Int × Int)) (ov : Value) (ff : Lit → Bool) (w : World), k + d = cuts + 1 → v ∈ valsO os → out.length = k → SInv w os cuts sb mb eb ce LF out ov ff →
      Calls Try.prog 55 #[.pointer (some ⟨sb, 0, none⟩), .int .i64 (k : Int), .int .i64 v] w fun r w' => FromP os cuts sb mb eb ce LF k v out w r w' := by
  intro d
  induction d with
  | zero =>
    intro k v out ov ff w hk hv hout hS
    obtain rfl : k = cuts + 1 := by omega
    have HS := Lib.hid hS
    obtain ⟨s0, s1, s2⟩ := hS.cells
    have hsl : sb < w.heap.size := (Array.getElem?_eq_some_iff.1 hS.blk).1
    clear hS
    have heq : (((cuts + 1 : Nat) : Int) == ((cuts + 1 : Nat) : Int)) = true := by simp
    go_enter Try.func55, Try.ntmps55
    go_wp2_with fail
    go_quiet (fail)
    go_wp2
    go_ret
    exact ⟨true, rfl, .of (below_drewN (below_laid.alloc (by simp) _) _), fun _ => ⟨[], ov, ff, by simp, rfl, by rw [List.append_nil]; exact HS.out.below (below_drewN (below_laid.alloc (by simp) _) _)⟩, fun h => absurd h (by simp)⟩
  | succ d ih =>
    intro k v out ov ff w hk hv hout hS
    have hkc : k ≤ cuts := by omega
    have HNX := Lib.hid (fun v' out' ov ff W (hv' : v' ∈ valsO os) (ho' : out'.length = k + 1) hS' => ih (k + 1) v' out' ov ff W (by omega) hv' ho' hS')
    clear ih
    have HS := Lib.hid hS
    have hkw : (Lit.int .i64 (k : Int)).wf = true := WalkArith.wf_i64 (by omega)
    have hvw := hwf v hv
    obtain ⟨W0, hW0⟩ : ∃ W0, W0 = ((w.alloc (.cells #[.pointer (some ⟨sb, 0, none⟩)] 97)).alloc (.cells #[.int .i64 (k : Int)] 3)) := ⟨_, rfl⟩
    have hB0 : Below w.heap.size w W0 := by rw [hW0]; exact below_laid.alloc (by simp) _
    have hx2 : Var1 W0 w.heap.size (.pointer (some ⟨sb, 0, none⟩)) 97 := by unfold Var1; rw [hW0, Below.heap_alloc _ _ _ (by simp)]; exact heap_new_at _ _ rfl
    have hx3 : Var1 W0 (w.heap.size + 1) (.int .i64 (k : Int)) 3 := by unfold Var1; rw [hW0]; exact heap_new_at _ _ (by simp)
    have hS0 := hS.below hB0
    obtain ⟨s0, s1, s2⟩ := hS0.cells
    have x2 : W0.cell? ⟨w.heap.size, 0, none⟩ = some (.pointer (some ⟨sb, 0, none⟩)) := by rw [cell_of_row _ _ _ _ _ _ hx2]; rfl
    have x3 : W0.cell? ⟨w.heap.size + 1, 0, none⟩ = some (.int .i64 (k : Int)) := by rw [cell_of_row _ _ _ _ _ _ hx3]; rfl
    have HB0 := Lib.hid hB0
    have HX2 := Lib.hid hx2
    have HX3 := Lib.hid hx3
    have HS0 := Lib.hid hS0
    have heq : ((k : Int) == ((cuts : Int) + 1)) = false := by simp; omega
    have heq2 : ((k : Int) == ((cuts + 1 : Nat) : Int)) = false := by simp; omega
    clear hB0 hx2 hx3 hS hS0
    go_enter Try.func55, Try.ntmps55
    go_wp2_with fail
    rw [← hW0]
    clear hW0
    go_quiet (fail)
    have hBq := below_drewN HB0.out nq
    have hSq := HS0.out.below (below_drewN (Below.refl _ _) nq)
    have hx2q : Var1 (W0.drewN nq) w.heap.size (.pointer (some ⟨sb, 0, none⟩)) 97 := HX2.out
    have hx3q : Var1 (W0.drewN nq) (w.heap.size + 1) (.int .i64 (k : Int)) 3 := HX3.out
    generalize W0.drewN nq = W1 at *
    have HB1 := Lib.hid hBq
    have HS1 := Lib.hid hSq
    have HX21 := Lib.hid hx2q
    have HX31 := Lib.hid hx3q
    clear hBq hSq hx2q hx3q s0 s1 s2 x2 x3 heq heq2 HB0 HX2 HX3 HS0
    have HKB := Lib.hid (below_laid (w := W1) (o := .cells #[.int .i64 (k : Int), .int .i64 v] 125))
    have hkb : (W1.alloc (.cells #[.int .i64 (k : Int), .int .i64 v] 125)).heap[W1.heap.size]? = some (.cells #[.int .i64 (k : Int), .int .i64 v] 125) := heap_new_at _ _ rfl
    have HKK := Lib.hid hkb
    clear hkb
    obtain ⟨fk, hfk⟩ : ∃ fk, ff (pKey (k : Int) v) = fk := ⟨_, rfl⟩
    have hlook := fun n => ((HS1.out.below HKB.out).map.drewN n).g.look keyedPr Try.underlying98 (zeroBoolK _) (keyOf_pr _ _ hkw hvw) (pKey_lit _ _)
    rw [hfk] at hlook
    have HFK := Lib.hid hfk
    clear hfk
    have x3 : W1.cell? ⟨w.heap.size + 1, 0, none⟩ = some (.int .i64 (k : Int)) := by rw [cell_of_row _ _ _ _ _ _ HX31.out]; rfl
    go_upto_region 4 with (fail)
    clear x3
    generalize W1.alloc _ = W2 at *
    have HB2 := Lib.hid (HB1.out.trans (HKB.out.mono HB1.out.size))
    have HS2 := Lib.hid (HS1.out.below HKB.out)
    have hx22 := keptB HX21.out HKB.out
    have hx32 := keptB HX31.out HKB.out
    obtain ⟨s0, s1, s2⟩ := HS2.out.cells
    have x2 : W2.cell? ⟨w.heap.size, 0, none⟩ = some (.pointer (some ⟨sb, 0, none⟩)) := by rw [cell_of_row _ _ _ _ _ _ hx22]; rfl
    have x3 : W2.cell? ⟨w.heap.size + 1, 0, none⟩ = some (.int .i64 (k : Int)) := by rw [cell_of_row _ _ _ _ _ _ hx32]; rfl
    have z0 : W2.cell? ⟨W1.heap.size, 0, none⟩ = some (.int .i64 (k : Int)) := by rw [cell_of_row _ _ _ _ _ _ HKK.out]; rfl
    have z1 : W2.cell? ⟨W1.heap.size, 1, none⟩ = some (.int .i64 v) := by rw [cell_of_row _ _ _ _ _ _ HKK.out]; rfl
    have HX22 := Lib.hid hx22
    have HX32 := Lib.hid hx32
    clear hx22 hx32 HX21 HX31 HS1
    cases fk
    case true =>
      change ∀ n, (Instr.lookup _ _ _ _).run _ _ = Result.ok (.bool true) _ at hlook
      go_quiet (fail)
      go_wp2
      go_ret
      exact ⟨false, rfl, .of (below_drewN HB2.out _), fun h => absurd h (by simp), fun _ => ⟨HS2.out.sound k v hkc hv HFK.out, _, _, HS2.out.below (below_drewN (Below.refl _ _) _)⟩⟩
    case false =>
      change ∀ n, (Instr.lookup _ _ _ _).run _ _ = Result.ok (.bool false) _ at hlook
      go_quiet (fail)
      have hBq := below_drewN HB2.out nq
      have hSq := HS2.out.below (below_drewN (Below.refl _ _) nq)
      have hx2q : Var1 (W2.drewN nq) w.heap.size (.pointer (some ⟨sb, 0, none⟩)) 97 := HX22.out
      have hx3q : Var1 (W2.drewN nq) (w.heap.size + 1) (.int .i64 (k : Int)) 3 := HX32.out
      have hkq : (W2.drewN nq).heap[W1.heap.size]? = some (.cells #[.int .i64 (k : Int), .int .i64 v] 125) := HKK.out
      generalize W2.drewN nq = W3 at *
      have HB3 := Lib.hid hBq
      have HS3 := Lib.hid hSq
      have HX23 := Lib.hid hx2q
      have HX33 := Lib.hid hx3q
      have HK3 := Lib.hid hkq
      clear hBq hSq hx2q hx3q hkq s0 s1 s2 x2 x3 z0 z1 hlook HB2 HS2 HX22 HX32 HKK HKB HB1
      go_upto_region 6 with (fail)
      go_cut [8] (fun s8 wx => FinR os cuts k v L W3 s8 wx)
      case first =>
        have hmm := @run_makeMap Try.prog
        obtain ⟨Ao, co, As, cs, e0, e1, e2, e3, e4, hel⟩ := HS3.out.eraCells hkc
        obtain ⟨s0, s1, s2⟩ := HS3.out.cells
        have x2 : W3.cell? ⟨w.heap.size, 0, none⟩ = some (.pointer (some ⟨sb, 0, none⟩)) := by rw [cell_of_row _ _ _ _ _ _ HX23.out]; rfl
        have x3 : W3.cell? ⟨w.heap.size + 1, 0, none⟩ = some (.int .i64 (k : Int)) := by rw [cell_of_row _ _ _ _ _ _ HX33.out]; rfl
        have hsl : sb < W3.heap.size := (Array.getElem?_eq_some_iff.1 HS3.out.blk).1
        have hxl2 : w.heap.size < W3.heap.size := (Array.getElem?_eq_some_iff.1 HX23.out).1
        have hxl3 : w.heap.size + 1 < W3.heap.size := (Array.getElem?_eq_some_iff.1 HX33.out).1
        rw [Nat.mul_comm] at e0 e1 e2
        have HE3 := Lib.hid e3
        have HE4 := Lib.hid e4
        have hkl : (k : Int) < (cuts : Int) + 1 := by omega
        have hkl2 : (k : Int) < ((cuts + 1 : Nat) : Int) := by omega
        clear e3 e4
        obtain ⟨lb, hlb⟩ : ∃ lb, (k == cuts) = lb := ⟨_, rfl⟩
        rw [hlb] at e2
        have HLB := Lib.hid hlb
        clear hlb
        go_region
        all_goals
          go_wp2_with fail
          go_meet
          first
            | exact FinR.mk_ (three_new _ _ _ _).2.2.2 (Nat.le_refl _) (three_new _ _ _ _).1 (by rw [HLB.out]; exact (three_new _ _ _ _).2.1) (three_new _ _ _ _).2.2.1 HE3.out HE4.out
            | exact FinR.mk_ (three_new _ _ _ _).2.2.2 (by omega) (three_new _ _ _ _).2.1 (by rw [HLB.out]; exact (three_new _ _ _ _).2.2.1) (three_new _ _ _ _).1 HE3.out HE4.out
            | exact FinR.mk_ (three_new _ _ _ _).2.2.2 (Nat.le_refl _) (three_new _ _ _ _).1 (by rw [HLB.out]; exact (three_new _ _ _ _).2.2.1) (three_new _ _ _ _).2.1 HE3.out HE4.out
      case rest =>
        obtain ⟨me, fb, c1, Ao, co, As, cs, rfl, hb4, hme, hm4, hf4, hv4⟩ := hcut
        have hz3 := HB3.out.size
        have hS4 := HS3.out.below hb4
        have hJ4 : JV os cuts sb mb eb ce LF L k v out fb me c1 w.heap.size (w.heap.size + 1) Ao As co cs wc ov ff (fun _ => false) :=
          ⟨hS4, hf4, hm4, fun t _ h => absurd h (by simp), hv4, keptB HX23.out hb4, keptB HX33.out hb4⟩
        have hmb : mb < W3.heap.size := HS3.out.map.lt
        have hsbl : sb < W3.heap.size := (Array.getElem?_eq_some_iff.1 HS3.out.blk).1
        have hz4 := hb4.size
        have hT : ∀ q ∈ [sb, mb, me], q < wc.heap.size := fun q hq => by
          have := hm4.lt
          simp at hq
          rcases hq with h | h | h <;> omega
        have HPR := Lib.hid (prefixes_any fb me c1 w.heap.size (w.heap.size + 1) (X := eraX os k) (sf := sfX os k) (last := k == cuts) (st := v) (Ao := Ao) (As := As) (co := co) (cs := cs) (L := L) [sb, mb, me]
          (JW os cuts sb mb eb ce LF L k v out fb me c1 w.heap.size (w.heap.size + 1) Ao As co cs) (DoneW os cuts sb mb eb ce LF k v out) (VisS os cuts k v) (h16 k hkc)
          (fun s hs => hL s.1 s.2 hs.1 hs.2.1 (by have := hs.2.2; have := h16 k hkc; omega)) hLn wc hT
          (Array.getElem?_eq_some_iff.1 hf4.blk).1 (fun ms hms => JW.vis (by omega) (by omega) (by have := hm4.lt; omega)) ⟨_, _, _, hJ4⟩
          (fun s p A n c W hs hp hj hO => visit_any hids hkc hcuts hv (h16 k hkc) (fun s hs => hL s.1 s.2 hs.1 hs.2.1 (by have := hs.2.2; have := h16 k hkc; omega)) hLn (by omega) hout (fun v' out' ov ff W a1 a2 a3 => HNX.out v' out' ov ff W a1 a2 a3) s p A n c W hs hp hj hO))
        have v4 : wc.cell? ⟨c1, 0, none⟩ = some (.pointer (some ⟨fb, 0, none⟩)) := by rw [cell_of_row _ _ _ _ _ _ hv4]; rfl
        have HX24 := Lib.hid (keptB HX23.out hb4)
        have HK4 := Lib.hid (keptB HK3.out hb4)
        have HJ4 := Lib.hid hJ4
        have HB4 := Lib.hid (HB3.out.trans (hb4.mono hz3))
        have HME : Hid (w.heap.size ≤ me) := Nat.le_trans hz3 hme
        have HLF := Lib.hid (hLF k v hkc hv)
        have HWF := Lib.hid hwf
        clear hb4 hS4 hJ4 hm4 hf4 hv4 hT hz4 hsbl hmb hz3 hme hL hLF h16 hwf HNX
        go_wp2_with fail
        refine HPR.out.mono ?_
        rintro r w6 ⟨b, rfl, hf6, hd6, hj6⟩
        have HF6 := Lib.hid hf6
        have HD6 := Lib.hid hd6
        have HJ6 := Lib.hid hj6
        clear hf6 hd6 hj6 v4 HPR
        have HX26 := Lib.hid (HF6.out.cells_keep HX24.out (fun hm => by
          rcases List.mem_cons.1 hm with h | hm
          · exact HJ4.out.notIn HX24.out (by decide) (by simp [h])
          · rcases List.mem_cons.1 hm with h | hm
            · exact HJ4.out.notIn HX24.out (by decide) (by simp [h])
            · simp at hm; exact HJ4.out.m.isMap _ _ _ (hm ▸ HX24.out)) (by decide))
        have HK6 := Lib.hid (HF6.out.cells_keep HK4.out (fun hm => by
          rcases List.mem_cons.1 hm with h | hm
          · exact HJ4.out.notIn HK4.out (by decide) (by simp [h])
          · rcases List.mem_cons.1 hm with h | hm
            · exact HJ4.out.notIn HK4.out (by decide) (by simp [h])
            · simp at hm; exact HJ4.out.m.isMap _ _ _ (hm ▸ HK4.out)) (by decide))
        have HF06 : Hid (FrE [sb, mb] 138 w w6) := (FrE.of HB4.out).trans' HF6.out (fun q hq => by
          simp at hq
          rcases hq with rfl | rfl | rfl
          · exact .inl (by simp)
          · exact .inl (by simp)
          · exact .inr HME.out)
        have x2 : w6.drew.cell? ⟨w.heap.size, 0, none⟩ = some (.pointer (some ⟨sb, 0, none⟩)) := (cell_of_row w6 w.heap.size 0 _ _ _ HX26.out).trans rfl
        have z0 : w6.drew.cell? ⟨W1.heap.size, 0, none⟩ = some (.int .i64 (k : Int)) := (cell_of_row w6 W1.heap.size 0 _ _ _ HK6.out).trans rfl
        have z1 : w6.drew.cell? ⟨W1.heap.size, 1, none⟩ = some (.int .i64 v) := (cell_of_row w6 W1.heap.size 1 _ _ _ HK6.out).trans rfl
        cases b
        case true =>
          obtain ⟨wl, ov6, ff6, l1, l2, hs6⟩ := HD6.out rfl
          have HS6 := Lib.hid hs6
          have s1 : w6.drew.cell? ⟨sb, 1, none⟩ = some (.map (some mb)) := hs6.cells.2.1
          clear hs6
          go_wp2_with fail
          refine still_tail_drew 7 (by kernel_rfl) (by kernel_rfl) ?_
          simp only [List.take_succ_cons, List.take_zero, List.drop_succ_cons, List.drop_zero]
          repeat still_step
          refine wpStill_nil ?_
          refine wpList_putS rfl (.tmp 43) (.tmp 44) (.tmp 46) _ rfl keyedPr Try.underlying98 rfl (show MapS w6.drew _ _ _ _ _ from HS6.out.map) hLFn _ (pKey (k : Int) v) rfl (keyOf_pr _ _ hkw hvw) (pKey_lit _ _) HLF.out false rfl ?_
          intro w7 hm7 hg7
          have hg7' : w6.grownBy w7 (some mb) := ⟨hg7.os, hg7.tape, hg7.output, hg7.size, hg7.block⟩
          have hs7 := HS6.out.mark hg7' hm7 (fun k' v' hk' hv' hf' => (updP_key hkw (WalkArith.wf_i64 (by omega)) hvw (HWF.out _ hv') hf').elim (fun h => absurd h.2.2 (by simp)) (fun h => HS6.out.sound k' v' hk' hv' h))
          have HS7 := Lib.hid hs7
          have HF7 := Lib.hid (HF06.out.grown hg7' (fun g hg => .inl (by cases hg; simp)))
          clear hm7 hg7 hg7' hs7
          go_wp2
          go_ret
          exact ⟨true, rfl, HF7.out, fun _ => ⟨wl, _, _, l1, l2, HS7.out⟩, fun h => absurd h (by simp)⟩
        case false =>
          obtain ⟨⟨ov6, ff6, fe6, hjv⟩, hdead⟩ := HJ6.out rfl
          have hs6 := hjv.s
          have HNE := Lib.hid (dead_none hids hkc hdead)
          clear hdead
          have HS6 := Lib.hid hs6
          have s1 : w6.drew.cell? ⟨sb, 1, none⟩ = some (.map (some mb)) := hs6.cells.2.1
          clear hs6
          go_wp2_with fail
          refine still_tail_drew 7 (by kernel_rfl) (by kernel_rfl) ?_
          simp only [List.take_succ_cons, List.take_zero, List.drop_succ_cons, List.drop_zero]
          repeat still_step
          refine wpStill_nil ?_
          refine wpList_putS rfl (.tmp 43) (.tmp 44) (.tmp 46) _ rfl keyedPr Try.underlying98 rfl (show MapS w6.drew _ _ _ _ _ from HS6.out.map) hLFn _ (pKey (k : Int) v) rfl (keyOf_pr _ _ hkw hvw) (pKey_lit _ _) HLF.out true rfl ?_
          intro w7 hm7 hg7
          have hg7' : w6.grownBy w7 (some mb) := ⟨hg7.os, hg7.tape, hg7.output, hg7.size, hg7.block⟩
          have hs7 := HS6.out.mark hg7' hm7 (fun k' v' hk' hv' hf' => (updP_key hkw (WalkArith.wf_i64 (by omega)) hvw (HWF.out _ hv') hf').elim (fun h => by obtain ⟨rfl, rfl, -⟩ := h; exact HNE.out) (fun h => HS6.out.sound k' v' hk' hv' h))
          have HS7 := Lib.hid hs7
          have HF7 := Lib.hid (HF06.out.grown hg7' (fun g hg => .inl (by cases hg; simp)))
          clear hm7 hg7 hg7' hs7
          go_wp2
          go_ret
          exact ⟨false, rfl, HF7.out, fun h => absurd h (by simp), fun _ => ⟨HNE.out, _, _, HS7.out⟩⟩
end Go.Proofs.Ytcgbnlhloopnfaa
