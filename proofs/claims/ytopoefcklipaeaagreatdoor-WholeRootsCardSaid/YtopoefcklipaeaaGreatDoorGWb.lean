/- The tree of sums: levels, on lists; nodes in memory; walk of sumtree.join.
Walk of sumtree.Build.
Walks of sumtree.root, sumtree.Root, tegularef26.Top. -/
import Derived.Test.YtopoefcklipaeaaGreatDoorGWa
namespace Go.Proofs.YtopoefcklipaeaaGreatDoor
open Go.RowKit
def upK (l : List Nat) (j : Nat) : List Nat := (List.range j).map fun t => ruN ((l.drop (4 * t)).take 4)
def upL (l : List Nat) : List Nat := upK l ((l.length + 3) / 4)
def topF : Nat → List Nat → List Nat
 | 0, l => l
 | f + 1, l => if l.length ≤ 1 then l else topF f (upL l)
def topL (l : List Nat) : List Nat := topF l.length l
def rtN (l : List Nat) : Nat := crcN (leB l.length 8 ++ leB ((topL l).headD 0) 8)
theorem upK_len (l : List Nat) (j : Nat) : (upK l j).length = j := by simp [upK]
theorem upL_len (l : List Nat) : (upL l).length = (l.length + 3) / 4 := upK_len _ _
theorem upK_succ (l : List Nat) (j : Nat) : upK l (j + 1) = upK l j ++ [ruN ((l.drop (4 * j)).take 4)] := by
 unfold upK
 rw [List.range_succ, List.map_append]
 rfl
theorem topF_one {l : List Nat} (h : l.length ≤ 1) : ∀ f, topF f l = l
 | 0 => rfl
 | f + 1 => by unfold topF; rw [if_pos h]
theorem topF_step {l : List Nat} {f : Nat} {R : List Nat} (h : 1 < l.length) (hf : l.length ≤ f) (hR : topF f l = R) : ∃ f', (upL l).length ≤ f' ∧ topF f' (upL l) = R := by
 cases f with
 | zero => omega
 | succ f =>
  unfold topF at hR
  rw [if_neg (by omega)] at hR
  exact ⟨f, by rw [upL_len]; omega, hR⟩
/-! ### nodes -/
def ptC (b : Nat) : List Value := [.pointer (some ⟨b, 0, none⟩)]
theorem ptC_one (b : Nat) : ∀ u ∈ ptC b, u.oneCell' = true := by intro u hu; rw [ptC, List.mem_singleton] at hu; subst hu; rfl
theorem elemPt : Elem Tryz.prog 99 51 1 8 := Elem.mk (z := .pointer none) Tryz.underlying99 (by kernel_rfl) (by decide) rfl
def NdS (w : World) (B : Nat) (A : Option Addr) (ss : List Nat) : Prop := ∃ ps : List Nat, ps.length = ss.length ∧ RdS w B 1 A (ps.map ptC) ∧ ∀ (i b s : Nat), ps[i]? = some b → ss[i]? = some s → b < B ∧ w.cell? ⟨b, 0, none⟩ = some (.int .u64 (s : Int))
abbrev NdP (w : World) (base X : Nat) (v : Value) (ss ps : List Nat) : Prop := ps.length = ss.length ∧ OwS w base 51 1 v (ps.map ptC) ∧ ∀ (i b s : Nat), ps[i]? = some b → ss[i]? = some s → (base ≤ b ∧ b < w.heap.size) ∧ v.ownBlock ≠ some b ∧ b ≠ X ∧ w.cell? ⟨b, 0, none⟩ = some (.int .u64 (s : Int))
def NdO (w : World) (base X : Nat) (v : Value) (ss : List Nat) : Prop := ∃ ps : List Nat, NdP w base X v ss ps
section
variable {w w' : World} {B C base X : Nat} {A : Option Addr} {v : Value} {ss : List Nat}
theorem NdS.below (h : NdS w B A ss) (hb : Below C w w') (hC : B ≤ C) : NdS w' B A ss := by
 obtain ⟨ps, h1, h2, h3⟩ := h
 exact ⟨ps, h1, h2.below' hb hC, fun i b s hp hs => ⟨(h3 i b s hp hs).1, (hb.cell (p := ⟨b, 0, none⟩) (by have := (h3 i b s hp hs).1; show b < C; omega)).trans (h3 i b s hp hs).2⟩⟩
theorem NdS.at_ (h : NdS w B A ss) {k s : Nat} (hs : ss[k]? = some s) : ∃ b off p, A = some ⟨b, off, none⟩ ∧ b < B ∧ w.cell? ⟨b, off + k, none⟩ = some (.pointer (some ⟨p, 0, none⟩)) ∧ p < B ∧ w.cell? ⟨p, 0, none⟩ = some (.int .u64 (s : Int)) := by
 obtain ⟨ps, h1, h2, h3⟩ := h
 have hk := (List.getElem?_eq_some_iff.1 hs).1
 have hp : ps[k]? = some ps[k] := List.getElem?_eq_getElem (by omega)
 obtain ⟨b, off, rfl, hb, hc⟩ := h2.2 (by simp; omega)
 have hr : (ps.map ptC)[k]? = some (ptC ps[k]) := by rw [List.getElem?_map, hp]; rfl
 have h4 := h3 k _ s hp hs
 exact ⟨b, off, ps[k], rfl, hb, by simpa using hc k _ hr 0 _ rfl, h4.1, h4.2⟩
theorem NdS.part {b off : Nat} (h : NdS w B (some ⟨b, off, none⟩) ss) (k m : Nat) : NdS w B (some ⟨b, off + k, none⟩) ((ss.drop k).take m) := by
 obtain ⟨ps, h1, h2, h3⟩ := h
 refine ⟨(ps.drop k).take m, by simp [h1], ?_, fun i p s hp hs => ?_⟩
 ·rw [List.map_take, List.map_drop]
  refine RdS.take ?_ m
  refine ⟨fun r hr => h2.1 r (List.mem_of_mem_drop hr), fun hn => ?_⟩
  rw [List.length_drop] at hn
  obtain ⟨b', off', he, hb, hc⟩ := h2.2 (by omega)
  cases he
  refine ⟨b, off + k, rfl, hb, fun i r hr j v hv => ?_⟩
  rw [List.getElem?_drop] at hr
  have := hc (k + i) r hr j v hv
  rw [show off + k + i * 1 + j = off + (k + i) * 1 + j by omega]
  exact this
 ·rw [List.getElem?_take] at hp hs
  split at hp
  ·rename_i hi
   rw [if_pos hi] at hs
   rw [List.getElem?_drop] at hp hs
   exact h3 (k + i) p s hp hs
  ·cases hp
theorem NdO.nil (w : World) (base X : Nat) : NdO w base X (.slice none 0 0) [] := ⟨[], rfl, OwS.nil _ _ _ _, fun i b s h => by simp at h⟩
theorem NdO.form (h : NdO w base X v ss) : ∃ A c, v = .slice A ss.length c ∧ NdS w w.heap.size A ss ∧ ss.length ≤ c := by
 obtain ⟨ps, h1, h2, h3⟩ := h
 obtain ⟨A, c, rfl, hc, -⟩ := h2.form
 exact ⟨A, c, by simp [h1], ⟨ps, h1, h2.reads, fun i b s hp hs => ⟨(h3 i b s hp hs).1.2, (h3 i b s hp hs).2.2.2⟩⟩, by simpa [h1] using hc⟩
theorem NdO.lt (h : NdO w base X v ss) {k : Nat} (hk : v.ownBlock = some k) : base ≤ k ∧ k < w.heap.size := by
 obtain ⟨ps, h1, h2, h3⟩ := h
 exact h2.lt hk
theorem NdO.call (h : NdO w base X v ss) (hb : Below w.heap.size w w') : NdO w' base X v ss := by
 obtain ⟨ps, h1, h2, h3⟩ := h
 refine ⟨ps, h1, h2.below hb, fun i b s hp hs => ?_⟩
 obtain ⟨g1, g2, g3, g4⟩ := h3 i b s hp hs
 exact ⟨⟨g1.1, Nat.lt_of_lt_of_le g1.2 hb.size⟩, g2, g3, (hb.cell (p := ⟨b, 0, none⟩) g1.2).trans g4⟩
theorem NdO.toX (h : NdO w base X v ss) : NdO w base w.heap.size v ss := by
 obtain ⟨ps, h1, h2, h3⟩ := h
 refine ⟨ps, h1, h2, fun i b s hp hs => ?_⟩
 obtain ⟨g1, g2, g3, g4⟩ := h3 i b s hp hs
 exact ⟨g1, g2, by omega, g4⟩
theorem NdO.base0 (h : NdO w base X v ss) {b0 : Nat} (h0 : b0 ≤ base) : NdO w b0 X v ss := by
 obtain ⟨ps, h1, h2, h3⟩ := h
 exact ⟨ps, h1, h2.mono h0, fun i b s hp hs => by
  obtain ⟨g1, g2⟩ := h3 i b s hp hs
  exact ⟨⟨Nat.le_trans h0 g1.1, g1.2⟩, g2⟩⟩
theorem NdO.setX (h : NdO w base X v ss) (hX : X < base) (j : Nat) (u : Value) : NdO (w.setCell ⟨X, j, none⟩ u) base X v ss := by
 obtain ⟨ps, h1, h2, h3⟩ := h
 have hg := grownBy_setCell w ⟨X, j, none⟩ u
 refine ⟨ps, h1, h2.kept hg ?_, fun i b s hp hs => ?_⟩
 ·rcases hv : v.ownBlock with _ | k
  ·exact .inl rfl
  ·have := (h2.lt hv).1
   exact .inr fun e => by injection e with e; have e2 : k = X := e; omega
 ·obtain ⟨g1, g2, g3, g4⟩ := h3 i b s hp hs
  exact ⟨⟨g1.1, Nat.lt_of_lt_of_le g1.2 hg.size⟩, g2, g3, (World.cell?_of_block (hg.block b g1.2 (fun e => g3 (by injection e)))).trans g4⟩
theorem NdP.call {ps : List Nat} (h : NdP w base X v ss ps) (hb : Below w.heap.size w w') : NdP w' base X v ss ps := by
 obtain ⟨h1, h2, h3⟩ := h
 refine ⟨h1, h2.below hb, fun i b s hp hs => ?_⟩
 obtain ⟨g1, g2, g3, g4⟩ := h3 i b s hp hs
 exact ⟨⟨g1.1, Nat.lt_of_lt_of_le g1.2 hb.size⟩, g2, g3, (hb.cell (p := ⟨b, 0, none⟩) g1.2).trans g4⟩
theorem NdP.push {q s : Nat} {v' : Value} {ps : List Nat} (h : NdP w base X v ss ps) (hq : base ≤ q ∧ q < w.heap.size) (hqv : v.ownBlock ≠ some q) (hqX : q ≠ X) (hc : w.cell? ⟨q, 0, none⟩ = some (.int .u64 (s : Int))) (hg : w.grownBy w' v.ownBlock) (ho : OwS w' base 51 1 v' (ps.map ptC ++ [ptC q])) (hv : v'.ownBlock = v.ownBlock ∨ ∃ k, v'.ownBlock = some k ∧ w.heap.size ≤ k) : NdO w' base X v' (ss ++ [s]) := by
 obtain ⟨h1, h2, h3⟩ := h
 have key : ∀ b s, (base ≤ b ∧ b < w.heap.size) → v.ownBlock ≠ some b → b ≠ X → w.cell? ⟨b, 0, none⟩ = some (.int .u64 (s : Int)) → (base ≤ b ∧ b < w'.heap.size) ∧ v'.ownBlock ≠ some b ∧ b ≠ X ∧ w'.cell? ⟨b, 0, none⟩ = some (.int .u64 (s : Int)) := fun b s g1 g2 g3 g4 => by
  refine ⟨⟨g1.1, Nat.lt_of_lt_of_le g1.2 hg.size⟩, ?_, g3, (World.cell?_of_block (hg.block b g1.2 (fun e => g2 e.symm))).trans g4⟩
  rcases hv with e | ⟨k, e, hk⟩
  ·rw [e]; exact g2
  ·rw [e]; intro e2; injection e2; omega
 refine ⟨ps ++ [q], by simp [h1], by rw [List.map_append]; exact ho, fun i b s' hp hs => ?_⟩
 by_cases hi : i < ps.length
 ·rw [List.getElem?_append_left hi] at hp
  rw [List.getElem?_append_left (by omega)] at hs
  obtain ⟨g1, g2, g3, g4⟩ := h3 i b s' hp hs
  exact key b s' g1 g2 g3 g4
 ·have hi2 : i = ps.length := by
   have := (List.getElem?_eq_some_iff.1 hp).1
   simp at this
   omega
  subst hi2
  simp at hp
  rw [h1] at hs
  simp at hs
  subst hp hs
  exact key q s hq hqv hqX hc
theorem NdO.head (h : NdO w base X v ss) {s : Nat} (hs : ss[0]? = some s) : ∃ b off p, v = .slice (some ⟨b, off, none⟩) ss.length (match v with | .slice _ _ c => c | _ => 0) ∧ w.cell? ⟨b, off, none⟩ = some (.pointer (some ⟨p, 0, none⟩)) ∧ (base ≤ p ∧ p < w.heap.size) ∧ p ≠ X ∧ w.cell? ⟨p, 0, none⟩ = some (.int .u64 (s : Int)) := by
 obtain ⟨ps, h1, h2, h3⟩ := h
 have hk := (List.getElem?_eq_some_iff.1 hs).1
 have hp : ps[0]? = some ps[0] := List.getElem?_eq_getElem (by omega)
 obtain ⟨A, c, rfl, -, -⟩ := h2.form
 obtain ⟨b, off, rfl, -, hc⟩ := h2.reads.2 (by simp; omega)
 have hr : (ps.map ptC)[0]? = some (ptC ps[0]) := by rw [List.getElem?_map, hp]; rfl
 have h4 := h3 0 _ s hp hs
 exact ⟨b, off, ps[0], by simp [h1], by simpa using hc 0 _ hr 0 _ rfl, h4.1, h4.2.2.1, h4.2.2.2⟩
end
set_option maxHeartbeats 1000000 in
set_option maxRecDepth 100000 in
theorem join_any {A : Option Addr} {B c : Nat} {l : List Nat} (w : World) (h : NdS w B A l) (hB : B ≤ w.heap.size) (hn : l.length < 256) :
  Calls Tryz.prog 35 #[.slice A l.length c] w fun r w' => (∃ q, r = .returned (.pointer (some ⟨q, 0, none⟩)) ∧ w.heap.size ≤ q ∧ q < w'.heap.size ∧ w'.cell? ⟨q, 0, none⟩ = some (.int .u64 (ruN l : Int))) ∧ Below w.heap.size w w' := by
 have HU := Lib.hid h
 have HTA : Hid (l.take l.length = l) := List.take_length
 clear h
 go_enter Tryz.func35, Tryz.ntmps35
 go_wp2
 go_loopw [3, 8] (fun s3 s8 wr => ∃ k : Nat, k ≤ l.length ∧ s8 = .int .i64 k ∧ OwS wr w.heap.size 38 1 s3 ((l.take k).map u64C) ∧ Below w.heap.size w wr) (fun _ s8 _ => l.length - (intOf s8).toNat)
 case atStart => exact ⟨0, by omega, rfl, OwS.nil _ _ _ _, Below.refl _ _⟩
 case round =>
  obtain ⟨k, hk, rfl, hO, hb⟩ := hrel
  have HO := Lib.hid hO
  have HB := Lib.hid hb
  clear hO hb
  by_cases hkn : k < l.length
  case neg =>
   have hkI : ¬ (k : Int) < (l.length : Int) := by omega
   obtain rfl : k = l.length := by omega
   rw [HTA.out] at HO
   obtain ⟨A2, c2, rfl, hby, -⟩ := HO.out.u64s
   have HSM := Lib.hid (run_any (c := c2) wr hby (Nat.le_refl _) hn)
   clear hby HO
   go_wp2_with fail
   refine HSM.out.mono ?_
   rintro r w3 ⟨rfl, hb3⟩
   have HB3 := Lib.hid (HB.out.trans (hb3.mono HB.out.size))
   clear hb3
   go_wp2
   go_ret
   exact ⟨⟨w3.heap.size, rfl, HB3.out.size, by simp, by rw [cell_of_row _ _ _ _ _ _ (heap_alloc_new w3 _)]; rfl⟩, HB3.out.alloc HB3.out.size _⟩
  case pos =>
   have hkI : (k : Int) < (l.length : Int) := by omega
   have hk0 : ¬ (k : Int) < 0 := by omega
   obtain ⟨x, hx⟩ : ∃ x, l[k]? = some x := ⟨_, List.getElem?_eq_getElem hkn⟩
   obtain ⟨b, o, p, rfl, hbB, hc, hpB, hcp⟩ := NdS.at_ (HU.out.below HB.out hB) hx
   have HSE : Hid ((l.take k) ++ [x] = l.take (k + 1)) := by rw [Hid, List.take_add_one, hx]; rfl
   have hlk : (l.take k).length ≤ 256 := by rw [List.length_take]; omega
   have hz := HB.out.size
   generalize l.take k = m at *
   clear hx
   go_wp2_with (at_builtin; refine wpList_ap1 rfl (.tmp 12) (.tmp 17) _ rfl elemU64 rfl HO.out (u64C x) _ (by rfl) wr.heap.size (by rfl) (by rfl) (u64C_one x) (by simp [maxLen]; omega) (by simp; omega) hz ?_)
   intro v5 w5 hown5 hg5 _
   have hb5 : Below w.heap.size w w5 := (HB.out.alloc hz _).grown hg5 (by simp; omega) (fun k h => (HO.out.lt h).1)
   have ho5 : OwS w5 w.heap.size 38 1 v5 ((l.take (k + 1)).map u64C) := by
    rw [← HSE.out, List.map_append]
    exact hown5
   clear hg5 hown5 hc hcp
   go_wp2
   go_roundw
   case rel => exact ⟨k + 1, by omega, by go_num, ho5, hb5⟩
   case measure => simp [intOf] <;> omega
end Go.Proofs.YtopoefcklipaeaaGreatDoor
namespace Go.Proofs.YtopoefcklipaeaaGreatDoor
open Go.RowKit
def lenV : Value → Nat
 | .slice _ n _ => n
 | _ => 0
def BldP (l : List Nat) (w' : World) (e : Ending) : Prop := ∃ (lv : Int) (p : Option Addr), e = .returned (.agg #[.int .i64 (l.length : Int), .int .i64 lv, .pointer p]) ∧ (l = [] → p = none) ∧ (l ≠ [] → ∃ q, p = some ⟨q, 0, none⟩ ∧ q < w'.heap.size ∧ w'.cell? ⟨q, 0, none⟩ = some (.int .u64 ((topL l).headD 0 : Int)))
theorem topF_ne {f : Nat} {l : List Nat} (h : l ≠ []) : topF f l ≠ [] := by
 induction f generalizing l with
 | zero => exact h
 | succ f ih =>
  unfold topF
  split
  ·exact h
  ·refine ih fun e => ?_
   have := upL_len l
   rw [e] at this
   simp at this
   rcases l with _ | ⟨a, l⟩
   ·exact h rfl
   ·simp at this; omega
set_option maxHeartbeats 4000000 in
set_option maxRecDepth 100000 in
theorem build_any {A : Option Addr} {B c : Nat} {l : List Nat} (w : World) (h : U64S w B A l) (hB : B ≤ w.heap.size) (hn : l.length ≤ 100000) :
  Calls Tryz.prog 12 #[.slice A l.length c] w fun r w' => BldP l w' r ∧ Below w.heap.size w w' := by
 have HU := Lib.hid h
 have HTA : Hid (l.take l.length = l) := List.take_length
 have HLL := Lib.hid hn
 clear h
 go_enter Tryz.func12, Tryz.ntmps12
 go_upto_region 2 with (fail)
 generalize hW0 : w.alloc _ = w0
 have HR0 : Hid (w0.heap[w.heap.size]? = some (.cells #[.int .i64 0, .int .i64 0, .pointer none] 53 (0, 0))) := by rw [← hW0]; exact heap_alloc_new w _
 have HB0 : Hid (Below w.heap.size w w0) := by rw [← hW0]; exact below_laid
 have HRL : Hid (w.heap.size < w0.heap.size) := (Array.getElem?_eq_some_iff.1 HR0.out).1
 clear hW0
 go_wp2
 go_loopw [3, 11] (fun s3 s11 wr => ∃ k : Nat, k ≤ l.length ∧ s11 = .int .i64 k ∧ NdO wr w0.heap.size w.heap.size s3 (l.take k) ∧ Below w0.heap.size w0 wr) (fun _ s11 _ => l.length - (intOf s11).toNat)
 case atStart => exact ⟨0, by omega, rfl, NdO.nil _ _ _, Below.refl _ _⟩
 case round =>
  obtain ⟨k, hk, rfl, hO, hb⟩ := hrel
  by_cases hkn : k < l.length
  case pos =>
   have hkI : (k : Int) < (l.length : Int) := by omega
   have hk0 : ¬ (k : Int) < 0 := by omega
   obtain ⟨ps, hnd⟩ := hO
   have HND := Lib.hid hnd
   have HB := Lib.hid hb
   obtain ⟨x, hx⟩ : ∃ x, l[k]? = some x := ⟨_, List.getElem?_eq_getElem hkn⟩
   obtain ⟨b, o, rfl, hbB, hc⟩ := U64S.at_ (RdS.below' HU.out (HB0.out.trans (hb.mono HB0.out.size)) hB) hx
   have HSE : Hid ((l.take k) ++ [x] = l.take (k + 1)) := by rw [Hid, List.take_add_one, hx]; rfl
   have hpl : ps.length ≤ 100000 := by have := hnd.1; rw [List.length_take] at this; omega
   have HOO := Lib.hid (hnd.2.1)
   have hz := hb.size
   obtain ⟨A3, c3, rfl, -, -⟩ := hnd.2.1.form
   rw [List.length_map] at HND HOO ⊢
   clear hnd hb hx
   have HOA : Hid (OwS (wr.alloc (.cells #[.int .u64 (x : Int), .slice none 0 0] 101)) w0.heap.size 51 1 (.slice A3 ps.length c3) (ps.map ptC)) := HOO.out.below below_laid
   go_wp2_with (at_builtin; refine wpList_ap1 rfl (.tmp 15) (.tmp 19) _ rfl elemPt rfl HOA.out (ptC wr.heap.size) _ (by rfl) (wr.heap.size + 1) (by rfl) (by simp) (ptC_one _) (by simp [maxLen]; omega) (by simp; omega) (by simp; omega) ?_)
   intro v5 w5 hown5 hg5 hv5
   have hb2 : Below wr.heap.size wr ((wr.alloc (.cells #[.int .u64 (x : Int), .slice none 0 0] 101)).alloc (.cells (ptC wr.heap.size).toArray 51)) := below_laid.trans (below_laid.mono (by simp))
   have hq2 : ((wr.alloc (.cells #[.int .u64 (x : Int), .slice none 0 0] 101)).alloc (.cells (ptC wr.heap.size).toArray 51)).heap[wr.heap.size]? = some (.cells #[.int .u64 (x : Int), .slice none 0 0] 101) := by
    rw [Below.heap_alloc _ _ _ (by simp)]
    exact heap_alloc_new wr _
   have HN5 : Hid (NdO w5 w0.heap.size w.heap.size v5 (l.take (k + 1))) := by
    rw [Hid, ← HSE.out]
    refine (HND.out.call hb2).push (q := wr.heap.size) ⟨hz, by simp; omega⟩ (fun e => by have := (HOO.out.lt e).2; omega) (by have := HRL.out; omega) (by rw [cell_of_row _ _ _ _ _ _ hq2]; rfl) hg5 hown5 ?_
    rcases hv5 with e | e
    ·exact .inl e
    ·exact .inr ⟨_, e, by simp⟩
   have HB5 : Hid (Below w0.heap.size w0 w5) := (HB.out.trans (hb2.mono hz)).grown hg5 (by simp; omega) (fun k h => (HOO.out.lt h).1)
   clear hown5 hg5 hv5 hb2 hq2 hc
   go_wp2
   go_roundw
   case rel => exact ⟨k + 1, by omega, by go_num, HN5.out, HB5.out⟩
   case measure => simp [intOf] <;> omega
  case neg =>
   have hkI : ¬ (k : Int) < (l.length : Int) := by omega
   obtain rfl : k = l.length := by omega
   rw [HTA.out] at hO
   obtain ⟨A3, c3, rfl, -, -⟩ := hO.form
   have HO := Lib.hid hO.toX
   have HB := Lib.hid hb
   have hz := hb.size
   clear hO hb
   go_upto_region 8 with (fail)
   have hbl : Below wr.heap.size wr (wr.alloc (.cells #[.int .i64 (l.length : Int), .int .i64 0, .pointer none] 53)) := below_laid
   have HT1 := Lib.hid (heap_alloc_new wr (.cells #[.int .i64 (l.length : Int), .int .i64 0, .pointer none] 53))
   have HO1 := Lib.hid (HO.out.call hbl)
   have HB1 := Lib.hid (HB.out.trans (hbl.mono hz))
   generalize wr.alloc _ = w1 at *
   have HXL : Hid (w0.heap.size ≤ wr.heap.size) := hz
   generalize wr.heap.size = X at *
   clear hbl HO HB hz
   go_wp2
   go_loopw [3] (fun s3 wr => ∃ (cur : List Nat) (f : Nat) (lv : Int), NdO wr w0.heap.size X s3 cur ∧ cur.length ≤ f ∧ topF f cur = topL l ∧ cur.length ≤ 100000 ∧ wr.heap[X]? = some (.cells #[.int .i64 (l.length : Int), .int .i64 lv, .pointer none] 53 (0, 0)) ∧ Below w0.heap.size w0 wr) (fun s3 _ => lenV s3)
   case atStart => exact ⟨l, l.length, 0, HO1.out, Nat.le_refl _, rfl, HLL.out, HT1.out, HB1.out⟩
   case round =>
    obtain ⟨cur, f, lv, hO, hf, hR, hcl, ht, hb⟩ := hrel
    obtain ⟨A4, c4, rfl, hN, hc4⟩ := hO.form
    have HO := Lib.hid hO
    have HT := Lib.hid ht
    have HB := Lib.hid hb
    have HNS := Lib.hid hN
    have HR := Lib.hid hR
    clear hO ht hb hN HO1 HT1 HB1
    by_cases h1 : 1 < cur.length
    case pos =>
     have h1I : (1 : Int) < (cur.length : Int) := by omega
     obtain ⟨s0, hs0⟩ : ∃ s, cur[0]? = some s := ⟨_, List.getElem?_eq_getElem (by omega)⟩
     obtain ⟨b, o, p0, rfl, -⟩ := NdS.at_ HNS.out hs0
     generalize wr = wo at *
     have hwo : w0.heap.size ≤ wo.heap.size := HB.out.size
     have HXo : Hid (X < wo.heap.size) := (Array.getElem?_eq_some_iff.1 HT.out).1
     clear hs0
     go_wp2
     go_loopw [7, 8] (fun s7 s8 wr => ∃ i j : Nat, i = 4 * j ∧ j ≤ (cur.length + 3) / 4 ∧ s8 = .int .i64 i ∧ NdO wr wo.heap.size X s7 (upK cur j) ∧ Below wo.heap.size wo wr) (fun _ s8 _ => cur.length + 8 - (intOf s8).toNat)
     case atStart => exact ⟨0, 0, rfl, Nat.zero_le _, rfl, NdO.nil _ _ _, Below.refl _ _⟩
     case round =>
      obtain ⟨i, j, hij, hj, rfl, hO, hb⟩ := hrel
      by_cases hic : i < cur.length
      case pos =>
       have hiI : (i : Int) < (cur.length : Int) := by omega
       have hi0 : ¬ (i : Int) < 0 := by omega
       have hi0' : (0 : Int) ≤ (i : Int) := by omega
       have HIJ : Hid (i = 4 * j) := hij
       obtain ⟨hi, hhi⟩ : ∃ hi, min (i + 4) cur.length = hi := ⟨_, rfl⟩
       have q1 : IntKind.i64.wrap ((i : Int) + 4) = (i : Int) + 4 := IntWalk.i64_in _ (by omega)
       have q2 : ¬ c4 = i := by omega
       have q3 : min ((i : Int) + 4) (cur.length : Int) = (hi : Int) := by omega
       have q4 : (i : Int) ≤ (hi : Int) := by omega
       have q5 : (hi : Int) ≤ (c4 : Int) := by omega
       have hpl : ((cur.drop i).take 4).length = hi - i := by rw [List.length_take, List.length_drop]; omega
       have HJN := Lib.hid (join_any (c := c4 - i) wr ((HNS.out.below hb (Nat.le_refl _)).part i 4) hb.size (by rw [hpl]; omega))
       rw [hpl] at HJN
       have HUS : Hid (upK cur (j + 1) = upK cur j ++ [ruN ((cur.drop i).take 4)]) := by rw [Hid, upK_succ, hij]
       have HMJ : Hid (j + 1 ≤ (cur.length + 3) / 4) := by rw [Hid]; omega
       generalize ruN ((cur.drop i).take 4) = rn at *
       obtain ⟨ps, hnd⟩ := hO
       have hps : ps.length ≤ 100000 := by have := hnd.1; rw [upK_len] at this; omega
       obtain ⟨A5, c5, rfl, -, -⟩ := hnd.2.1.form
       have HND := Lib.hid hnd
       have HB5 := Lib.hid hb
       have HOO := Lib.hid hnd.2.1
       rw [List.length_map] at HND HOO ⊢
       clear hnd hb hij hhi hpl hj
       go_wp2_with fail
       refine HJN.out.mono ?_
       rintro r wj ⟨⟨q, rfl, hq1, hq2, hqc⟩, hbj⟩
       have HNJ := Lib.hid (HND.out.call hbj)
       have HBJ := Lib.hid (HB5.out.trans (hbj.mono HB5.out.size))
       have HOJ := Lib.hid (HOO.out.below hbj)
       have HQ := Lib.hid (And.intro hq1 (And.intro hq2 hqc))
       have hwj : wo.heap.size ≤ wj.heap.size := HBJ.out.size
       have HQB : Hid (wo.heap.size ≤ q) := Nat.le_trans HB5.out.size hq1
       clear hq1 hq2 hqc hbj HJN
       go_wp2_with (at_builtin; refine wpList_ap1 rfl (.tmp 34) (.tmp 44) _ rfl elemPt rfl HOJ.out (ptC q) _ (by rfl) wj.heap.size (by rfl) (by rfl) (ptC_one _) (by simp [maxLen]; omega) (by simp; omega) hwj ?_)
       intro v5 w5 hown5 hg5 hv5
       have hb2 : Below wj.heap.size wj (wj.alloc (.cells (ptC q).toArray 51)) := below_laid
       have HN5 : Hid (NdO w5 wo.heap.size X v5 (upK cur (j + 1))) := by
        obtain ⟨k1, k2, k3⟩ := HQ.out
        rw [Hid, HUS.out]
        refine (HNJ.out.call hb2).push (q := q) ⟨HQB.out, by simp; omega⟩ (fun e => by have := (HOO.out.lt e).2; omega) (by have := HXo.out; have := HQB.out; omega) ((hb2.cell (p := ⟨q, 0, none⟩) k2).trans k3) hg5 hown5 ?_
        rcases hv5 with e | e
        ·exact .inl e
        ·exact .inr ⟨_, e, by simp⟩
       have HB6 : Hid (Below wo.heap.size wo w5) := (HBJ.out.trans (hb2.mono hwj)).grown hg5 (by simp; omega) (fun k h => (HOO.out.lt h).1)
       clear hown5 hg5 hv5 hb2
       go_wp2
       go_roundw
       case rel => exact ⟨i + 4, j + 1, by have := HIJ.out; omega, HMJ.out, by go_num, HN5.out, HB6.out⟩
       case measure => simp [intOf] <;> omega
      case neg =>
       have hiI : ¬ (i : Int) < (cur.length : Int) := by omega
       obtain rfl : j = (cur.length + 3) / 4 := by omega
       have HO2 : Hid (NdO wr wo.heap.size X u7 (upL cur)) := hO
       have HB2 := Lib.hid hb
       obtain ⟨A5, c5, rfl, -, -⟩ := hO.form
       obtain ⟨f', hf', hR'⟩ := topF_step h1 hf HR.out
       have HR2 := Lib.hid hR'
       have HF2 := Lib.hid hf'
       have hT2 := (hb.block X (by have := HXo.out; omega)).trans HT.out
       have t1 : wr.cell? ⟨X, 1, none⟩ = some (.int .i64 lv) := by rw [cell_of_row _ _ _ _ _ _ hT2]; rfl
       have tf := frozen_blk hT2 1
       have HS : Hid (∀ u, NdO (wr.setCell ⟨X, 1, none⟩ u) w0.heap.size X (.slice A5 (upK cur ((cur.length + 3) / 4)).length c5) (upL cur)) := fun u => (HO2.out.setX HXo.out 1 u).base0 hwo
       have HT3 : Hid (∀ u, (wr.setCell ⟨X, 1, none⟩ (.int .i64 u)).heap[X]? = some (.cells #[.int .i64 (l.length : Int), .int .i64 u, .pointer none] 53 (0, 0))) := fun u => heap_setCell_same _ _ 1 _ _ _ hT2
       have HB3 : Hid (∀ u, Below w0.heap.size w0 (wr.setCell ⟨X, 1, none⟩ u)) := fun u => (HB.out.trans (hb.mono hwo)).setCell HXL.out u
       have HUL : Hid ((upL cur).length ≤ 100000) := by rw [Hid, upL_len]; omega
       have HML : Hid ((upK cur ((cur.length + 3) / 4)).length < cur.length) := by rw [Hid, upK_len]; omega
       clear hO hb hT2 hR' hf' hij hj
       go_wp2
       go_roundw
       case rel => exact ⟨upL cur, f', _, HS.out _, HF2.out, HR2.out, HUL.out, HT3.out _, HB3.out _⟩
       case measure => simp [lenV]; exact HML.out
    case neg =>
     have h1I : ¬ (1 : Int) < (cur.length : Int) := by omega
     have hzr : w0.heap.size ≤ wr.heap.size := HB.out.size
     have hXr : X < wr.heap.size := (Array.getElem?_eq_some_iff.1 HT.out).1
     have hRr := (HB.out.block _ HRL.out).trans HR0.out
     have HEQ : Hid (cur = topL l) := by
      have := HR.out
      rw [topF_one (by omega)] at this
      exact this
     have t0 : wr.cell? ⟨X, 0, none⟩ = some (.int .i64 (l.length : Int)) := by rw [cell_of_row _ _ _ _ _ _ HT.out]; rfl
     have t1 : wr.cell? ⟨X, 1, none⟩ = some (.int .i64 lv) := by rw [cell_of_row _ _ _ _ _ _ HT.out]; rfl
     have t2 : wr.cell? ⟨X, 2, none⟩ = some (.pointer none) := by rw [cell_of_row _ _ _ _ _ _ HT.out]; rfl
     have z0 : wr.cell? ⟨w.heap.size, 0, none⟩ = some (.int .i64 0) := by rw [cell_of_row _ _ _ _ _ _ hRr]; rfl
     have z1 : wr.cell? ⟨w.heap.size, 1, none⟩ = some (.int .i64 0) := by rw [cell_of_row _ _ _ _ _ _ hRr]; rfl
     have z2 : wr.cell? ⟨w.heap.size, 2, none⟩ = some (.pointer none) := by rw [cell_of_row _ _ _ _ _ _ hRr]; rfl
     have f0 := frozen_blk hRr 0
     have f1 := frozen_blk hRr 1
     have f2 := frozen_blk hRr 2
     have tf := frozen_blk HT.out 2
     have HRR := Lib.hid hRr
     clear hRr h1
     by_cases hc0 : cur.length = 0
     case pos =>
      obtain rfl : cur = [] := List.length_eq_zero_iff.1 hc0
      have HLE : Hid (l = []) := by
       by_cases e : l = []
       ·exact e
       ·exact absurd HEQ.out.symm (topF_ne e)
      have HBF : Hid (Below w.heap.size w (((wr.setCell ⟨w.heap.size, 0, none⟩ (.int .i64 (l.length : Int))).setCell ⟨w.heap.size, 1, none⟩ (.int .i64 lv)).setCell ⟨w.heap.size, 2, none⟩ (.pointer none))) := (((HB0.out.trans (HB.out.mono HB0.out.size)).setCell (Nat.le_refl _) _).setCell (Nat.le_refl _) _).setCell (Nat.le_refl _) _
      have HRF : Hid ((((wr.setCell ⟨w.heap.size, 0, none⟩ (.int .i64 (l.length : Int))).setCell ⟨w.heap.size, 1, none⟩ (.int .i64 lv)).setCell ⟨w.heap.size, 2, none⟩ (.pointer none)).heap[w.heap.size]? = some (.cells #[.int .i64 (l.length : Int), .int .i64 lv, .pointer none] 53 (0, 0))) := heap_setCell_same _ _ 2 _ _ _ (heap_setCell_same _ _ 1 _ _ _ (heap_setCell_same _ _ 0 _ _ _ HRR.out))
      clear hc0
      go_wp2
      (try simp only [Exit.inBlock, Exit.then])
      refine bodyPost_ret (v := .agg #[.int .i64 (l.length : Int), .int .i64 lv, .pointer none]) ?_ rfl ⟨⟨lv, none, rfl, fun _ => rfl, fun e => absurd HLE.out e⟩, HBF.out⟩
      exact results_cell_row rfl _ _ w.heap.size 53 #[.int .i64 (l.length : Int), .int .i64 lv, .pointer none] (0, 0) _ rfl HRF.out Tryz.underlying53 rfl (by kernel_rfl)
     case neg =>
      have g0 : (0 : Int) < (cur.length : Int) := by omega
      obtain ⟨s, hs⟩ : ∃ s, cur[0]? = some s := ⟨_, List.getElem?_eq_getElem (by omega)⟩
      obtain ⟨b, o, p, he, hcp, hpb, hpX, hcs⟩ := HO.out.head hs
      obtain rfl : A4 = some ⟨b, o, none⟩ := by injection he
      have HSH : Hid ((topL l).headD 0 = s) := by
       rw [Hid, ← HEQ.out]
       cases cur with
       | nil => simp at hs
       | cons a tl => simp at hs; simp [hs]
      have HLN : Hid (l ≠ []) := fun e => by
       have h2 := HEQ.out
       rw [e] at h2
       have h3 : topL [] = [] := rfl
       rw [h3] at h2
       rw [h2] at hs
       cases hs
      have HW : Hid (∀ W : World, W = ((((wr.setCell ⟨X, 2, none⟩ (.pointer (some ⟨p, 0, none⟩))).setCell ⟨w.heap.size, 0, none⟩ (.int .i64 (l.length : Int))).setCell ⟨w.heap.size, 1, none⟩ (.int .i64 lv)).setCell ⟨w.heap.size, 2, none⟩ (.pointer (some ⟨p, 0, none⟩))) → Below w.heap.size w W ∧ W.heap[w.heap.size]? = some (.cells #[.int .i64 (l.length : Int), .int .i64 lv, .pointer (some ⟨p, 0, none⟩)] 53 (0, 0)) ∧ p < W.heap.size ∧ W.cell? ⟨p, 0, none⟩ = some (.int .u64 (s : Int))) := fun W hW => by
       have hRL := HRL.out
       have hXL := HXL.out
       subst hW
       refine ⟨((((HB0.out.trans (HB.out.mono HB0.out.size)).setCell (by show w.heap.size ≤ X; omega) _).setCell (Nat.le_refl _) _).setCell (Nat.le_refl _) _).setCell (Nat.le_refl _) _, ?_, by simpa using hpb.2, ?_⟩
       ·exact heap_setCell_same _ _ 2 _ _ _ (heap_setCell_same _ _ 1 _ _ _ (heap_setCell_same _ _ 0 _ _ _ ((heap_setCell_other _ _ _ _ (by show w.heap.size ≠ X; omega)).trans HRR.out)))
       ·have hp2 : p ≠ w.heap.size := by omega
        refine (World.cell?_of_block (w := wr) ?_).trans hcs
        exact (((heap_setCell_other _ _ _ _ hp2).trans (heap_setCell_other _ _ _ _ hp2)).trans (heap_setCell_other _ _ _ _ hp2)).trans (heap_setCell_other _ _ _ _ hpX)
      have hne : ¬ X = w.heap.size := by have := HRL.out; have := HXL.out; omega
      have hne2 : ¬ w.heap.size = X := fun e => hne e.symm
      clear he hs hcs hpb hpX
      go_wp2
      (try simp only [Exit.inBlock, Exit.then])
      obtain ⟨k1, k2, k3, k4⟩ := HW.out _ rfl
      refine bodyPost_ret (v := .agg #[.int .i64 (l.length : Int), .int .i64 lv, .pointer (some ⟨p, 0, none⟩)]) ?_ rfl ⟨⟨lv, some ⟨p, 0, none⟩, rfl, fun e => absurd e HLN.out, fun _ => ⟨p, rfl, k3, by rw [HSH.out]; exact k4⟩⟩, k1⟩
      exact results_cell_row rfl _ _ w.heap.size 53 #[.int .i64 (l.length : Int), .int .i64 lv, .pointer (some ⟨p, 0, none⟩)] (0, 0) _ rfl k2 Tryz.underlying53 rfl (by kernel_rfl)
end Go.Proofs.YtopoefcklipaeaaGreatDoor
namespace Go.Proofs.YtopoefcklipaeaaGreatDoor
open Go.RowKit
set_option maxHeartbeats 1000000 in
set_option maxRecDepth 100000 in
theorem root_any (n s : Nat) (w : World) (hn : n < 9223372036854775808) : Calls Tryz.prog 83 #[.int .i64 (n : Int), .int .u64 (s : Int)] w fun r w' => r = .returned (.int .u64 (crcN (leB n 8 ++ leB s 8) : Int)) ∧ Below w.heap.size w w' := by
 have hcv := fun W => conv_iu64 (n : Int) (by omega) (by omega) W
 have HLT : Hid (∀ x ∈ leB n 8 ++ leB s 8, x < 256) := fun x hx => by
  rcases List.mem_append.1 hx with hx | hx <;> exact leB_lt x hx
 have HN1 : Hid (∀ W : World, Calls Tryz.prog 167 #[.slice none 0 0, .int .u64 (n : Int)] W fun r w' => (∃ v', r = .returned v' ∧ OwS w' W.heap.size 5 1 v' ((leB n 8).map u8C)) ∧ Below W.heap.size W w') := fun W => by
  have := number_any (l := []) n W (OwS.nil _ _ _ _) (Nat.le_refl _) (by simp)
  simpa using this
 have HLL : Hid ((leB n 8).length = 8) := leB_len n 8
 have HL2 : Hid ((leB n 8 ++ leB s 8).length = 16) := by rw [Hid, List.length_append, leB_len, leB_len]
 generalize leB n 8 = l1 at *
 obtain ⟨l2, hl2⟩ : ∃ l2, l1 ++ leB s 8 = l2 := ⟨_, rfl⟩
 have HE := Lib.hid hl2
 rw [hl2] at HLT HL2 ⊢
 clear hl2
 go_enter Tryz.func83, Tryz.ntmps83
 go_wp2_with fail
 refine (HN1.out w).mono ?_
 rintro r w1 ⟨⟨v1, rfl, ho1⟩, hb1⟩
 have HN2 := Lib.hid (number_any s w1 ho1 hb1.size (by rw [HLL.out]; omega))
 rw [HE.out] at HN2
 have HB1 := Lib.hid hb1
 clear ho1 hb1 HN1
 go_wp2_with fail
 refine HN2.out.mono ?_
 rintro r w2 ⟨⟨v2, rfl, ho2⟩, hb2⟩
 obtain ⟨A2, c2, rfl, hby⟩ := ho2.bytes
 have HSM := Lib.hid (sum64 (c := c2) w2 hby HLT.out (by rw [HL2.out]; omega))
 have HB2 := Lib.hid (HB1.out.trans hb2)
 clear ho2 hby hb2 HN2
 go_wp2_with fail
 refine HSM.out.mono ?_
 rintro r w3 ⟨rfl, rfl⟩
 go_wp2
 go_ret
 exact ⟨rfl, HB2.out⟩
set_option maxHeartbeats 1000000 in
set_option maxRecDepth 100000 in
theorem treeRoot {l : List Nat} {lv : Int} {p : Option Addr} (w : World) (hn : l.length ≤ 100000) (h0 : l = [] → p = none) (h1 : l ≠ [] → ∃ q, p = some ⟨q, 0, none⟩ ∧ q < w.heap.size ∧ w.cell? ⟨q, 0, none⟩ = some (.int .u64 ((topL l).headD 0 : Int))) :
  Calls Tryz.prog 36 #[.agg #[.int .i64 (l.length : Int), .int .i64 lv, .pointer p]] w fun r w' => r = .returned (.int .u64 (rtN l : Int)) ∧ Below w.heap.size w w' := by
 by_cases hl : l = []
 ·obtain rfl := h0 hl
  subst hl
  have HR : Hid (∀ W : World, Calls Tryz.prog 83 #[.int .i64 0, .int .u64 0] W fun r w' => r = .returned (.int .u64 (rtN [] : Int)) ∧ Below W.heap.size W w') := fun W => root_any 0 0 W (by omega)
  clear h0 h1
  go_enter Tryz.func36, Tryz.ntmps36
  go_upto_region 1 with (fail)
  have hb0 : Below w.heap.size w (w.alloc (.cells #[.int .i64 (([] : List Nat).length : Int), .int .i64 lv, .pointer none] 53)) := below_laid
  have hc := heap_alloc_new w (.cells #[.int .i64 (([] : List Nat).length : Int), .int .i64 lv, .pointer none] 53)
  generalize w.alloc _ = w0 at *
  have z0 : w0.cell? ⟨w.heap.size, 0, none⟩ = some (.int .i64 0) := by rw [cell_of_row _ _ _ _ _ _ hc]; rfl
  have z2 : w0.cell? ⟨w.heap.size, 2, none⟩ = some (.pointer none) := by rw [cell_of_row _ _ _ _ _ _ hc]; rfl
  have HB0 := Lib.hid hb0
  clear hb0 hc
  go_wp2_with fail
  refine (HR.out w0).mono ?_
  rintro r w1 ⟨rfl, hb1⟩
  have HB1 := Lib.hid (HB0.out.trans (hb1.mono HB0.out.size))
  clear hb1
  go_wp2
  go_ret
  exact ⟨rfl, HB1.out⟩
 ·obtain ⟨q, rfl, hq, hqc⟩ := h1 hl
  have HR : Hid (∀ W : World, Calls Tryz.prog 83 #[.int .i64 (l.length : Int), .int .u64 ((topL l).headD 0 : Int)] W fun r w' => r = .returned (.int .u64 (rtN l : Int)) ∧ Below W.heap.size W w') := fun W => root_any l.length _ W (by omega)
  generalize (topL l).headD 0 = s at *
  clear h0 h1 hl
  go_enter Tryz.func36, Tryz.ntmps36
  go_upto_region 1 with (fail)
  have hb0 : Below w.heap.size w (w.alloc (.cells #[.int .i64 (l.length : Int), .int .i64 lv, .pointer (some ⟨q, 0, none⟩)] 53)) := below_laid
  have hc := heap_alloc_new w (.cells #[.int .i64 (l.length : Int), .int .i64 lv, .pointer (some ⟨q, 0, none⟩)] 53)
  have hq0 := (hb0.cell (p := ⟨q, 0, none⟩) hq).trans hqc
  generalize w.alloc _ = w0 at *
  have HC : Hid (∀ W, Below w0.heap.size w0 W → W.cell? ⟨w.heap.size, 0, none⟩ = some (.int .i64 (l.length : Int)) ∧ W.cell? ⟨w.heap.size, 2, none⟩ = some (.pointer (some ⟨q, 0, none⟩)) ∧ W.cell? ⟨q, 0, none⟩ = some (.int .u64 (s : Int))) := fun W hW => by
   have h2 := (hW.block _ (Array.getElem?_eq_some_iff.1 hc).1).trans hc
   exact ⟨by rw [cell_of_row _ _ _ _ _ _ h2]; rfl, by rw [cell_of_row _ _ _ _ _ _ h2]; rfl, (hW.cell (p := ⟨q, 0, none⟩) (by show q < _; have := hb0.size; omega)).trans hq0⟩
  have X0 := HC.out w0 (Below.refl _ _)
  have HB0 := Lib.hid hb0
  clear hb0 hc hq hqc hq0
  obtain ⟨z0, z2, zq⟩ := X0
  go_upto_region 3 with (fail)
  have X3 := fun d xs => HC.out (Sort.grow (redrawn w0 d) xs) (below_regrown w0 d xs)
  have KR := Lib.hid (fun d xs => HR.out (Sort.grow (redrawn w0 d) xs))
  clear z0 z2 zq
  refine quiet_below (by kernel_rfl) (by kernel_rfl) ?_
  repeat (go_big_quiet_step (first | (go_at_call 83; exact Calls.regrown_of (KR.out _ _))))
  refine wpQuiet_nil ?_
  intro w1 hb1
  have HB1 := Lib.hid (HB0.out.trans (hb1.mono HB0.out.size))
  clear X3 KR hb1
  go_wp2
  go_ret
  exact ⟨rfl, HB1.out⟩
end Go.Proofs.YtopoefcklipaeaaGreatDoor
