/- The tree of sums: levels, on lists; nodes in memory; walk of sumtree.join. -/
import Derived.Test.YtjgjofepedcfnaaGreatRrC
namespace Go.Proofs.YtjgjofepedcfnaaGreat
open Go.RowKit
def upK (l : List Nat) (j : Nat) : List Nat := (List.range j).map fun t => ruN ((l.drop (4 * t)).take 4)
def upL (l : List Nat) : List Nat := upK l ((l.length + 3) / 4)
def topF : Nat → List Nat → List Nat
 | 0, l => l
 | f + 1, l => if l.length ≤ 1 then l else topF f (upL l)
def topL (l : List Nat) : List Nat := topF l.length l
def rtN (l : List Nat) : Nat := crcN (leB l.length 8 ++ leB ((topL l).headD 0) 8)
theorem upK_len (l : List Nat) (j : Nat) : (upK l j).length = j := by simp [upK]
theorem upL_len (l : List Nat) : (upL l).length = (l.length + 3) / 4 := upK_len _ _
theorem upK_succ (l : List Nat) (j : Nat) : upK l (j + 1) = upK l j ++ [ruN ((l.drop (4 * j)).take 4)] := by
 unfold upK
 rw [List.range_succ, List.map_append]
 rfl
theorem topF_one {l : List Nat} (h : l.length ≤ 1) : ∀ f, topF f l = l
 | 0 => rfl
 | f + 1 => by unfold topF; rw [if_pos h]
theorem topF_step {l : List Nat} {f : Nat} {R : List Nat} (h : 1 < l.length) (hf : l.length ≤ f) (hR : topF f l = R) : ∃ f', (upL l).length ≤ f' ∧ topF f' (upL l) = R := by
 cases f with
 | zero => omega
 | succ f =>
  unfold topF at hR
  rw [if_neg (by omega)] at hR
  exact ⟨f, by rw [upL_len]; omega, hR⟩
/-! ### nodes -/
def ptC (b : Nat) : List Value := [.pointer (some ⟨b, 0, none⟩)]
theorem ptC_one (b : Nat) : ∀ u ∈ ptC b, u.oneCell' = true := by intro u hu; rw [ptC, List.mem_singleton] at hu; subst hu; rfl
theorem elemPt : Elem Tryz.prog 161 110 1 8 := Elem.mk (z := .pointer none) Tryz.underlying161 (by kernel_rfl) (by decide) rfl
def NdS (w : World) (B : Nat) (A : Option Addr) (ss : List Nat) : Prop := ∃ ps : List Nat, ps.length = ss.length ∧ RdS w B 1 A (ps.map ptC) ∧ ∀ (i b s : Nat), ps[i]? = some b → ss[i]? = some s → b < B ∧ w.cell? ⟨b, 0, none⟩ = some (.int .u64 (s : Int))
abbrev NdP (w : World) (base X : Nat) (v : Value) (ss ps : List Nat) : Prop := ps.length = ss.length ∧ OwS w base 110 1 v (ps.map ptC) ∧ ∀ (i b s : Nat), ps[i]? = some b → ss[i]? = some s → (base ≤ b ∧ b < w.heap.size) ∧ v.ownBlock ≠ some b ∧ b ≠ X ∧ w.cell? ⟨b, 0, none⟩ = some (.int .u64 (s : Int))
def NdO (w : World) (base X : Nat) (v : Value) (ss : List Nat) : Prop := ∃ ps : List Nat, NdP w base X v ss ps
section
variable {w w' : World} {B C base X : Nat} {A : Option Addr} {v : Value} {ss : List Nat}
theorem NdS.below (h : NdS w B A ss) (hb : Below C w w') (hC : B ≤ C) : NdS w' B A ss := by
 obtain ⟨ps, h1, h2, h3⟩ := h
 exact ⟨ps, h1, h2.below' hb hC, fun i b s hp hs => ⟨(h3 i b s hp hs).1, (hb.cell (p := ⟨b, 0, none⟩) (by have := (h3 i b s hp hs).1; show b < C; omega)).trans (h3 i b s hp hs).2⟩⟩
theorem NdS.at_ (h : NdS w B A ss) {k s : Nat} (hs : ss[k]? = some s) : ∃ b off p, A = some ⟨b, off, none⟩ ∧ b < B ∧ w.cell? ⟨b, off + k, none⟩ = some (.pointer (some ⟨p, 0, none⟩)) ∧ p < B ∧ w.cell? ⟨p, 0, none⟩ = some (.int .u64 (s : Int)) := by
 obtain ⟨ps, h1, h2, h3⟩ := h
 have hk := (List.getElem?_eq_some_iff.1 hs).1
 have hp : ps[k]? = some ps[k] := List.getElem?_eq_getElem (by omega)
 obtain ⟨b, off, rfl, hb, hc⟩ := h2.2 (by simp; omega)
 have hr : (ps.map ptC)[k]? = some (ptC ps[k]) := by rw [List.getElem?_map, hp]; rfl
 have h4 := h3 k _ s hp hs
 exact ⟨b, off, ps[k], rfl, hb, by simpa using hc k _ hr 0 _ rfl, h4.1, h4.2⟩
theorem NdS.part {b off : Nat} (h : NdS w B (some ⟨b, off, none⟩) ss) (k m : Nat) : NdS w B (some ⟨b, off + k, none⟩) ((ss.drop k).take m) := by
 obtain ⟨ps, h1, h2, h3⟩ := h
 refine ⟨(ps.drop k).take m, by simp [h1], ?_, fun i p s hp hs => ?_⟩
 ·rw [List.map_take, List.map_drop]
  refine RdS.take ?_ m
  refine ⟨fun r hr => h2.1 r (List.mem_of_mem_drop hr), fun hn => ?_⟩
  rw [List.length_drop] at hn
  obtain ⟨b', off', he, hb, hc⟩ := h2.2 (by omega)
  cases he
  refine ⟨b, off + k, rfl, hb, fun i r hr j v hv => ?_⟩
  rw [List.getElem?_drop] at hr
  have := hc (k + i) r hr j v hv
  rw [show off + k + i * 1 + j = off + (k + i) * 1 + j by omega]
  exact this
 ·rw [List.getElem?_take] at hp hs
  split at hp
  ·rename_i hi
   rw [if_pos hi] at hs
   rw [List.getElem?_drop] at hp hs
   exact h3 (k + i) p s hp hs
  ·cases hp
theorem NdO.nil (w : World) (base X : Nat) : NdO w base X (.slice none 0 0) [] := ⟨[], rfl, OwS.nil _ _ _ _, fun i b s h => by simp at h⟩
theorem NdO.form (h : NdO w base X v ss) : ∃ A c, v = .slice A ss.length c ∧ NdS w w.heap.size A ss ∧ ss.length ≤ c := by
 obtain ⟨ps, h1, h2, h3⟩ := h
 obtain ⟨A, c, rfl, hc, -⟩ := h2.form
 exact ⟨A, c, by simp [h1], ⟨ps, h1, h2.reads, fun i b s hp hs => ⟨(h3 i b s hp hs).1.2, (h3 i b s hp hs).2.2.2⟩⟩, by simpa [h1] using hc⟩
theorem NdO.lt (h : NdO w base X v ss) {k : Nat} (hk : v.ownBlock = some k) : base ≤ k ∧ k < w.heap.size := by
 obtain ⟨ps, h1, h2, h3⟩ := h
 exact h2.lt hk
theorem NdO.call (h : NdO w base X v ss) (hb : Below w.heap.size w w') : NdO w' base X v ss := by
 obtain ⟨ps, h1, h2, h3⟩ := h
 refine ⟨ps, h1, h2.below hb, fun i b s hp hs => ?_⟩
 obtain ⟨g1, g2, g3, g4⟩ := h3 i b s hp hs
 exact ⟨⟨g1.1, Nat.lt_of_lt_of_le g1.2 hb.size⟩, g2, g3, (hb.cell (p := ⟨b, 0, none⟩) g1.2).trans g4⟩
theorem NdO.toX (h : NdO w base X v ss) : NdO w base w.heap.size v ss := by
 obtain ⟨ps, h1, h2, h3⟩ := h
 refine ⟨ps, h1, h2, fun i b s hp hs => ?_⟩
 obtain ⟨g1, g2, g3, g4⟩ := h3 i b s hp hs
 exact ⟨g1, g2, by omega, g4⟩
theorem NdO.base0 (h : NdO w base X v ss) {b0 : Nat} (h0 : b0 ≤ base) : NdO w b0 X v ss := by
 obtain ⟨ps, h1, h2, h3⟩ := h
 exact ⟨ps, h1, h2.mono h0, fun i b s hp hs => by
  obtain ⟨g1, g2⟩ := h3 i b s hp hs
  exact ⟨⟨Nat.le_trans h0 g1.1, g1.2⟩, g2⟩⟩
theorem NdO.setX (h : NdO w base X v ss) (hX : X < base) (j : Nat) (u : Value) : NdO (w.setCell ⟨X, j, none⟩ u) base X v ss := by
 obtain ⟨ps, h1, h2, h3⟩ := h
 have hg := grownBy_setCell w ⟨X, j, none⟩ u
 refine ⟨ps, h1, h2.kept hg ?_, fun i b s hp hs => ?_⟩
 ·rcases hv : v.ownBlock with _ | k
  ·exact .inl rfl
  ·have := (h2.lt hv).1
   exact .inr fun e => by injection e with e; have e2 : k = X := e; omega
 ·obtain ⟨g1, g2, g3, g4⟩ := h3 i b s hp hs
  exact ⟨⟨g1.1, Nat.lt_of_lt_of_le g1.2 hg.size⟩, g2, g3, (World.cell?_of_block (hg.block b g1.2 (fun e => g3 (by injection e)))).trans g4⟩
theorem NdP.call {ps : List Nat} (h : NdP w base X v ss ps) (hb : Below w.heap.size w w') : NdP w' base X v ss ps := by
 obtain ⟨h1, h2, h3⟩ := h
 refine ⟨h1, h2.below hb, fun i b s hp hs => ?_⟩
 obtain ⟨g1, g2, g3, g4⟩ := h3 i b s hp hs
 exact ⟨⟨g1.1, Nat.lt_of_lt_of_le g1.2 hb.size⟩, g2, g3, (hb.cell (p := ⟨b, 0, none⟩) g1.2).trans g4⟩
theorem NdP.push {q s : Nat} {v' : Value} {ps : List Nat} (h : NdP w base X v ss ps) (hq : base ≤ q ∧ q < w.heap.size) (hqv : v.ownBlock ≠ some q) (hqX : q ≠ X) (hc : w.cell? ⟨q, 0, none⟩ = some (.int .u64 (s : Int))) (hg : w.grownBy w' v.ownBlock) (ho : OwS w' base 110 1 v' (ps.map ptC ++ [ptC q])) (hv : v'.ownBlock = v.ownBlock ∨ ∃ k, v'.ownBlock = some k ∧ w.heap.size ≤ k) : NdO w' base X v' (ss ++ [s]) := by
 obtain ⟨h1, h2, h3⟩ := h
 have key : ∀ b s, (base ≤ b ∧ b < w.heap.size) → v.ownBlock ≠ some b → b ≠ X → w.cell? ⟨b, 0, none⟩ = some (.int .u64 (s : Int)) → (base ≤ b ∧ b < w'.heap.size) ∧ v'.ownBlock ≠ some b ∧ b ≠ X ∧ w'.cell? ⟨b, 0, none⟩ = some (.int .u64 (s : Int)) := fun b s g1 g2 g3 g4 => by
  refine ⟨⟨g1.1, Nat.lt_of_lt_of_le g1.2 hg.size⟩, ?_, g3, (World.cell?_of_block (hg.block b g1.2 (fun e => g2 e.symm))).trans g4⟩
  rcases hv with e | ⟨k, e, hk⟩
  ·rw [e]; exact g2
  ·rw [e]; intro e2; injection e2; omega
 refine ⟨ps ++ [q], by simp [h1], by rw [List.map_append]; exact ho, fun i b s' hp hs => ?_⟩
 by_cases hi : i < ps.length
 ·rw [List.getElem?_append_left hi] at hp
  rw [List.getElem?_append_left (by omega)] at hs
  obtain ⟨g1, g2, g3, g4⟩ := h3 i b s' hp hs
  exact key b s' g1 g2 g3 g4
 ·have hi2 : i = ps.length := by
   have := (List.getElem?_eq_some_iff.1 hp).1
   simp at this
   omega
  subst hi2
  simp at hp
  rw [h1] at hs
  simp at hs
  subst hp hs
  exact key q s hq hqv hqX hc
theorem NdO.head (h : NdO w base X v ss) {s : Nat} (hs : ss[0]? = some s) : ∃ b off p, v = .slice (some ⟨b, off, none⟩) ss.length (match v with | .slice _ _ c => c | _ => 0) ∧ w.cell? ⟨b, off, none⟩ = some (.pointer (some ⟨p, 0, none⟩)) ∧ (base ≤ p ∧ p < w.heap.size) ∧ p ≠ X ∧ w.cell? ⟨p, 0, none⟩ = some (.int .u64 (s : Int)) := by
 obtain ⟨ps, h1, h2, h3⟩ := h
 have hk := (List.getElem?_eq_some_iff.1 hs).1
 have hp : ps[0]? = some ps[0] := List.getElem?_eq_getElem (by omega)
 obtain ⟨A, c, rfl, -, -⟩ := h2.form
 obtain ⟨b, off, rfl, -, hc⟩ := h2.reads.2 (by simp; omega)
 have hr : (ps.map ptC)[0]? = some (ptC ps[0]) := by rw [List.getElem?_map, hp]; rfl
 have h4 := h3 0 _ s hp hs
 exact ⟨b, off, ps[0], by simp [h1], by simpa using hc 0 _ hr 0 _ rfl, h4.1, h4.2.2.1, h4.2.2.2⟩
end
set_option maxHeartbeats 1000000 in
set_option maxRecDepth 100000 in
theorem join_any {A : Option Addr} {B c : Nat} {l : List Nat} (w : World) (h : NdS w B A l) (hB : B ≤ w.heap.size) (hn : l.length < 256) :
  Calls Tryz.prog 110 #[.slice A l.length c] w fun r w' => (∃ q, r = .returned (.pointer (some ⟨q, 0, none⟩)) ∧ w.heap.size ≤ q ∧ q < w'.heap.size ∧ w'.cell? ⟨q, 0, none⟩ = some (.int .u64 (ruN l : Int))) ∧ Below w.heap.size w w' := by
 have HU := Lib.hid h
 have HTA : Hid (l.take l.length = l) := List.take_length
 clear h
 go_enter Tryz.func110, Tryz.ntmps110
 go_wp2
 go_loopw [3, 8] (fun s3 s8 wr => ∃ k : Nat, k ≤ l.length ∧ s8 = .int .i64 k ∧ OwS wr w.heap.size 23 1 s3 ((l.take k).map u64C) ∧ Below w.heap.size w wr) (fun _ s8 _ => l.length - (intOf s8).toNat)
 case atStart => exact ⟨0, by omega, rfl, OwS.nil _ _ _ _, Below.refl _ _⟩
 case round =>
  obtain ⟨k, hk, rfl, hO, hb⟩ := hrel
  have HO := Lib.hid hO
  have HB := Lib.hid hb
  clear hO hb
  by_cases hkn : k < l.length
  case neg =>
   have hkI : ¬ (k : Int) < (l.length : Int) := by omega
   obtain rfl : k = l.length := by omega
   rw [HTA.out] at HO
   obtain ⟨A2, c2, rfl, hby, -⟩ := HO.out.u64s
   have HSM := Lib.hid (run_any (c := c2) wr hby (Nat.le_refl _) hn)
   clear hby HO
   go_wp2_with fail
   refine HSM.out.mono ?_
   rintro r w3 ⟨rfl, hb3⟩
   have HB3 := Lib.hid (HB.out.trans (hb3.mono HB.out.size))
   clear hb3
   go_wp2
   go_ret
   exact ⟨⟨w3.heap.size, rfl, HB3.out.size, by simp, by rw [cell_of_row _ _ _ _ _ _ (heap_alloc_new w3 _)]; rfl⟩, HB3.out.alloc HB3.out.size _⟩
  case pos =>
   have hkI : (k : Int) < (l.length : Int) := by omega
   have hk0 : ¬ (k : Int) < 0 := by omega
   obtain ⟨x, hx⟩ : ∃ x, l[k]? = some x := ⟨_, List.getElem?_eq_getElem hkn⟩
   obtain ⟨b, o, p, rfl, hbB, hc, hpB, hcp⟩ := NdS.at_ (HU.out.below HB.out hB) hx
   have HSE : Hid ((l.take k) ++ [x] = l.take (k + 1)) := by rw [Hid, List.take_add_one, hx]; rfl
   have hlk : (l.take k).length ≤ 256 := by rw [List.length_take]; omega
   have hz := HB.out.size
   generalize l.take k = m at *
   clear hx
   go_wp2_with (at_builtin; refine wpList_ap1 rfl (.tmp 12) (.tmp 17) _ rfl elemU64 rfl HO.out (u64C x) _ (by rfl) wr.heap.size (by rfl) (by rfl) (u64C_one x) (by simp [maxLen]; omega) (by simp; omega) hz ?_)
   intro v5 w5 hown5 hg5 _
   have hb5 : Below w.heap.size w w5 := (HB.out.alloc hz _).grown hg5 (by simp; omega) (fun k h => (HO.out.lt h).1)
   have ho5 : OwS w5 w.heap.size 23 1 v5 ((l.take (k + 1)).map u64C) := by
    rw [← HSE.out, List.map_append]
    exact hown5
   clear hg5 hown5 hc hcp
   go_wp2
   go_roundw
   case rel => exact ⟨k + 1, by omega, by go_num, ho5, hb5⟩
   case measure => simp [intOf] <;> omega
end Go.Proofs.YtjgjofepedcfnaaGreat
