/- Walk of tegularef50.Decode. -/
import Derived.Test.YtjgjofepedcfnaaGreatRsK
namespace Go.Proofs.YtjgjofepedcfnaaGreat
open Go.RowKit
theorem make_u64L (w : World) (n : Nat) (h : n ≤ 1000000) : (Instr.makeSlice 78 (.int .i64 (n : Int)) (.int .i64 (n : Int))).run Tryz.prog w = .ok (.slice (some ⟨w.heap.size, 0, none⟩) n n) (w.alloc (.cells (madeCells #[.int .u64 0] n) 23)) := by
 obtain ⟨i, hi, h1, h2, h3⟩ := info_parts (P := Tryz.prog) (e := 23) (z := .int .u64 0) (size := 1) (bytes := 8) (by kernel_rfl)
 have hr := run_make (P := Tryz.prog) w 78 23 i _ Tryz.underlying78 hi h1 .i64 .i64 n n (by omega) (Int.le_refl _) (by rw [h3]; omega) (by omega)
 simp only [Int.toNat_natCast, h2, Nat.mul_one] at hr
 exact hr
theorem made_u64L {W : World} {b g n : Nat} (h : W.heap[g]? = some (.cells (madeCells #[.int .u64 0] n) 23 (0, 0))) (hn : n ≤ 1000) (hb : b ≤ g) : OwS W b 23 1 (.slice (some ⟨g, 0, none⟩) n n) ((List.replicate n 0).map u64C) := by
 have e : (List.replicate n 0).map u64C = List.replicate n [.int .u64 0] := by simp [u64C]
 refine OwS.lit ?_ h ?_ (by rw [e]; simp) (by simp [maxLen]; omega) hb
 ·rw [e]
  intro r hr
  rw [(List.mem_replicate.1 hr).2]
  rfl
 ·rw [e, made_list]
  clear h hb hn e
  induction n with
  | zero => rfl
  | succ k ih => rw [List.replicate_succ, List.replicate_succ, List.flatten_cons, ← ih]; rfl
theorem OwS.setU {w : World} {base n cap g : Nat} {t : TypeId} {l : List Nat} (h : OwS w base t 1 (.slice (some ⟨g, 0, none⟩) n cap) (l.map u64C)) {k : Nat} (hk : k < l.length) (x : Nat) : OwS (w.setCell ⟨g, k, none⟩ (.int .u64 (x : Int))) base t 1 (.slice (some ⟨g, 0, none⟩) n cap) ((l.set k x).map u64C) := by
 have hr : (l.map u64C)[k]? = some (u64C l[k]) := by rw [List.getElem?_map, List.getElem?_eq_getElem hk]; rfl
 have h1 := (h.set (k := k) (j := 0) hr (by decide) (.int .u64 (x : Int))).1
 have e1 : (l.map u64C).set k ((u64C l[k]).set 0 (.int .u64 (x : Int))) = (l.set k x).map u64C := by rw [List.map_set]; rfl
 rw [e1, Nat.mul_one, Nat.add_zero] at h1
 exact h1
theorem OwS.cellU {w : World} {base n cap g : Nat} {t : TypeId} {l : List Nat} (h : OwS w base t 1 (.slice (some ⟨g, 0, none⟩) n cap) (l.map u64C)) {k : Nat} (hk : k < l.length) : w.cell? ⟨g, k, none⟩ = some (.int .u64 (l[k] : Int)) := by
 have hr : (l.map u64C)[k]? = some (u64C l[k]) := by rw [List.getElem?_map, List.getElem?_eq_getElem hk]; rfl
 have := h.cell (k := k) (j := 0) hr rfl
 rwa [Nat.mul_one, Nat.add_zero] at this
theorem set_app {α : Type} {a : List α} {j w : Nat} (x z : α) (ha : a.length = j) (hj : j < w) : (a ++ List.replicate (w - j) z).set j x = (a ++ [x]) ++ List.replicate (w - (j + 1)) z := by
 rw [List.set_append_right _ _ (by omega), show j - a.length = 0 by omega, show w - j = (w - (j + 1)) + 1 by omega, List.replicate_succ, List.set_cons_zero, List.append_assoc]
 rfl
theorem set_drop {α : Type} {a d : List α} {k : Nat} (x : α) (ha : a.length = k) (hk : k < d.length) : (a ++ d.drop k).set k x = (a ++ [x]) ++ d.drop (k + 1) := by
 rw [List.set_append_right _ _ (by omega), show k - a.length = 0 by omega, List.drop_eq_getElem_cons hk, List.set_cons_zero, List.append_assoc]
 rfl
theorem LvO.lvw {F : Nat → Prop} {w : World} {b : Nat} {v : Value} {ls : List Leaf} (h : LvO w 0 b v ls) (hF : ∀ k, v.ownBlock = some k → F k) (hG : ∀ k, F k → b ≤ k → k < w.heap.size → v.ownBlock = some k) : LvW F w v ls := by
 obtain ⟨rows, hn, ho, hl⟩ := h
 refine ⟨rows, hn, ho.mono (Nat.zero_le _), hF, fun k x L hk hL => ?_⟩
 obtain ⟨g1, g2, g3, g4⟩ := hl k x L hk hL
 obtain ⟨A, c, A', c', he, h1, h2, h3⟩ := g1
 injection he with he
 have e1 : x.1 = .slice A L.vs.length c := by have := congrArg (fun x => x[0]?) he; simpa using this
 have e2 : x.2 = .slice A' L.ss.length c' := by have := congrArg (fun x => x[1]?) he; simpa using this
 rw [e1] at g2 g4
 rw [e2] at g3 g4
 have r1 := RdS.stb (F := F) h1 fun a ha hf => by
  have hb : (Value.slice A L.vs.length c).ownBlock = some a.block := by rw [ha]; rfl
  have h5 := g4 _ (.inl hb)
  have h6 := hG _ hf (by omega) h5.1
  rcases g2 with g2 | g2
  ·rw [hb] at g2; cases g2
  ·exact g2 (hb.trans h6.symm)
 have r2 := RdS.stb (F := F) h2 fun a ha hf => by
  have hb : (Value.slice A' L.ss.length c').ownBlock = some a.block := by rw [ha]; rfl
  have h5 := g4 _ (.inr hb)
  have h6 := hG _ hf (by omega) h5.1
  rcases g3 with g3 | g3
  ·rw [hb] at g3; cases g3
  ·exact g3 (hb.trans h6.symm)
 exact fun W hW => ⟨A, c, A', c', by rw [e1, e2], r1 W hW, r2 W hW, h3⟩
structure LfJ (wo : World) (p q : Nat) (R : TypeId) (X : Nat) (va vb : Value) (vs ss : List Nat) (s : Rst) (W : World) : Prop where
 agr : Agr (fun k => k = p) wo W
 rd : RdX p q R s W
 blk : W.heap[X]? = some (.cells #[va, vb] 80 (0, 0))
 a : OwS W wo.heap.size 23 1 va (vs.map u64C)
 b : OwS W wo.heap.size 23 1 vb (ss.map u64C)
 ne : va.ownBlock = none ∨ va.ownBlock ≠ vb.ownBlock
 lt : p < wo.heap.size
 wx : wo.heap.size ≤ X
section
variable {wo w1 W W' : World} {m S p q X : Nat} {R T : TypeId} {va vb lv mv nv : Value} {vs ss : List Nat} {s s' : Rst} {Z : St}
theorem LfJ.read (h : LfJ wo p q R X va vb vs ss s W) (hr : RdP p q R s' W W') : LfJ wo p q R X va vb vs ss s' W' := by
 have hp := h.lt
 have hx := h.wx
 exact ⟨h.agr.trans hr.2, hr.1, (hr.2.block _ (Array.getElem?_eq_some_iff.1 h.blk).1 (by omega)).trans h.blk, h.a.kept hr.2.grownBy (.inr fun e => by have := (h.a.lt e).1; omega), h.b.kept hr.2.grownBy (.inr fun e => by have := (h.b.lt e).1; omega), h.ne, hp, hx⟩
theorem LfJ.call (h : LfJ wo p q R X va vb vs ss s W) (hb : Below W.heap.size W W') : LfJ wo p q R X va vb vs ss s W' := h.read ⟨h.rd.call hb, .of hb⟩
theorem LfJ.cells (h : LfJ wo p q R X va vb vs ss s W) : W.cell? ⟨X, 0, none⟩ = some va ∧ W.cell? ⟨X, 1, none⟩ = some vb :=
 ⟨by rw [cell_of_row _ _ _ _ _ _ h.blk]; rfl, by rw [cell_of_row _ _ _ _ _ _ h.blk]; rfl⟩
theorem LfJ.done (h : LfJ wo p q R X va vb vs ss s W) (hd : DcI w1 m S p q R T lv mv nv Z s' wo) : DcI w1 m S p q R T lv mv nv Z s W := hd.turn h.agr h.rd
theorem LfJ.stb (h : LfJ wo p q R X va vb vs ss s W) (hd : DcI w1 m S p q R T lv mv nv Z s' wo) : Stb (FX S (EDc m p) lv nv) W fun V => LfV V V.heap.size (.agg #[va, vb]) ⟨vs, ss⟩ :=
 LfV.stb (LfV.mk h.a h.b) (LfF.mk h.a h.b (Nat.le_refl _) (Nat.le_refl _)) fun _k hk => hd.flt hk
theorem LfJ.setA {g n c i : Nat} (h : LfJ wo p q R X (.slice (some ⟨g, 0, none⟩) n c) vb vs ss s W) (hi : i < vs.length) (x : Nat) : LfJ wo p q R X (.slice (some ⟨g, 0, none⟩) n c) vb (vs.set i x) ss s (W.setCell ⟨g, i, none⟩ (.int .u64 (x : Int))) := by
 have hp := h.lt
 have hg : wo.heap.size ≤ g := (h.a.lt rfl).1
 have hx : X ≠ g := fun e => h.a.blk_ne h.blk (by decide) (by rw [e]; rfl)
 have hq := h.rd.qp
 exact ⟨h.agr.set (p := ⟨g, i, none⟩) (.inr hg) _, h.rd.keep (by simp) fun k k1 k2 => heap_setCell_other _ _ _ _ (by show k ≠ g; omega), (heap_setCell_other _ _ _ _ hx).trans h.blk, h.a.setU hi x, h.b.far (p := ⟨g, i, none⟩) (fun e => (h.ne.elim (fun e => by cases e) fun h2 => h2 e.symm)) _, h.ne, hp, h.wx⟩
theorem LfJ.setB {g n c i : Nat} (h : LfJ wo p q R X va (.slice (some ⟨g, 0, none⟩) n c) vs ss s W) (hi : i < ss.length) (x : Nat) : LfJ wo p q R X va (.slice (some ⟨g, 0, none⟩) n c) vs (ss.set i x) s (W.setCell ⟨g, i, none⟩ (.int .u64 (x : Int))) := by
 have hp := h.lt
 have hg : wo.heap.size ≤ g := (h.b.lt rfl).1
 have hx : X ≠ g := fun e => h.b.blk_ne h.blk (by decide) (by rw [e]; rfl)
 have hq := h.rd.qp
 exact ⟨h.agr.set (p := ⟨g, i, none⟩) (.inr hg) _, h.rd.keep (by simp) fun k k1 k2 => heap_setCell_other _ _ _ _ (by show k ≠ g; omega), (heap_setCell_other _ _ _ _ hx).trans h.blk, h.a.far (p := ⟨g, i, none⟩) (fun e => (h.ne.elim (fun h2 => by rw [h2] at e; cases e) fun h2 => h2 e)) _, h.b.setU hi x, h.ne, hp, h.wx⟩
theorem LfJ.mk' {g g' n : Nat} (hb : Below wo.heap.size wo W) (hr : RdX p q R s wo) (hx : W.heap[X]? = some (.cells #[.slice (some ⟨g, 0, none⟩) n n, .slice (some ⟨g', 0, none⟩) n n] 80 (0, 0))) (hg : W.heap[g]? = some (.cells (madeCells #[.int .u64 0] n) 23 (0, 0))) (hg' : W.heap[g']? = some (.cells (madeCells #[.int .u64 0] n) 23 (0, 0))) (hn : n ≤ 1000) (hne : g ≠ g') (b1 : wo.heap.size ≤ X) (b2 : wo.heap.size ≤ g) (b3 : wo.heap.size ≤ g') :
  LfJ wo p q R X (.slice (some ⟨g, 0, none⟩) n n) (.slice (some ⟨g', 0, none⟩) n n) (List.replicate n 0) (List.replicate n 0) s W :=
 ⟨.of hb, hr.call hb, hx, made_u64L hg hn b2, made_u64L hg' hn b3, .inr fun e => hne (by injection e), hr.lt, b1⟩
end
theorem three_drawn (w : World) (a b c : Obj) : Below w.heap.size w (((w.alloc a).alloc b).alloc c).drew ∧ (((w.alloc a).alloc b).alloc c).drew.heap[w.heap.size]? = some a ∧ (((w.alloc a).alloc b).alloc c).drew.heap[w.heap.size + 1]? = some b ∧ (((w.alloc a).alloc b).alloc c).drew.heap[w.heap.size + 1 + 1]? = some c := by
 have h1 := heap_alloc_new w a
 have h2 := heap_alloc_new (w.alloc a) b
 have h3 := heap_alloc_new ((w.alloc a).alloc b) c
 have e2 : (w.alloc a).heap.size = w.heap.size + 1 := by simp
 have e3 : ((w.alloc a).alloc b).heap.size = w.heap.size + 1 + 1 := by simp
 rw [e2] at h2
 rw [e3] at h3
 exact ⟨((((Below.refl _ _).alloc (Nat.le_refl _) a).alloc (by omega) b).alloc (by omega) c).drew, (Below.heap_alloc _ _ _ (by omega)).trans ((Below.heap_alloc _ _ _ (by omega)).trans h1), (Below.heap_alloc _ _ _ (by omega)).trans h2, h3⟩
def fU (s : Rst) : Nat → Rst
 | 0 => s
 | t + 1 => (rdU (fU s t)).2.2
def csU (s : Rst) : Nat → Array Value
 | 0 => #[.int .i64 0, .int .i64 0, .int .i64 0, .int .i64 0]
 | t + 1 => (csU s t).setIfInBounds t (.int .i64 (IntKind.i64.wrap ((rdU (fU s t)).1 : Int)))
theorem csU_size (s : Rst) : ∀ t, (csU s t).size = 4
 | 0 => rfl
 | t + 1 => by rw [csU, Array.size_setIfInBounds, csU_size s t]
theorem csU_int (s : Rst) : ∀ t i, i < 4 → ∃ x : Int, (csU s t)[i]? = some (.int .i64 x)
 | 0, i, h => ⟨0, by
  match i, h with
  | 0, _ => rfl
  | 1, _ => rfl
  | 2, _ => rfl
  | 3, _ => rfl⟩
 | t + 1, i, h => by
  by_cases e : t = i
  ·subst e
   exact ⟨_, by rw [csU, Array.getElem?_setIfInBounds, if_pos rfl, if_pos (by rw [csU_size]; omega)]⟩
  ·obtain ⟨x, hx⟩ := csU_int s t i h
   exact ⟨x, by rw [csU, Array.getElem?_setIfInBounds, if_neg e]; exact hx⟩
theorem fU_sub {s : Rst} (hc : ∀ x ∈ rdL s, x < 256) : ∀ t, ∀ x ∈ rdL (fU s t), x < 256
 | 0 => hc
 | t + 1 => rdU_sub (fU_sub hc t)
theorem fU_le (s : Rst) : ∀ t, (rdL (fU s t)).length ≤ (rdL s).length
 | 0 => Nat.le_refl _
 | t + 1 => Nat.le_trans (rdU_le _) (fU_le s t)
theorem conv_uiw (x : Int) (W : World) : (convert 23 3 (.int .u64 x)).run Tryz.prog W = .ok (.int .i64 (IntKind.i64.wrap x)) W := by
 rw [run_convert_int W 23 3 .u64 x (by rw [Tryz.underlying23]; rfl) (by kernel_rfl)]
 have hk : Tryz.prog.intKind 3 = .i64 := by kernel_rfl
 rw [hk]
theorem mvU_lt {s : Rst} (h : rdL s ≠ []) : (rdL (mvU s).2).length < (rdL s).length := by
 rcases hs : (mvU s).2 with _ | l
 ·exact List.length_pos_iff.2 h
 ·obtain ⟨l0, rfl, hl⟩ := u4_some (s := s) hs
  exact hl
theorem rdB_lt {s : Rst} (h : rdL s ≠ []) : (rdL (rdB s).2.2).length < (rdL s).length := by
 rcases hs : (rdB s).2.2 with _ | l
 ·exact List.length_pos_iff.2 h
 ·obtain ⟨-, l0, rfl, hl⟩ := rdB_some hs
  exact hl
set_option maxHeartbeats 8000000 in
set_option maxRecDepth 100000 in
theorem r50Decode {L : LayD} {A Ab : Option Addr} {B c cb : Nat} {l : List Nat} (w : World) (hx : LayX L) (hv : GsV w B A L.gs) (hB : B ≤ w.heap.size) (hb : BytS w B Ab l) (hl : l.length ≤ 9000) (hc : ∀ x ∈ l, x < 256) (hG : L.G ≤ 100) :
  Calls Tryz.prog 30 #[layAgg L A c, .slice Ab l.length cb] w fun e w' => DecR w (decP L l) e w' ∧ Below w.heap.size w w' := by
 have HX := Lib.hid hx
 have HY := Lib.hid hb
 have HC := Lib.hid hc
 have HLL := Lib.hid hl
 obtain ⟨R, hR⟩ : ∃ R, decP L l = R := ⟨_, rfl⟩
 have HR := Lib.hid hR
 rw [hR]
 have hw16 := hx.ok.w.2
 have hw1 := hx.ok.w.1
 have HLN : Hid (∀ W, Below w.heap.size w W → Calls Tryz.prog 15 #[.agg #[.int .i64 L.disks, .slice A L.n c, .int .i64 L.tiles, .int .i64 L.spare]] W fun r w' => (∃ A' c', r = .returned (.tuple #[.agg #[.slice A' L.G c', .slice none 0 0, .slice none 0 0], .int .i64 0]) ∧ ∃ b, W.heap.size ≤ b ∧ LvO w' 0 b (.slice A' L.G c') (zeroLs L L.G)) ∧ Below W.heap.size W w') := fun W hW => r50newO (A := A) (c := c) W hx (hv.below hW hB) (Nat.le_trans hB hW.size) (by omega) hw16 (by omega)
 have HLW : Hid (∀ W, Below w.heap.size w W → Calls Tryz.prog 41 #[.agg #[.int .i64 L.disks, .slice A L.n c, .int .i64 L.tiles, .int .i64 L.spare]] W fun r w' => r = .returned (.int .i64 (L.w : Int)) ∧ Below W.heap.size W w') := fun W hW => r21width (A := A) (c := c) W hx (hv.below hW hB) (Nat.le_trans hB hW.size)
 have HVD : Hid (∀ (W : World) (v : Value) (Z : St), Below w.heap.size w W → StV W W.heap.size v Z → Z.ls.length ≤ 100000 → Z.ms.length ≤ 10000 → Z.nt.length ≤ 1000000 → Calls Tryz.prog 23 #[.agg #[.int .i64 L.disks, .slice A L.n c, .int .i64 L.tiles, .int .i64 L.spare], v] W fun r w' => r = .returned (.bool (stOk L Z)) ∧ Below W.heap.size W w') := fun W v Z hW hs h2 h3 h4 => r50valid W hx ((hv.below hW hB).more (Nat.le_trans hB hW.size)) hs (Nat.le_refl _) h2 h3 h4
 clear hx hv hb hc hR hl
 unfold layAgg
 go_enter Tryz.func30, Tryz.ntmps30
 go_upto_region 1 with (fail)
 obtain ⟨w1, hw1', ha, hc, hb, hz⟩ := two_laid w (.cells #[.int .i64 L.disks, .slice A L.n c, .int .i64 L.tiles, .int .i64 L.spare] 36) (.cells #[.slice none 0 0, .slice none 0 0, .slice none 0 0] 45)
 rw [hw1']
 have HLY : Hid (∀ W, Below w1.heap.size w1 W → (W.cell? ⟨w.heap.size, 0, none⟩ = some (.int .i64 L.disks) ∧ W.cell? ⟨w.heap.size, 1, none⟩ = some (.slice A L.n c) ∧ W.cell? ⟨w.heap.size, 2, none⟩ = some (.int .i64 L.tiles) ∧ W.cell? ⟨w.heap.size, 3, none⟩ = some (.int .i64 L.spare))) := fun W hW => by
  have h := (hW.block _ (by omega)).trans ha
  exact ⟨by rw [cell_of_row _ _ _ _ _ _ h]; rfl, by rw [cell_of_row _ _ _ _ _ _ h]; rfl, by rw [cell_of_row _ _ _ _ _ _ h]; rfl, by rw [cell_of_row _ _ _ _ _ _ h]; rfl⟩
 have HRS : Hid (∀ W, Below w1.heap.size w1 W → W.heap[w.heap.size + 1]? = some (.cells #[.slice none 0 0, .slice none 0 0, .slice none 0 0] 45 (0, 0))) := fun W hW => (hW.block _ (by omega)).trans hc
 have HBW : Hid (∀ W, Below w1.heap.size w1 W → Below w.heap.size w W) := fun W hW => hb.trans (hW.mono (by omega))
 have HZ := Lib.hid hz
 have HY1 := Lib.hid (HY.out.below' hb hB)
 obtain ⟨l0, l1, l2, l3⟩ := HLY.out w1 (Below.refl _ _)
 clear ha hc hb hw1' hz HY
 go_wp2_with fail
 refine (HLN.out w1 (HBW.out w1 (Below.refl _ _))).mono ?_
 rintro r w2 ⟨⟨Al, cl, rfl, b, hb1, hlo⟩, hb2⟩
 have HB2 := Lib.hid hb2
 have HLO := Lib.hid hlo
 have HBB : Hid (w1.heap.size ≤ b) := hb1
 clear l0 l1 l2 l3 hb1 hb2 hlo
 go_upto_region 4 with (fail)
 have hs3 : (w2.alloc (.cells #[.slice Al L.G cl, .slice none 0 0, .slice none 0 0] 45)).heap[w2.heap.size]? = some (.cells #[.slice Al L.G cl, .slice none 0 0, .slice none 0 0] 45 (0, 0)) := heap_alloc_new w2 _
 have hb3 : Below w2.heap.size w2 (w2.alloc (.cells #[.slice Al L.G cl, .slice none 0 0, .slice none 0 0] 45)) := below_laid
 have hz3 : (w2.alloc (.cells #[.slice Al L.G cl, .slice none 0 0, .slice none 0 0] 45)).heap.size = w2.heap.size + 1 := by simp
 generalize w2.alloc _ = w3 at *
 have HB3 : Hid (Below w1.heap.size w1 w3) := HB2.out.trans (hb3.mono HB2.out.size)
 have HNW := Lib.hid (nNew (c := cb) w3 (HY1.out.below' HB3.out (by have := HZ.out; omega)) (Nat.le_trans hB (HBW.out w3 HB3.out).size) (by have := HLL.out; omega))
 have HS3 := Lib.hid hs3
 have HBX := Lib.hid hb3
 have HZ3 := Lib.hid hz3
 clear hs3 hb3 hz3 HY1
 go_wp2_with fail
 refine HNW.out.mono ?_
 rintro r w4 ⟨p, rfl, hp2, hrd, hb4⟩
 have HD4 : Hid (DcI w1 w1.heap.size w2.heap.size p w3.heap.size 172 45 (.slice Al L.G cl) (.slice none 0 0) (.slice none 0 0) ⟨zeroLs L L.G, [], []⟩ (some l) w4) := by
  have hz := HZ3.out
  have hs2 := HB2.out.size
  have hbb := HBB.out
  have hlw := HLO.out.lvw (F := FX w2.heap.size (EDc w1.heap.size p) (.slice Al L.G cl) (.slice none 0 0)) (fun k h => FX.l _ h) (fun k hk h1 h2 => by
   rcases hk with rfl | (hk | hk) | hk | hk
   ·omega
   ·omega
   ·omega
   ·exact hk
   ·cases hk)
  have hb24 : Below w2.heap.size w2 w4 := HBX.out.trans (hb4.mono (by omega))
  refine ⟨HB3.out.trans (hb4.mono HB3.out.size), hrd, ⟨(hb4.block _ (by omega)).trans HS3.out, hlw.call hb24, MvW.nil _ _, NtW.nil _ _, by decide, by decide⟩, fun k hk => ?_, HB3.out.size⟩
  rcases hk with rfl | hk | hk
  ·omega
  ·have := HLO.out.lt k hk
   omega
  ·cases hk
 clear hrd hb4 hp2 HNW HS3 HBX HZ3 HLO HBB HB2 HB3 HLN
 obtain ⟨l0, l1, l2, l3⟩ := HLY.out w4 HD4.out.bel
 go_wp2_with fail
 refine (HLW.out w4 (HBW.out w4 HD4.out.bel)).mono ?_
 rintro r w5 ⟨rfl, hb5⟩
 have HD5 := Lib.hid (HD4.out.call hb5)
 clear l0 l1 l2 l3 hb5 HD4
 generalize w2.heap.size = S at *
 generalize w3.heap.size = q at *
 go_wp2
 go_loopw [11] (fun s11 wr => ∃ k : Nat, k ≤ L.G ∧ s11 = .int .i64 k ∧ DcI w1 w1.heap.size S p q 172 45 (.slice Al L.G cl) (.slice none 0 0) (.slice none 0 0) ⟨(lsS L.w (some l) k).1 ++ (zeroLs L L.G).drop k, [], []⟩ (lsS L.w (some l) k).2 wr) (fun s11 _ => L.G - (intOf s11).toNat)
 case atStart => exact ⟨0, by omega, rfl, HD5.out⟩
 case round =>
  obtain ⟨k, hk, rfl, hD⟩ := hrel
  have HD := Lib.hid hD
  clear hD HD5
  obtain ⟨s0, -, -, -⟩ := HD.out.cells
  by_cases hkG : k < L.G
  case neg =>
   have hkI : ¬ (k : Int) < (L.G : Int) := by omega
   obtain rfl : k = L.G := by omega
   clear hkG hk
   have HDA : Hid (DcI w1 w1.heap.size S p q 172 45 (.slice Al L.G cl) (.slice none 0 0) (.slice none 0 0) ⟨(dA L l).1, [], []⟩ (dA L l).2 wr) := by
    have h := HD.out
    rw [show (zeroLs L L.G).drop L.G = [] from List.drop_eq_nil_of_le (by simp), List.append_nil] at h
    exact h
   have HCA : Hid (∀ x ∈ rdL (dA L l).2, x < 256) := lsS_sub (b := some l) HC.out L.G
   have HLA : Hid ((rdL (dA L l).2).length ≤ 9000) := Nat.le_trans (lsS_le L.w (some l) L.G) HLL.out
   have HZA : Hid ((dA L l).1.length ≤ 100) := by rw [Hid, dA, lsS_len]; exact hG
   clear HD
   have HK : Hid (Calls Tryz.prog 71 #[.pointer (some ⟨p, 0, none⟩)] wr fun e w' => e = .returned (.tuple #[.int .u64 ((eN L l).1 : Int), .int .i64 ((eN L l).2.1 : Int)]) ∧ RdP p q 172 (eN L l).2.2 wr w') := nUint wr HDA.out.rd (by have := HLA.out; omega) HCA.out
   have HNN : Hid ((eN L l).1 < 18446744073709551616) := rdU_lt HCA.out
   have HCB : Hid (∀ x ∈ rdL (eN L l).2.2, x < 256) := rdU_sub HCA.out
   have HLB : Hid ((rdL (eN L l).2.2).length ≤ 9000) := Nat.le_trans (rdU_le _) HLA.out
   have HB1 : Hid (∀ i, i < (eN L l).1 → rdL (mvQ (eN L l).2.2 i).2 = [] → decP L l = (St.zero, [], 5)) := fun i hi h => by
    rw [← dec_same (k := i) (j := 0) HX.out.ok HC.out (Nat.le_of_lt hi) (.inr h) (fun e => absurd e (Nat.ne_of_lt hi))]
    exact if_neg fun e => absurd e.1 (Nat.ne_of_lt hi)
   have HB2 : Hid (∀ i, i < (rdU (mvQ (eN L l).2.2 (eN L l).1).2).1 → rdL (ntS (rdU (mvQ (eN L l).2.2 (eN L l).1).2).2.2 i).2 = [] → decP L l = (St.zero, [], 5)) := fun i hi h => by
    rw [← dec_same (k := (eN L l).1) (j := i) HX.out.ok HC.out (Nat.le_refl _) (.inl rfl) (fun _ => ⟨Nat.le_of_lt hi, .inr h⟩)]
    exact if_neg fun e => absurd e.2 (Nat.ne_of_lt hi)
   have HG2 : Hid (decP L l = decF L ⟨(dA L l).1, (mvQ (eN L l).2.2 (eN L l).1).1, (ntS (rdU (mvQ (eN L l).2.2 (eN L l).1).2).2.2 (rdU (mvQ (eN L l).2.2 (eN L l).1).2).1).1⟩ (rdB (ntS (rdU (mvQ (eN L l).2.2 (eN L l).1).2).2.2 (rdU (mvQ (eN L l).2.2 (eN L l).1).2).1).2).1 (rdB (ntS (rdU (mvQ (eN L l).2.2 (eN L l).1).2).2.2 (rdU (mvQ (eN L l).2.2 (eN L l).1).2).1).2).2.2) := by
    rw [Hid, ← dec_same (k := (eN L l).1) (j := (eH L l (eN L l).1).1) HX.out.ok HC.out (Nat.le_refl _) (.inl rfl) (fun _ => ⟨Nat.le_refl _, .inl rfl⟩)]
    exact if_pos ⟨rfl, rfl⟩
   generalize eN L l = N at *
   obtain ⟨n, en, sN⟩ := N
   simp only at HK HNN HCB HLB HB1 HB2 HG2
   generalize dA L l = DA at *
   obtain ⟨za, sA⟩ := DA
   simp only at HDA HZA HG2
   go_wp2_with fail
   refine HK.out.mono ?_
   rintro r wB ⟨rfl, hp⟩
   have HDN := Lib.hid (HDA.out.turn hp.2 hp.1)
   clear hp HK HDA HCA HLA s0
   have HMI := Lib.hid (HDN.out.moves rfl)
   go_wp2
   go_loopw [16] (fun s16 wr => ∃ i : Nat, i ≤ n ∧ s16 = .int .u64 i ∧ i + (rdL (mvQ sN i).2).length ≤ (rdL sN).length ∧ ∃ mv, MvI wB S p q 172 45 (.slice Al L.G cl) mv (.slice none 0 0) (mvQ sN i).1 (mvQ sN i).2 wr) (fun s16 _ => n - (intOf s16).toNat)
   case atStart => exact ⟨0, by omega, rfl, by simp [mvQ], _, HMI.out⟩
   case round =>
    obtain ⟨i, hi, rfl, hil, mv, hM⟩ := hrel
    have HM := Lib.hid hM
    have HIL := Lib.hid hil
    clear hM HMI hil
    have HLF := Lib.hid (nLeft wr HM.out.rd)
    by_cases hin : i < n
    case pos =>
     have hiI : (i : Int) < (n : Int) := by omega
     by_cases hnil : rdL (mvQ sN i).2 = []
     case pos =>
      have HRZ : Hid (R = (St.zero, [], 5)) := by rw [Hid, ← HR.out]; exact HB1.out i hin hnil
      have HD27 := Lib.hid (HM.out.done HDN.out)
      have HML : Hid ((mvQ sN i).1.length = i) := mvQ_len _
      rw [hnil, List.length_nil] at HLF
      obtain ⟨-, s1, -, -⟩ := HD27.out.cells
      obtain ⟨Am, cm, rfl, -⟩ := HD27.out.st.ms
      rw [show (⟨za, (mvQ sN i).1, []⟩ : St).ms.length = i from HML.out] at s1 HD27 HM
      have hcv := fun W => conv_nn i (by have := HIL.out; have := HLB.out; omega) W
      have hn1 : ((i : Int) == (n : Int)) = false := by rw [beq_eq_false_iff_ne]; omega
      have hn2 : ((i : Int) != (n : Int)) = true := by rw [bne_iff_ne]; omega
      clear hnil HM HB1 HB2 HG2 HDN HIL
      go_wp2_with fail
      refine HLF.out.mono ?_
      rintro r w18 ⟨rfl, rfl⟩
      clear HLF
      have HRB := Lib.hid (HRS.out w18 HD27.out.bel)
      have r0 : w18.cell? ⟨w.heap.size + 1, 0, none⟩ = some (.slice none 0 0) := by rw [cell_of_row _ _ _ _ _ _ HRB.out]; rfl
      have r1 : w18.cell? ⟨w.heap.size + 1, 1, none⟩ = some (.slice none 0 0) := by rw [cell_of_row _ _ _ _ _ _ HRB.out]; rfl
      have r2 : w18.cell? ⟨w.heap.size + 1, 2, none⟩ = some (.slice none 0 0) := by rw [cell_of_row _ _ _ _ _ _ HRB.out]; rfl
      have f0 := frozen_blk HRB.out 0
      have f1 := frozen_blk HRB.out 1
      have f2 := frozen_blk HRB.out 2
      have HBF : Hid (Below w.heap.size w (((w18.setCell ⟨w.heap.size + 1, 0, none⟩ (.slice none 0 0)).setCell ⟨w.heap.size + 1, 1, none⟩ (.slice none 0 0)).setCell ⟨w.heap.size + 1, 2, none⟩ (.slice none 0 0))) := (((HBW.out w18 HD27.out.bel).setCell (by simp) _).setCell (by simp) _).setCell (by simp) _
      clear HD27 HRB
      go_wp2
      (try simp only [Exit.inBlock, Exit.then])
      refine bodyPost_ret (v := .tuple #[.agg #[.slice none 0 0, .slice none 0 0, .slice none 0 0], .slice none 0 0, .int .i64 5]) ?_ rfl ⟨by rw [HRZ.out]; exact DecR.zero, HBF.out⟩
      rw [results_cell_tmp2 rfl]
      go_simp
     case neg =>
      have hposN : 0 < (rdL (mvQ sN i).2).length := List.length_pos_iff.2 hnil
      have HLT := Lib.hid (mvU_lt hnil)
      have HCJ : Hid (∀ x ∈ rdL (mvQ sN i).2, x < 256) := mvQ_sub HCB.out i
      have HLJ : Hid ((rdL (mvQ sN i).2).length ≤ 9000) := by have := HIL.out; have := HLB.out; rw [Hid]; omega
      have HMC : Hid (mvQ sN (i + 1) = ((mvQ sN i).1 ++ [(mvU (mvQ sN i).2).1], (mvU (mvQ sN i).2).2)) := rfl
      have HML : Hid ((mvQ sN i).1.length = i) := mvQ_len _
      generalize mvQ sN i = P at *
      obtain ⟨ms, s0⟩ := P
      simp only at HM HLF HLT HCJ HLJ HMC HML HIL hposN
      clear hnil
      generalize wr = wo at *
      go_wp2_with fail
      refine HLF.out.mono ?_
      rintro r w18 ⟨rfl, rfl⟩
      clear HLF
      go_upto_region 21 with (fail)
      have HT0 : Hid (MvT w18 p q 172 127 w18.heap.size (csU s0 0) (fU s0 0) (w18.alloc (.cells #[.int .i64 0, .int .i64 0, .int .i64 0, .int .i64 0] 127))) := MvT.start HM.out.rd.lt HM.out.rd _ _
      generalize w18.alloc _ = u0 at *
      generalize w18.heap.size = M at *
      go_wp2
      go_loopw [18] (fun s18 wr => ∃ t : Nat, t ≤ 4 ∧ s18 = .int .i64 t ∧ MvT w18 p q 172 127 M (csU s0 t) (fU s0 t) wr) (fun s18 _ => 4 - (intOf s18).toNat)
      case atStart => exact ⟨0, by omega, rfl, HT0.out⟩
      case round =>
       obtain ⟨t, ht, rfl, hT⟩ := hrel
       have HT := Lib.hid hT
       clear hT HT0
       by_cases ht4 : t < 4
       case pos =>
        have htI : (t : Int) < 4 := by omega
        have HU := Lib.hid (nUint wr HT.out.rd (by have := HLJ.out; have := fU_le s0 t; omega) (fU_sub HCJ.out t))
        go_wp2_with fail
        refine HU.out.mono ?_
        rintro r u1 ⟨rfl, hp⟩
        have HT1 := Lib.hid (HT.out.read hp)
        obtain ⟨y, hy⟩ := csU_int s0 t t ht4
        have cz : u1.cell? ⟨M, t, none⟩ = some (.int .i64 y) := by rw [cell_of_row _ _ _ _ _ _ HT1.out.blk]; exact hy
        have fr := HT1.out.frozen t
        have hcv := fun W => conv_uiw ((rdU (fU s0 t)).1 : Int) W
        have HT2 : Hid (MvT w18 p q 172 127 M (csU s0 (t + 1)) (fU s0 (t + 1)) (u1.setCell ⟨M, t, none⟩ (.int .i64 (IntKind.i64.wrap ((rdU (fU s0 t)).1 : Int))))) := HT1.out.set t _
        generalize IntKind.i64.wrap ((rdU (fU s0 t)).1 : Int) = xw at *
        clear hp HU HT HT1 hy
        go_wp2
        go_roundw
        case rel => exact ⟨t + 1, by omega, by go_num, HT2.out⟩
        case measure => simp [intOf] <;> omega
       case neg =>
        have htI : ¬ (t : Int) < 4 := by omega
        obtain rfl : t = 4 := by omega
        clear ht4 ht
        have HMD := Lib.hid (HT.out.done HM.out)
        have HMV : Hid (mvU s0 = (⟨IntKind.i64.wrap ((rdU (fU s0 0)).1 : Int), IntKind.i64.wrap ((rdU (fU s0 1)).1 : Int), ⟨IntKind.i64.wrap ((rdU (fU s0 2)).1 : Int), IntKind.i64.wrap ((rdU (fU s0 3)).1 : Int)⟩⟩, fU s0 4)) := rfl
        obtain ⟨-, sc1, -, sf⟩ := HMD.out.cells
        have sf1 := sf 1
        obtain ⟨Am, cm, rfl, -, -⟩ := HMD.out.own.form
        rw [List.length_map] at sc1 HMD
        have m0 : wr.cell? ⟨M, 0, none⟩ = some (.int .i64 (IntKind.i64.wrap ((rdU (fU s0 0)).1 : Int))) := by rw [cell_of_row _ _ _ _ _ _ HT.out.blk]; rfl
        have m1 : wr.cell? ⟨M, 1, none⟩ = some (.int .i64 (IntKind.i64.wrap ((rdU (fU s0 1)).1 : Int))) := by rw [cell_of_row _ _ _ _ _ _ HT.out.blk]; rfl
        have m2 : wr.cell? ⟨M, 2, none⟩ = some (.int .i64 (IntKind.i64.wrap ((rdU (fU s0 2)).1 : Int))) := by rw [cell_of_row _ _ _ _ _ _ HT.out.blk]; rfl
        have m3 : wr.cell? ⟨M, 3, none⟩ = some (.int .i64 (IntKind.i64.wrap ((rdU (fU s0 3)).1 : Int))) := by rw [cell_of_row _ _ _ _ _ _ HT.out.blk]; rfl
        generalize IntKind.i64.wrap ((rdU (fU s0 0)).1 : Int) = v0 at *
        generalize IntKind.i64.wrap ((rdU (fU s0 1)).1 : Int) = v1 at *
        generalize IntKind.i64.wrap ((rdU (fU s0 2)).1 : Int) = v2 at *
        generalize IntKind.i64.wrap ((rdU (fU s0 3)).1 : Int) = v3 at *
        generalize fU s0 4 = s4 at *
        have hzz := HMD.out.agr.size
        clear sf HM HT HCJ
        go_wp2_with (at_builtin; refine wpList_ap1 rfl (.tmp 107) (.tmp 118) _ rfl elemMv rfl HMD.out.own [.int .i64 v0, .int .i64 v1, .int .i64 v2, .int .i64 v3] _ (by rfl) wr.heap.size (by rfl) (by rfl) (by intro u hu; simp only [List.mem_cons, List.not_mem_nil, or_false] at hu; rcases hu with rfl | rfl | rfl | rfl <;> rfl) (by have := HML.out; have := HIL.out; have := HLB.out; simp [maxLen]; omega) (by have := HML.out; have := HIL.out; have := HLB.out; simp; omega) hzz ?_)
        rintro v7 w7 hown7 hg7 -
        obtain ⟨A7, n7, c7, rfl⟩ := hown7.sl
        obtain ⟨hm7, hb7⟩ := HMD.out.push (x := ⟨v0, v1, ⟨v2, v3⟩⟩) hg7 (by rw [List.map_append]; exact hown7)
        have x7 : w7.cell? ⟨S, 1, none⟩ = some (.slice Am ms.length cm) := by rw [cell_of_row _ _ _ _ _ _ hb7]; rfl
        have y7 := frozen_blk hb7 1
        have HM7 := Lib.hid hm7
        have hnn := HNN.out
        clear hm7 hb7 hown7 hg7 HMD sc1 sf1 m0 m1 m2 m3 hzz
        go_wp2
        go_roundw
        case rel => exact ⟨i + 1, by omega, by go_num, by rw [HMC.out]; have := HLT.out; have := HIL.out; show i + 1 + (rdL (mvU s0).2).length ≤ _; omega, _, by rw [HMC.out, HMV.out]; exact HM7.out⟩
        case measure => simp [intOf] <;> omega
    case neg =>
     have hiI : ¬ (i : Int) < (n : Int) := by omega
     obtain rfl : i = n := by omega
     clear hin hi
     have HD27 := Lib.hid (HM.out.done HDN.out)
     have HML : Hid ((mvQ sN i).1.length = i) := mvQ_len _
     have HC27 : Hid (∀ x ∈ rdL (mvQ sN i).2, x < 256) := mvQ_sub HCB.out i
     have HL27 : Hid ((rdL (mvQ sN i).2).length ≤ 9000 ∧ i ≤ 9000) := by have := HIL.out; have := HLB.out; rw [Hid]; omega
     clear HB1 HM HLF HDN HIL HCB HLB
     generalize mvQ sN i = P at *
     obtain ⟨zm, sM⟩ := P
     simp only at HD27 HML HC27 HL27 HB2 HG2
     have HK := Lib.hid (nUint wr HD27.out.rd (by have := HL27.out; omega) HC27.out)
     have HN2 := Lib.hid (rdU_lt HC27.out)
     have HCH := Lib.hid (rdU_sub HC27.out)
     have HLH : Hid ((rdL (rdU sM).2.2).length ≤ 9000) := Nat.le_trans (rdU_le _) HL27.out.1
     generalize rdU sM = N2 at *
     obtain ⟨n2, e2, sH⟩ := N2
     simp only at HK HN2 HCH HLH HB2 HG2
     obtain ⟨-, s1, -, -⟩ := HD27.out.cells
     obtain ⟨Am, cm, rfl, -⟩ := HD27.out.st.ms
     rw [show (⟨za, zm, []⟩ : St).ms.length = i from HML.out] at s1 HD27
     have hcv := fun W => conv_nn i (by have := HL27.out; omega) W
     go_wp2_with fail
     refine HK.out.mono ?_
     rintro r w29 ⟨rfl, hp⟩
     have HDH := Lib.hid (HD27.out.turn hp.2 hp.1)
     clear hp HK HD27 s1 hcv HC27
     go_wp2
     go_loopw [21] (fun s21 wr => ∃ j : Nat, j ≤ n2 ∧ s21 = .int .u64 j ∧ j + (rdL (ntS sH j).2).length ≤ (rdL sH).length ∧ ∃ nv, DcI w1 w1.heap.size S p q 172 45 (.slice Al L.G cl) (.slice Am i cm) nv ⟨za, zm, (ntS sH j).1⟩ (ntS sH j).2 wr) (fun s21 _ => n2 - (intOf s21).toNat)
     case atStart => exact ⟨0, by omega, rfl, by simp [ntS], _, HDH.out⟩
     case round =>
      obtain ⟨j, hj, rfl, hjl, nv, hD⟩ := hrel
      have HD := Lib.hid hD
      have HJL : Hid (j + (rdL (ntS sH j).2).length ≤ 9000) := Nat.le_trans hjl HLH.out
      have HJI := Lib.hid hjl
      clear hD HDH hjl
      have HLF := Lib.hid (nLeft wr HD.out.rd)
      have HCJ : Hid (∀ x ∈ rdL (ntS sH j).2, x < 256) := ntS_sub HCH.out j
      have HU := Lib.hid (nBytes wr HD.out.rd (by have := HJL.out; omega) HCJ.out)
      have HNL : Hid ((ntS sH j).1.length = j) := ntS_len _
      by_cases hjn : j < n2
      case pos =>
       have hjI : (j : Int) < (n2 : Int) := by omega
       by_cases hnil : rdL (ntS sH j).2 = []
       case pos =>
        have HRZ : Hid (R = (St.zero, [], 5)) := by rw [Hid, ← HR.out]; exact HB2.out j hjn hnil
        rw [hnil, List.length_nil] at HLF
        have hcv := fun W => conv_nn j (by have := HJL.out; omega) W
        have hn1 : ((j : Int) == (n2 : Int)) = false := by rw [beq_eq_false_iff_ne]; omega
        have hn2 : ((j : Int) != (n2 : Int)) = true := by rw [bne_iff_ne]; omega
        clear hnil HB2 HG2 HJI
        go_wp2_with fail
        refine HLF.out.mono ?_
        rintro r w31 ⟨rfl, rfl⟩
        clear HLF
        go_wp2_with fail
        refine HU.out.mono ?_
        rintro r w35 ⟨⟨Ax, cx, rfl, -, -, -⟩, hp⟩
        have HD35 := Lib.hid (HD.out.turn hp.2 hp.1)
        obtain ⟨-, -, s2, -⟩ := HD35.out.cells
        obtain ⟨An, cn, rfl, -⟩ := HD35.out.st.nt.form
        rw [show (⟨za, zm, (ntS sH j).1⟩ : St).nt.length = j from HNL.out] at s2 HD35
        clear hp HU HD
        have HRB := Lib.hid (HRS.out w35 HD35.out.bel)
        have r0 : w35.cell? ⟨w.heap.size + 1, 0, none⟩ = some (.slice none 0 0) := by rw [cell_of_row _ _ _ _ _ _ HRB.out]; rfl
        have r1 : w35.cell? ⟨w.heap.size + 1, 1, none⟩ = some (.slice none 0 0) := by rw [cell_of_row _ _ _ _ _ _ HRB.out]; rfl
        have r2 : w35.cell? ⟨w.heap.size + 1, 2, none⟩ = some (.slice none 0 0) := by rw [cell_of_row _ _ _ _ _ _ HRB.out]; rfl
        have f0 := frozen_blk HRB.out 0
        have f1 := frozen_blk HRB.out 1
        have f2 := frozen_blk HRB.out 2
        have HBF : Hid (Below w.heap.size w (((w35.setCell ⟨w.heap.size + 1, 0, none⟩ (.slice none 0 0)).setCell ⟨w.heap.size + 1, 1, none⟩ (.slice none 0 0)).setCell ⟨w.heap.size + 1, 2, none⟩ (.slice none 0 0))) := (((HBW.out w35 HD35.out.bel).setCell (by simp) _).setCell (by simp) _).setCell (by simp) _
        clear HD35 HRB
        go_wp2
        (try simp only [Exit.inBlock, Exit.then])
        refine bodyPost_ret (v := .tuple #[.agg #[.slice none 0 0, .slice none 0 0, .slice none 0 0], .slice none 0 0, .int .i64 5]) ?_ rfl ⟨by rw [HRZ.out]; exact DecR.zero, HBF.out⟩
        rw [results_cell_tmp2 rfl]
        go_simp
       case neg =>
        have hposN : 0 < (rdL (ntS sH j).2).length := List.length_pos_iff.2 hnil
        have HLT := Lib.hid (rdB_lt hnil)
        have HNI : Hid (ntS sH (j + 1) = ((ntS sH j).1 ++ [(rdB (ntS sH j).2).1], (rdB (ntS sH j).2).2.2)) := rfl
        clear hnil HCJ
        generalize ntS sH j = P at *
        obtain ⟨nt, s0⟩ := P
        simp only at HD HLF HLT HU HNL HNI hposN HJL HJI
        go_wp2_with fail
        refine HLF.out.mono ?_
        rintro r w31 ⟨rfl, rfl⟩
        clear HLF
        go_wp2_with fail
        refine HU.out.mono ?_
        rintro r w33 ⟨⟨Ax, cx, rfl, hbx, hqx, -⟩, hp⟩
        have HD33 := Lib.hid (HD.out.turn hp.2 hp.1)
        have hx : Stb (FX S (EDc w1.heap.size p) (.slice Al L.G cl) nv) w33 fun W => BytS W W.heap.size Ax (rdB s0).1 := RdS.stb hbx fun a ha hf => by
         have h1 := hqx.2 a ha
         have h2 := HD.out.flt hf
         omega
        have HSX := Lib.hid hx
        obtain ⟨-, -, sc2, sf⟩ := HD33.out.cells
        have sf2 := sf 2
        obtain ⟨vs, hn, ho, -, hlv⟩ := HD33.out.st.nt
        obtain ⟨An, cn, rfl, -, -⟩ := ho.form
        have hvl : ((vs.zip nt).map ntRow).length = nt.length := by simp [hn]
        rw [hvl] at sc2 ho HD33 HSX
        simp only [hvl] at hlv
        have HVN : Hid (vs.length = j) := hn.trans HNL.out
        have HHN := Lib.hid hn
        have HHL := Lib.hid hlv
        clear hn hlv sf hx hbx hqx hvl hp HU HD
        go_wp2_with (at_builtin; refine wpList_ap1 rfl (.tmp 149) (.tmp 151) _ rfl elemNt rfl ho [.slice Ax (rdB s0).1.length cx] _ (by rfl) w33.heap.size (by rfl) (by rfl) (by simp [Value.oneCell']) (by have := HVN.out; have := HNL.out; have := HJL.out; simp [maxLen]; omega) (by have := HVN.out; have := HNL.out; have := HJL.out; simp; omega) (Nat.zero_le _) ?_)
        rintro v7 w7 hown7 hg7 hv7
        obtain ⟨A7, n7, c7, rfl⟩ := hown7.sl
        obtain ⟨hd7, hb7⟩ := HD33.out.pushN HHN.out ho HHL.out HSX.out hg7 hown7 hv7
        have x7 : w7.cell? ⟨S, 2, none⟩ = some (.slice An nt.length cn) := by rw [cell_of_row _ _ _ _ _ _ hb7]; rfl
        have y7 := frozen_blk hb7 2
        have HD7 := Lib.hid hd7
        have hnn := HN2.out
        clear hd7 hb7 hown7 hg7 hv7 ho HHL HHN HSX HD33 sc2 sf2 HVN
        go_wp2
        go_roundw
        case rel => exact ⟨j + 1, by omega, by go_num, by rw [HNI.out]; have := HLT.out; have := HJI.out; show j + 1 + (rdL (rdB s0).2.2).length ≤ _; omega, _, by rw [HNI.out]; exact HD7.out⟩
        case measure => simp [intOf] <;> omega
      case neg =>
       have hjI : ¬ (j : Int) < (n2 : Int) := by omega
       obtain rfl : j = n2 := by omega
       clear hjn hj HB2 HCH HLH HCJ HLF HJI
       have HNL2 : Hid ((ntS sH j).1.length ≤ 9000) := by have := HNL.out; have := HJL.out; rw [Hid]; omega
       have HDE := Lib.hid (rdD_er (rdB (ntS sH j).2).2.2)
       generalize ntS sH j = P at *
       obtain ⟨zt, st⟩ := P
       simp only at HD HU HNL HNL2 HDE HG2 HJL
       generalize rdB st = du at *
       obtain ⟨ub, ue, su⟩ := du
       simp only at HU HDE HG2
       have hcv := fun W => conv_nn j (by have := HJL.out; omega) W
       go_wp2_with fail
       refine HU.out.mono ?_
       rintro r w34 ⟨⟨Au, cu, rfl, hbu, hqu, hcu⟩, hp⟩
       have HD35 := Lib.hid (HD.out.turn hp.2 hp.1)
       have HBU := Lib.hid hbu
       have HQU : Hid (∀ a, Au = some a → w1.heap.size ≤ a.block) := fun a ha => Nat.le_trans HD.out.sp.2.2.2.2.2 (hqu.2 a ha)
       have HDN := Lib.hid (nDone w34 hp.1)
       clear hp HU HD hbu hqu hcu
       obtain ⟨l0, l1, l2, l3⟩ := HLY.out w34 HD35.out.bel
       obtain ⟨s0, s1, s2, -⟩ := HD35.out.cells
       obtain ⟨B3, b3, rfl, -⟩ := HD35.out.st.nt.form
       rw [show (⟨za, zm, zt⟩ : St).nt.length = j from HNL.out] at s2 HD35
       have HVA : Hid (Calls Tryz.prog 23 #[.agg #[.int .i64 L.disks, .slice A L.n c, .int .i64 L.tiles, .int .i64 L.spare], .agg #[.slice Al L.G cl, .slice Am i cm, .slice B3 j b3]] w34 fun r w' => r = .returned (.bool (stOk L ⟨za, zm, zt⟩)) ∧ Below w34.heap.size w34 w') := HVD.out w34 _ ⟨za, zm, zt⟩ (HBW.out w34 HD35.out.bel) (HD35.out.st.val (E0 := fun _ => False) (fun k hk => hk.elim)).reads (Nat.le_trans HZA.out (by decide)) (by have := HML.out; have := HL27.out; show zm.length ≤ 10000; omega) (Nat.le_trans HNL2.out (by decide))
       rcases HDE.out with h0 | h0
       case inr =>
        have HRZ : Hid (R = (St.zero, [], 5)) := by rw [Hid, ← HR.out, HG2.out]; exact if_neg (fun h => by rw [h0] at h; exact absurd h.1 (by decide))
        rw [h0] at HDN
        clear h0 HVA HG2 HDE
        go_wp2_with fail
        refine HDN.out.mono ?_
        rintro r w35 ⟨rfl, rfl⟩
        clear HDN l0 l1 l2 l3 s0 s1 s2
        have HRB := Lib.hid (HRS.out w35 HD35.out.bel)
        have r0 : w35.cell? ⟨w.heap.size + 1, 0, none⟩ = some (.slice none 0 0) := by rw [cell_of_row _ _ _ _ _ _ HRB.out]; rfl
        have r1 : w35.cell? ⟨w.heap.size + 1, 1, none⟩ = some (.slice none 0 0) := by rw [cell_of_row _ _ _ _ _ _ HRB.out]; rfl
        have r2 : w35.cell? ⟨w.heap.size + 1, 2, none⟩ = some (.slice none 0 0) := by rw [cell_of_row _ _ _ _ _ _ HRB.out]; rfl
        have f0 := frozen_blk HRB.out 0
        have f1 := frozen_blk HRB.out 1
        have f2 := frozen_blk HRB.out 2
        have HBF : Hid (Below w.heap.size w (((w35.setCell ⟨w.heap.size + 1, 0, none⟩ (.slice none 0 0)).setCell ⟨w.heap.size + 1, 1, none⟩ (.slice none 0 0)).setCell ⟨w.heap.size + 1, 2, none⟩ (.slice none 0 0))) := (((HBW.out w35 HD35.out.bel).setCell (by simp) _).setCell (by simp) _).setCell (by simp) _
        clear HD35 HRB
        go_wp2
        (try simp only [Exit.inBlock, Exit.then])
        refine bodyPost_ret (v := .tuple #[.agg #[.slice none 0 0, .slice none 0 0, .slice none 0 0], .slice none 0 0, .int .i64 5]) ?_ rfl ⟨by rw [HRZ.out]; exact DecR.zero, HBF.out⟩
        rw [results_cell_tmp2 rfl]
        go_simp
       case inl =>
        rw [h0] at HDN
        clear HDE
        go_wp2_with fail
        refine HDN.out.mono ?_
        rintro r w35 ⟨rfl, rfl⟩
        clear HDN
        go_wp2_with fail
        refine HVA.out.mono ?_
        rintro r w36 ⟨rfl, hb36⟩
        have HD36 := Lib.hid (HD35.out.call hb36)
        have HBU6 := Lib.hid (byt_keep HBU.out hb36)
        clear hb36 HBU HD35 HVA l0 l1 l2 l3 s0 s1 s2
        cases hst : stOk L ⟨za, zm, zt⟩
        case false =>
         have HRZ : Hid (R = (St.zero, [], 5)) := by rw [Hid, ← HR.out, HG2.out]; exact if_neg (fun h => by rw [hst] at h; exact absurd h.2 (by decide))
         clear hst h0 HG2 HBU6
         have HRB := Lib.hid (HRS.out w36 HD36.out.bel)
         have r0 : w36.cell? ⟨w.heap.size + 1, 0, none⟩ = some (.slice none 0 0) := by rw [cell_of_row _ _ _ _ _ _ HRB.out]; rfl
         have r1 : w36.cell? ⟨w.heap.size + 1, 1, none⟩ = some (.slice none 0 0) := by rw [cell_of_row _ _ _ _ _ _ HRB.out]; rfl
         have r2 : w36.cell? ⟨w.heap.size + 1, 2, none⟩ = some (.slice none 0 0) := by rw [cell_of_row _ _ _ _ _ _ HRB.out]; rfl
         have f0 := frozen_blk HRB.out 0
         have f1 := frozen_blk HRB.out 1
         have f2 := frozen_blk HRB.out 2
         have HBF : Hid (Below w.heap.size w (((w36.setCell ⟨w.heap.size + 1, 0, none⟩ (.slice none 0 0)).setCell ⟨w.heap.size + 1, 1, none⟩ (.slice none 0 0)).setCell ⟨w.heap.size + 1, 2, none⟩ (.slice none 0 0))) := (((HBW.out w36 HD36.out.bel).setCell (by simp) _).setCell (by simp) _).setCell (by simp) _
         clear HD36 HRB
         go_wp2
         (try simp only [Exit.inBlock, Exit.then])
         refine bodyPost_ret (v := .tuple #[.agg #[.slice none 0 0, .slice none 0 0, .slice none 0 0], .slice none 0 0, .int .i64 5]) ?_ rfl ⟨by rw [HRZ.out]; exact DecR.zero, HBF.out⟩
         rw [results_cell_tmp2 rfl]
         go_simp
        case true =>
         have HRG : Hid (R = (⟨za, zm, zt⟩, ub, 0)) := by rw [Hid, ← HR.out, HG2.out]; exact if_pos ⟨h0, hst⟩
         clear hst h0 HG2
         obtain ⟨s0, s1, s2, -⟩ := HD36.out.cells
         have HRB := Lib.hid (HRS.out w36 HD36.out.bel)
         have r0 : w36.cell? ⟨w.heap.size + 1, 0, none⟩ = some (.slice none 0 0) := by rw [cell_of_row _ _ _ _ _ _ HRB.out]; rfl
         have r1 : w36.cell? ⟨w.heap.size + 1, 1, none⟩ = some (.slice none 0 0) := by rw [cell_of_row _ _ _ _ _ _ HRB.out]; rfl
         have r2 : w36.cell? ⟨w.heap.size + 1, 2, none⟩ = some (.slice none 0 0) := by rw [cell_of_row _ _ _ _ _ _ HRB.out]; rfl
         have f0 := frozen_blk HRB.out 0
         have f1 := frozen_blk HRB.out 1
         have f2 := frozen_blk HRB.out 2
         have hrm : w.heap.size + 1 < w1.heap.size := by have := HZ.out; omega
         have HFN := Lib.hid (HD36.out.fin (r := w.heap.size + 1) (n := w.heap.size) hrm (by omega))
         have HBY : Hid (Stb (fun k => k < w.heap.size) (((w36.setCell ⟨w.heap.size + 1, 0, none⟩ (.slice Al L.G cl)).setCell ⟨w.heap.size + 1, 1, none⟩ (.slice Am i cm)).setCell ⟨w.heap.size + 1, 2, none⟩ (.slice B3 j b3)) fun V => BytS V V.heap.size Au ub) := ((RdS.stb (F := fun k => k < w1.heap.size) HBU6.out fun a ha hf => by have h1 := HQU.out a ha; omega).step (agr_three (E := fun k => k < w1.heap.size) hrm _ _ _)).mono fun k _ e => by omega
         have HBF : Hid (Below w.heap.size w (((w36.setCell ⟨w.heap.size + 1, 0, none⟩ (.slice Al L.G cl)).setCell ⟨w.heap.size + 1, 1, none⟩ (.slice Am i cm)).setCell ⟨w.heap.size + 1, 2, none⟩ (.slice B3 j b3))) := (((HBW.out w36 HD36.out.bel).setCell (by simp) _).setCell (by simp) _).setCell (by simp) _
         clear HD36 HRB HBU6 hrm
         go_wp2
         (try simp only [Exit.inBlock, Exit.then])
         refine bodyPost_ret (v := .tuple #[.agg #[.slice Al L.G cl, .slice Am i cm, .slice B3 j b3], .slice Au ub.length cu, .int .i64 0]) ?_ rfl ⟨by rw [HRG.out]; exact ⟨_, Au, cu, rfl, HFN.out, HBY.out⟩, HBF.out⟩
         rw [results_cell_tmp2 rfl]
         go_simp
  case pos =>
   have hkI : (k : Int) < (L.G : Int) := by omega
   have HKG := Lib.hid hkG
   generalize wr = wo at *
   go_upto_region 9 with (fail)
   clear s0
   obtain ⟨sk, hsk⟩ : ∃ sk, (lsS L.w (some l) k).2 = sk := ⟨_, rfl⟩
   have HCK : Hid (∀ x ∈ rdL sk, x < 256) := by rw [← hsk]; exact lsS_sub (b := some l) HC.out k
   have HLK : Hid ((rdL sk).length ≤ 9000) := by rw [← hsk]; exact Nat.le_trans (lsS_le L.w (some l) k) HLL.out
   have HNX : Hid (lsS L.w (some l) (k + 1) = ((lsS L.w (some l) k).1 ++ [⟨(prS sk L.w).1, (prS sk L.w).2.1⟩], (prS sk L.w).2.2)) := by rw [← hsk]; rfl
   have HLS : Hid ((lsS L.w (some l) k).1.length = k) := lsS_len _ _ _
   rw [hsk] at HD
   clear hsk
   generalize (lsS L.w (some l) k).1 = lsk at *
   have hmk := fun W => make_u64L W L.w (by omega)
   have HRD := Lib.hid HD.out.rd
   go_cut [12] (fun s12 wx => ∃ X va vb, s12 = .pointer (some ⟨X, 0, none⟩) ∧ LfJ wo p q 172 X va vb (List.replicate L.w 0) (List.replicate L.w 0) sk wx)
   case first =>
    go_region
    all_goals
     go_wp2_with fail
     go_meet
     ·first
      | exact ⟨_, _, _, rfl, LfJ.mk' (three_drawn _ _ _ _).1 HRD.out (three_drawn _ _ _ _).2.1 (three_drawn _ _ _ _).2.2.1 (three_drawn _ _ _ _).2.2.2 (by omega) (by omega) (by omega) (by omega) (by omega)⟩
      | exact ⟨_, _, _, rfl, LfJ.mk' (three_drawn _ _ _ _).1 HRD.out (three_drawn _ _ _ _).2.1 (three_drawn _ _ _ _).2.2.2 (three_drawn _ _ _ _).2.2.1 (by omega) (by omega) (by omega) (by omega) (by omega)⟩
      | exact ⟨_, _, _, rfl, LfJ.mk' (three_drawn _ _ _ _).1 HRD.out (three_drawn _ _ _ _).2.2.1 (three_drawn _ _ _ _).2.1 (three_drawn _ _ _ _).2.2.2 (by omega) (by omega) (by omega) (by omega) (by omega)⟩
      | exact ⟨_, _, _, rfl, LfJ.mk' (three_drawn _ _ _ _).1 HRD.out (three_drawn _ _ _ _).2.2.1 (three_drawn _ _ _ _).2.2.2 (three_drawn _ _ _ _).2.1 (by omega) (by omega) (by omega) (by omega) (by omega)⟩
      | exact ⟨_, _, _, rfl, LfJ.mk' (three_drawn _ _ _ _).1 HRD.out (three_drawn _ _ _ _).2.2.2 (three_drawn _ _ _ _).2.1 (three_drawn _ _ _ _).2.2.1 (by omega) (by omega) (by omega) (by omega) (by omega)⟩
      | exact ⟨_, _, _, rfl, LfJ.mk' (three_drawn _ _ _ _).1 HRD.out (three_drawn _ _ _ _).2.2.2 (three_drawn _ _ _ _).2.2.1 (three_drawn _ _ _ _).2.1 (by omega) (by omega) (by omega) (by omega) (by omega)⟩
   obtain ⟨X, va, vb, rfl, hJ⟩ := hcut
   have hlr : ((List.replicate L.w 0).map u64C).length = L.w := by simp
   obtain ⟨ga, ca, rfl, -, -⟩ := hJ.a.pos (by rw [hlr]; omega)
   obtain ⟨gb, cb2, rfl, -, -⟩ := hJ.b.pos (by rw [hlr]; omega)
   rw [hlr] at hJ
   have HJ0 := Lib.hid hJ
   clear hJ hlr HRD hmk
   go_wp2
   go_loopw [13] (fun s13 wr => ∃ j : Nat, j ≤ L.w ∧ s13 = .int .i64 j ∧ LfJ wo p q 172 X (.slice (some ⟨ga, 0, none⟩) L.w ca) (.slice (some ⟨gb, 0, none⟩) L.w cb2) ((prS sk j).1 ++ List.replicate (L.w - j) 0) ((prS sk j).2.1 ++ List.replicate (L.w - j) 0) (prS sk j).2.2 wr) (fun s13 _ => L.w - (intOf s13).toNat)
   case atStart => exact ⟨0, by omega, rfl, HJ0.out⟩
   case round =>
    obtain ⟨j, hj, rfl, hJ⟩ := hrel
    have HJ := Lib.hid hJ
    clear hJ HJ0
    by_cases hjw : j < L.w
    case neg =>
     have hjI : ¬ (j : Int) < (L.w : Int) := by omega
     obtain rfl : j = L.w := by omega
     clear hjw hj
     rw [Nat.sub_self, List.replicate_zero, List.append_nil, List.append_nil] at HJ
     have HDW := Lib.hid (HJ.out.done HD.out)
     have HST := Lib.hid (HJ.out.stb HD.out)
     obtain ⟨x0, x1⟩ := HJ.out.cells
     obtain ⟨s0, -, -, -⟩ := HDW.out.cells
     have HZL : Hid (k < (lsk ++ (zeroLs L L.G).drop k).length) := by have := HLS.out; rw [Hid, List.length_append, List.length_drop, zeroLs_len]; omega
     obtain ⟨g, c5, ua, ub, heq, e0, e1, ef, -⟩ := HDW.out.st.ls.at_ (List.getElem?_eq_getElem HZL.out)
     injection heq with h1 h2 h3
     subst h1
     clear h2 h3
     have ef0 := ef (k * 2)
     have ef1 := ef (k * 2 + 1)
     have HSL := Lib.hid (HDW.out.setL HZL.out HST.out)
     have HSE : Hid ((lsk ++ (zeroLs L L.G).drop k).set k ⟨(prS sk L.w).1, (prS sk L.w).2.1⟩ = (lsk ++ [⟨(prS sk L.w).1, (prS sk L.w).2.1⟩]) ++ (zeroLs L L.G).drop (k + 1)) := set_drop _ HLS.out (by rw [zeroLs_len]; exact hkG)
     clear ef HJ HD HDW HST
     go_wp2
     go_roundw
     case rel => exact ⟨k + 1, by omega, by go_num, by rw [HNX.out, ← HSE.out]; exact HSL.out⟩
     case measure => simp [intOf] <;> omega
    case pos =>
     have hjI : (j : Int) < (L.w : Int) := by omega
     have HP : Hid (prS sk (j + 1) = ((prS sk j).1 ++ [(rdU (prS sk j).2.2).1], (prS sk j).2.1 ++ [(rdU (rdU (prS sk j).2.2).2.2).1], (rdU (rdU (prS sk j).2.2).2.2).2.2)) := rfl
     have HC0 : Hid (∀ x ∈ rdL (prS sk j).2.2, x < 256) := prS_sub HCK.out j
     have HL0 : Hid ((rdL (prS sk j).2.2).length ≤ 9000) := Nat.le_trans (prS_le sk j) HLK.out
     have HPN := Lib.hid (prS_len sk j)
     have HC1 := Lib.hid (rdU_sub HC0.out)
     have HL1 : Hid ((rdL (rdU (prS sk j).2.2).2.2).length ≤ 9000) := Nat.le_trans (rdU_le _) HL0.out
     generalize prS sk j = P at *
     obtain ⟨vs, ss, s0⟩ := P
     simp only at HJ HP HC0 HL0 HPN HC1 HL1
     have HSA : Hid ((vs ++ List.replicate (L.w - j) 0).set j (rdU s0).1 = (vs ++ [(rdU s0).1]) ++ List.replicate (L.w - (j + 1)) 0) := set_app _ _ HPN.out.1 hjw
     have HSB : Hid ((ss ++ List.replicate (L.w - j) 0).set j (rdU (rdU s0).2.2).1 = (ss ++ [(rdU (rdU s0).2.2).1]) ++ List.replicate (L.w - (j + 1)) 0) := set_app _ _ HPN.out.2 hjw
     have HVL : Hid (j < (vs ++ List.replicate (L.w - j) 0).length ∧ j < (ss ++ List.replicate (L.w - j) 0).length) := by have := HPN.out; rw [Hid, List.length_append, List.length_append, List.length_replicate]; omega
     clear HPN
     generalize vs ++ List.replicate (L.w - j) 0 = va at *
     generalize ss ++ List.replicate (L.w - j) 0 = vb at *
     have HK0 : Hid (∀ W, Below wr.heap.size wr W → Calls Tryz.prog 71 #[.pointer (some ⟨p, 0, none⟩)] W fun e w' => (e = .returned (.tuple #[.int .u64 ((rdU s0).1 : Int), .int .i64 ((rdU s0).2.1 : Int)]) ∧ LfJ wo p q 172 X (.slice (some ⟨ga, 0, none⟩) L.w ca) (.slice (some ⟨gb, 0, none⟩) L.w cb2) va vb (rdU s0).2.2 w') ∧ (w'.cell? ⟨X, 0, none⟩ = some (.slice (some ⟨ga, 0, none⟩) L.w ca) ∧ w'.cell? ⟨X, 1, none⟩ = some (.slice (some ⟨gb, 0, none⟩) L.w cb2)) ∧ (∃ y : Int, w'.cell? ⟨ga, j, none⟩ = some (.int .u64 y)) ∧ w'.frozen? ⟨ga, j, none⟩ = false ∧ ((w'.setCell ⟨ga, j, none⟩ (.int .u64 ((rdU s0).1 : Int))).cell? ⟨X, 0, none⟩ = some (.slice (some ⟨ga, 0, none⟩) L.w ca) ∧ (w'.setCell ⟨ga, j, none⟩ (.int .u64 ((rdU s0).1 : Int))).cell? ⟨X, 1, none⟩ = some (.slice (some ⟨gb, 0, none⟩) L.w cb2))) := fun W hW => (nUint W (HJ.out.call hW).rd (by have := HL0.out; omega) HC0.out).mono fun e w' hh => by
      have h2 := (HJ.out.call hW).read hh.2
      exact ⟨⟨hh.1, h2⟩, h2.cells, ⟨_, h2.a.cellU (by exact HVL.out.1)⟩, h2.a.frozen j, (h2.setA (by exact HVL.out.1) (rdU s0).1).cells⟩
     have HX0 : Hid (∀ W, Below wr.heap.size wr W → W.cell? ⟨X, 0, none⟩ = some (.slice (some ⟨ga, 0, none⟩) L.w ca) ∧ W.cell? ⟨X, 1, none⟩ = some (.slice (some ⟨gb, 0, none⟩) L.w cb2)) := fun W hW => (HJ.out.call hW).cells
     generalize hr0 : rdU s0 = r0 at *
     obtain ⟨x0, e0, s1⟩ := r0
     simp only at HK0 HP HSA HSB HC1 HL1
     clear hr0
     go_upto_region 13 with (fail)
     go_region_held3 (fun W => W.cell? ⟨X, 0, none⟩ = some (.slice (some ⟨ga, 0, none⟩) L.w ca) ∧ W.cell? ⟨X, 1, none⟩ = some (.slice (some ⟨gb, 0, none⟩) L.w cb2))
      (first | with_reducible exact HX0.out _ (Below.refl wr.heap.size wr) | with_reducible exact HX0.out _ (Below.refl wr.heap.size wr).drew | with_reducible exact hx0 | with_reducible exact hs0 | (trace_state; fail))
      (first
       | (go_at_call 71; first
        | ((with_reducible refine (HK0.out _ (Below.refl wr.heap.size wr).drew).mono ?_); rintro r y0 ⟨⟨rfl, hj0⟩, hx0, ⟨u0, hc0⟩, hf0, hs0⟩)
        | ((with_reducible refine (HK0.out _ (Below.refl wr.heap.size wr)).mono ?_); rintro r y0 ⟨⟨rfl, hj0⟩, hx0, ⟨u0, hc0⟩, hf0, hs0⟩)
        | (trace_state; fail))
       | fail)
     have HJ1 : Hid (LfJ wo p q 172 X (.slice (some ⟨ga, 0, none⟩) L.w ca) (.slice (some ⟨gb, 0, none⟩) L.w cb2) (va.set j x0) vb s1 (y0.setCell ⟨ga, j, none⟩ (.int .u64 (x0 : Int)))) := hj0.setA HVL.out.1 x0
     clear hj0 hx0 hc0 hf0 hs0 HX0 HK0 HJ HC0 HL0
     go_upto_region 14 with (fail)
     generalize y0.setCell _ _ = z0 at *
     have HK1 : Hid (∀ W, Below z0.heap.size z0 W → Calls Tryz.prog 71 #[.pointer (some ⟨p, 0, none⟩)] W fun e w' => (e = .returned (.tuple #[.int .u64 ((rdU s1).1 : Int), .int .i64 ((rdU s1).2.1 : Int)]) ∧ LfJ wo p q 172 X (.slice (some ⟨ga, 0, none⟩) L.w ca) (.slice (some ⟨gb, 0, none⟩) L.w cb2) (va.set j x0) vb (rdU s1).2.2 w') ∧ (w'.cell? ⟨X, 0, none⟩ = some (.slice (some ⟨ga, 0, none⟩) L.w ca) ∧ w'.cell? ⟨X, 1, none⟩ = some (.slice (some ⟨gb, 0, none⟩) L.w cb2)) ∧ (∃ y : Int, w'.cell? ⟨gb, j, none⟩ = some (.int .u64 y)) ∧ w'.frozen? ⟨gb, j, none⟩ = false ∧ ((w'.setCell ⟨gb, j, none⟩ (.int .u64 ((rdU s1).1 : Int))).cell? ⟨X, 0, none⟩ = some (.slice (some ⟨ga, 0, none⟩) L.w ca) ∧ (w'.setCell ⟨gb, j, none⟩ (.int .u64 ((rdU s1).1 : Int))).cell? ⟨X, 1, none⟩ = some (.slice (some ⟨gb, 0, none⟩) L.w cb2))) := fun W hW => (nUint W (HJ1.out.call hW).rd (by have := HL1.out; omega) HC1.out).mono fun e w' hh => by
      have h2 := (HJ1.out.call hW).read hh.2
      exact ⟨⟨hh.1, h2⟩, h2.cells, ⟨_, h2.b.cellU (by exact HVL.out.2)⟩, h2.b.frozen j, (h2.setB (by exact HVL.out.2) (rdU s1).1).cells⟩
     have HX1 : Hid (∀ W, Below z0.heap.size z0 W → W.cell? ⟨X, 0, none⟩ = some (.slice (some ⟨ga, 0, none⟩) L.w ca) ∧ W.cell? ⟨X, 1, none⟩ = some (.slice (some ⟨gb, 0, none⟩) L.w cb2)) := fun W hW => (HJ1.out.call hW).cells
     generalize hr1 : rdU s1 = r1 at *
     obtain ⟨x1, e1, s2⟩ := r1
     simp only at HK1 HP HSA HSB 
     clear hr1
     go_upto_region 14 with (fail)
     go_region_held3 (fun W => W.cell? ⟨X, 0, none⟩ = some (.slice (some ⟨ga, 0, none⟩) L.w ca) ∧ W.cell? ⟨X, 1, none⟩ = some (.slice (some ⟨gb, 0, none⟩) L.w cb2))
      (first | with_reducible exact HX1.out _ (Below.refl z0.heap.size z0) | with_reducible exact HX1.out _ (Below.refl z0.heap.size z0).drew | with_reducible exact hx1 | with_reducible exact hs1 | (trace_state; fail))
      (first
       | (go_at_call 71; first
        | ((with_reducible refine (HK1.out _ (Below.refl z0.heap.size z0).drew).mono ?_); rintro r y1 ⟨⟨rfl, hj1⟩, hx1, ⟨u1, hc1⟩, hf1, hs1⟩)
        | ((with_reducible refine (HK1.out _ (Below.refl z0.heap.size z0)).mono ?_); rintro r y1 ⟨⟨rfl, hj1⟩, hx1, ⟨u1, hc1⟩, hf1, hs1⟩)
        | (trace_state; fail))
       | fail)
     have HJ2 : Hid (LfJ wo p q 172 X (.slice (some ⟨ga, 0, none⟩) L.w ca) (.slice (some ⟨gb, 0, none⟩) L.w cb2) (va.set j x0) (vb.set j x1) s2 (y1.setCell ⟨gb, j, none⟩ (.int .u64 (x1 : Int)))) := hj1.setB HVL.out.2 x1
     clear hj1 hx1 hc1 hf1 hs1 HX1 HK1 HJ1
     go_wp2
     go_roundw
     case rel => exact ⟨j + 1, by omega, by go_num, by rw [HP.out, ← HSA.out, ← HSB.out]; exact HJ2.out⟩
     case measure => simp [intOf] <;> omega
end Go.Proofs.YtjgjofepedcfnaaGreat
