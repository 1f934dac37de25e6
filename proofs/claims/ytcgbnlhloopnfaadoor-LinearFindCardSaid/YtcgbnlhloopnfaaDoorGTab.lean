/- The tables of tegularef46's search, in memory. No program is walked here.
How the reference's tables are filled. Plain: no program is walked here.
The values that an era can leave, as the reference's tables list them; and a bound of the different ones. Plain: no program is walked here. -/
import Derived.Test.YtcgbnlhloopnfaaDoorGSr
import Derived.Test.YtcgbnlhloopnfaaDoorEraA
import Derived.Test.YtcgbnlhloopnfaaDoorGRf
namespace Go.Proofs.YtcgbnlhloopnfaaDoor
open Go.RowKit

theorem elemBools : Elem Tryd.prog 113 52 1 24 := Elem.mk (z := .slice none 0 0) Tryd.underlying113 (by kernel_rfl) (by decide) rfl
def rowV (m b : Nat) : Value := .slice (some ⟨b, 0, none⟩) m m
def tRow (m : Nat) (f : Nat → Bool) : List (List Value) := (List.range m).map fun j => [.bool (f j)]
def topV (n m : Nat) (R : Nat → Nat) : List (List Value) := (List.range n).map fun k => [rowV m (R k)]
theorem topV_len (n m : Nat) (R : Nat → Nat) : (topV n m R).length = n := by simp [topV]
/-- a table in memory: its rows lie in blocks of their own -/
structure TabV (w : World) (B : Nat) (v : Value) (n m : Nat) (R : Nat → Nat) (tab : Nat → Nat → Bool) : Prop where
  top : OwS w B 52 1 v (topV n m R)
  rows : ∀ k, k < n → OwS w B 4 1 (rowV m (R k)) (tRow m (tab k))
  inj : ∀ k k', k < n → k' < n → R k = R k' → k = k'
def upd2 (tab : Nat → Nat → Bool) (k j : Nat) (b : Bool) : Nat → Nat → Bool := updN tab k (updN (tab k) j b)
section
variable {w w' : World} {B n m : Nat} {v : Value} {R : Nat → Nat} {tab : Nat → Nat → Bool}
theorem TabV.nil (w : World) (B m : Nat) (R : Nat → Nat) (tab : Nat → Nat → Bool) : TabV w B (.slice none 0 0) 0 m R tab := ⟨OwS.nil _ _ _ _, fun k hk => absurd hk (by omega), fun k _ hk => absurd hk (by omega)⟩
theorem TabV.below (h : TabV w B v n m R tab) (hb : Below w.heap.size w w') : TabV w' B v n m R tab := ⟨h.top.below hb, fun k hk => (h.rows k hk).below hb, h.inj⟩
theorem TabV.kept {B' : Nat} {v' : Value} {rows' : List (List Value)} (h : TabV w B v n m R tab) (hg : w.grownBy w' v'.ownBlock) (hO : OwS w B' 52 1 v' rows') (hs : sepV v v') : TabV w' B v n m R tab :=
  ⟨h.top.kept hg hs, fun k hk => (h.rows k hk).kept hg ((h.rows k hk).ne hO (by decide)), h.inj⟩
theorem TabV.far {p : Addr} {cs : Array Value} {t : TypeId} {fz : Nat × Nat} (h : TabV w B v n m R tab) (hb : w.heap[p.block]? = some (.cells cs t fz)) (h1 : 4 ≠ t) (h2 : 52 ≠ t) (u : Value) : TabV (w.setCell p u) B v n m R tab :=
  ⟨h.top.far (h.top.blk_ne hb h2) u, fun k hk => (h.rows k hk).far ((h.rows k hk).blk_ne hb h1) u, h.inj⟩
theorem TabV.row_lt (h : TabV w B v n m R tab) {k : Nat} (hk : k < n) : B ≤ R k ∧ R k < w.heap.size := (h.rows k hk).lt rfl
theorem topV_succ (n m b : Nat) (R : Nat → Nat) : topV n m R ++ [[rowV m b]] = topV (n + 1) m (updN R n b) := by
  unfold topV
  rw [List.range_succ, List.map_append]
  congr 1
  · refine List.map_congr_left fun k hk => ?_
    have : k < n := by simpa using hk
    simp [updN, Nat.ne_of_lt this]
  · simp [updN]
theorem TabV.new {f : Bool} {b : Nat} {v' : Value} (h : TabV w B v n m R fun _ _ => f) (hg : w.grownBy w' v.ownBlock) (hO : OwS w' B 52 1 v' (topV n m R ++ [[rowV m b]])) (hr : OwS w B 4 1 (rowV m b) (tRow m fun _ => f)) (hn : ∀ k, k < n → R k ≠ b) :
    TabV w' B v' (n + 1) m (updN R n b) fun _ _ => f := by
  have hq : ∀ k, k < n → updN R n b k = R k := fun k hk => by simp [updN, Nat.ne_of_lt hk]
  have hq' : updN R n b n = b := by simp [updN]
  refine ⟨by rw [← topV_succ]; exact hO, fun k hk => ?_, fun k k' hk hk' he => ?_⟩
  · rcases Nat.lt_or_eq_of_le (Nat.le_of_lt_succ hk) with hk | rfl
    · rw [hq k hk]
      exact (h.rows k hk).kept hg ((h.rows k hk).ne h.top (by decide))
    · rw [hq']
      exact hr.kept hg (hr.ne h.top (by decide))
  · rcases Nat.lt_or_eq_of_le (Nat.le_of_lt_succ hk) with hk1 | rfl
    · rw [hq k hk1] at he
      rcases Nat.lt_or_eq_of_le (Nat.le_of_lt_succ hk') with hk2 | rfl
      · rw [hq k' hk2] at he
        exact h.inj k k' hk1 hk2 he
      · rw [hq'] at he
        exact absurd he (hn k hk1)
    · rw [hq'] at he
      rcases Nat.lt_or_eq_of_le (Nat.le_of_lt_succ hk') with hk2 | rfl
      · rw [hq k' hk2] at he
        exact absurd he.symm (hn k' hk2)
      · rfl
theorem TabV.cells (h : TabV w B v n m R tab) {k : Nat} (hk : k < n) : ∃ g c, v = .slice (some ⟨g, 0, none⟩) n c ∧ w.cell? ⟨g, k, none⟩ = some (.slice (some ⟨R k, 0, none⟩) m m) ∧ ∀ j, j < m → w.cell? ⟨R k, j, none⟩ = some (.bool (tab k j)) ∧ w.frozen? ⟨R k, j, none⟩ = false := by
  obtain ⟨g, c, hv, -, -⟩ := h.top.pos (by rw [topV_len]; omega)
  rw [topV_len] at hv
  subst hv
  refine ⟨g, c, rfl, ?_, fun j hj => ⟨?_, (h.rows k hk).frozen j⟩⟩
  · have := h.top.cell (k := k) (j := 0) (r := [rowV m (R k)]) (u := rowV m (R k)) (by simp [topV, hk]) rfl
    simpa [rowV] using this
  · have := (h.rows k hk).cell (k := j) (j := 0) (r := [.bool (tab k j)]) (u := .bool (tab k j)) (by simp [tRow, hj]) rfl
    simpa using this
theorem tRow_set {m j : Nat} {f : Nat → Bool} (b : Bool) : (tRow m f).set j ([Value.bool (f j)].set 0 (.bool b)) = tRow m (updN f j b) := by
  unfold tRow
  refine List.ext_getElem? fun q => ?_
  rw [List.getElem?_set]
  by_cases hq : j = q
  · subst hq
    by_cases hjm : j < m
    · simp [updN, hjm]
    · simp [hjm]
  · rw [if_neg hq]
    by_cases hjn : q < m
    · simp [hjn, updN]
      exact fun e => absurd e.symm hq
    · simp [hjn]
theorem TabV.set (h : TabV w B v n m R tab) {k j : Nat} (hk : k < n) (hj : j < m) (b : Bool) : TabV (w.setCell ⟨R k, j, none⟩ (.bool b)) B v n m R (upd2 tab k j b) := by
  have hne : ∀ {v' : Value} {rows' : List (List Value)}, OwS w B 52 1 v' rows' → v'.ownBlock ≠ some (R k) := fun hO => by
    rcases hO.ne (h.rows k hk) (by decide) with h1 | h1
    · rw [h1]; simp
    · exact h1
  refine ⟨h.top.far (hne h.top) _, fun k' hk' => ?_, h.inj⟩
  by_cases hkk : k' = k
  · subst hkk
    have h1 := ((h.rows k' hk').set (k := j) (j := 0) (r := [.bool (tab k' j)]) (by simp [tRow, hj]) (by decide) (.bool b)).1
    rw [tRow_set] at h1
    simpa [upd2, updN, rowV] using h1
  · have h1 : upd2 tab k j b k' = tab k' := by simp [upd2, updN, hkk]
    rw [h1]
    refine (h.rows k' hk').far ?_ _
    show some (R k') ≠ some (R k)
    intro e
    injection e with e
    exact hkk (h.inj k' k hk' hk e)
theorem TabV.other {q j : Nat} {base : Nat} {rows' : List (List Value)} (h : TabV w B v n m R tab) (hq : OwS w base 4 1 (rowV m q) rows') (hne : ∀ k, k < n → R k ≠ q) (u : Value) : TabV (w.setCell ⟨q, j, none⟩ u) B v n m R tab := by
  refine ⟨h.top.far ?_ _, fun k hk => (h.rows k hk).far ?_ _, h.inj⟩
  · rcases h.top.ne hq (by decide) with h1 | h1
    · rw [h1]; simp
    · exact h1
  · show some (R k) ≠ some q
    intro e
    injection e with e
    exact hne k hk e
theorem row_made (w : World) (B m : Nat) (hB : B ≤ w.heap.size) (hm : m ≤ maxLen) : OwS (w.alloc (.cells (madeCells #[.bool false] m) 4)) B 4 1 (rowV m w.heap.size) (tRow m fun _ => false) := by
  refine OwS.lit (by simp [tRow]) (heap_alloc_new w _) ?_ (by simp [tRow]) hm hB
  refine List.ext_getElem? fun i => ?_
  simp only [tRow, madeCells]
  by_cases hi : i < m
  · simp [hi, List.map_const', List.flatten_replicate_singleton, Nat.mod_one]
  · simp [hi, List.map_const', List.flatten_replicate_singleton]
end
/-- the search in memory with its tables: exact fields; its lists are slices of its own -/
structure SrO (w : World) (sb : Nat) (E X : List Opr) (st : Int) (Ae Ax : Option Addr) (ce cx : Nat) (vr vg : Value) : Prop where
  blk : w.heap[sb]? = some (.cells #[.slice Ae E.length ce, .slice Ax X.length cx, .int .i64 st, vr, vg] 115 (0, 0))
  era : OwS w 0 64 8 (.slice Ae E.length ce) (E.map Opr.cells)
  ops : OwS w 0 64 8 (.slice Ax X.length cx) (X.map Opr.cells)
section
variable {w w' : World} {sb : Nat} {E X : List Opr} {st : Int} {Ae Ax : Option Addr} {ce cx : Nat} {vr vg : Value}
theorem SrO.lt (h : SrO w sb E X st Ae Ax ce cx vr vg) : sb < w.heap.size := (Array.getElem?_eq_some_iff.1 h.blk).1
theorem SrO.srv (h : SrO w sb E X st Ae Ax ce cx vr vg) : SrV w sb w.heap.size E X st Ae Ax ce cx :=
  ⟨by rw [cell_of_row _ _ _ _ _ _ h.blk]; rfl, by rw [cell_of_row _ _ _ _ _ _ h.blk]; rfl, by rw [cell_of_row _ _ _ _ _ _ h.blk]; rfl, h.lt, h.era.reads, h.ops.reads⟩
theorem SrO.cells (h : SrO w sb E X st Ae Ax ce cx vr vg) : w.cell? ⟨sb, 3, none⟩ = some vr ∧ w.cell? ⟨sb, 4, none⟩ = some vg ∧ w.frozen? ⟨sb, 3, none⟩ = false ∧ w.frozen? ⟨sb, 4, none⟩ = false :=
  ⟨by rw [cell_of_row _ _ _ _ _ _ h.blk]; rfl, by rw [cell_of_row _ _ _ _ _ _ h.blk]; rfl, frozen_of_row _ _ _ _ _ h.blk, frozen_of_row _ _ _ _ _ h.blk⟩
theorem SrO.below (h : SrO w sb E X st Ae Ax ce cx vr vg) (hb : Below w.heap.size w w') : SrO w' sb E X st Ae Ax ce cx vr vg := ⟨(hb.block _ h.lt).trans h.blk, h.era.below hb, h.ops.below hb⟩
theorem SrO.kept {B' size : Nat} {e : TypeId} {v' : Value} {rows' : List (List Value)} (h : SrO w sb E X st Ae Ax ce cx vr vg) (hg : w.grownBy w' v'.ownBlock) (hO : OwS w B' e size v' rows') (h1 : e ≠ 115) (h2 : 64 ≠ e) : SrO w' sb E X st Ae Ax ce cx vr vg :=
  ⟨(hg.block sb h.lt (fun e => hO.blk_ne h.blk h1 e.symm)).trans h.blk, h.era.kept hg (h.era.ne hO h2), h.ops.kept hg (h.ops.ne hO h2)⟩
theorem SrO.row {B' m q j : Nat} {rows' : List (List Value)} (h : SrO w sb E X st Ae Ax ce cx vr vg) (hO : OwS w B' 4 1 (rowV m q) rows') (u : Value) : SrO (w.setCell ⟨q, j, none⟩ u) sb E X st Ae Ax ce cx vr vg :=
  h.kept (v' := rowV m q) (grownBy_setCell w ⟨q, j, none⟩ u) hO (by decide) (by decide)
theorem SrO.put3 (h : SrO w sb E X st Ae Ax ce cx vr vg) (v' : Value) : SrO (w.setCell ⟨sb, 3, none⟩ v') sb E X st Ae Ax ce cx v' vg :=
  ⟨heap_setCell_same _ _ _ _ _ _ h.blk, h.era.far (h.era.blk_ne h.blk (by decide)) _, h.ops.far (h.ops.blk_ne h.blk (by decide)) _⟩
theorem SrO.put4 (h : SrO w sb E X st Ae Ax ce cx vr vg) (v' : Value) : SrO (w.setCell ⟨sb, 4, none⟩ v') sb E X st Ae Ax ce cx vr v' :=
  ⟨heap_setCell_same _ _ _ _ _ _ h.blk, h.era.far (h.era.blk_ne h.blk (by decide)) _, h.ops.far (h.ops.blk_ne h.blk (by decide)) _⟩
end
/-- the world of run: seen from its first world w0 -/
structure RunV (w0 w : World) (sb : Nat) (E X : List Opr) (st : Int) (Ae Ax : Option Addr) (ce cx : Nat) (vr vg : Value) (nr ng m : Nat) (R G : Nat → Nat) (tr tg : Nat → Nat → Bool) : Prop where
  fr : BelR w0.heap.size sb w0 w
  sr : SrO w sb E X st Ae Ax ce cx vr vg
  r : TabV w w0.heap.size vr nr m R tr
  g : TabV w w0.heap.size vg ng m G tg
  dis : ∀ k k', k < nr → k' < ng → R k ≠ G k'
  sep : sepV vr vg
section
variable {w0 w w' : World} {sb : Nat} {E X : List Opr} {st : Int} {Ae Ax : Option Addr} {ce cx : Nat} {vr vg : Value} {nr ng m : Nat} {R G : Nat → Nat} {tr tg : Nat → Nat → Bool}
theorem RunV.below (h : RunV w0 w sb E X st Ae Ax ce cx vr vg nr ng m R G tr tg) (hb : Below w.heap.size w w') : RunV w0 w' sb E X st Ae Ax ce cx vr vg nr ng m R G tr tg :=
  ⟨h.fr.trans (BelR.of hb h.fr.size), h.sr.below hb, h.r.below hb, h.g.below hb, h.dis, h.sep⟩
theorem RunV.setR (h : RunV w0 w sb E X st Ae Ax ce cx vr vg nr ng m R G tr tg) {k j : Nat} (hk : k < nr) (hj : j < m) (b : Bool) : RunV w0 (w.setCell ⟨R k, j, none⟩ (.bool b)) sb E X st Ae Ax ce cx vr vg nr ng m R G (upd2 tr k j b) tg :=
  ⟨h.fr.setCell (.inl (h.r.row_lt hk).1) _, h.sr.row (h.r.rows k hk) _, h.r.set hk hj b, h.g.other (h.r.rows k hk) (fun k' hk' => (h.dis k k' hk hk').symm) _, h.dis, h.sep⟩
theorem RunV.setG (h : RunV w0 w sb E X st Ae Ax ce cx vr vg nr ng m R G tr tg) {k j : Nat} (hk : k < ng) (hj : j < m) (b : Bool) : RunV w0 (w.setCell ⟨G k, j, none⟩ (.bool b)) sb E X st Ae Ax ce cx vr vg nr ng m R G tr (upd2 tg k j b) :=
  ⟨h.fr.setCell (.inl (h.g.row_lt hk).1) _, h.sr.row (h.g.rows k hk) _, h.r.other (h.g.rows k hk) (fun k' hk' => h.dis k' k hk' hk) _, h.g.set hk hj b, h.dis, h.sep⟩
/-- a row behind the first table -/
theorem RunV.newR {b : Nat} {v' : Value} (h : RunV w0 w sb E X st Ae Ax ce cx vr vg nr ng m R G (fun _ _ => false) tg) (hr : OwS w w0.heap.size 4 1 (rowV m b) (tRow m fun _ => false)) (hn : ∀ k, k < nr → R k ≠ b) (hn' : ∀ k, k < ng → G k ≠ b)
    (hg : w.grownBy w' vr.ownBlock) (hO : OwS w' w0.heap.size 52 1 v' (topV nr m R ++ [[rowV m b]])) (hv : v'.ownBlock = vr.ownBlock ∨ ∃ q, v'.ownBlock = some q ∧ w.heap.size ≤ q) :
    RunV w0 (w'.setCell ⟨sb, 3, none⟩ v') sb E X st Ae Ax ce cx v' vg (nr + 1) ng m (updN R nr b) G (fun _ _ => false) tg := by
  have hs := h.sr.kept hg h.r.top (by decide) (by decide)
  refine ⟨(h.fr.grown hg h.fr.size fun k e => (h.r.top.lt e).1).setCell (.inr rfl) _, hs.put3 _, (h.r.new hg hO hr hn).far (p := ⟨sb, 3, none⟩) hs.blk (by decide) (by decide) _, (h.g.kept hg h.r.top h.sep.symm).far (p := ⟨sb, 3, none⟩) hs.blk (by decide) (by decide) _, fun k k' hk hk' => ?_, ?_⟩
  · unfold updN
    split
    · exact (hn' k' hk').symm
    · exact h.dis k k' (by omega) hk'
  · exact (sep_new h.g.top h.sep.symm hv).symm
theorem RunV.newG {b : Nat} {v' : Value} (h : RunV w0 w sb E X st Ae Ax ce cx vr vg nr ng m R G tr (fun _ _ => false)) (hr : OwS w w0.heap.size 4 1 (rowV m b) (tRow m fun _ => false)) (hn : ∀ k, k < nr → R k ≠ b) (hn' : ∀ k, k < ng → G k ≠ b)
    (hg : w.grownBy w' vg.ownBlock) (hO : OwS w' w0.heap.size 52 1 v' (topV ng m G ++ [[rowV m b]])) (hv : v'.ownBlock = vg.ownBlock ∨ ∃ q, v'.ownBlock = some q ∧ w.heap.size ≤ q) :
    RunV w0 (w'.setCell ⟨sb, 4, none⟩ v') sb E X st Ae Ax ce cx vr v' nr (ng + 1) m R (updN G ng b) tr (fun _ _ => false) := by
  have hs := h.sr.kept hg h.g.top (by decide) (by decide)
  refine ⟨(h.fr.grown hg h.fr.size fun k e => (h.g.top.lt e).1).setCell (.inr rfl) _, hs.put4 _, (h.r.kept hg h.g.top h.sep).far (p := ⟨sb, 4, none⟩) hs.blk (by decide) (by decide) _, (h.g.new hg hO hr hn').far (p := ⟨sb, 4, none⟩) hs.blk (by decide) (by decide) _, fun k k' hk hk' => ?_, ?_⟩
  · unfold updN
    split
    · exact hn k hk
    · exact h.dis k k' hk (by omega)
  · exact sep_new h.r.top h.sep hv
end
end Go.Proofs.YtcgbnlhloopnfaaDoor
namespace Go.Proofs.YtcgbnlhloopnfaaDoor

def befT (S l i S0 l0 i0 : Nat) : Prop := S < S0 ∨ (S = S0 ∧ (l < l0 ∨ (l = l0 ∧ i < i0)))
/-- the first table while it is filled -/
structure FillV (X : List Opr) (st : Int) (tab : Nat → Nat → Bool) (S0 l0 i0 : Nat) : Prop where
  sound : ∀ S l, tab S l = true → Reach X st S l
  zero : tab 0 0 = true
  inr : ∀ S l, tab S l = true → S < 2 ^ X.length ∧ l ≤ X.length
  clo : ∀ S l i l', befT S l i S0 l0 i0 → i < X.length → tab S l = true → nxtR X st S l i = some l' → tab (S ||| 2 ^ i) l' = true
section
variable {X : List Opr} {st : Int} {tab : Nat → Nat → Bool} {S0 l0 i0 : Nat}
theorem upd2_at (tab : Nat → Nat → Bool) (k j : Nat) (b : Bool) (S l : Nat) : upd2 tab k j b S l = if S = k ∧ l = j then b else tab S l := by
  unfold upd2 updN
  by_cases h1 : S = k
  · subst h1
    by_cases h2 : l = j
    · simp [h2]
    · simp [h2]
  · simp [h1]
theorem FillV.init (X : List Opr) (st : Int) : FillV X st (upd2 (fun _ _ => false) 0 0 true) 0 0 0 := by
  refine ⟨fun S l h => ?_, by rw [upd2_at]; simp, fun S l h => ?_, fun S l i l' h => by unfold befT at h; omega⟩
  · rw [upd2_at] at h
    split at h
    · rename_i h1
      rw [h1.1, h1.2]
      exact reach_zero X st
    · cases h
  · rw [upd2_at] at h
    split at h
    · rename_i h1
      rw [h1.1, h1.2]
      exact ⟨Nat.two_pow_pos _, by omega⟩
    · cases h
theorem or_lt {S i n : Nat} (hS : S < 2 ^ n) (hi : i < n) : S ||| 2 ^ i < 2 ^ n := Nat.or_lt_two_pow hS (Nat.pow_lt_pow_right (by decide) hi)
theorem FillV.skip (h : FillV X st tab S0 l0 i0) (hs : tab S0 l0 = true → nxtR X st S0 l0 i0 = none) : FillV X st tab S0 l0 (i0 + 1) := by
  refine ⟨h.sound, h.zero, h.inr, fun S l i l' hb hi ht hn => ?_⟩
  by_cases hb' : befT S l i S0 l0 i0
  · exact h.clo S l i l' hb' hi ht hn
  · unfold befT at hb hb'
    obtain ⟨rfl, rfl, rfl⟩ : S = S0 ∧ l = l0 ∧ i = i0 := by omega
    rw [hs ht] at hn
    cases hn
theorem FillV.skips (h : FillV X st tab S0 l0 i0) (hs : tab S0 l0 = false) (i1 : Nat) : FillV X st tab S0 l0 i1 := by
  refine ⟨h.sound, h.zero, h.inr, fun S l i l' hb hi ht hn => ?_⟩
  by_cases hb' : befT S l i S0 l0 i0
  · exact h.clo S l i l' hb' hi ht hn
  · unfold befT at hb hb'
    obtain ⟨rfl, rfl⟩ : S = S0 ∧ l = l0 := by omega
    rw [hs] at ht
    cases ht
theorem FillV.step (hX : ∀ o ∈ X, 0 ≤ o.done → o.call ≤ o.done) (h : FillV X st tab S0 l0 i0) (hi0 : i0 < X.length) {l1 : Nat} (ht0 : tab S0 l0 = true) (hn0 : nxtR X st S0 l0 i0 = some l1) : FillV X st (upd2 tab (S0 ||| 2 ^ i0) l1 true) S0 l0 (i0 + 1) := by
  have hr := h.inr S0 l0 ht0
  have hgt := nxt_gt hn0
  refine ⟨fun S l hq => ?_, ?_, fun S l hq => ?_, fun S l i l' hb hi ht hn => ?_⟩
  · rw [upd2_at] at hq
    split at hq
    · rename_i h1
      rw [h1.1, h1.2]
      exact reach_next hX hi0 (h.sound _ _ ht0) hn0
    · exact h.sound _ _ hq
  · rw [upd2_at]
    split
    · rfl
    · exact h.zero
  · rw [upd2_at] at hq
    split at hq
    · rename_i h1
      rw [h1.1, h1.2]
      exact ⟨or_lt hr.1 hi0, nxt_le hi0 hr.2 hn0⟩
    · exact h.inr _ _ hq
  · rw [upd2_at] at ht
    have hne : ¬ (S = S0 ||| 2 ^ i0 ∧ l = l1) := fun e => by
      have := e.1
      unfold befT at hb
      omega
    rw [if_neg hne] at ht
    rw [upd2_at]
    split
    · rfl
    · rename_i hq
      by_cases hb' : befT S l i S0 l0 i0
      · exact h.clo S l i l' hb' hi ht hn
      · unfold befT at hb hb'
        obtain ⟨rfl, rfl, rfl⟩ : S = S0 ∧ l = l0 ∧ i = i0 := by omega
        rw [hn0] at hn
        injection hn with hn
        exact absurd ⟨rfl, hn.symm⟩ hq
theorem FillV.nextL (h : FillV X st tab S0 l0 X.length) : FillV X st tab S0 (l0 + 1) 0 := by
  refine ⟨h.sound, h.zero, h.inr, fun S l i l' hb hi ht hn => h.clo S l i l' ?_ hi ht hn⟩
  unfold befT at hb ⊢
  omega
theorem FillV.nextS (h : FillV X st tab S0 (X.length + 1) 0) : FillV X st tab (S0 + 1) 0 0 := by
  refine ⟨h.sound, h.zero, h.inr, fun S l i l' hb hi ht hn => h.clo S l i l' ?_ hi ht hn⟩
  have := (h.inr S l ht).2
  unfold befT at hb ⊢
  omega
theorem FillV.full (hX : ∀ o ∈ X, 0 ≤ o.done → o.call ≤ o.done) (h : FillV X st tab (2 ^ X.length) 0 0) (S l : Nat) : tab S l = true ↔ Reach X st S l := by
  refine tab_full ⟨h.sound, h.zero, fun S l i t _ hi ht hn => ?_⟩ S l
  have hl := step_last hn
  have e : t = (S ||| 2 ^ i, ((t.2 + 1).toNat : Int) - 1) := Prod.ext hl.2 hl.1
  have hn' := (nxt_some hX (l' := (t.2 + 1).toNat) hi).2 (by rw [hn, ← e])
  rw [hl.2]
  exact h.clo S l i _ (by have := (h.inr S l ht).1; unfold befT; omega) hi ht hn'
/-- the second table while it is filled, from the top -/
def GoodV (X : List Opr) (st : Int) (tr tg : Nat → Nat → Bool) (S0 l0 : Nat) : Prop := ∀ S l, S < 2 ^ X.length → l ≤ X.length → (S0 ≤ S ∨ (S + 1 = S0 ∧ l < l0)) → tr S l = true → (tg S l = true ↔ Compl X st (S, (l : Int) - 1))
/-- what the inner loop has found by i0 -/
def foundB (X : List Opr) (st : Int) (tg : Nat → Nat → Bool) (S l i0 : Nat) : Bool := covS X (ansQ X) S || (List.range i0).any fun i => match nxtR X st S l i with | some l' => tg (S ||| 2 ^ i) l' | none => false
theorem found_iff (hX : ∀ o ∈ X, 0 ≤ o.done → o.call ≤ o.done) {tr tg : Nat → Nat → Bool} {S l : Nat} (hS : S < 2 ^ X.length) (hl : l ≤ X.length) (hr : ∀ S l, tr S l = true ↔ Reach X st S l) (hg : GoodV X st tr tg (S + 1) l) (ht : tr S l = true) :
    foundB X st tg S l X.length = true ↔ Compl X st (S, (l : Int) - 1) := by
  rw [compl_iff hX]
  unfold foundB
  rw [Bool.or_eq_true, List.any_eq_true]
  refine or_congr Iff.rfl ⟨?_, ?_⟩
  · rintro ⟨i, hi, h⟩
    have hi' : i < X.length := by simpa using hi
    split at h
    · rename_i l' hn
      refine ⟨i, l', hi', hn, ?_⟩
      exact (hg _ _ (or_lt hS hi') (nxt_le hi' hl hn) (.inl (nxt_gt hn)) ((hr _ _).2 (reach_next hX hi' ((hr _ _).1 ht) hn))).1 h
    · cases h
  · rintro ⟨i, l', hi', hn, h⟩
    refine ⟨i, by simpa using hi', ?_⟩
    rw [hn]
    exact (hg _ _ (or_lt hS hi') (nxt_le hi' hl hn) (.inl (nxt_gt hn)) ((hr _ _).2 (reach_next hX hi' ((hr _ _).1 ht) hn))).2 h
theorem found_zero {tg : Nat → Nat → Bool} {S l : Nat} : foundB X st tg S l 0 = covS X (ansQ X) S := by unfold foundB; simp
theorem found_mono {tg : Nat → Nat → Bool} {S l i0 i1 : Nat} (h : i0 ≤ i1) (hf : foundB X st tg S l i0 = true) : foundB X st tg S l i1 = true := by
  unfold foundB at *
  rw [Bool.or_eq_true, List.any_eq_true] at *
  rcases hf with hf | ⟨i, hi, hf⟩
  · exact .inl hf
  · refine .inr ⟨i, ?_, hf⟩
    simp only [List.mem_range] at hi ⊢
    omega
theorem found_succ {tg : Nat → Nat → Bool} {S l i0 : Nat} (hf : foundB X st tg S l i0 = false) : foundB X st tg S l (i0 + 1) = match nxtR X st S l i0 with | some l' => tg (S ||| 2 ^ i0) l' | none => false := by
  unfold foundB at *
  rw [Bool.or_eq_false_iff] at hf
  rw [hf.1, List.range_succ, List.any_append, hf.2]
  simp
theorem GoodV.put {tr tg : Nat → Nat → Bool} {S l : Nat} {b : Bool} (hg : GoodV X st tr tg (S + 1) l) (hb : tr S l = true → (b = true ↔ Compl X st (S, (l : Int) - 1))) : GoodV X st tr (upd2 tg S l b) (S + 1) (l + 1) := by
  intro S' l' hS hl ho ht
  rw [upd2_at]
  split
  · rename_i h
    rw [h.1, h.2] at ht ⊢
    exact hb ht
  · rename_i h
    exact hg S' l' hS hl (by omega) ht
theorem GoodV.down {tr tg : Nat → Nat → Bool} {S : Nat} (hg : GoodV X st tr tg (S + 1) (X.length + 1)) : GoodV X st tr tg S 0 := by
  intro S' l' hS hl ho ht
  exact hg S' l' hS hl (by omega) ht
end
end Go.Proofs.YtcgbnlhloopnfaaDoor
namespace Go.Proofs.YtcgbnlhloopnfaaDoor

theorem reach_lt {X : List Opr} {st : Int} {S l : Nat} (h : Reach X st S l) : S < 2 ^ X.length ∧ l ≤ X.length := by
  obtain ⟨p, hp⟩ := h
  have key : ∀ (p : List Nat) (s u : St), Path X st s p u → s.1 < 2 ^ X.length ∧ s.2 < X.length → u.1 < 2 ^ X.length ∧ u.2 < X.length := by
    intro p
    induction p with
    | nil => intro s u hp h; cases hp; exact h
    | cons i p ih =>
      intro s u hp h
      cases hp with
      | cons hi hn hp =>
        obtain ⟨-, -, -, rfl⟩ := nextS_some hn
        refine ih _ _ hp ⟨or_lt h.1 hi, ?_⟩
        show (if (opAt X i).write then (i : Int) else s.2) < _
        split
        · omega
        · exact h.2
  have := key p (0, -1) (S, (l : Int) - 1) hp ⟨Nat.two_pow_pos _, by show (-1 : Int) < _; omega⟩
  refine ⟨this.1, ?_⟩
  have h2 : (l : Int) - 1 < X.length := this.2
  omega
/-- whether a pair is one that the era may end with -/
def endPB (E X : List Opr) (tr tg : Nat → Nat → Bool) (S l : Nat) : Bool := tr S l && tg S l && covS X (safR E X) S
/-- the row of a set: up to l -/
def endRow (E X : List Opr) (st : Int) (tr tg : Nat → Nat → Bool) (S l : Nat) : List Int := ((List.range l).filter (endPB E X tr tg S)).map (valR X st)
/-- up to set S -/
def endAll (E X : List Opr) (st : Int) (tr tg : Nat → Nat → Bool) (S : Nat) : List Int := (List.range S).flatMap fun S => endRow E X st tr tg S (X.length + 1)
section
variable {E X : List Opr} {st : Int} {tr tg : Nat → Nat → Bool} {S l : Nat}
theorem endRow_succ : endRow E X st tr tg S (l + 1) = endRow E X st tr tg S l ++ if endPB E X tr tg S l then [valR X st l] else [] := by
  unfold endRow
  rw [List.range_succ, List.filter_append, List.map_append]
  congr 1
  rcases h : endPB E X tr tg S l with _ | _ <;> simp [List.filter, h]
theorem endAll_succ : endAll E X st tr tg (S + 1) = endAll E X st tr tg S ++ endRow E X st tr tg S (X.length + 1) := by
  unfold endAll
  rw [List.range_succ, List.flatMap_append]
  simp
theorem endRow_len : (endRow E X st tr tg S l).length ≤ l := by
  unfold endRow
  rw [List.length_map]
  exact Nat.le_trans (List.length_filter_le _ _) (by simp)
theorem endAll_len : (endAll E X st tr tg S).length ≤ S * (X.length + 1) := by
  induction S with
  | zero => simp [endAll]
  | succ S ih =>
    rw [endAll_succ, List.length_append, Nat.add_mul]
    have := endRow_len (E := E) (X := X) (st := st) (tr := tr) (tg := tg) (S := S) (l := X.length + 1)
    omega
theorem ends_iff (hr : ∀ S l, tr S l = true ↔ Reach X st S l) (hg : GoodV X st tr tg 0 0) (v : Int) : v ∈ endAll E X st tr tg (2 ^ X.length) ↔ EndsV X st (safR E X) v := by
  unfold endAll endRow endPB EndsV
  simp only [List.mem_flatMap, List.mem_range, List.mem_map, List.mem_filter, Bool.and_eq_true]
  constructor
  · rintro ⟨S, hS, l, ⟨hl, ⟨h1, h2⟩, h3⟩, rfl⟩
    obtain ⟨p, hp⟩ := (hr S l).1 h1
    exact ⟨p, _, hp, (hg S l hS (by omega) (.inl (by omega)) h1).1 h2, h3, valR_eq _ _ _⟩
  · rintro ⟨p, ⟨S, q⟩, h1, h2, h3, rfl⟩
    have key : ∀ (p : List Nat) (s u : St), Path X st s p u → -1 ≤ s.2 → -1 ≤ u.2 := by
      intro p
      induction p with
      | nil => intro s u hp h; cases hp; exact h
      | cons i p ih =>
        intro s u hp h
        cases hp with
        | cons hi hn hp =>
          obtain ⟨-, -, -, rfl⟩ := nextS_some hn
          refine ih _ _ hp ?_
          show -1 ≤ (if (opAt X i).write then (i : Int) else s.2)
          split
          · omega
          · exact h
    have hq := key p _ _ h1 (Int.le_refl _)
    simp only at hq
    have e : q = ((q + 1).toNat : Int) - 1 := by omega
    have hR : Reach X st S (q + 1).toNat := ⟨p, by rw [← e]; exact h1⟩
    have hlt := reach_lt hR
    refine ⟨S, hlt.1, (q + 1).toNat, ⟨by omega, ⟨(hr _ _).2 hR, ?_⟩, h3⟩, ?_⟩
    · exact (hg S _ hlt.1 hlt.2 (.inl (by omega)) ((hr _ _).2 hR)).2 (by rw [← e]; exact h2)
    · rw [valR_eq, ← e]
end
/-- a list without repetition, all of another list, is no longer -/
theorem nodup_le {xs : List Int} (hn : xs.Nodup) : ∀ (ys : List Int), (∀ x ∈ xs, x ∈ ys) → xs.length ≤ ys.length := by
  induction xs with
  | nil => intro ys _; simp
  | cons a xs ih =>
    intro ys h
    obtain ⟨h1, h2⟩ := List.nodup_cons.1 hn
    have ha := h a (by simp)
    have := ih h2 (ys.erase a) fun x hx => (List.mem_erase_of_ne (by rintro rfl; exact h1 hx)).2 (h x (by simp [hx]))
    rw [List.length_erase_of_mem ha] at this
    have hp : 0 < ys.length := List.length_pos_of_mem ha
    simp only [List.length_cons]
    omega
theorem difI_nodup (xs : List Int) : (difI xs).Nodup := by
  have : ∀ (ys acc : List Int), acc.Nodup → (ys.foldl difStep acc).Nodup := by
    intro ys
    induction ys with
    | nil => intro acc h; exact h
    | cons a ys ih =>
      intro acc h
      rw [List.foldl_cons]
      refine ih _ ?_
      unfold difStep
      split
      · exact h
      · rename_i hc
        rw [List.nodup_append]
        refine ⟨h, by simp, fun x hx y hy => ?_⟩
        have : y = a := by simpa using hy
        subst this
        rintro rfl
        exact hc (List.contains_iff_mem.2 hx)
  exact this xs [] List.nodup_nil
theorem ends_val {X : List Opr} {st v : Int} {sf : Nat → Bool} (h : EndsV X st sf v) : v = st ∨ ∃ o ∈ X, v = o.val := by
  obtain ⟨p, m, hp, -, -, rfl⟩ := h
  have key : ∀ (p : List Nat) (s u : St), Path X st s p u → s.2 < X.length → u.2 < X.length := by
    intro p
    induction p with
    | nil => intro s u hp h; cases hp; exact h
    | cons i p ih =>
      intro s u hp h
      cases hp with
      | cons hi hn hp =>
        obtain ⟨-, -, -, rfl⟩ := nextS_some hn
        refine ih _ _ hp ?_
        show (if (opAt X i).write then (i : Int) else s.2) < _
        split
        · omega
        · exact h
  have hq := key p _ _ hp (by show (-1 : Int) < _; omega)
  unfold valS
  split
  · exact .inl rfl
  · exact .inr ⟨_, opAt_mem (by omega), rfl⟩
theorem vals_val {os : List Opr} : ∀ {k : Nat} {v : Int}, ValsK os k v → v ∈ 0 :: os.map (·.val) := by
  intro k
  induction k with
  | zero => intro v h; cases h; simp
  | succ k ih =>
    intro v h
    obtain ⟨u, h1, h2⟩ := h
    rcases ends_val h2 with rfl | ⟨o, ho, rfl⟩
    · exact ih h1
    · have h3 : o ∈ os := by
        unfold eraX eraO at ho
        exact (List.mem_filter.1 (List.mem_filter.1 ho).1).1
      simp only [List.mem_cons, List.mem_map]
      exact .inr ⟨o, h3, rfl⟩
/-- the different values behind k eras are few -/
theorem vals_few {os : List Opr} {k : Nat} {xs : List Int} (hn : xs.Nodup) (h : ∀ v, v ∈ xs → ValsK os k v) : xs.length ≤ os.length + 1 := by
  have := nodup_le hn (0 :: os.map (·.val)) fun x hx => vals_val (h x hx)
  simpa using this
theorem vals_next {os : List Opr} {k : Nat} {xs : List Int} (hx : ∀ v, v ∈ xs ↔ ValsK os k v) {f : Int → List Int} (hf : ∀ u v, v ∈ f u ↔ EndsV (eraX os k) u (safR (eraO os k) (eraX os k)) v) (v : Int) : v ∈ difI (xs.flatMap f) ↔ ValsK os (k + 1) v := by
  rw [difI_mem, List.mem_flatMap]
  constructor
  · rintro ⟨u, h1, h2⟩
    exact ⟨u, (hx u).1 h1, ends_same.1 ((hf u v).1 h2)⟩
  · rintro ⟨u, h1, h2⟩
    exact ⟨u, (hx u).2 h1, (hf u v).2 (ends_same.2 h2)⟩
end Go.Proofs.YtcgbnlhloopnfaaDoor
