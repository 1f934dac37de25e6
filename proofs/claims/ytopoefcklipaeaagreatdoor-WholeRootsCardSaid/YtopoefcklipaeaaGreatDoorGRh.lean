/- Walks of spare: Valid, the method where, Where.
Walk of spare.Choose.
Memory laws for rows of the call's own: a row put in, a row taken out, cells behind the rows. No program is walked here.
Numbers in bytes, the least significant byte first; walks of tegularef15.Put and tegularef25.Sum. -/
import Derived.Test.YtopoefcklipaeaaGreatDoorTwR
import Derived.Test.YtopoefcklipaeaaGreatDoorGRc
import Derived.Lib.Overlaps
import Derived.Lib.AppendZerosOnto
import Derived.Laws.Externs
import Derived.Laws.IdiomCopy
namespace Go.Proofs.YtopoefcklipaeaaGreatDoor
open Go.RowKit
set_option maxHeartbeats 1000000 in
theorem svalid_any {L : LayD} {A Am : Option Addr} {B c cm : Nat} {ms : List Mv} (w : World) (hx : LayX L) (hv : GsV w B A L.gs) (hM : MvS w B Am ms) (hwf : ∀ m ∈ ms, PlWf m.to) (hB : B ≤ w.heap.size) (hlen : ms.length ≤ 100000) :
  Calls Tryz.prog 68 #[layAgg L A c, .slice Am ms.length cm] w fun r w' => r = .returned (.bool (validM L ms)) ∧ Below w.heap.size w w' := by
 have HV := Lib.hid hv
 have HM := Lib.hid hM
 have HC := Lib.hid (fun W hv hM hB => scheck_any (L := L) (A := A) (Am := Am) (B := B) (c := c) (cm := cm) (ms := ms) W hx hv hM hwf hB hlen)
 unfold layAgg at *
 clear hv hM
 obtain ⟨res, hres⟩ : ∃ res, validM L ms = res := ⟨_, rfl⟩
 rw [hres] at HC ⊢
 clear hres
 go_enter Tryz.func68, Tryz.ntmps68
 go_wp2_with fail
 have hb0 : Below w.heap.size w (w.alloc (.cells #[.int .i64 L.disks, .slice A L.n c, .int .i64 L.tiles, .int .i64 L.spare] 28)) := below_laid
 generalize w.alloc _ = w0 at *
 refine (HC.out w0 (HV.out.below hb0 hB) (HM.out.below' hb0 hB) (Nat.le_trans hB hb0.size)).mono ?_
 rintro r w1 ⟨hr, hb1⟩
 have HB := Lib.hid (hb0.trans (hb1.mono hb0.size))
 clear hb0 hb1
 cases res
 ·obtain rfl := hr
  unfold staZ
  go_wp2
  go_ret
  exact ⟨rfl, HB.out.trans (below_laid.mono HB.out.size)⟩
 ·obtain rfl := hr
  unfold staC
  go_wp2
  go_ret
  exact ⟨rfl, HB.out.trans (below_laid.mono HB.out.size)⟩
end Go.Proofs.YtopoefcklipaeaaGreatDoor
namespace Go.Proofs.YtopoefcklipaeaaGreatDoor
open Go.RowKit
structure CheS (w : World) (L : LayD) (A : Option Addr) (c : Nat) (Am : Option Addr) (nm cm : Nat) (wr : World) : Prop where
 bel : Below w.heap.size w wr
 lay : LayB wr w.heap.size L A c
 res : PlB wr (w.heap.size + 1) ⟨0, 0⟩
 sta : ∃ S, StaB wr S L A c Am nm cm ∧ w.heap.size + 2 ≤ S
theorem CheS.below {w wr w' : World} {L : LayD} {A : Option Addr} {c : Nat} {Am : Option Addr} {nm cm : Nat} (h : CheS w L A c Am nm cm wr) (hb : Below wr.heap.size wr w') : CheS w L A c Am nm cm w' :=
 ⟨h.bel.trans (hb.mono h.bel.size), h.lay.below hb h.lay.lt, h.res.below hb h.res.lt, by obtain ⟨S, h1, h2⟩ := h.sta; exact ⟨S, h1.below hb h1.lt, h2⟩⟩
end Go.Proofs.YtopoefcklipaeaaGreatDoor
namespace Go.Proofs.YtopoefcklipaeaaGreatDoor
open Go.RowKit
def layC (l : List Value) (o : Nat) (vs : List Value) : List Value := l.take o ++ vs ++ l.drop (o + vs.length)
theorem layC_len {l : List Value} {o : Nat} {vs : List Value} (h : o + vs.length ≤ l.length) : (layC l o vs).length = l.length := by
 unfold layC
 simp
 omega
theorem layC_set {l : List Value} {o : Nat} {v : Value} {r : List Value} (h : o < l.length) : layC (l.set o v) (o + 1) r = layC l o (v :: r) := by
 unfold layC
 rw [List.take_add_one, List.take_set_of_le (Nat.le_refl _), List.getElem?_set_self h, List.drop_set_of_lt (by omega), List.length_cons]
 rw [show o + 1 + r.length = o + (r.length + 1) by omega]
 simp
theorem heap_setCells {g : Nat} {e : TypeId} : ∀ (vs : List Value) (w : World) (o : Nat) (cur : Array Value), w.heap[g]? = some (.cells cur e (0, 0)) → o + vs.length ≤ cur.size → (w.setCells g o vs).heap[g]? = some (.cells (layC cur.toList o vs).toArray e (0, 0)) := by
 intro vs
 induction vs with
 | nil =>
  intro w o cur h _
  show w.heap[g]? = _
  rw [h]
  unfold layC
  simp
 | cons v r ih =>
  intro w o cur h hl
  rw [List.length_cons] at hl
  have h1 := heap_setCell_same w g o cur e v h
  have h2 := ih (w.setCell ⟨g, o, none⟩ v) (o + 1) (cur.setIfInBounds o v) h1 (by simp; omega)
  rw [Array.toList_setIfInBounds, layC_set (by simp; omega)] at h2
  exact h2
theorem grownBy_setCells (b : Nat) (vs : List Value) : ∀ (w : World) (j : Nat), w.grownBy (w.setCells b j vs) (some b) := by
 induction vs with
 | nil => intro w j; exact World.grownBy.refl _ _
 | cons v vs ih => intro w j; exact (grownBy_setCell w ⟨b, j, none⟩ v).trans (ih _ _)
theorem layC_shift {l A D m : List Value} {a s : Nat} (hA : A.length = a) (hl : l.take (a + D.length) = A ++ D) (hm : m.length = s) (hb : a + s + D.length ≤ l.length) : (layC (layC l (a + s) D) a m).take (a + s + D.length) = A ++ m ++ D := by
 have h1 : l.take a = A := by
  have : (l.take (a + D.length)).take a = A := by rw [hl, List.take_append_of_le_length (by omega), List.take_of_length_le (by omega)]
  rwa [List.take_take, Nat.min_eq_left (by omega)] at this
 have h2 : (layC l (a + s) D).take a = A := by
  unfold layC
  rw [List.append_assoc, List.take_append_of_le_length (by rw [List.length_take]; omega), List.take_take, Nat.min_eq_left (by omega), h1]
 have h3 : (layC l (a + s) D).drop (a + m.length) = D ++ l.drop (a + s + D.length) := by
  unfold layC
  rw [hm, List.append_assoc, List.drop_append, List.length_take, List.drop_of_length_le (by rw [List.length_take]; omega)]
  rw [show a + s - min (a + s) l.length = 0 by omega]
  simp
 rw [layC, h2, h3, ← List.append_assoc]
 rw [List.take_append_of_le_length (by simp; omega), List.take_of_length_le (by simp; omega)]
theorem layC_fill {A Z D m : List Value} {a s : Nat} (hA : A.length = a) (hm : m.length = s) (_hb : s + D.length ≤ Z.length) : (layC (layC (A ++ Z) a m) (a + s) D).take (a + s + D.length) = A ++ m ++ D := by
 have h1 : (layC (A ++ Z) a m).take (a + s) = A ++ m := by
  unfold layC
  rw [List.take_append_of_le_length (l₁ := A) (by omega), List.take_of_length_le (l := A) (by omega), List.take_append_of_le_length (by simp; omega), List.take_of_length_le (by simp; omega)]
 rw [layC, h1]
 rw [List.take_append_of_le_length (by simp; omega), List.take_of_length_le (by simp; omega)]
theorem layC_cut {l A M D : List Value} {a : Nat} (hA : A.length = a) (hl : l.take (a + M.length + D.length) = A ++ M ++ D) : (layC l a D).take (a + D.length) = A ++ D := by
 have h1 : l.take a = A := by
  have : (l.take (a + M.length + D.length)).take a = A := by rw [hl, List.append_assoc, List.take_append_of_le_length (by omega), List.take_of_length_le (by omega)]
  rwa [List.take_take, Nat.min_eq_left (by omega)] at this
 rw [layC, h1]
 rw [List.take_append_of_le_length (by simp; omega), List.take_of_length_le (by simp; omega)]
section
variable {P : Program}
theorem run_copy_rows (w : World) (dT sT ty elem : TypeId) (size k b o dLen dCap : Nat) (a : Addr) (sLen sCap : Nat) (cs : List Value)
  (hu : P.underlying dT = some (.slice elem)) (hs : (P.info? elem).map (·.size) = some size) (hk : Nat.min sLen dLen = k) (hn : cs.length = k * size)
  (hsrc : ∀ j v, cs[j]? = some v → w.cell? (a.add j) = some v) (hc : ∀ j, j < cs.length → (w.cell? ⟨b, o + j, none⟩).isSome = true) (hf : ∀ j, j < cs.length → w.frozen? ⟨b, o + j, none⟩ = false) (h1 : ∀ v ∈ cs, v.oneCell' = true) :
  (Builtin.copy_ #[dT, sT] ty #[.slice (some ⟨b, o, none⟩) dLen dCap, .slice (some a) sLen sCap]).run P w = .ok (goInt k) (w.setCells b o cs) := by
 have hl := run_loadCells_list (P := P) w a cs hsrc
 have hst := run_storeCells_cells (P := P) b o cs 0 w (by simpa using hc) (by simpa using hf) h1
 cases hq : P.info? elem with
 | none => simp [hq] at hs
 | some i =>
  have hi : i.size = size := by simpa [hq] using hs
  simp [Builtin.copy_, run_underlying hu, Builtin.lenOf, Builtin.firstCells, sizeOf, typeInfo, hq, hi, hk, ← hn, hl, hst]
theorem wp_copy_rows (w : World) {o : Oper} {a : Act} {K : Act → World → Prop} {Q : Exit → Act → World → Prop} (d s : Operand) (t t' : TypeId)
  (ho : o.op = .call { callee := .builtin .copy, args := #[d, s], argTypes := #[t, t'] }) (v u : Value) (hd : a.eval d = v) (hs : a.eval s = u) {v' : Value} {w' : World}
  (hr : (Builtin.copy_ #[t, t'] o.type #[v, u]).run P w = .ok v' w') (h : K (a.put o.dst v') w') : o.wp P a w K Q := by
 unfold Oper.wp execOp
 simp only [ho, resolve, invoke, builtin, Sem.run_bind, Sem.run_pure, Result.andThen_ok, List.map_toArray, List.map_cons, List.map_nil, hd, hs, hr]
 exact h
theorem step_copy_rows {ops : Array Oper} {o : Oper} {a : Act} {w : World} {K : Act → World → Prop} {Q : Exit → Act → World → Prop} {E : Prop}
  (hg : o.guard = none) (d x : Operand) (dT sT : TypeId) (hop : o.op = Op.call { callee := Callee.builtin Builtin.copy, args := #[d, x], argTypes := #[dT, sT] })
  (v u : Value) (hd : a.eval d = v) (hx : a.eval x = u) {v' : Value} {w' : World} (hr : (Builtin.copy_ #[dT, sT] o.type #[v, u]).run P w = .ok v' w') (hK : K (a.put o.dst v') w') :
  if Region.wanted o (yielded ops a.tmps) = true then Oper.wp P o a w K Q else E := by
 have hw : Region.wanted o (yielded ops a.tmps) = true := by simp [Region.wanted, hg]
 rw [if_pos hw]
 exact wp_copy_rows w d x dT sT hop v u hd hx hr hK
theorem step_append_rows {ops : Array Oper} {o : Oper} {a : Act} {w : World} {K : Act → World → Prop} {Q : Exit → Act → World → Prop} {E : Prop}
  (hg : o.guard = none) (d x : Operand) (dT sT : TypeId) (hop : o.op = Op.call { callee := Callee.builtin Builtin.append, args := #[d, x], argTypes := #[dT, sT] })
  (v u : Value) (hd : a.eval d = v) (hx : a.eval x = u) {v' : Value} {w' : World} (hr : (Builtin.append_ #[dT, sT] o.type #[v, u]).run P w = .ok v' w') (hK : K (a.put o.dst v') w') :
  if Region.wanted o (yielded ops a.tmps) = true then Oper.wp P o a w K Q else E := by
 have hw : Region.wanted o (yielded ops a.tmps) = true := by simp [Region.wanted, hg]
 rw [if_pos hw]
 exact Lib.wp_append_run w d x dT sT hop v u hd hx v' w' hr hK
end
section
variable {w : World} {base size n cap g : Nat} {e : TypeId} {rows : List (List Value)}
theorem OwS.blk (h : OwS w base e size (.slice (some ⟨g, 0, none⟩) n cap) rows) : ∃ cur, n = rows.length ∧ base ≤ g ∧ w.heap[g]? = some (.cells cur e (0, 0)) ∧ n ≤ cap ∧ cap ≤ maxLen ∧ cur.size = cap * size ∧ cur.toList.take (n * size) = rows.flatten := by
 rcases h.2.2 with ⟨hv, _⟩ | ⟨g', cap', cur, hv, hb, hh, hnc, hcm, hsz, ht⟩
 ·cases hv
 ·injection hv with h1 h2 h3
  injection h1 with h1
  injection h1 with h1
  subst h1 h2 h3
  exact ⟨cur, rfl, hb, hh, hnc, hcm, hsz, ht⟩
theorem OwS.mkBlk {cur : Array Value} (hs : ∀ r ∈ rows, r.length = size) (hn : n = rows.length) (hb : base ≤ g) (hh : w.heap[g]? = some (.cells cur e (0, 0))) (hnc : n ≤ cap) (hcm : cap ≤ maxLen) (hsz : cur.size = cap * size) (ht : cur.toList.take (n * size) = rows.flatten) : OwS w base e size (.slice (some ⟨g, 0, none⟩) n cap) rows := by
 subst hn
 exact ⟨hs, flatten_length hs, .inr ⟨g, cap, cur, rfl, hb, hh, hnc, hcm, hsz, ht⟩⟩
theorem OwS.isSome (h : OwS w base e size (.slice (some ⟨g, 0, none⟩) n cap) rows) {j : Nat} (hj : j < cap * size) : (w.cell? ⟨g, j, none⟩).isSome = true := by
 obtain ⟨cur, -, -, hh, -, -, hsz, -⟩ := h.blk
 rw [cell_of_row _ _ _ _ _ _ hh, Array.getElem?_eq_getElem (by omega)]
 rfl
theorem OwS.shift (h : OwS w base e size (.slice (some ⟨g, 0, none⟩) n cap) rows) {i : Nat} (hi : i ≤ rows.length) (hr : n + 1 ≤ cap) {m : List Value} (hm : m.length = size) :
  OwS ((w.setCells g ((i + 1) * size) (rows.drop i).flatten).setCells g (i * size) m) base e size (.slice (some ⟨g, 0, none⟩) (n + 1) cap) (rows.take i ++ m :: rows.drop i) := by
 obtain ⟨cur, hn, hb, hh, hnc, hcm, hsz, ht⟩ := h.blk
 have hall : ∀ r ∈ rows.take i ++ m :: rows.drop i, r.length = size := fun r hr => by
  rcases List.mem_append.1 hr with hr | hr
  ·exact h.1 r (List.mem_of_mem_take hr)
  ·rcases List.mem_cons.1 hr with rfl | hr
   ·exact hm
   ·exact h.1 r (List.mem_of_mem_drop hr)
 have hdl : (rows.drop i).flatten.length = (n - i) * size := by rw [flatten_length (fun r hr => h.1 r (List.mem_of_mem_drop hr)), List.length_drop, hn]
 have htl : (rows.take i).flatten.length = i * size := by rw [flatten_length (fun r hr => h.1 r (List.mem_of_mem_take hr)), List.length_take, Nat.min_eq_left hi]
 have e1 : (i + 1) * size = i * size + size := by rw [Nat.add_mul, Nat.one_mul]
 have e2 : i * size + (n - i) * size = n * size := by rw [← Nat.add_mul]; congr 1; omega
 have e3 : (n + 1) * size = n * size + size := by rw [Nat.add_mul, Nat.one_mul]
 have e4 : (n + 1) * size ≤ cap * size := Nat.mul_le_mul_right _ hr
 have hfl : rows.flatten = (rows.take i).flatten ++ (rows.drop i).flatten := by rw [← List.flatten_append, List.take_append_drop]
 have hcl : cur.toList.length = cap * size := by rw [Array.length_toList, hsz]
 have hl1 : (layC cur.toList ((i + 1) * size) (rows.drop i).flatten).length = cap * size := by rw [layC_len (by omega), hcl]
 have h1 := heap_setCells (rows.drop i).flatten w ((i + 1) * size) cur hh (by rw [hdl]; omega)
 have h2 := heap_setCells m (w.setCells g ((i + 1) * size) (rows.drop i).flatten) (i * size) _ h1 (by rw [List.size_toArray, hl1]; omega)
 refine OwS.mkBlk hall (by simp; omega) hb h2 hr hcm ?_ ?_
 ·rw [List.size_toArray, layC_len (by rw [hl1]; omega), hl1]
 ·have h3 := layC_shift (l := cur.toList) (A := (rows.take i).flatten) (D := (rows.drop i).flatten) (m := m) (a := i * size) (s := size) htl (by rw [hdl, e2, ht, hfl]) hm (by rw [hdl, Array.length_toList]; omega)
  rw [hdl] at h3
  rw [e1, show (n + 1) * size = i * size + size + (n - i) * size by omega, List.flatten_append, List.flatten_cons, ← List.append_assoc]
  exact h3
theorem OwS.fill {ROW : Array Value} {Z : List Value} {i : Nat} (hs : ∀ r ∈ rows, r.length = size) (hh : w.heap[g]? = some (.cells ROW e (0, 0))) (hR : ROW.toList = (rows.take i).flatten ++ Z) (hi : i ≤ rows.length) (hn : n = rows.length) (hb : base ≤ g) (hnc : n + 1 ≤ cap) (hcm : cap ≤ maxLen) (hsz : ROW.size = cap * size) {m : List Value} (hm : m.length = size) :
  OwS ((w.setCells g (i * size) m).setCells g ((i + 1) * size) (rows.drop i).flatten) base e size (.slice (some ⟨g, 0, none⟩) (n + 1) cap) (rows.take i ++ m :: rows.drop i) := by
 have hall : ∀ r ∈ rows.take i ++ m :: rows.drop i, r.length = size := fun r hr => by
  rcases List.mem_append.1 hr with hr | hr
  ·exact hs r (List.mem_of_mem_take hr)
  ·rcases List.mem_cons.1 hr with rfl | hr
   ·exact hm
   ·exact hs r (List.mem_of_mem_drop hr)
 have hdl : (rows.drop i).flatten.length = (n - i) * size := by rw [flatten_length (fun r hr => hs r (List.mem_of_mem_drop hr)), List.length_drop, hn]
 have htl : (rows.take i).flatten.length = i * size := by rw [flatten_length (fun r hr => hs r (List.mem_of_mem_take hr)), List.length_take, Nat.min_eq_left hi]
 have e1 : (i + 1) * size = i * size + size := by rw [Nat.add_mul, Nat.one_mul]
 have e2 : i * size + (n - i) * size = n * size := by rw [← Nat.add_mul]; congr 1; omega
 have e3 : (n + 1) * size = n * size + size := by rw [Nat.add_mul, Nat.one_mul]
 have e4 : (n + 1) * size ≤ cap * size := Nat.mul_le_mul_right _ hnc
 have hZ : Z.length = cap * size - i * size := by
  have := congrArg List.length hR
  rw [Array.length_toList, List.length_append, htl, hsz] at this
  omega
 have hcl : ROW.toList.length = cap * size := by rw [Array.length_toList, hsz]
 have hl1 : (layC ROW.toList (i * size) m).length = cap * size := by rw [layC_len (by omega), hcl]
 have h1 := heap_setCells m w (i * size) ROW hh (by omega)
 have h2 := heap_setCells (rows.drop i).flatten (w.setCells g (i * size) m) ((i + 1) * size) _ h1 (by rw [List.size_toArray, hl1]; omega)
 refine OwS.mkBlk hall (by simp; omega) hb h2 hnc hcm ?_ ?_
 ·rw [List.size_toArray, layC_len (by rw [hl1]; omega), hl1]
 ·have h3 := layC_fill (A := (rows.take i).flatten) (Z := Z) (D := (rows.drop i).flatten) (m := m) (a := i * size) (s := size) htl hm (by rw [hdl]; omega)
  rw [hdl] at h3
  rw [hR, e1, show (n + 1) * size = i * size + size + (n - i) * size by omega, List.flatten_append, List.flatten_cons, ← List.append_assoc]
  exact h3
theorem OwS.cut (h : OwS w base e size (.slice (some ⟨g, 0, none⟩) n cap) rows) {i : Nat} (hi : i < rows.length) :
  OwS (w.setCells g (i * size) (rows.drop (i + 1)).flatten) base e size (.slice (some ⟨g, 0, none⟩) (n - 1) cap) (rows.take i ++ rows.drop (i + 1)) := by
 obtain ⟨cur, hn, hb, hh, hnc, hcm, hsz, ht⟩ := h.blk
 have hall : ∀ r ∈ rows.take i ++ rows.drop (i + 1), r.length = size := fun r hr => by
  rcases List.mem_append.1 hr with hr | hr
  ·exact h.1 r (List.mem_of_mem_take hr)
  ·exact h.1 r (List.mem_of_mem_drop hr)
 have hdl : (rows.drop (i + 1)).flatten.length = (n - (i + 1)) * size := by rw [flatten_length (fun r hr => h.1 r (List.mem_of_mem_drop hr)), List.length_drop, hn]
 have htl : (rows.take i).flatten.length = i * size := by rw [flatten_length (fun r hr => h.1 r (List.mem_of_mem_take hr)), List.length_take, Nat.min_eq_left (by omega)]
 have hml : rows[i].length = size := h.1 _ (List.getElem_mem hi)
 have e1 : (i + 1) * size = i * size + size := by rw [Nat.add_mul, Nat.one_mul]
 have e2 : (i + 1) * size + (n - (i + 1)) * size = n * size := by rw [← Nat.add_mul]; congr 1; omega
 have e4 : n * size ≤ cap * size := Nat.mul_le_mul_right _ hnc
 have hfl : rows.flatten = (rows.take i).flatten ++ rows[i] ++ (rows.drop (i + 1)).flatten := by
  have : rows = rows.take i ++ rows[i] :: rows.drop (i + 1) := by rw [← List.drop_eq_getElem_cons hi, List.take_append_drop]
  conv => lhs; rw [this]
  rw [List.flatten_append, List.flatten_cons, List.append_assoc]
 have h1 := heap_setCells (rows.drop (i + 1)).flatten w (i * size) cur hh (by rw [hdl]; omega)
 refine OwS.mkBlk hall (by simp; omega) hb h1 (by omega) hcm ?_ ?_
 ·rw [List.size_toArray, layC_len (by rw [hdl, Array.length_toList]; omega), Array.length_toList, hsz]
 ·have h3 := layC_cut (l := cur.toList) (A := (rows.take i).flatten) (M := rows[i]) (D := (rows.drop (i + 1)).flatten) (a := i * size) htl (by rw [hdl, hml, show i * size + size + (n - (i + 1)) * size = n * size by omega, ht, hfl])
  rw [hdl] at h3
  rw [show (n - 1) * size = i * size + (n - (i + 1)) * size by rw [← Nat.add_mul]; congr 1; omega, List.flatten_append]
  exact h3
theorem OwS.past (h : OwS w base e size (.slice (some ⟨g, 0, none⟩) n cap) rows) {j : Nat} (hj : rows.length * size ≤ j) (u : Value) : OwS (w.setCell ⟨g, j, none⟩ u) base e size (.slice (some ⟨g, 0, none⟩) n cap) rows := by
 obtain ⟨cur, hn, hb, hh, hnc, hcm, hsz, ht⟩ := h.blk
 refine OwS.mkBlk h.1 hn hb (heap_setCell_same _ _ _ _ _ _ hh) hnc hcm (by simp [hsz]) ?_
 rw [Array.toList_setIfInBounds, List.take_set_of_le (by rw [hn]; omega)]
 exact ht
theorem OwS.pastAll (vs : List Value) : ∀ {w : World} (j : Nat), OwS w base e size (.slice (some ⟨g, 0, none⟩) n cap) rows → rows.length * size ≤ j → OwS (w.setCells g j vs) base e size (.slice (some ⟨g, 0, none⟩) n cap) rows := by
 induction vs with
 | nil => intro w j h _; exact h
 | cons v vs ih => intro w j h hj; exact ih (j + 1) (h.past hj v) (by omega)
theorem OwS.cellsFrom (h : OwS w base e size (.slice (some ⟨g, 0, none⟩) n cap) rows) (i : Nat) {j : Nat} {u : Value} (hj : (rows.drop i).flatten[j]? = some u) : w.cell? ⟨g, i * size + j, none⟩ = some u := by
 obtain ⟨cur, hn, hb, hh, hnc, hcm, hsz, ht⟩ := h.blk
 have hfl : rows.flatten = (rows.take i).flatten ++ (rows.drop i).flatten := by rw [← List.flatten_append, List.take_append_drop]
 have hjl := (List.getElem?_eq_some_iff.1 hj).1
 have hi : i < rows.length := by
  rcases Nat.lt_or_ge i rows.length with hi | hi
  ·exact hi
  ·rw [List.drop_of_length_le hi] at hjl; simp at hjl
 have htl : (rows.take i).flatten.length = i * size := by rw [flatten_length (fun r hr => h.1 r (List.mem_of_mem_take hr)), List.length_take, Nat.min_eq_left (by omega)]
 have h3 : rows.flatten[i * size + j]? = some u := by rw [hfl, List.getElem?_append_right (by omega), htl, Nat.add_sub_cancel_left]; exact hj
 rw [← ht, List.getElem?_take] at h3
 rw [cell_of_row _ _ _ _ _ _ hh]
 split at h3
 ·simpa using h3
 ·cases h3
end
end Go.Proofs.YtopoefcklipaeaaGreatDoor
namespace Go.Proofs.YtopoefcklipaeaaGreatDoor
open Go.RowKit
def leB (n k : Nat) : List Nat := (List.range k).map fun i => n / 2 ^ (8 * i) % 256
theorem leB_succ (n k : Nat) : leB n (k + 1) = leB n k ++ [n / 2 ^ (8 * k) % 256] := by
 unfold leB
 rw [List.range_succ, List.map_append]
 rfl
@[simp] theorem leB_len (n k : Nat) : (leB n k).length = k := by simp [leB]
theorem leB_lt {n k : Nat} : ∀ x ∈ leB n k, x < 256 := by
 intro x hx
 obtain ⟨i, -, rfl⟩ := List.mem_map.1 hx
 exact Nat.mod_lt _ (by decide)
theorem elemByte : Elem Tryz.prog 40 5 1 1 := Elem.mk (z := .int .u8 0) Tryz.underlying40 (by kernel_rfl) (by decide) rfl
theorem u8C_one (x : Nat) : ∀ u ∈ u8C x, u.oneCell' = true := by intro u hu; rw [u8C, List.mem_singleton] at hu; subst hu; rfl
theorem u8C_all (l : List Nat) : ∀ r ∈ l.map u8C, ∀ u ∈ r, u.oneCell' = true := by
 intro r hr
 obtain ⟨x, -, rfl⟩ := List.mem_map.1 hr
 exact u8C_one x
theorem u8C_len (l : List Nat) : ∀ r ∈ l.map u8C, r.length = 1 := by
 intro r hr
 obtain ⟨x, -, rfl⟩ := List.mem_map.1 hr
 rfl
theorem conv_iu (x : Int) (h0 : 0 ≤ x) (h1 : x < 18446744073709551616) (W : World) : (convert 3 370 (.int .i64 x)).run Tryz.prog W = .ok (.int .u64 x) W := by
 rw [run_convert_int W 3 370 .i64 x (by rw [Tryz.underlying3]; rfl) (by kernel_rfl)]
 have hk : Tryz.prog.intKind 370 = .u64 := by kernel_rfl
 rw [hk]
 have : IntKind.u64.wrap x = x := by simp [IntKind.wrap, IntKind.bits, IntKind.signed]; omega
 rw [this]
theorem conv_iu64 (x : Int) (h0 : 0 ≤ x) (h1 : x < 18446744073709551616) (W : World) : (convert 3 38 (.int .i64 x)).run Tryz.prog W = .ok (.int .u64 x) W := by
 rw [run_convert_int W 3 38 .i64 x (by rw [Tryz.underlying3]; rfl) (by kernel_rfl)]
 have hk : Tryz.prog.intKind 38 = .u64 := by kernel_rfl
 rw [hk]
 have : IntKind.u64.wrap x = x := by simp [IntKind.wrap, IntKind.bits, IntKind.signed]; omega
 rw [this]
theorem conv_u64u8 (x : Nat) (W : World) : (convert 38 5 (.int .u64 (x : Int))).run Tryz.prog W = .ok (.int .u8 ((x % 256 : Nat) : Int)) W := by
 rw [run_convert_int W 38 5 .u64 x (by rw [Tryz.underlying38]; rfl) (by kernel_rfl)]
 have hk : Tryz.prog.intKind 5 = .u8 := by kernel_rfl
 rw [hk]
 have : IntKind.u8.wrap (x : Int) = ((x % 256 : Nat) : Int) := by simp [IntKind.wrap, IntKind.bits, IntKind.signed]
 rw [this]
set_option maxHeartbeats 1000000 in
set_option maxRecDepth 100000 in
theorem put15 {A : Option Addr} {B c : Nat} {l : List Nat} (n k : Nat) (w : World) (h : BytS w B A l) (hB : B ≤ w.heap.size) (hlen : l.length ≤ 1000000) (hk : k ≤ 8) :
  Calls Tryz.prog 165 #[.slice A l.length c, .int .u64 (n : Int), .int .i64 (k : Int)] w fun r w' => (∃ v, r = .returned v ∧ OwS w' w.heap.size 5 1 v ((l ++ leB n k).map u8C)) ∧ Below w.heap.size w w' := by
 have H := Lib.hid h
 have HL : Hid (∀ i, leB n (i + 1) = leB n i ++ [n / 2 ^ (8 * i) % 256]) := leB_succ n
 have H0 : Hid (leB n 0 = []) := rfl
 clear h
 obtain ⟨f, hf⟩ : ∃ f : Nat → List Nat, leB n = f := ⟨_, rfl⟩
 rw [hf] at HL H0 ⊢
 have HFL : Hid (∀ i, (f i).length = i) := fun i => by rw [← hf]; exact leB_len n i
 clear hf
 go_enter Tryz.func165, Tryz.ntmps165
 have hz : OwS (w.alloc (.cells #[] 5)) w.heap.size 5 1 (.slice (some ⟨w.heap.size, 0, none⟩) 0 0) [] := OwS.lit (by simp) (heap_alloc_new w _) rfl rfl (by decide) (Nat.le_refl _)
 have hrr : BytS (w.alloc (.cells #[] 5)) w.heap.size A l := (H.out.below' (below_laid.mono hB) (Nat.le_refl _)).more hB
 go_wp2_with (at_builtin; refine wpList_apS rfl (.tmp 8) (.tmp 9) _ rfl elemByte rfl hz w.heap.size _ _ c (l.map u8C) rfl hrr (by simp) (u8C_all l) (by simp [maxLen]; omega) (by simp; omega) (by simp) ?_)
 intro v3 w3 hown3 hg3 _
 have hb3 : Below w.heap.size w w3 := ((Below.refl w.heap.size w).alloc (Nat.le_refl _) _).grown hg3 (by simp) (fun k h => (hz.lt h).1)
 clear hg3 hz hrr H
 have HO : Hid (OwS w3 w.heap.size 5 1 v3 (l.map u8C)) := Lib.hid (by simpa using hown3)
 clear hown3
 have HB3 := Lib.hid hb3
 clear hb3
 go_wp2
 go_loopw [0, 7] (fun s0 s7 wr => ∃ i : Nat, i ≤ k ∧ s7 = .int .i64 i ∧ OwS wr w.heap.size 5 1 s0 ((l ++ f i).map u8C) ∧ Below w.heap.size w wr) (fun _ s7 _ => k - (intOf s7).toNat)
 case atStart => exact ⟨0, by omega, rfl, by rw [H0.out]; simpa using HO.out, HB3.out⟩
 case round =>
  obtain ⟨i, hi, rfl, hO, hb⟩ := hrel
  by_cases hik : i < k
  case neg =>
   have hkI : ¬ (i : Int) < (k : Int) := by omega
   obtain rfl : i = k := by omega
   have HOO := Lib.hid hO
   have HBB := Lib.hid hb
   clear hO hb hik
   go_wp2
   go_ret
   exact ⟨⟨_, rfl, by have h2 := HOO.out; rw [List.map_append] at h2; exact h2⟩, HBB.out⟩
  case pos =>
   have hkI : (i : Int) < (k : Int) := by omega
   have hcv := conv_iu (i : Int) (by omega) (by omega) wr
   have hcw := conv_u64u8 (n / 2 ^ (8 * i)) wr
   have HOO := Lib.hid hO
   have HBB := Lib.hid hb
   clear hO hb hik
   have hz : w.heap.size ≤ wr.heap.size := HBB.out.size
   have hfl := HFL.out i
   have hll : (l ++ f i).length ≤ 1000008 := by simp; omega
   obtain ⟨m, hm⟩ : ∃ m, l ++ f i = m := ⟨_, rfl⟩
   rw [hm] at HOO hll
   have HM := Lib.hid hm
   clear hm hfl
   go_wp2_with (at_builtin; refine wpList_ap1 rfl (.tmp 16) (.tmp 23) _ rfl elemByte rfl HOO.out [.int .u8 ((n : Int) / 2 ^ (8 * i) % 256)] _ (by rfl) wr.heap.size (by rfl) (by rfl) (by intro u hu; rw [List.mem_singleton] at hu; subst hu; rfl) (by simp [maxLen]; omega) (by simp; omega) hz ?_)
   intro v5 w5 hown5 hg5 _
   have hb5 : Below w.heap.size w w5 := (HBB.out.alloc hz _).grown hg5 (by simp; omega) (fun k h => (HOO.out.lt h).1)
   have ho5 : OwS w5 w.heap.size 5 1 v5 ((l ++ f (i + 1)).map u8C) := by
    rw [HL.out, ← List.append_assoc, HM.out, List.map_append]
    have e : [Value.int .u8 ((n : Int) / 2 ^ (8 * i) % 256)] = u8C (n / 2 ^ (8 * i) % 256) := by simp [u8C]
    rw [e] at hown5
    exact hown5
   clear hg5 hown5
   go_wp2
   go_round
   case rel => exact ⟨i + 1, by omega, by go_num, ho5, hb5⟩
   case measure => simp [intOf] <;> omega
structure Blk where (b0 b1 b2 b3 b4 b5 b6 b7 : Nat)
def Blk.l (d : Blk) : List Nat := [d.b0, d.b1, d.b2, d.b3, d.b4, d.b5, d.b6, d.b7]
def Blk.cells (d : Blk) : List Value := [.int .u8 d.b0, .int .u8 d.b1, .int .u8 d.b2, .int .u8 d.b3, .int .u8 d.b4, .int .u8 d.b5, .int .u8 d.b6, .int .u8 d.b7]
def Blk.agg (d : Blk) : Value := .agg #[.int .u8 d.b0, .int .u8 d.b1, .int .u8 d.b2, .int .u8 d.b3, .int .u8 d.b4, .int .u8 d.b5, .int .u8 d.b6, .int .u8 d.b7]
def Blk.ok (d : Blk) : Prop := ∀ x ∈ d.l, x < 256
def sumL (g p v : Nat) (d : Blk) : List Nat := leB g 4 ++ leB p 4 ++ leB v 8 ++ d.l
def sumN (g p v : Nat) (d : Blk) : Nat := crcN (sumL g p v d)
theorem OwS.bytes {w : World} {base : Nat} {v : Value} {l : List Nat} (h : OwS w base 5 1 v (l.map u8C)) : ∃ A c, v = .slice A l.length c ∧ BytS w w.heap.size A l := by
 obtain ⟨A, c, rfl, -, -⟩ := h.form
 exact ⟨A, c, by simp, h.reads⟩
theorem Blk.len (d : Blk) : d.l.length = 8 := rfl
theorem bytS_block {w : World} {g B : Nat} {t : TypeId} {cs : Array Value} {l : List Nat} (h : w.heap[g]? = some (.cells cs t)) (hcs : cs.toList = (l.map u8C).flatten) (hB : g < B) : BytS w B (some ⟨g, 0, none⟩) l := by
 refine ⟨u8C_len l, fun _ => ⟨g, 0, rfl, hB, ?_⟩⟩
 intro k r hr j u hu
 have h3 := flatten_get (u8C_len l) _ _ hr _ _ hu
 rw [cell_of_row _ g _ cs t (0, 0) h, ← Array.getElem?_toList, hcs]
 rw [show 0 + k * 1 + j = k * 1 + j by omega]
 exact h3
end Go.Proofs.YtopoefcklipaeaaGreatDoor
