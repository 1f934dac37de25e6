/- Walks of the small closures and methods of linear's finder.
Walk of linear's ready, over the finder's closure.
Walk of the finder's covers, over its two closures. (Printed twice: for the answered operations, for the safe ones.) -/
import Derived.Test.YtcgbnlhloopnfaaGLin
import Derived.Test.YtcgbnlhloopnfaaGPln
import Derived.Test.YtcgbnlhloopnfaaGMem
import Derived.BigQuiet
import Derived.Outline
import Derived.RegionTactic
import Derived.BigRegion
namespace Go.Proofs.Ytcgbnlhloopnfaa
open Go.RowKit

/-! ### bits -/
theorem i64_and_nat (a b : Nat) (ha : a < 4611686018427387904) (hb : b < 4611686018427387904) : bits .and .i64 (a : Int) (b : Int) = ((a &&& b : Nat) : Int) := by
  have hx : a &&& b < 2 ^ 62 := Nat.and_lt_two_pow _ (by omega)
  have hof : ∀ c : Nat, c < 4611686018427387904 → (BitVec.ofInt 64 (c : Int)).toNat = c := fun c hc => by
    rw [BitVec.ofInt_natCast, BitVec.toNat_ofNat]; exact Nat.mod_eq_of_lt (by omega)
  show IntKind.i64.wrap ((BitVec.ofInt 64 (a : Int) &&& BitVec.ofInt 64 (b : Int)).toNat : Int) = _
  rw [BitVec.toNat_and, hof a ha, hof b hb, IntKind.wrap_i64]
  omega
theorem i64_or_nat (a b : Nat) (ha : a < 4611686018427387904) (hb : b < 4611686018427387904) : bits .or .i64 (a : Int) (b : Int) = ((a ||| b : Nat) : Int) := by
  have hx : a ||| b < 2 ^ 62 := Nat.or_lt_two_pow (by omega) (by omega)
  have hof : ∀ c : Nat, c < 4611686018427387904 → (BitVec.ofInt 64 (c : Int)).toNat = c := fun c hc => by
    rw [BitVec.ofInt_natCast, BitVec.toNat_ofNat]; exact Nat.mod_eq_of_lt (by omega)
  show IntKind.i64.wrap ((BitVec.ofInt 64 (a : Int) ||| BitVec.ofInt 64 (b : Int)).toNat : Int) = _
  rw [BitVec.toNat_or, hof a ha, hof b hb, IntKind.wrap_i64]
  omega
theorem bit_form (S k : Nat) (hS : S < 65536) : bits .and .i64 ((S : Int) / 2 ^ k) 1 = if S.testBit k then 1 else 0 := by
  have h2 : ((S : Int) / 2 ^ k) = ((S / 2 ^ k : Nat) : Int) := by push_cast; rfl
  have hle : S / 2 ^ k ≤ S := Nat.div_le_self _ _
  rw [h2, show (1 : Int) = ((1 : Nat) : Int) from rfl, i64_and_nat _ _ (by omega) (by omega), Nat.testBit_eq_decide_div_mod_eq, Nat.and_one_is_mod]
  rcases Nat.mod_two_eq_zero_or_one (S / 2 ^ k) with h | h <;> simp [h]

/-- a state in a block of its own -/
def StB (w : World) (x : Nat) (s : St) : Prop := w.heap[x]? = some (.cells #[.int .i64 (s.1 : Int), .int .i64 s.2] 132 (0, 0))
def St.agg (s : St) : Value := .agg #[.int .i64 (s.1 : Int), .int .i64 s.2]
theorem StB.below {w w' : World} {x : Nat} {s : St} (h : StB w x s) (hb : Below w.heap.size w w') : StB w' x s := by
  unfold StB at *
  rw [hb.block x (Array.getElem?_eq_some_iff.1 h).1, h]

set_option maxHeartbeats 1000000 in
theorem has_any (x k : Nat) (s : St) (w : World) (hx : StB w x s) (hs : s.1 < 65536) (hk : k < 16) :
    Calls Try.prog 111 #[.int .i64 (k : Int), .pointer (some ⟨x, 0, none⟩)] w fun r w' => r = .returned (.bool (s.1.testBit k)) ∧ w' = w := by
  have c0 : w.cell? ⟨x, 0, none⟩ = some (.int .i64 (s.1 : Int)) := by rw [cell_of_row _ _ _ _ _ _ hx]; rfl
  go_enter Try.func111, Try.ntmps111
  go_wp2
  go_ret
  exact ⟨ret_bool (by rw [bit_form _ _ hs]; cases s.1.testBit k <;> rfl), rfl⟩

/-- the finder of an era, in memory: the era's operations, those that are safe, last, the value at its beginning, the map of the dead ends -/
structure FinV (w : World) (fb me : Nat) (X : List Opr) (sf : List Bool) (last : Bool) (st : Int) (Ao As : Option Addr) (co cs : Nat) : Prop where
  blk : w.heap[fb]? = some (.cells #[.slice Ao X.length co, .slice As X.length cs, .bool last, .int .i64 st, .map (some me)] 129 (0, 0))
  ops : OwS w 0 39 8 (.slice Ao X.length co) (X.map Opr.cells)
  safe : OwS w 0 4 1 (.slice As X.length cs) (sf.map fun x => [.bool x])
  len : sf.length = X.length
section
variable {w w' : World} {fb me : Nat} {X : List Opr} {sf : List Bool} {last : Bool} {st : Int} {Ao As : Option Addr} {co cs : Nat}
theorem FinV.below (h : FinV w fb me X sf last st Ao As co cs) (hb : Below w.heap.size w w') : FinV w' fb me X sf last st Ao As co cs :=
  ⟨(hb.block fb (Array.getElem?_eq_some_iff.1 h.blk).1).trans h.blk, h.ops.below hb, h.safe.below hb, h.len⟩
theorem FinV.fr [BaseW] {T : List Nat} {e : TypeId} (h : FinV w fb me X sf last st Ao As co cs) (hf : FrE T e w w') (h1 : e ≠ 129) (h2 : e ≠ 39) (h3 : e ≠ 4)
    (hT : ∀ k ∈ T, ∀ cur e' fz, w.heap[k]? = some (.cells cur e' fz) → e' ≠ 129 ∧ e' ≠ 39 ∧ e' ≠ 4) : FinV w' fb me X sf last st Ao As co cs :=
  ⟨hf.cells_keep h.blk (fun hm => (hT _ hm _ _ _ h.blk).1 rfl) h1.symm, h.ops.fr hf h2.symm (fun k hk _ _ hc => (hT k hk _ _ _ hc).2.1 rfl), h.safe.fr hf h3.symm (fun k hk _ _ hc => (hT k hk _ _ _ hc).2.2 rfl), h.len⟩
theorem FinV.cells (h : FinV w fb me X sf last st Ao As co cs) : w.cell? ⟨fb, 0, none⟩ = some (.slice Ao X.length co) ∧ w.cell? ⟨fb, 1, none⟩ = some (.slice As X.length cs) ∧ w.cell? ⟨fb, 2, none⟩ = some (.bool last) ∧
    w.cell? ⟨fb, 3, none⟩ = some (.int .i64 st) ∧ w.cell? ⟨fb, 4, none⟩ = some (.map (some me)) := by
  refine ⟨?_, ?_, ?_, ?_, ?_⟩ <;> (rw [cell_of_row _ _ _ _ _ _ h.blk]; rfl)
theorem FinV.opAt (h : FinV w fb me X sf last st Ao As co cs) {k : Nat} (hk : k < X.length) : ∃ b off, Ao = some ⟨b, off, none⟩ ∧ b < w.heap.size ∧
    w.cell? ⟨b, off + k * 8, none⟩ = some (.int .i64 (opAt X k).id) ∧ w.cell? ⟨b, off + k * 8 + 1, none⟩ = some (.int .i64 (opAt X k).reg) ∧ w.cell? ⟨b, off + k * 8 + 2, none⟩ = some (.int .i64 (opAt X k).val) ∧
    w.cell? ⟨b, off + k * 8 + 3, none⟩ = some (.bool (opAt X k).write) ∧ w.cell? ⟨b, off + k * 8 + 4, none⟩ = some (.bool (opAt X k).barrier) ∧ w.cell? ⟨b, off + k * 8 + 5, none⟩ = some (.int .i64 (opAt X k).era) ∧
    w.cell? ⟨b, off + k * 8 + 6, none⟩ = some (.int .i64 (opAt X k).call) ∧ w.cell? ⟨b, off + k * 8 + 7, none⟩ = some (.int .i64 (opAt X k).done) := by
  have hr : OpS w w.heap.size Ao X := by have := h.ops.reads; exact this
  obtain ⟨b, off, o, rfl, hb, ho, c⟩ := OpS.at_ hr hk
  rw [opAt_of ho]
  exact ⟨b, off, rfl, hb, c⟩
theorem FinV.safeAt (h : FinV w fb me X sf last st Ao As co cs) {k : Nat} (hk : k < X.length) : ∃ b off, As = some ⟨b, off, none⟩ ∧ b < w.heap.size ∧ w.cell? ⟨b, off + k, none⟩ = some (.bool (sf[k]?.getD false)) := by
  have hl := h.len
  have h1 := h.safe
  rw [show X.length = (sf.map fun x => [Value.bool x]).length by simp [hl]] at h1
  obtain ⟨b, off, rfl, hb, hc⟩ := h1.reads.2 (by simp; omega)
  refine ⟨b, off, rfl, hb, ?_⟩
  have hg : sf[k]? = some sf[k] := List.getElem?_eq_getElem (by omega)
  have := hc k [.bool sf[k]] (by simp [hg]) 0 _ rfl
  simpa [hg] using this
end

set_option maxHeartbeats 1000000 in
theorem ans_any (y fb me k : Nat) {X : List Opr} {sf : List Bool} {last : Bool} {st : Int} {Ao As : Option Addr} {co cs : Nat} (w : World) (hy : w.cell? ⟨y, 0, none⟩ = some (.pointer (some ⟨fb, 0, none⟩)))
    (h : FinV w fb me X sf last st Ao As co cs) (hk : k < X.length) :
    Calls Try.prog 102 #[.int .i64 (k : Int), .pointer (some ⟨y, 0, none⟩)] w fun r w' => r = .returned (.bool (ansQ X k)) ∧ w' = w := by
  obtain ⟨f0, f1, f2, f3, f4⟩ := h.cells
  obtain ⟨b, off, rfl, hb, c0, c1, c2, c3, c4, c5, c6, c7⟩ := h.opAt hk
  have HV : Hid (ansQ X k = decide (0 ≤ (opAt X k).done)) := rfl
  clear h
  generalize ansQ X k = aq at *
  go_enter Try.func102, Try.ntmps102
  go_wp2
  go_ret
  exact ⟨ret_bool (by rw [HV.out]), rfl⟩

set_option maxHeartbeats 1000000 in
theorem saf_any (y fb me k : Nat) {X : List Opr} {sf : List Bool} {last : Bool} {st : Int} {Ao As : Option Addr} {co cs : Nat} (w : World) (hy : w.cell? ⟨y, 0, none⟩ = some (.pointer (some ⟨fb, 0, none⟩)))
    (h : FinV w fb me X sf last st Ao As co cs) (hk : k < X.length) :
    Calls Try.prog 75 #[.int .i64 (k : Int), .pointer (some ⟨y, 0, none⟩)] w fun r w' => r = .returned (.bool (sf[k]?.getD false)) ∧ w' = w := by
  obtain ⟨f0, f1, f2, f3, f4⟩ := h.cells
  obtain ⟨b, off, rfl, hb, c0⟩ := h.safeAt hk
  clear h
  generalize sf[k]?.getD false = sk at *
  go_enter Try.func75, Try.ntmps75
  go_wp2
  go_ret
  exact ⟨ret_bool rfl, rfl⟩

set_option maxHeartbeats 1000000 in
theorem val_any (fb me : Nat) (s : St) {X : List Opr} {sf : List Bool} {last : Bool} {st : Int} {Ao As : Option Addr} {co cs : Nat} (w : World) (h : FinV w fb me X sf last st Ao As co cs) (hs : s.2 < X.length) :
    Calls Try.prog 78 #[.pointer (some ⟨fb, 0, none⟩), s.agg] w fun r w' => r = .returned (.int .i64 (valS X st s.2)) ∧ Below w.heap.size w w' := by
  obtain ⟨S, l⟩ := s
  simp only at hs
  unfold St.agg
  simp only
  have hfb : fb < w.heap.size := (Array.getElem?_eq_some_iff.1 h.blk).1
  have hne : fb ≠ w.heap.size := by omega
  obtain ⟨f0, f1, f2, f3, f4⟩ := h.cells
  have HV : Hid (valS X st l = if l < 0 then st else (opAt X l.toNat).val) := rfl
  by_cases hl : l < 0
  · have HV' : Hid (valS X st l = st) := Lib.hid (HV.out.trans (if_pos hl))
    clear HV h
    go_enter Try.func78, Try.ntmps78
    go_wp2
    go_ret
    exact ⟨ret_int HV'.out.symm, below_laid⟩
  · obtain ⟨k, rfl⟩ := Int.eq_ofNat_of_zero_le (show 0 ≤ l by omega)
    have HV' : Hid (valS X st (k : Int) = (opAt X k).val) := by
      unfold Hid
      rw [HV.out, if_neg hl]
      rfl
    obtain ⟨b, off, rfl, hb, c0, c1, c2, c3, c4, c5, c6, c7⟩ := h.opAt (show k < X.length by omega)
    have hne2 : b ≠ w.heap.size := by omega
    clear HV h
    go_enter Try.func78, Try.ntmps78
    go_wp2
    go_quiet (fail)
    go_wp2
    go_ret
    exact ⟨ret_int HV'.out.symm, below_drewN below_laid _⟩
end Go.Proofs.Ytcgbnlhloopnfaa
namespace Go.Proofs.Ytcgbnlhloopnfaa
open Go.RowKit

theorem keptB {w w' : World} {x : Nat} {o : Obj} (h : w.heap[x]? = some o) (hb : Below w.heap.size w w') : w'.heap[x]? = some o := (hb.block x (Array.getElem?_eq_some_iff.1 h).1).trans h
/-- the operations of a slice of the call's own, cell by cell -/
theorem ops_cells {w : World} {base b off c k : Nat} {X : List Opr} (h : OwS w base 39 8 (.slice (some ⟨b, off, none⟩) X.length c) (X.map Opr.cells)) (hk : k < X.length) : b < w.heap.size ∧
    w.cell? ⟨b, off + k * 8, none⟩ = some (.int .i64 (opAt X k).id) ∧ w.cell? ⟨b, off + k * 8 + 1, none⟩ = some (.int .i64 (opAt X k).reg) ∧ w.cell? ⟨b, off + k * 8 + 2, none⟩ = some (.int .i64 (opAt X k).val) ∧
    w.cell? ⟨b, off + k * 8 + 3, none⟩ = some (.bool (opAt X k).write) ∧ w.cell? ⟨b, off + k * 8 + 4, none⟩ = some (.bool (opAt X k).barrier) ∧ w.cell? ⟨b, off + k * 8 + 5, none⟩ = some (.int .i64 (opAt X k).era) ∧
    w.cell? ⟨b, off + k * 8 + 6, none⟩ = some (.int .i64 (opAt X k).call) ∧ w.cell? ⟨b, off + k * 8 + 7, none⟩ = some (.int .i64 (opAt X k).done) := by
  have hr : OpS w w.heap.size (some ⟨b, off, none⟩) X := h.reads
  obtain ⟨b', off', o, he, hb, ho, c⟩ := OpS.at_ hr hk
  cases he
  rw [opAt_of ho]
  exact ⟨hb, c⟩
theorem ops_at {w : World} {base c : Nat} {A : Option Addr} {X : List Opr} (h : OwS w base 39 8 (.slice A X.length c) (X.map Opr.cells)) (hk : 0 < X.length) : ∃ b off, A = some ⟨b, off, none⟩ := by
  have hr : OpS w w.heap.size A X := h.reads
  obtain ⟨b', off', o, he, _⟩ := OpS.at_ hr hk
  exact ⟨b', off', he⟩
theorem opBox {w : World} {x : Nat} {o : Opr} (h : w.heap[x]? = some (.cells o.cells.toArray 39)) :
    w.cell? ⟨x, 0, none⟩ = some (.int .i64 o.id) ∧ w.cell? ⟨x, 1, none⟩ = some (.int .i64 o.reg) ∧ w.cell? ⟨x, 2, none⟩ = some (.int .i64 o.val) ∧ w.cell? ⟨x, 3, none⟩ = some (.bool o.write) ∧
    w.cell? ⟨x, 4, none⟩ = some (.bool o.barrier) ∧ w.cell? ⟨x, 5, none⟩ = some (.int .i64 o.era) ∧ w.cell? ⟨x, 6, none⟩ = some (.int .i64 o.call) ∧ w.cell? ⟨x, 7, none⟩ = some (.int .i64 o.done) := by
  refine ⟨?_, ?_, ?_, ?_, ?_, ?_, ?_, ?_⟩ <;> rw [cell_of_row _ _ _ _ _ _ h] <;> rfl
def readyB (X : List Opr) (S i k : Nat) : Bool := k == i || S.testBit k || !precO (opAt X k) (opAt X i)
theorem readyS_true {X : List Opr} {S i : Nat} (h : ∀ k, k < X.length → readyB X S i k = true) : readyS X S i = true := List.all_eq_true.2 fun k hk => h k (by simpa using hk)
theorem readyS_false {X : List Opr} {S i k : Nat} (hk : k < X.length) (h : readyB X S i k = false) : readyS X S i = false :=
  List.all_eq_false.2 ⟨k, by simpa using hk, fun hc => by change readyB X S i k = true at hc; rw [h] at hc; cases hc⟩

set_option maxHeartbeats 2000000 in
set_option maxRecDepth 100000 in
theorem ready_any (x i : Nat) (s : St) {X : List Opr} (Ao As : Option Addr) (co cs ms : Nat) (last : Bool) (w : World) (h : OwS w 0 39 8 (.slice Ao X.length co) (X.map Opr.cells))
    (hx : StB w x s) (hs : s.1 < 65536) (hi : i < X.length) (hlen : X.length ≤ 16) :
    Calls Try.prog 112 #[.agg #[.slice Ao X.length co, .slice As ms cs, .bool last], .func (.func 111) #[] #[.pointer (some ⟨x, 0, none⟩)], .int .i64 (i : Int)] w
      fun r w' => r = .returned (.bool (readyS X s.1 i)) ∧ Below w.heap.size w w' := by
  obtain ⟨bo, off, rfl⟩ := ops_at h (by omega)
  have HX := Lib.hid h
  have HS := Lib.hid hx
  have HH := Lib.hid (fun (k : Nat) (hk : k < X.length) (W : World) (hW : Below w.heap.size w W) => (has_any x k s W (hx.below hW) hs (by omega)).mono (fun r w' ⟨h1, h2⟩ => ⟨h1, h2 ▸ Below.refl _ _⟩ : ∀ r w', _ → r = .returned (.bool (s.1.testBit k)) ∧ Below W.heap.size W w'))
  clear h hx hs
  go_enter Try.func112, Try.ntmps112
  go_wp2_with fail
  generalize hW0 : w.alloc _ = w0
  have hb0 : Below w.heap.size w w0 := by rw [← hW0]; exact (Below.refl _ _).alloc (Nat.le_refl _) _
  have hbox : w0.heap[w.heap.size]? = some (.cells #[.slice (some ⟨bo, off, none⟩) X.length co, .slice As ms cs, .bool last] 95) := by rw [← hW0]; exact heap_alloc_new w _
  clear hW0
  have HB0 := Lib.hid hbox
  clear hbox
  have hz0 := hb0.size
  go_loopw [12] (fun v wr => ∃ k : Nat, k ≤ X.length ∧ v = .int .i64 k ∧ (∀ j, j < k → readyB X s.1 i j = true) ∧ Below w0.heap.size w0 wr) (fun v _ => X.length - (intOf v).toNat)
  case atStart => exact ⟨0, by omega, rfl, fun j hj => absurd hj (by omega), Below.refl _ _⟩
  case round =>
    obtain ⟨k, hk, rfl, hno, hb⟩ := hrel
    have HN := Lib.hid hno
    clear hno
    by_cases hlt : k < X.length
    · have hbw := hb0.trans (hb.mono hz0)
      have HXr := Lib.hid (HX.out.below hbw)
      obtain ⟨hbl, c0, c1, c2, c3, c4, c5, c6, c7⟩ := ops_cells HXr.out hlt
      have HP := Lib.hid (fun W => precedes_any (opAt X k) (opAt X i) W)
      have HHk := Lib.hid (fun W (hW : Below w.heap.size w W) => HH.out k hlt W hW)
      have HV : Hid (readyB X s.1 i k = (k == i || s.1.testBit k || !precO (opAt X k) (opAt X i))) := rfl
      obtain ⟨i0, i1, i2, i3, i4, i5, i6, i7, hoi⟩ : ∃ a b c d e f g h, opAt X i = ⟨a, b, c, d, e, f, g, h⟩ := ⟨_, _, _, _, _, _, _, _, rfl⟩
      obtain ⟨o0, o1, o2, o3, o4, o5, o6, o7, hok⟩ : ∃ a b c d e f g h, opAt X k = ⟨a, b, c, d, e, f, g, h⟩ := ⟨_, _, _, _, _, _, _, _, rfl⟩
      obtain ⟨rb, HRB⟩ : ∃ rb, Hid (readyB X s.1 i k = rb) := ⟨_, rfl⟩
      rw [HRB.out] at HV
      generalize s.1.testBit k = tb at *
      generalize precO (opAt X k) (opAt X i) = pb at *
      rw [hok] at c0 c1 c2 c3 c4 c5 c6 c7 HP
      rw [hoi] at HP
      simp only at c0 c1 c2 c3 c4 c5 c6 c7 HP
      have hkl : (k : Int) < (X.length : Int) := by omega
      go_wp2_with fail
      generalize hW : wr.alloc _ = W
      have hbW : Below wr.heap.size wr W := by rw [← hW]; exact (Below.refl _ _).alloc (Nat.le_refl _) _
      have hxb : W.heap[wr.heap.size]? = some (.cells (Opr.cells ⟨o0, o1, o2, o3, o4, o5, o6, o7⟩).toArray 39) := by rw [← hW]; exact heap_alloc_new wr _
      clear hW c0 c1 c2 c3 c4 c5 c6 c7
      have R := fun d xs => ops_cells ((HXr.out.below hbW).below (below_regrown W d xs)) hi
      rw [hoi] at R
      have Xb := fun d xs => (opBox (o := ⟨o0, o1, o2, o3, o4, o5, o6, o7⟩) (keptB hxb (below_regrown W d xs)))
      have E := fun d xs => keptB (keptB (keptB HB0.out hb) hbW) (below_regrown W d xs)
      have E0 := fun d xs => show (Sort.grow (redrawn W d) xs).cell? ⟨w.heap.size, 0, none⟩ = some (.slice (some ⟨bo, off, none⟩) X.length co) by rw [cell_of_row _ _ _ _ _ _ (E d xs)]; rfl
      have HH2 := Lib.hid (fun d xs => HHk.out (Sort.grow (redrawn W d) xs) ((hbw.trans (hbW.mono hbw.size)).trans ((below_regrown W d xs).mono (Nat.le_trans hbw.size hbW.size))))
      simp only at R Xb
      clear E HHk
      have hbn := hbw.trans (hbW.mono hbw.size)
      by_cases hki : k = i
      case pos =>
        have hki1 : ((k : Int) != (i : Int)) = false := by simp [hki]
        have HQ : Hid (rb = true) := by unfold Hid; rw [HV.out]; simp [hki]
        refine quiet_below (by kernel_rfl) (by kernel_rfl) ?_
        repeat (go_big_quiet_step (fail))
        refine wpQuiet_nil ?_
        intro W2 hb2
        clear R Xb E0 HH2 hki hki1
        have hbr : Below w0.heap.size w0 W2 := hb.trans ((hbW.trans (hb2.mono hbW.size)).mono hb.size)
        go_wp2
        go_roundw
        case rel => exact ⟨k + 1, by omega, by go_num, fun j hj => by
          rcases Nat.lt_or_eq_of_le (Nat.le_of_lt_succ hj) with hj' | rfl
          · exact HN.out j hj'
          · rw [HRB.out]; exact HQ.out, hbr⟩
        case measure => simp [intOf]; omega
      have hki1 : ((k : Int) != (i : Int)) = true := by simp; omega
      cases tb
      case true =>
        have HQ : Hid (rb = true) := by unfold Hid; rw [HV.out]; simp
        refine quiet_below (by kernel_rfl) (by kernel_rfl) ?_
        repeat (go_big_quiet_step ((go_at_call 111; exact Calls.regrown_of (HH2.out _ _))))
        refine wpQuiet_nil ?_
        intro W2 hb2
        clear R Xb E0 HH2 hki hki1
        have hbr : Below w0.heap.size w0 W2 := hb.trans ((hbW.trans (hb2.mono hbW.size)).mono hb.size)
        go_wp2
        go_roundw
        case rel => exact ⟨k + 1, by omega, by go_num, fun j hj => by
          rcases Nat.lt_or_eq_of_le (Nat.le_of_lt_succ hj) with hj' | rfl
          · exact HN.out j hj'
          · rw [HRB.out]; exact HQ.out, hbr⟩
        case measure => simp [intOf]; omega
      cases pb
      case false =>
        have HQ : Hid (rb = true) := by unfold Hid; rw [HV.out]; simp
        refine quiet_below (by kernel_rfl) (by kernel_rfl) ?_
        repeat (go_big_quiet_step (first | (go_at_call 111; exact Calls.regrown_of (HH2.out _ _)) | (go_at_call 99; exact Calls.regrown_of (HP.out _))))
        refine wpQuiet_nil ?_
        intro W2 hb2
        clear R Xb E0 HH2 hki hki1
        have hbr : Below w0.heap.size w0 W2 := hb.trans ((hbW.trans (hb2.mono hbW.size)).mono hb.size)
        go_wp2
        go_roundw
        case rel => exact ⟨k + 1, by omega, by go_num, fun j hj => by
          rcases Nat.lt_or_eq_of_le (Nat.le_of_lt_succ hj) with hj' | rfl
          · exact HN.out j hj'
          · rw [HRB.out]; exact HQ.out, hbr⟩
        case measure => simp [intOf]; omega
      case true =>
        have HQ : Hid (rb = false) := by unfold Hid; rw [HV.out]; simp [hki]
        refine quiet_below (by kernel_rfl) (by kernel_rfl) ?_
        repeat (go_big_quiet_step (first | (go_at_call 111; exact Calls.regrown_of (HH2.out _ _)) | (go_at_call 99; exact Calls.regrown_of (HP.out _))))
        refine wpQuiet_nil ?_
        intro W2 hb2
        clear R Xb E0 HH2 hki hki1
        have hbr := hbn.trans (hb2.mono hbn.size)
        go_wp2
        go_ret
        exact ⟨ret_bool (readyS_false hlt (HRB.out.trans HQ.out)).symm, hbr⟩
    · obtain rfl : k = X.length := by omega
      go_wp2
      go_ret
      exact ⟨ret_bool (readyS_true HN.out).symm, hb0.trans (hb.mono hz0)⟩
end Go.Proofs.Ytcgbnlhloopnfaa
namespace Go.Proofs.Ytcgbnlhloopnfaa
open Go.RowKit

def covB (q : Nat → Bool) (S k : Nat) : Bool := !q k || S.testBit k
theorem covS_true {X : List Opr} {q : Nat → Bool} {S : Nat} (h : ∀ k, k < X.length → covB q S k = true) : covS X q S = true := List.all_eq_true.2 fun k hk => h k (by simpa using hk)
theorem covS_false {X : List Opr} {q : Nat → Bool} {S k : Nat} (hk : k < X.length) (h : covB q S k = false) : covS X q S = false :=
  List.all_eq_false.2 ⟨k, by simpa using hk, fun hc => by change covB q S k = true at hc; rw [h] at hc; cases hc⟩
theorem stBox {w : World} {x : Nat} {S : Nat} {l : Int} (h : w.heap[x]? = some (.cells #[.int .i64 (S : Int), .int .i64 l] 132)) : w.cell? ⟨x, 0, none⟩ = some (.int .i64 (S : Int)) ∧ w.cell? ⟨x, 1, none⟩ = some (.int .i64 l) := by
  refine ⟨?_, ?_⟩ <;> rw [cell_of_row _ _ _ _ _ _ h] <;> rfl
theorem bit_zero (S k : Nat) (hS : S < 65536) : (bits .and .i64 ((S : Int) / 2 ^ k) 1 == 0) = !S.testBit k := by
  rw [bit_form S k hS]; cases S.testBit k <;> rfl
set_option maxHeartbeats 2000000 in
set_option maxRecDepth 100000 in
theorem cova_any (y fb me : Nat) (q : Nat → Bool) (s : St) {X : List Opr} {sf : List Bool} {last : Bool} {st : Int} {Ao As : Option Addr} {co cs : Nat} (w : World) (h : FinV w fb me X sf last st Ao As co cs) (hs : s.1 < 65536) (hlen : X.length ≤ 16)
    (hf : ∀ k, k < X.length → ∀ W, Below w.heap.size w W → Calls Try.prog 102 #[.int .i64 (k : Int), .pointer (some ⟨y, 0, none⟩)] W fun r w' => r = .returned (.bool (q k)) ∧ w' = W) :
    Calls Try.prog 74 #[.pointer (some ⟨fb, 0, none⟩), s.agg, .func (.func 102) #[] #[.pointer (some ⟨y, 0, none⟩)]] w
      fun r w' => r = .returned (.bool (covS X q s.1)) ∧ Below w.heap.size w w' := by
  obtain ⟨S, l⟩ := s
  simp only at hs
  unfold St.agg
  simp only
  have HF := Lib.hid hf
  have hfb : fb < w.heap.size := (Array.getElem?_eq_some_iff.1 h.blk).1
  have hne : fb ≠ w.heap.size := by omega
  obtain ⟨f0, f1, f2, f3, f4⟩ := h.cells
  clear hf h
  go_enter Try.func74, Try.ntmps74
  go_wp2_with fail
  generalize hW0 : w.alloc _ = w0
  have hb0 : Below w.heap.size w w0 := by rw [← hW0]; exact (Below.refl _ _).alloc (Nat.le_refl _) _
  have hbox : w0.heap[w.heap.size]? = some (.cells #[.int .i64 (S : Int), .int .i64 l] 132) := by rw [← hW0]; exact heap_alloc_new w _
  clear hW0
  have HB0 := Lib.hid hbox
  clear hbox
  have hz0 := hb0.size
  go_loopw [14] (fun v wr => ∃ k : Nat, k ≤ X.length ∧ v = .int .i64 k ∧ (∀ j, j < k → covB q S j = true) ∧ Below w0.heap.size w0 wr) (fun v _ => X.length - (intOf v).toNat)
  case atStart => exact ⟨0, by omega, rfl, fun j hj => absurd hj (by omega), Below.refl _ _⟩
  case round =>
    obtain ⟨k, hk, rfl, hno, hb⟩ := hrel
    have HN := Lib.hid hno
    clear hno
    by_cases hlt : k < X.length
    · have hbw := hb0.trans (hb.mono hz0)
      have HC := Lib.hid (HF.out k hlt wr hbw)
      have HV : Hid (covB q S k = (!q k || S.testBit k)) := rfl
      have HZ := Lib.hid (bit_zero S k hs)
      obtain ⟨rb, HRB⟩ : ∃ rb, Hid (covB q S k = rb) := ⟨_, rfl⟩
      rw [HRB.out] at HV
      generalize S.testBit k = tb at *
      generalize q k = qb at *
      obtain ⟨e0, e1⟩ := stBox (keptB HB0.out hb)
      have hkl : (k : Int) < (X.length : Int) := by omega
      have hk16 : k < 16 := by omega
      cases qb
      case false =>
        have HQ : Hid (rb = true) := HV
        clear HV HZ
        go_wp2_with fail
        refine HC.out.mono ?_
        rintro r w1 ⟨rfl, rfl⟩
        go_wp2
        go_roundw
        case rel => exact ⟨k + 1, by omega, by go_num, fun j hj => by
          rcases Nat.lt_or_eq_of_le (Nat.le_of_lt_succ hj) with hj' | rfl
          · exact HN.out j hj'
          · rw [HRB.out]; exact HQ.out, hb⟩
        case measure => simp [intOf]; omega
      case true =>
        have hz : (bits .and .i64 ((S : Int) / 2 ^ k) 1 == 0) = !tb := HZ.out
        have HQ : Hid (rb = tb) := HV
        clear HV HZ
        cases tb
        · rw [Bool.not_false] at hz
          go_wp2_with fail
          refine HC.out.mono ?_
          rintro r w1 ⟨rfl, rfl⟩
          go_wp2
          go_ret
          exact ⟨ret_bool (covS_false hlt (HRB.out.trans HQ.out)).symm, hbw⟩
        · rw [Bool.not_true] at hz
          go_wp2_with fail
          refine HC.out.mono ?_
          rintro r w1 ⟨rfl, rfl⟩
          go_wp2
          go_roundw
          case rel => exact ⟨k + 1, by omega, by go_num, fun j hj => by
            rcases Nat.lt_or_eq_of_le (Nat.le_of_lt_succ hj) with hj' | rfl
            · exact HN.out j hj'
            · rw [HRB.out]; exact HQ.out, hb⟩
          case measure => simp [intOf]; omega
    · obtain rfl : k = X.length := by omega
      go_wp2
      go_ret
      exact ⟨ret_bool (covS_true HN.out).symm, hb0.trans (hb.mono hz0)⟩
set_option maxHeartbeats 2000000 in
set_option maxRecDepth 100000 in
theorem covs_any (y fb me : Nat) (q : Nat → Bool) (s : St) {X : List Opr} {sf : List Bool} {last : Bool} {st : Int} {Ao As : Option Addr} {co cs : Nat} (w : World) (h : FinV w fb me X sf last st Ao As co cs) (hs : s.1 < 65536) (hlen : X.length ≤ 16)
    (hf : ∀ k, k < X.length → ∀ W, Below w.heap.size w W → Calls Try.prog 75 #[.int .i64 (k : Int), .pointer (some ⟨y, 0, none⟩)] W fun r w' => r = .returned (.bool (q k)) ∧ w' = W) :
    Calls Try.prog 74 #[.pointer (some ⟨fb, 0, none⟩), s.agg, .func (.func 75) #[] #[.pointer (some ⟨y, 0, none⟩)]] w
      fun r w' => r = .returned (.bool (covS X q s.1)) ∧ Below w.heap.size w w' := by
  obtain ⟨S, l⟩ := s
  simp only at hs
  unfold St.agg
  simp only
  have HF := Lib.hid hf
  have hfb : fb < w.heap.size := (Array.getElem?_eq_some_iff.1 h.blk).1
  have hne : fb ≠ w.heap.size := by omega
  obtain ⟨f0, f1, f2, f3, f4⟩ := h.cells
  clear hf h
  go_enter Try.func74, Try.ntmps74
  go_wp2_with fail
  generalize hW0 : w.alloc _ = w0
  have hb0 : Below w.heap.size w w0 := by rw [← hW0]; exact (Below.refl _ _).alloc (Nat.le_refl _) _
  have hbox : w0.heap[w.heap.size]? = some (.cells #[.int .i64 (S : Int), .int .i64 l] 132) := by rw [← hW0]; exact heap_alloc_new w _
  clear hW0
  have HB0 := Lib.hid hbox
  clear hbox
  have hz0 := hb0.size
  go_loopw [14] (fun v wr => ∃ k : Nat, k ≤ X.length ∧ v = .int .i64 k ∧ (∀ j, j < k → covB q S j = true) ∧ Below w0.heap.size w0 wr) (fun v _ => X.length - (intOf v).toNat)
  case atStart => exact ⟨0, by omega, rfl, fun j hj => absurd hj (by omega), Below.refl _ _⟩
  case round =>
    obtain ⟨k, hk, rfl, hno, hb⟩ := hrel
    have HN := Lib.hid hno
    clear hno
    by_cases hlt : k < X.length
    · have hbw := hb0.trans (hb.mono hz0)
      have HC := Lib.hid (HF.out k hlt wr hbw)
      have HV : Hid (covB q S k = (!q k || S.testBit k)) := rfl
      have HZ := Lib.hid (bit_zero S k hs)
      obtain ⟨rb, HRB⟩ : ∃ rb, Hid (covB q S k = rb) := ⟨_, rfl⟩
      rw [HRB.out] at HV
      generalize S.testBit k = tb at *
      generalize q k = qb at *
      obtain ⟨e0, e1⟩ := stBox (keptB HB0.out hb)
      have hkl : (k : Int) < (X.length : Int) := by omega
      have hk16 : k < 16 := by omega
      cases qb
      case false =>
        have HQ : Hid (rb = true) := HV
        clear HV HZ
        go_wp2_with fail
        refine HC.out.mono ?_
        rintro r w1 ⟨rfl, rfl⟩
        go_wp2
        go_roundw
        case rel => exact ⟨k + 1, by omega, by go_num, fun j hj => by
          rcases Nat.lt_or_eq_of_le (Nat.le_of_lt_succ hj) with hj' | rfl
          · exact HN.out j hj'
          · rw [HRB.out]; exact HQ.out, hb⟩
        case measure => simp [intOf]; omega
      case true =>
        have hz : (bits .and .i64 ((S : Int) / 2 ^ k) 1 == 0) = !tb := HZ.out
        have HQ : Hid (rb = tb) := HV
        clear HV HZ
        cases tb
        · rw [Bool.not_false] at hz
          go_wp2_with fail
          refine HC.out.mono ?_
          rintro r w1 ⟨rfl, rfl⟩
          go_wp2
          go_ret
          exact ⟨ret_bool (covS_false hlt (HRB.out.trans HQ.out)).symm, hbw⟩
        · rw [Bool.not_true] at hz
          go_wp2_with fail
          refine HC.out.mono ?_
          rintro r w1 ⟨rfl, rfl⟩
          go_wp2
          go_roundw
          case rel => exact ⟨k + 1, by omega, by go_num, fun j hj => by
            rcases Nat.lt_or_eq_of_le (Nat.le_of_lt_succ hj) with hj' | rfl
            · exact HN.out j hj'
            · rw [HRB.out]; exact HQ.out, hb⟩
          case measure => simp [intOf]; omega
    · obtain rfl : k = X.length := by omega
      go_wp2
      go_ret
      exact ⟨ret_bool (covS_true HN.out).symm, hb0.trans (hb.mono hz0)⟩
end Go.Proofs.Ytcgbnlhloopnfaa
