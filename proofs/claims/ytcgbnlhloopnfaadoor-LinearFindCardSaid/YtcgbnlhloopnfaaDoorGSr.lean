/- Walks of the small methods of tegularef46's search: has, value, complete, safe.
Walks of tegularef46's search: next, safe.
Walk of tegularef46's search: safe.
Walk of tegularef46.different. -/
import Derived.Test.YtcgbnlhloopnfaaDoorGFnA
import Derived.Test.YtcgbnlhloopnfaaDoorGRa
import Derived.Test.YtcgbnlhloopnfaaDoorLinG
namespace Go.Proofs.YtcgbnlhloopnfaaDoor
open Go.RowKit

/-- the search of an era, in memory, but for its tables -/
structure SrV (w : World) (sb B : Nat) (E X : List Opr) (st : Int) (Ae Ax : Option Addr) (ce cx : Nat) : Prop where
  c0 : w.cell? ⟨sb, 0, none⟩ = some (.slice Ae E.length ce)
  c1 : w.cell? ⟨sb, 1, none⟩ = some (.slice Ax X.length cx)
  c2 : w.cell? ⟨sb, 2, none⟩ = some (.int .i64 st)
  lt : sb < B
  era : OpS w B Ae E
  ops : OpS w B Ax X
section
variable {w w' : World} {sb B : Nat} {E X : List Opr} {st : Int} {Ae Ax : Option Addr} {ce cx : Nat}
theorem SrV.below {C : Nat} (h : SrV w sb B E X st Ae Ax ce cx) (hb : Below C w w') (hC : B ≤ C) : SrV w' sb B E X st Ae Ax ce cx :=
  ⟨(hb.cell (p := ⟨sb, 0, none⟩) (Nat.lt_of_lt_of_le h.lt hC)).trans h.c0, (hb.cell (p := ⟨sb, 1, none⟩) (Nat.lt_of_lt_of_le h.lt hC)).trans h.c1, (hb.cell (p := ⟨sb, 2, none⟩) (Nat.lt_of_lt_of_le h.lt hC)).trans h.c2, h.lt, h.era.below' hb hC, h.ops.below' hb hC⟩
theorem SrV.opAt (h : SrV w sb B E X st Ae Ax ce cx) {k : Nat} (hk : k < X.length) : ∃ b off, Ax = some ⟨b, off, none⟩ ∧ b < B ∧
    w.cell? ⟨b, off + k * 8, none⟩ = some (.int .i64 (opAt X k).id) ∧ w.cell? ⟨b, off + k * 8 + 1, none⟩ = some (.int .i64 (opAt X k).reg) ∧ w.cell? ⟨b, off + k * 8 + 2, none⟩ = some (.int .i64 (opAt X k).val) ∧
    w.cell? ⟨b, off + k * 8 + 3, none⟩ = some (.bool (opAt X k).write) ∧ w.cell? ⟨b, off + k * 8 + 4, none⟩ = some (.bool (opAt X k).barrier) ∧ w.cell? ⟨b, off + k * 8 + 5, none⟩ = some (.int .i64 (opAt X k).era) ∧
    w.cell? ⟨b, off + k * 8 + 6, none⟩ = some (.int .i64 (opAt X k).call) ∧ w.cell? ⟨b, off + k * 8 + 7, none⟩ = some (.int .i64 (opAt X k).done) := by
  obtain ⟨b, off, o, rfl, hb, ho, c⟩ := OpS.at_ h.ops hk
  rw [opAt_of ho]
  exact ⟨b, off, rfl, hb, c⟩
end
set_option maxHeartbeats 1000000 in
theorem rhas_any (S k : Nat) (w : World) (hs : S < 65536) (hk : k < 16) :
    Calls Tryd.prog 72 #[.int .i64 (S : Int), .int .i64 (k : Int)] w fun r w' => r = .returned (.bool (S.testBit k)) ∧ w' = w := by
  go_enter Tryd.func72, Tryd.ntmps72
  go_wp2
  go_ret
  exact ⟨ret_bool (by rw [bit_form _ _ hs]; cases S.testBit k <;> rfl), rfl⟩
/-- the value behind a last write; 0: none -/
def valR (X : List Opr) (st : Int) (l : Nat) : Int := if l = 0 then st else (opAt X (l - 1)).val
theorem valR_eq (X : List Opr) (st : Int) (l : Nat) : valR X st l = valS X st ((l : Int) - 1) := by
  unfold valR valS
  by_cases h : l = 0
  · subst h; simp
  · rw [if_neg h, if_neg (by omega)]
    congr 2
    omega
set_option maxHeartbeats 1000000 in
theorem rval_any {sb B : Nat} {E X : List Opr} {st : Int} {Ae Ax : Option Addr} {ce cx : Nat} (l : Nat) (w : World) (h : SrV w sb B E X st Ae Ax ce cx) (hl : l ≤ X.length) (hX : X.length ≤ 100000) :
    Calls Tryd.prog 52 #[.pointer (some ⟨sb, 0, none⟩), .int .i64 (l : Int)] w fun r w' => r = .returned (.int .i64 (valR X st l)) ∧ w' = w := by
  have HV : Hid (valR X st l = if l = 0 then st else (opAt X (l - 1)).val) := rfl
  obtain ⟨c0, c1, c2, -, -, -⟩ := id h
  by_cases h0 : l = 0
  · have h0' : ((l : Int) == 0) = true := by simp [h0]
    have HF : Hid (valR X st l = st) := by unfold Hid; rw [HV.out, if_pos h0]
    clear h0 h
    go_enter Tryd.func52, Tryd.ntmps52
    go_wp2
    go_ret
    exact ⟨by rw [HF.out]; rfl, rfl⟩
  · obtain ⟨q, rfl⟩ : ∃ q, l = q + 1 := ⟨l - 1, by omega⟩
    have hq : q < X.length := by omega
    obtain ⟨b, off, rfl, -, -, -, d2, -⟩ := h.opAt hq
    have h0' : (((q : Int) + 1) == 0) = false := by simp; omega
    have hsub : ((q : Int) + 1 - 1) = (q : Int) := by omega
    have hw : IntKind.i64.wrap (q : Int) = (q : Int) := IntWalk.i64_in _ (by omega)
    have hql : (q : Int) < (X.length : Int) := by omega
    have HF : Hid (valR X st (q + 1) = (opAt X q).val) := by unfold Hid; rw [HV.out, if_neg h0]; rfl
    clear h0 h HV
    generalize (opAt X q).val = vq at *
    go_enter Tryd.func52, Tryd.ntmps52
    go_wp2
    go_ret
    exact ⟨by rw [HF.out]; rfl, rfl⟩
set_option maxHeartbeats 4000000 in
set_option maxRecDepth 100000 in
theorem rcompl_any {sb B : Nat} {E X : List Opr} {st : Int} {Ae Ax : Option Addr} {ce cx : Nat} (S : Nat) (w : World) (h : SrV w sb B E X st Ae Ax ce cx) (hB : B ≤ w.heap.size) (hS : S < 65536) (hX : X.length ≤ 16) :
    Calls Tryd.prog 71 #[.pointer (some ⟨sb, 0, none⟩), .int .i64 (S : Int)] w fun r w' => r = .returned (.bool (covS X (ansQ X) S)) ∧ Below w.heap.size w w' := by
  have HE := Lib.hid h
  clear h
  go_enter Tryd.func71, Tryd.ntmps71
  go_wp2
  go_loopw [5] (fun i wr => ∃ k : Nat, k ≤ X.length ∧ i = .int .i64 k ∧ (∀ j, j < k → (!ansQ X j || S.testBit j) = true) ∧ Below w.heap.size w wr) (fun i _ => X.length - (intOf i).toNat)
  case atStart => exact ⟨0, by omega, rfl, fun j hj => absurd hj (by omega), Below.refl _ _⟩
  case round =>
    obtain ⟨k, hk, rfl, hno, hb⟩ := hrel
    have HN := Lib.hid hno
    have HB := Lib.hid hb
    have he := HE.out.below hb hB
    obtain ⟨-, c1, -, -, -, -⟩ := id he
    clear hno hb
    by_cases hlt : k < X.length
    · have hkl : (k : Int) < (X.length : Int) := by omega
      obtain ⟨b, off, rfl, -, -, -, -, -, -, -, -, d7⟩ := he.opAt hlt
      have HH := Lib.hid (fun W => rhas_any S k W hS (by omega))
      have HA : Hid (ansQ X k = decide (0 ≤ (opAt X k).done)) := rfl
      have hstep : (!ansQ X k || S.testBit k) = true → ∀ j, j < k + 1 → (!ansQ X j || S.testBit j) = true := fun hf j hj => by
        rcases Nat.lt_or_eq_of_le (Nat.le_of_lt_succ hj) with h | rfl
        · exact HN.out j h
        · exact hf
      have HST := Lib.hid hstep
      have hmiss : (!ansQ X k || S.testBit k) = false → covS X (ansQ X) S = false := fun hf => by
        unfold covS
        rw [List.all_eq_false]
        exact ⟨k, by simpa using hlt, by rw [hf]; simp⟩
      have HMS := Lib.hid hmiss
      clear hstep hmiss he
      obtain ⟨tb, htb⟩ : ∃ tb, S.testBit k = tb := ⟨_, rfl⟩
      rw [htb] at HH HST HMS
      clear htb
      generalize (opAt X k).done = od at *
      cases tb
      · by_cases h7 : 0 ≤ od
        · have h7' : decide (od ≥ 0) = true := by simpa using h7
          have HF : Hid (covS X (ansQ X) S = false) := HMS.out (by rw [HA.out]; simp [h7])
          clear h7
          go_wp2_with fail
          refine (HH.out _).mono ?_
          rintro r w2 ⟨rfl, rfl⟩
          go_wp2
          go_ret
          exact ⟨ret_bool (by rw [HF.out]), HB.out⟩
        · have h7' : decide (od ≥ 0) = false := by simpa using h7
          have HF : Hid ((!ansQ X k || false) = true) := by unfold Hid; rw [HA.out, show decide (0 ≤ od) = false by simpa using h7]; rfl
          clear h7
          go_wp2_with fail
          refine (HH.out _).mono ?_
          rintro r w2 ⟨rfl, rfl⟩
          go_wp2
          go_roundw
          case rel => exact ⟨k + 1, by omega, by go_num, HST.out HF.out, HB.out⟩
          case measure => simp [intOf]; omega
      · have HF : Hid ((!ansQ X k || true) = true) := by unfold Hid; simp
        go_wp2_with fail
        refine (HH.out _).mono ?_
        rintro r w2 ⟨rfl, rfl⟩
        go_wp2
        go_roundw
        case rel => exact ⟨k + 1, by omega, by go_num, HST.out HF.out, HB.out⟩
        case measure => simp [intOf]; omega
    · obtain rfl : k = X.length := by omega
      have HF : Hid (covS X (ansQ X) S = true) := by
        unfold Hid covS
        rw [List.all_eq_true]
        intro j hj
        exact HN.out j (by simpa using hj)
      clear he
      go_wp2
      go_ret
      exact ⟨ret_bool (by rw [HF.out]), HB.out⟩
end Go.Proofs.YtcgbnlhloopnfaaDoor
namespace Go.Proofs.YtcgbnlhloopnfaaDoor
open Go.RowKit

def nbadR (X : List Opr) (st : Int) (S l i : Nat) : Bool := S.testBit i || (!(opAt X i).write && (decide ((opAt X i).done < 0) || (opAt X i).val != valR X st l))
def nstopR (X : List Opr) (S i k : Nat) : Bool := !S.testBit k && decide (0 ≤ (opAt X k).done) && decide ((opAt X k).done < (opAt X i).call)
/-- tegularef46's next: the last write behind an operation -/
def nxtR (X : List Opr) (st : Int) (S l i : Nat) : Option Nat := if nbadR X st S l i then none else if (List.range X.length).any (nstopR X S i) then none else some (if (opAt X i).write then i + 1 else l)
def nresR : Option Nat → Ending
  | some l => .returned (.tuple #[.int .i64 (l : Int), .bool true])
  | none => .returned (.tuple #[.int .i64 0, .bool false])
def opRowR (o : Opr) : Array Value := #[.int .i64 o.id, .int .i64 o.reg, .int .i64 o.val, .bool o.write, .bool o.barrier, .int .i64 o.era, .int .i64 o.call, .int .i64 o.done]
set_option maxHeartbeats 8000000 in
set_option maxRecDepth 100000 in
theorem rnext_any {sb B : Nat} {E X : List Opr} {st : Int} {Ae Ax : Option Addr} {ce cx : Nat} (S l i : Nat) (w : World) (h : SrV w sb B E X st Ae Ax ce cx) (hB : B ≤ w.heap.size) (hS : S < 65536) (hX : X.length ≤ 16) (hl : l ≤ X.length) (hi : i < X.length) :
    Calls Tryd.prog 70 #[.pointer (some ⟨sb, 0, none⟩), .int .i64 (S : Int), .int .i64 (l : Int), .int .i64 (i : Int)] w fun r w' => r = nresR (nxtR X st S l i) ∧ Below w.heap.size w w' := by
  have HE := Lib.hid h
  have HNR : Hid (nxtR X st S l i = if nbadR X st S l i then none else if (List.range X.length).any (nstopR X S i) then none else some (if (opAt X i).write then i + 1 else l)) := rfl
  obtain ⟨-, c1, -, -, -, -⟩ := id h
  obtain ⟨bi, oi, hAx, hbi, d0, d1, d2, d3, d4, d5, d6, d7⟩ := h.opAt hi
  have hil : (i : Int) < (X.length : Int) := by omega
  have HBR : Hid (nbadR X st S l i = (S.testBit i || (!(opAt X i).write && (decide ((opAt X i).done < 0) || (opAt X i).val != valR X st l)))) := rfl
  subst hAx
  clear h
  obtain ⟨o, ho⟩ : ∃ o, opAt X i = o := ⟨_, rfl⟩
  have HOI := Lib.hid ho
  rw [ho] at d0 d1 d2 d3 d4 d5 d6 d7 HBR HNR
  clear ho
  obtain ⟨o0, o1, o2, o3, o4, o5, o6, o7⟩ := o
  simp only at d0 d1 d2 d3 d4 d5 d6 d7 HBR HNR
  go_enter Tryd.func70, Tryd.ntmps70
  go_upto_region 2 with (fail)
  have hb1 := below_laid (w := w) (o := .cells (opRowR ⟨o0, o1, o2, o3, o4, o5, o6, o7⟩) 64)
  have hx1 : (w.alloc (.cells (opRowR ⟨o0, o1, o2, o3, o4, o5, o6, o7⟩) 64)).heap[w.heap.size]? = some (.cells (opRowR ⟨o0, o1, o2, o3, o4, o5, o6, o7⟩) 64) := heap_new_at _ _ rfl
  simp only [opRowR] at hb1 hx1
  generalize w.alloc (.cells #[.int .i64 o0, .int .i64 o1, .int .i64 o2, .bool o3, .bool o4, .int .i64 o5, .int .i64 o6, .int .i64 o7] 64) = w1 at *
  have HB1 := Lib.hid hb1
  have HX1 := Lib.hid hx1
  have hz1 := hb1.size
  have hxl := (Array.getElem?_eq_some_iff.1 hx1).1
  clear hb1 hx1 d0 d1 d2 d3 d4 d5 d6 d7 c1
  have HHI : Hid (∀ d xs, Calls Tryd.prog 72 #[.int .i64 (S : Int), .int .i64 (i : Int)] (Sort.grow (redrawn w1 d) xs) fun r w' => r = .returned (.bool (S.testBit i)) ∧ Below (Sort.grow (redrawn w1 d) xs).heap.size (Sort.grow (redrawn w1 d) xs) w') := fun d xs => (rhas_any S i _ hS (by omega)).mono fun r w' ⟨h1, h2⟩ => ⟨h1, by rw [h2]; exact Below.refl _ _⟩
  have HVL : Hid (∀ d xs, Calls Tryd.prog 52 #[.pointer (some ⟨sb, 0, none⟩), .int .i64 (l : Int)] (Sort.grow (redrawn w1 d) xs) fun r w' => r = .returned (.int .i64 (valR X st l)) ∧ Below (Sort.grow (redrawn w1 d) xs).heap.size (Sort.grow (redrawn w1 d) xs) w') := fun d xs => (rval_any l _ (HE.out.below (HB1.out.trans ((below_regrown w1 d xs).mono hz1)) hB) hl (by omega)).mono fun r w' ⟨h1, h2⟩ => ⟨h1, by rw [h2]; exact Below.refl _ _⟩
  obtain ⟨bb, hbb⟩ : ∃ bb, nbadR X st S l i = bb := ⟨_, rfl⟩
  rw [hbb] at HBR HNR
  clear hbb
  go_cut [39] (fun s39 wx => s39 = .bool bb ∧ Below w1.heap.size w1 wx)
  case first =>
    have x2 := fun d xs => ((cell_of_row _ _ 2 _ _ _ (keptB HX1.out (below_regrown w1 d xs))).trans (by rfl) : (Sort.grow (redrawn w1 d) xs).cell? ⟨w.heap.size, 2, none⟩ = some (.int .i64 o2))
    have x3 := fun d xs => ((cell_of_row _ _ 3 _ _ _ (keptB HX1.out (below_regrown w1 d xs))).trans (by rfl) : (Sort.grow (redrawn w1 d) xs).cell? ⟨w.heap.size, 3, none⟩ = some (.bool o3))
    have x7 := fun d xs => ((cell_of_row _ _ 7 _ _ _ (keptB HX1.out (below_regrown w1 d xs))).trans (by rfl) : (Sort.grow (redrawn w1 d) xs).cell? ⟨w.heap.size, 7, none⟩ = some (.int .i64 o7))
    obtain ⟨tb, htb⟩ : ∃ tb, S.testBit i = tb := ⟨_, rfl⟩
    rw [htb] at HHI HBR
    clear htb
    generalize valR X st l = vl at *
    cases tb
    case true =>
      refine quiet_below (by kernel_rfl) (by kernel_rfl) ?_
      repeat (go_big_quiet_step (first | (go_at_call 72; exact Calls.regrown_of (HHI.out _ _)) | (go_at_call 52; exact Calls.regrown_of (HVL.out _ _))))
      refine wpQuiet_nil ?_
      intro W2 hb2
      go_wp2_with fail
      go_meet
      exact ⟨by rw [HBR.out]; rfl, hb2⟩
    case false =>
      cases o3
      case true =>
        refine quiet_below (by kernel_rfl) (by kernel_rfl) ?_
        repeat (go_big_quiet_step (first | (go_at_call 72; exact Calls.regrown_of (HHI.out _ _)) | (go_at_call 52; exact Calls.regrown_of (HVL.out _ _))))
        refine wpQuiet_nil ?_
        intro W2 hb2
        go_wp2_with fail
        go_meet
        exact ⟨by rw [HBR.out]; rfl, hb2⟩
      case false =>
        by_cases h7 : o7 < 0
        · have h7' : decide (o7 < 0) = true := by simpa using h7
          clear h7
          refine quiet_below (by kernel_rfl) (by kernel_rfl) ?_
          repeat (go_big_quiet_step (first | (go_at_call 72; exact Calls.regrown_of (HHI.out _ _)) | (go_at_call 52; exact Calls.regrown_of (HVL.out _ _))))
          refine wpQuiet_nil ?_
          intro W2 hb2
          go_wp2_with fail
          go_meet
          exact ⟨by rw [HBR.out, h7']; rfl, hb2⟩
        · have h7' : decide (o7 < 0) = false := by simpa using h7
          clear h7
          by_cases hv : o2 = vl
          · have hv' : (o2 != vl) = false := by simpa using hv
            clear hv
            refine quiet_below (by kernel_rfl) (by kernel_rfl) ?_
            repeat (go_big_quiet_step (first | (go_at_call 72; exact Calls.regrown_of (HHI.out _ _)) | (go_at_call 52; exact Calls.regrown_of (HVL.out _ _))))
            refine wpQuiet_nil ?_
            intro W2 hb2
            go_wp2_with fail
            go_meet
            exact ⟨by rw [HBR.out, h7', hv']; rfl, hb2⟩
          · have hv' : (o2 != vl) = true := by simpa using hv
            clear hv
            refine quiet_below (by kernel_rfl) (by kernel_rfl) ?_
            repeat (go_big_quiet_step (first | (go_at_call 72; exact Calls.regrown_of (HHI.out _ _)) | (go_at_call 52; exact Calls.regrown_of (HVL.out _ _))))
            refine wpQuiet_nil ?_
            intro W2 hb2
            go_wp2_with fail
            go_meet
            exact ⟨by rw [HBR.out, h7', hv']; rfl, hb2⟩
  obtain ⟨rfl, hbc⟩ := hcut
  have HBC := Lib.hid hbc
  have hzc := hbc.size
  have HXC := Lib.hid (keptB HX1.out hbc)
  clear hbc HHI HVL
  cases bb
  case true =>
    have HF : Hid (nxtR X st S l i = none) := by unfold Hid; rw [HNR.out]; rfl
    go_wp2
    go_ret2
    exact ⟨by rw [HF.out]; rfl, HB1.out.trans (HBC.out.mono hz1)⟩
  case false =>
    have HN2 : Hid (nxtR X st S l i = if (List.range X.length).any (nstopR X S i) then none else some (if o3 then i + 1 else l)) := by unfold Hid; rw [HNR.out]; rfl
    clear HNR HBR
    go_wp2
    go_loopw [11] (fun kk wr => ∃ k : Nat, k ≤ X.length ∧ kk = .int .i64 k ∧ (∀ j, j < k → nstopR X S i j = false) ∧ Below wc.heap.size wc wr) (fun kk _ => X.length - (intOf kk).toNat)
    case atStart => exact ⟨0, by omega, rfl, fun j hj => absurd hj (by omega), Below.refl _ _⟩
    case round =>
      obtain ⟨k, hk, rfl, hno, hb⟩ := hrel
      have HN := Lib.hid hno
      have HBK := Lib.hid hb
      have hzk := hb.size
      have HBW := Lib.hid (HB1.out.trans ((HBC.out.trans (hb.mono hzc)).mono hz1))
      have he := HE.out.below HBW.out hB
      obtain ⟨-, c1, -, -, -, -⟩ := id he
      clear hno hb
      by_cases hlt : k < X.length
      · have hkl : (k : Int) < (X.length : Int) := by omega
        have hzw := HBW.out.size
        have hbg := fun d xs => HBW.out.trans ((below_regrown wr d xs).mono hzw)
        have g1 := fun d xs => (HE.out.below (hbg d xs) hB).c1
        have f7 : ∀ d xs, (Sort.grow (redrawn wr d) xs).cell? ⟨bi, oi + k * 8 + 7, none⟩ = some (.int .i64 (opAt X k).done) := fun d xs => by
          obtain ⟨b', o', hA, -, -, -, -, -, -, -, -, d7⟩ := (HE.out.below (hbg d xs) hB).opAt hlt
          cases hA
          exact d7
        have x6 := fun d xs => ((cell_of_row _ _ 6 _ _ _ (keptB HXC.out (HBK.out.trans ((below_regrown wr d xs).mono hzk)))).trans (by rfl) : (Sort.grow (redrawn wr d) xs).cell? ⟨w.heap.size, 6, none⟩ = some (.int .i64 o6))
        have HHK : Hid (∀ d xs, Calls Tryd.prog 72 #[.int .i64 (S : Int), .int .i64 (k : Int)] (Sort.grow (redrawn wr d) xs) fun r w' => r = .returned (.bool (S.testBit k)) ∧ Below (Sort.grow (redrawn wr d) xs).heap.size (Sort.grow (redrawn wr d) xs) w') := fun d xs => (rhas_any S k _ hS (by omega)).mono fun r w' ⟨h1, h2⟩ => ⟨h1, by rw [h2]; exact Below.refl _ _⟩
        have HSV : Hid (nstopR X S i k = (!S.testBit k && decide (0 ≤ (opAt X k).done) && decide ((opAt X k).done < o6))) := by unfold Hid nstopR; rw [HOI.out]
        have hstep : nstopR X S i k = false → ∀ j, j < k + 1 → nstopR X S i j = false := fun hf j hj => by
          rcases Nat.lt_or_eq_of_le (Nat.le_of_lt_succ hj) with h | rfl
          · exact HN.out j h
          · exact hf
        have HST := Lib.hid hstep
        have hfound : nstopR X S i k = true → nxtR X st S l i = none := fun hf => by
          rw [HN2.out, if_pos (List.any_eq_true.2 ⟨k, by simpa using hlt, hf⟩)]
        have HFD := Lib.hid hfound
        clear hstep hfound he hbg hzw
        obtain ⟨tb, htb⟩ : ∃ tb, S.testBit k = tb := ⟨_, rfl⟩
        rw [htb] at HHK HSV
        clear htb
        generalize (opAt X k).done = od at *
        go_upto_region 7 with (fail)
        clear c1
        cases tb
        case true =>
          have HF : Hid (nstopR X S i k = false) := by unfold Hid; rw [HSV.out]; rfl
          refine quiet_below (by kernel_rfl) (by kernel_rfl) ?_
          repeat (go_big_quiet_step ((go_at_call 72; exact Calls.regrown_of (HHK.out _ _))))
          refine wpQuiet_nil ?_
          intro W2 hb2
          have HB2 := Lib.hid (HBK.out.trans (hb2.mono hzk))
          clear x6 f7 g1
          go_wp2
          go_roundw
          case rel => exact ⟨k + 1, by omega, by go_num, HST.out HF.out, HB2.out⟩
          case measure => simp [intOf]; omega
        case false =>
          by_cases h7 : 0 ≤ od
          · have h7' : decide (od ≥ 0) = true := by simpa using h7
            have h7q : decide (0 ≤ od) = true := by simpa using h7
            clear h7
            by_cases h6 : od < o6
            · have h6' : decide (od < o6) = true := by simpa using h6
              have HF : Hid (nxtR X st S l i = none) := HFD.out (by rw [HSV.out, h7q, h6']; rfl)
              clear h6
              refine quiet_below (by kernel_rfl) (by kernel_rfl) ?_
              repeat (go_big_quiet_step ((go_at_call 72; exact Calls.regrown_of (HHK.out _ _))))
              refine wpQuiet_nil ?_
              intro W2 hb2
              have HB2 := Lib.hid (HBK.out.trans (hb2.mono hzk))
              clear x6 f7 g1
              go_wp2
              go_ret2
              exact ⟨by rw [HF.out]; rfl, HB1.out.trans ((HBC.out.trans (HB2.out.mono hzc)).mono hz1)⟩
            · have h6' : decide (od < o6) = false := by simpa using h6
              have HF : Hid (nstopR X S i k = false) := by unfold Hid; rw [HSV.out, h6']; simp
              clear h6
              refine quiet_below (by kernel_rfl) (by kernel_rfl) ?_
              repeat (go_big_quiet_step ((go_at_call 72; exact Calls.regrown_of (HHK.out _ _))))
              refine wpQuiet_nil ?_
              intro W2 hb2
              have HB2 := Lib.hid (HBK.out.trans (hb2.mono hzk))
              clear x6 f7 g1
              go_wp2
              go_roundw
              case rel => exact ⟨k + 1, by omega, by go_num, HST.out HF.out, HB2.out⟩
              case measure => simp [intOf]; omega
          · have h7' : decide (od ≥ 0) = false := by simpa using h7
            have HF : Hid (nstopR X S i k = false) := by unfold Hid; rw [HSV.out, show decide (0 ≤ od) = false by simpa using h7]; rfl
            clear h7
            refine quiet_below (by kernel_rfl) (by kernel_rfl) ?_
            repeat (go_big_quiet_step ((go_at_call 72; exact Calls.regrown_of (HHK.out _ _))))
            refine wpQuiet_nil ?_
            intro W2 hb2
            have HB2 := Lib.hid (HBK.out.trans (hb2.mono hzk))
            clear x6 f7 g1
            go_wp2
            go_roundw
            case rel => exact ⟨k + 1, by omega, by go_num, HST.out HF.out, HB2.out⟩
            case measure => simp [intOf]; omega
      · obtain rfl : k = X.length := by omega
        have HF : Hid (nxtR X st S l i = some (if o3 then i + 1 else l)) := by
          unfold Hid
          rw [HN2.out, if_neg]
          intro ha
          obtain ⟨j, hj, hs⟩ := List.any_eq_true.1 ha
          rw [HN.out j (by simpa using hj)] at hs
          cases hs
        have x3 : wr.cell? ⟨w.heap.size, 3, none⟩ = some (.bool o3) := by rw [cell_of_row _ _ _ _ _ _ (keptB HXC.out HBK.out)]; rfl
        have hwi : IntKind.i64.wrap ((i : Int) + 1) = (i : Int) + 1 := IntWalk.i64_in _ (by omega)
        clear he
        cases o3
        · go_wp2
          go_ret2
          exact ⟨by rw [HF.out]; rfl, HBW.out⟩
        · go_wp2
          go_ret2
          exact ⟨by rw [HF.out]; rfl, HBW.out⟩
end Go.Proofs.YtcgbnlhloopnfaaDoor
namespace Go.Proofs.YtcgbnlhloopnfaaDoor
open Go.RowKit

def safR (E X : List Opr) (i : Nat) : Bool := durR E (opAt X i)
set_option maxHeartbeats 8000000 in
set_option maxRecDepth 100000 in
theorem rsafe_any {sb B : Nat} {E X : List Opr} {st : Int} {Ae Ax : Option Addr} {ce cx : Nat} (S : Nat) (w : World) (h : SrV w sb B E X st Ae Ax ce cx) (hB : B ≤ w.heap.size) (hS : S < 65536) (hX : X.length ≤ 16) (hE : E.length ≤ 100000) :
    Calls Tryd.prog 51 #[.pointer (some ⟨sb, 0, none⟩), .int .i64 (S : Int)] w fun r w' => r = .returned (.bool (covS X (safR E X) S)) ∧ Below w.heap.size w w' := by
  have HE := Lib.hid h
  clear h
  go_enter Tryd.func51, Tryd.ntmps51
  go_wp2
  go_loopw [5] (fun i wr => ∃ k : Nat, k ≤ X.length ∧ i = .int .i64 k ∧ (∀ j, j < k → (!safR E X j || S.testBit j) = true) ∧ Below w.heap.size w wr) (fun i _ => X.length - (intOf i).toNat)
  case atStart => exact ⟨0, by omega, rfl, fun j hj => absurd hj (by omega), Below.refl _ _⟩
  case round =>
    obtain ⟨k, hk, rfl, hno, hb⟩ := hrel
    have HN := Lib.hid hno
    have HB := Lib.hid hb
    have hz := hb.size
    have he := HE.out.below hb hB
    obtain ⟨-, c1, -, -, -, -⟩ := id he
    clear hno hb
    by_cases hlt : k < X.length
    · have hkl : (k : Int) < (X.length : Int) := by omega
      obtain ⟨b, off, rfl, -, -⟩ := he.opAt hlt
      have hbg := fun d xs => HB.out.trans ((below_regrown wr d xs).mono hz)
      have g0 := fun d xs => (HE.out.below (hbg d xs) hB).c0
      have g1 := fun d xs => (HE.out.below (hbg d xs) hB).c1
      have hop : ∀ d xs, _ := fun d xs => (HE.out.below (hbg d xs) hB).opAt hlt
      have HOP := Lib.hid hop
      clear hop
      have f : ∀ d xs, (Sort.grow (redrawn wr d) xs).cell? ⟨b, off + k * 8, none⟩ = some (.int .i64 (opAt X k).id) ∧ (Sort.grow (redrawn wr d) xs).cell? ⟨b, off + k * 8 + 1, none⟩ = some (.int .i64 (opAt X k).reg) ∧ (Sort.grow (redrawn wr d) xs).cell? ⟨b, off + k * 8 + 2, none⟩ = some (.int .i64 (opAt X k).val) ∧
          (Sort.grow (redrawn wr d) xs).cell? ⟨b, off + k * 8 + 3, none⟩ = some (.bool (opAt X k).write) ∧ (Sort.grow (redrawn wr d) xs).cell? ⟨b, off + k * 8 + 4, none⟩ = some (.bool (opAt X k).barrier) ∧ (Sort.grow (redrawn wr d) xs).cell? ⟨b, off + k * 8 + 5, none⟩ = some (.int .i64 (opAt X k).era) ∧
          (Sort.grow (redrawn wr d) xs).cell? ⟨b, off + k * 8 + 6, none⟩ = some (.int .i64 (opAt X k).call) ∧ (Sort.grow (redrawn wr d) xs).cell? ⟨b, off + k * 8 + 7, none⟩ = some (.int .i64 (opAt X k).done) := fun d xs => by
        obtain ⟨b', o', hA, -, c⟩ := HOP.out d xs
        cases hA
        exact c
      have f0 := fun d xs => (f d xs).1
      have f1 := fun d xs => (f d xs).2.1
      have f2 := fun d xs => (f d xs).2.2.1
      have f3 := fun d xs => (f d xs).2.2.2.1
      have f4 := fun d xs => (f d xs).2.2.2.2.1
      have f5 := fun d xs => (f d xs).2.2.2.2.2.1
      have f6 := fun d xs => (f d xs).2.2.2.2.2.2.1
      have f7 := fun d xs => (f d xs).2.2.2.2.2.2.2
      have HHK : Hid (∀ d xs, Calls Tryd.prog 72 #[.int .i64 (S : Int), .int .i64 (k : Int)] (Sort.grow (redrawn wr d) xs) fun r w' => r = .returned (.bool (S.testBit k)) ∧ Below (Sort.grow (redrawn wr d) xs).heap.size (Sort.grow (redrawn wr d) xs) w') := fun d xs => (rhas_any S k _ hS (by omega)).mono fun r w' ⟨h1, h2⟩ => ⟨h1, by rw [h2]; exact Below.refl _ _⟩
      have HDU : Hid (∀ d xs, Calls Tryd.prog 54 #[.slice Ae E.length ce, (opAt X k).agg] (Sort.grow (redrawn wr d) xs) fun r w' => r = .returned (.bool (safR E X k)) ∧ Below (Sort.grow (redrawn wr d) xs).heap.size (Sort.grow (redrawn wr d) xs) w') := fun d xs => rdur_any E (opAt X k) Ae ce B _ (HE.out.below (hbg d xs) hB).era (Nat.le_trans hB (hbg d xs).size) (by omega)
      unfold Opr.agg at HDU
      have hstep : (!safR E X k || S.testBit k) = true → ∀ j, j < k + 1 → (!safR E X j || S.testBit j) = true := fun hf j hj => by
        rcases Nat.lt_or_eq_of_le (Nat.le_of_lt_succ hj) with h | rfl
        · exact HN.out j h
        · exact hf
      have HST := Lib.hid hstep
      have hmiss : (!safR E X k || S.testBit k) = false → covS X (safR E X) S = false := fun hf => by
        unfold covS
        rw [List.all_eq_false]
        exact ⟨k, by simpa using hlt, by rw [hf]; simp⟩
      have HMS := Lib.hid hmiss
      clear hstep hmiss he hbg f HOP
      obtain ⟨tb, htb⟩ : ∃ tb, S.testBit k = tb := ⟨_, rfl⟩
      rw [htb] at HHK HST HMS
      clear htb
      obtain ⟨db, hdb⟩ : ∃ db, safR E X k = db := ⟨_, rfl⟩
      rw [hdb] at HDU HST HMS
      clear hdb
      go_upto_region 4 with (fail)
      clear c1
      cases tb
      · cases db
        · have HF : Hid ((!false || false) = true) := by unfold Hid; rfl
          refine quiet_below (by kernel_rfl) (by kernel_rfl) ?_
          repeat (go_big_quiet_step (first | (go_at_call 72; exact Calls.regrown_of (HHK.out _ _)) | (go_at_call 54; exact Calls.regrown_of (HDU.out _ _))))
          refine wpQuiet_nil ?_
          intro W2 hb2
          have HB2 := Lib.hid (HB.out.trans (hb2.mono hz))
          clear g0 g1 f0 f1 f2 f3 f4 f5 f6 f7
          go_wp2
          go_roundw
          case rel => exact ⟨k + 1, by omega, by go_num, HST.out HF.out, HB2.out⟩
          case measure => simp [intOf]; omega
        · have HF : Hid (covS X (safR E X) S = false) := HMS.out rfl
          refine quiet_below (by kernel_rfl) (by kernel_rfl) ?_
          repeat (go_big_quiet_step (first | (go_at_call 72; exact Calls.regrown_of (HHK.out _ _)) | (go_at_call 54; exact Calls.regrown_of (HDU.out _ _))))
          refine wpQuiet_nil ?_
          intro W2 hb2
          have HB2 := Lib.hid (HB.out.trans (hb2.mono hz))
          clear g0 g1 f0 f1 f2 f3 f4 f5 f6 f7
          go_wp2
          go_ret
          exact ⟨ret_bool (by rw [HF.out]), HB2.out⟩
      · have HF : Hid ((!db || true) = true) := by unfold Hid; simp
        refine quiet_below (by kernel_rfl) (by kernel_rfl) ?_
        repeat (go_big_quiet_step (first | (go_at_call 72; exact Calls.regrown_of (HHK.out _ _)) | (go_at_call 54; exact Calls.regrown_of (HDU.out _ _))))
        refine wpQuiet_nil ?_
        intro W2 hb2
        have HB2 := Lib.hid (HB.out.trans (hb2.mono hz))
        clear g0 g1 f0 f1 f2 f3 f4 f5 f6 f7
        go_wp2
        go_roundw
        case rel => exact ⟨k + 1, by omega, by go_num, HST.out HF.out, HB2.out⟩
        case measure => simp [intOf]; omega
    · obtain rfl : k = X.length := by omega
      have HF : Hid (covS X (safR E X) S = true) := by
        unfold Hid covS
        rw [List.all_eq_true]
        intro j hj
        exact HN.out j (by simpa using hj)
      clear he
      go_wp2
      go_ret
      exact ⟨ret_bool (by rw [HF.out]), HB.out⟩
end Go.Proofs.YtcgbnlhloopnfaaDoor
namespace Go.Proofs.YtcgbnlhloopnfaaDoor
open Go.RowKit

def difStep (acc : List Int) (x : Int) : List Int := if acc.contains x then acc else acc ++ [x]
def difI (xs : List Int) : List Int := xs.foldl difStep []
theorem dif_mem (xs : List Int) : ∀ (acc : List Int) (x : Int), x ∈ xs.foldl difStep acc ↔ x ∈ acc ∨ x ∈ xs := by
  induction xs with
  | nil => intro acc x; simp
  | cons a xs ih =>
    intro acc x
    rw [List.foldl_cons, ih]
    unfold difStep
    split
    · rename_i h
      have ha : a ∈ acc := List.contains_iff_mem.1 h
      constructor
      · rintro (h | h)
        · exact .inl h
        · exact .inr (by simp [h])
      · rintro (h | h)
        · exact .inl h
        · rcases List.mem_cons.1 h with rfl | h
          · exact .inl ha
          · exact .inr h
    · simp only [List.mem_append, List.mem_cons, List.not_mem_nil, or_false]
      constructor
      · rintro ((h | h) | h)
        · exact .inl h
        · exact .inr (.inl h)
        · exact .inr (.inr h)
      · rintro (h | h | h)
        · exact .inl (.inl h)
        · exact .inl (.inr h)
        · exact .inr h
theorem difI_mem (xs : List Int) (x : Int) : x ∈ difI xs ↔ x ∈ xs := by unfold difI; rw [dif_mem]; simp
theorem difI_len (xs : List Int) : (difI xs).length ≤ xs.length := by
  have : ∀ (ys acc : List Int), (ys.foldl difStep acc).length ≤ acc.length + ys.length := by
    intro ys
    induction ys with
    | nil => intro acc; simp
    | cons a ys ih =>
      intro acc
      rw [List.foldl_cons]
      have h1 := ih (difStep acc a)
      have h2 : (difStep acc a).length ≤ acc.length + 1 := by unfold difStep; split <;> simp
      simp only [List.length_cons]
      omega
  simpa [difI] using this xs []
set_option maxHeartbeats 4000000 in
set_option maxRecDepth 100000 in
theorem dif_any (xs : List Int) (A : Option Addr) (c B : Nat) (w : World) (h : IntS w B A xs) (hB : B ≤ w.heap.size) (hlen : xs.length ≤ 100000000) :
    Calls Tryd.prog 33 #[.slice A xs.length c] w fun r w' => (∃ v, r = .returned v ∧ OwS w' w.heap.size 3 1 v ((difI xs).map icell)) ∧ Below w.heap.size w w' := by
  have HE := Lib.hid h
  clear h
  go_enter Tryd.func33, Tryd.ntmps33
  go_wp2
  go_loopw [3, 4, 5, 6] (fun s i fo kk wr => ∃ k : Nat, k ≤ xs.length ∧ i = .int .i64 k ∧ OwS wr w.heap.size 3 1 s ((difI (xs.take k)).map icell) ∧ Below w.heap.size w wr) (fun _ i _ _ _ => xs.length - (intOf i).toNat)
  case atStart => exact ⟨0, by omega, rfl, by simpa [difI] using OwS.nil _ _ _ _, Below.refl _ _⟩
  case round =>
    obtain ⟨k, hk, rfl, hown, hb⟩ := hrel
    have HOW := Lib.hid hown
    have HB := Lib.hid hb
    have hz := hb.size
    by_cases hlt : k < xs.length
    · have hkl : (k : Int) < (xs.length : Int) := by omega
      obtain ⟨bb, off, x, rfl, hbb, hx, -⟩ := IntS.at_ (HE.out.below' hb hB) hlt
      have HXC : Hid (∀ W, Below w.heap.size w W → W.cell? ⟨bb, off + k, none⟩ = some (.int .i64 x)) := fun W hW => by
        obtain ⟨b', o', y, h1, -, h3, h4⟩ := IntS.at_ (HE.out.below' hW hB) hlt
        cases h1
        have := hx.symm.trans h3
        cases this
        exact h4
      have HST : Hid (difI (xs.take (k + 1)) = difStep (difI (xs.take k)) x) := by unfold Hid difI; rw [List.take_add_one, hx, List.foldl_append]; rfl
      have hdl : (difI (xs.take k)).length ≤ 100000000 := by have := difI_len (xs.take k); rw [List.length_take] at this; omega
      obtain ⟨ds, hds⟩ : ∃ ds, difI (xs.take k) = ds := ⟨_, rfl⟩
      rw [hds] at HST HOW hown hdl
      obtain ⟨Ad, cd, rfl, -, -⟩ := hown.form
      rw [List.length_map] at HOW ⊢
      clear hx hds hown hb
      generalize wr = wo at *
      go_wp2
      go_loopw [5, 6] (fun fo kk wr => ∃ q : Nat, q ≤ ds.length ∧ kk = .int .i64 q ∧ fo = .bool ((ds.take q).contains x) ∧ Below wo.heap.size wo wr) (fun _ kk _ => ds.length - (intOf kk).toNat)
      case atStart => exact ⟨0, by omega, rfl, rfl, Below.refl _ _⟩
      case round =>
        obtain ⟨q, hq, rfl, rfl, hbq⟩ := hrel
        have HBQ := Lib.hid hbq
        have hzq := hbq.size
        have HBW := Lib.hid (HB.out.trans (hbq.mono hz))
        by_cases hlq : q < ds.length
        · have hql : (q : Int) < (ds.length : Int) := by omega
          obtain ⟨b2, o2, y, rfl, hb2, hy, e2⟩ := IntS.at_ ((HOW.out.reads).below hbq) hlq
          have e1 := HXC.out wr HBW.out
          have HTK : Hid ((ds.take (q + 1)).contains x = ((ds.take q).contains x || (y == x))) := by
            unfold Hid
            rw [List.take_add_one, hy, List.contains_append]
            simp only [Option.toList_some, List.contains_cons, List.contains_nil, Bool.or_false]
            congr 1
            rw [Bool.eq_iff_iff]; simp; exact eq_comm
          obtain ⟨fb, hfb⟩ : ∃ fb, (ds.take q).contains x = fb := ⟨_, rfl⟩
          rw [hfb] at HTK
          simp only [hfb]
          clear hfb hy hbq
          cases fb
          · by_cases hyx : y = x
            · have hyx' : (y == x) = true := by simpa using hyx
              have HF : Hid ((ds.take (q + 1)).contains x = true) := by unfold Hid; rw [HTK.out, hyx']; rfl
              clear hyx
              go_wp2_with fail
              go_quiet (fail)
              clear e1 e2
              go_wp2
              go_roundw
              case rel => exact ⟨q + 1, by omega, by go_num, by rw [HF.out], below_drewN HBQ.out _⟩
              case measure => simp [intOf]; omega
            · have hyx' : (y == x) = false := by simpa using hyx
              have HF : Hid ((ds.take (q + 1)).contains x = false) := by unfold Hid; rw [HTK.out, hyx']; rfl
              clear hyx
              go_wp2_with fail
              go_quiet (fail)
              clear e1 e2
              go_wp2
              go_roundw
              case rel => exact ⟨q + 1, by omega, by go_num, by rw [HF.out], below_drewN HBQ.out _⟩
              case measure => simp [intOf]; omega
          · have HF : Hid ((ds.take (q + 1)).contains x = true) := by unfold Hid; rw [HTK.out]; rfl
            go_wp2_with fail
            go_quiet (fail)
            clear e1 e2
            go_wp2
            go_roundw
            case rel => exact ⟨q + 1, by omega, by go_num, by rw [HF.out], below_drewN HBQ.out _⟩
            case measure => simp [intOf]; omega
        · obtain rfl : q = ds.length := by omega
          rw [List.take_length]
          have HOQ := Lib.hid (HOW.out.below hbq)
          have e1 := HXC.out wr HBW.out
          have HSV : Hid (difStep ds x = if ds.contains x then ds else ds ++ [x]) := rfl
          obtain ⟨fb, hfb⟩ : ∃ fb, ds.contains x = fb := ⟨_, rfl⟩
          rw [hfb] at HSV
          simp only [hfb]
          clear hfb hbq
          cases fb
          · go_wp2_with (at_builtin; refine wpList_ap1 rfl (.tmp 33) (.tmp 38) _ rfl elemInt rfl HOQ.out (icell x) _ (by rfl) wr.heap.size (by rfl) (by rfl) (icellOne _) (by simp [maxLen]; omega) (by simp; omega) HBW.out.size ?_)
            intro v3 w3 hown3 hg3 _
            have hb3 : Below w.heap.size w w3 := (HBW.out.alloc HBW.out.size _).grown hg3 (by have := HBW.out.size; simp; omega) (fun g hg => (HOQ.out.lt hg).1)
            have HO3 := Lib.hid hown3
            clear hg3 hown3 e1
            go_wp2
            go_roundw
            case rel => exact ⟨k + 1, by omega, by go_num, by rw [HST.out, HSV.out]; simpa using HO3.out, hb3⟩
            case measure => simp [intOf]; omega
          · clear e1
            go_wp2
            go_roundw
            case rel => exact ⟨k + 1, by omega, by go_num, by rw [HST.out, HSV.out]; exact HOQ.out, HBW.out⟩
            case measure => simp [intOf]; omega
    · obtain rfl : k = xs.length := by omega
      rw [List.take_length] at HOW
      clear hown hb
      go_wp2
      go_ret
      exact ⟨⟨_, rfl, HOW.out⟩, HB.out⟩
end Go.Proofs.YtcgbnlhloopnfaaDoor
