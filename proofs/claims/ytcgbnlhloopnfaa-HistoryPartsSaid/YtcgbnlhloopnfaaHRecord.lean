/- Walk of tegularef45's Record. -/
import Derived.Test.YtcgbnlhloopnfaaHRDone
import Derived.Test.YtcgbnlhloopnfaaPendB
namespace Go.Proofs.Ytcgbnlhloopnfaa
open Go.RowKit

abbrev ActS (w : World) (B : Nat) (A : Option Addr) (s : List ActH) : Prop := RdS w B 3 A (s.map ActH.cells)
theorem ActS.at_ {w : World} {B : Nat} {A : Option Addr} {s : List ActH} (h : ActS w B A s) {k : Nat} (hk : k < s.length) : ∃ b off, ∃ a : ActH, A = some ⟨b, off, none⟩ ∧ b < B ∧ s[k]? = some a ∧
    w.cell? ⟨b, off + k * 3, none⟩ = some (.int .u8 a.kind) ∧ w.cell? ⟨b, off + k * 3 + 1, none⟩ = some (.int .i8 a.op) ∧ w.cell? ⟨b, off + k * 3 + 2, none⟩ = some (.int .i8 a.val) := by
  obtain ⟨b, off, rfl, hb, hc⟩ := h.2 (by simp; omega)
  have he : s[k]? = some s[k] := List.getElem?_eq_getElem hk
  have hr : (s.map ActH.cells)[k]? = some s[k].cells := by simp [he]
  exact ⟨b, off, s[k], rfl, hb, he, hc k _ hr 0 _ rfl, hc k _ hr 1 _ rfl, hc k _ hr 2 _ rfl⟩

def RecordPost (w : World) (s : List ActH) (e : Ending) (w' : World) : Prop :=
  ∃ v u, e = .returned (.tuple #[v, u]) ∧ OwS w' w.heap.size 56 6 v ((recSt s s.length).1.map Ev.cells) ∧ OwS w' w.heap.size 3 1 u ((recRes s s.length).map icell) ∧ Below w.heap.size w w'

theorem ref_cut {st : List Ev × Nat} {a : ActH} (h : a.kind % 8 = 7) : refAct st a = ((st.1 ++ [Ev.cut], st.2), 0) := by unfold refAct; rw [if_pos h]
theorem ref_yes {st : List Ev × Nat} {a : ActH} (h : a.kind % 8 < 4) (hc : callOk (actEv a st.2) = true) : refAct st a = ((st.1 ++ [actEv a st.2], st.2 + 1), (st.2 : Int)) := by unfold refAct; rw [if_neg (by omega), if_pos h, if_pos hc]
theorem ref_no {st : List Ev × Nat} {a : ActH} (h : a.kind % 8 < 4) (hc : callOk (actEv a st.2) = false) : refAct st a = (st, -1) := by unfold refAct; rw [if_neg (by omega), if_pos h, hc]; rfl
theorem ref_done {st : List Ev × Nat} {a : ActH} (h : ¬ a.kind % 8 < 4) (h7 : a.kind % 8 ≠ 7) : refAct st a = ((st.1 ++ (refDone st.1 (actOp a st.2) a.val).1, st.2), (refDone st.1 (actOp a st.2) a.val).2) := by unfold refAct; rw [if_neg h7, if_neg h]
theorem actOp_pos {a : ActH} {n : Nat} (h : a.kind % 8 < 6) (hn : 0 < n) : actOp a n = (a.op + 128) % (n : Int) := by unfold actOp; rw [if_pos ⟨h, hn⟩]
theorem actOp_neg {a : ActH} {n : Nat} (h : ¬ (a.kind % 8 < 6 ∧ 0 < n)) : actOp a n = a.op := by unfold actOp; rw [if_neg h]

def RecRel (s : List ActH) (w : World) (v u nv iv : Value) (wr : World) : Prop :=
  ∃ k : Nat, k ≤ s.length ∧ iv = .int .i64 k ∧ nv = .int .i64 ((recSt s k).2 : Nat) ∧ OwS wr w.heap.size 56 6 v ((recSt s k).1.map Ev.cells) ∧ OwS wr w.heap.size 3 1 u ((recRes s k).map icell) ∧ Below w.heap.size w wr

set_option maxHeartbeats 8000000 in
set_option maxRecDepth 100000 in
theorem record_any (s : List ActH) (A : Option Addr) (c B : Nat) (w : World) (h : ActS w B A s) (hB : B ≤ w.heap.size) (hok : ActsOk s) (hlen : s.length ≤ 1000) :
    Calls Try.prog 18 #[.slice A s.length c] w (RecordPost w s) := by
  go_enter Try.func18, Try.ntmps18
  go_wp2
  go_loopw [4, 5, 6, 7] (fun v u nv iv wr => RecRel s w v u nv iv wr) (fun _ _ _ iv _ => s.length - (intOf iv).toNat)
  case atStart => exact ⟨0, by omega, rfl, rfl, OwS.nil _ _ _ _, OwS.nil _ _ _ _, Below.refl _ _⟩
  case round =>
    obtain ⟨k, hk, rfl, rfl, hown, hres, hb⟩ := hrel
    have hz := hb.size
    by_cases hlt : k < s.length
    · obtain ⟨b, off, a, rfl, hbB, ha, c0, c1, c2⟩ := ActS.at_ (h.below' hb hB) (k := k) hlt
      have hbl : b < wr.heap.size := by omega
      have hao := hok a (List.mem_of_getElem? ha)
      have HST := Lib.hid (recSt_succ ha)
      have HRS := Lib.hid (recRes_succ ha)
      have hbd := recSt_bd s k
      have hrl := recRes_len (s := s) (k := k) hk
      generalize recSt s k = st at *
      generalize recRes s k = rs at *
      obtain ⟨l, n⟩ := st
      simp only at hown hbd HST HRS
      obtain ⟨hl1, hn1⟩ := hbd
      have HRL := Lib.hid hrl
      clear ha hrl
      obtain ⟨Al, cl, rfl, -, -⟩ := hown.form
      obtain ⟨Ar, cr, rfl, -, -⟩ := hres.form
      rw [List.length_map, List.length_map]
      rw [List.length_map] at hown hres
      generalize hln : l.length = ln at *
      have HLN := Lib.hid hln
      clear hln
      obtain ⟨kk, op, val⟩ := a
      simp only at c0 c1 c2
      obtain ⟨k1, o0, o1, v0, v1⟩ := hao
      simp only at k1 o0 o1 v0 v1
      have co := fun W => conv_i8 op o0 o1 W
      have cv := fun W => conv_i8 val v0 v1 W
      have hkl : (k : Int) < (s.length : Int) := by omega
      have hzz : w.heap.size ≤ wr.heap.size + 1 := by omega
      rcases m8 kk with hm | hm | hm | hm | hm | hm | hm | hm
      · have hkm : ((kk : Int) % 8) = 0 := by omega
        have HE : Hid (actEv ⟨kk, op, val⟩ n = ⟨1, (n : Int), false, op, 0, false⟩) := by unfold Hid actEv; simp [hm]
        have HCL := Lib.hid (fun W => call_any ⟨1, (n : Int), false, op, 0, false⟩ W)
        have HY : Hid (callOk ⟨1, (n : Int), false, op, 0, false⟩ = true → recSt s (k + 1) = (l ++ [⟨1, (n : Int), false, op, 0, false⟩], n + 1) ∧ recRes s (k + 1) = rs ++ [(n : Int)]) := by
          intro hc
          rw [HST.out, HRS.out, ref_yes (st := (l, n)) (a := ⟨kk, op, val⟩) (by show kk % 8 < 4; omega) (by rw [HE.out]; exact hc), HE.out]
          exact ⟨rfl, rfl⟩
        have HZ : Hid (callOk ⟨1, (n : Int), false, op, 0, false⟩ = false → recSt s (k + 1) = (l, n) ∧ recRes s (k + 1) = rs ++ [-1]) := by
          intro hc
          rw [HST.out, HRS.out, ref_no (st := (l, n)) (a := ⟨kk, op, val⟩) (by show kk % 8 < 4; omega) (by rw [HE.out]; exact hc)]
          exact ⟨rfl, rfl⟩
        clear hm HE HST HRS
        generalize hcb : callOk ⟨1, (n : Int), false, op, 0, false⟩ = cb at *
        clear hcb
        go_wp2_with fail
        refine (HCL.out _).mono ?_
        rintro q w1 ⟨rfl, hb1⟩
        have hz1 := hb1.size
        simp only [World.size_alloc] at hz1
        have hbb : Below wr.heap.size wr w1 := (below_two wr _ _).trans (hb1.mono (by simp; omega))
        have hown1 := hown.below hbb
        have hres1 := hres.below hbb
        have hb' := hb.trans (hbb.mono hz)
        have hz1' := hb'.size
        have hzlt : wr.heap.size + 1 < w1.heap.size := by omega
        have e0 : w1.cell? ⟨wr.heap.size + 1, 0, none⟩ = some (.int .i64 1) := (hb1.cell (p := ⟨wr.heap.size + 1, 0, none⟩) (by simp)).trans (by rw [cell_of_row _ _ _ _ _ _ (heap_alloc2_new _ _ _)]; rfl)
        have e1 : w1.cell? ⟨wr.heap.size + 1, 1, none⟩ = some (.int .i64 n) := (hb1.cell (p := ⟨wr.heap.size + 1, 1, none⟩) (by simp)).trans (by rw [cell_of_row _ _ _ _ _ _ (heap_alloc2_new _ _ _)]; rfl)
        have e2 : w1.cell? ⟨wr.heap.size + 1, 2, none⟩ = some (.bool false) := (hb1.cell (p := ⟨wr.heap.size + 1, 2, none⟩) (by simp)).trans (by rw [cell_of_row _ _ _ _ _ _ (heap_alloc2_new _ _ _)]; rfl)
        have e3 : w1.cell? ⟨wr.heap.size + 1, 3, none⟩ = some (.int .i64 op) := (hb1.cell (p := ⟨wr.heap.size + 1, 3, none⟩) (by simp)).trans (by rw [cell_of_row _ _ _ _ _ _ (heap_alloc2_new _ _ _)]; rfl)
        have e4 : w1.cell? ⟨wr.heap.size + 1, 4, none⟩ = some (.int .i64 0) := (hb1.cell (p := ⟨wr.heap.size + 1, 4, none⟩) (by simp)).trans (by rw [cell_of_row _ _ _ _ _ _ (heap_alloc2_new _ _ _)]; rfl)
        have e5 : w1.cell? ⟨wr.heap.size + 1, 5, none⟩ = some (.bool false) := (hb1.cell (p := ⟨wr.heap.size + 1, 5, none⟩) (by simp)).trans (by rw [cell_of_row _ _ _ _ _ _ (heap_alloc2_new _ _ _)]; rfl)
        clear hbb hb1 c0 c1 c2
        rcases cb with _ | _
        · go_wp2_with (at_builtin; refine wpList_ap1 rfl (.tmp 92) (.tmp 93) _ rfl elemInt rfl hres1 (icell (-1)) _ rfl _ rfl (by simp) (icellOne _) (by simp [maxLen, HRL.out]; omega) (by simp [HRL.out]; omega) hz1' ?_)
          intro v3 w3 hown3 hg3 _
          have hb3 : Below w.heap.size w w3 := (hb'.alloc hz1' _).grown hg3 (by simp; omega) (fun g hg => (hres1.lt hg).1)
          have hl3 := (hown1.alloc _).kept hg3 (hown1.ne hres1 (by decide))
          clear hg3
          go_wp2
          go_roundw
          case rel =>
            obtain ⟨y1, y2⟩ := HZ.out (by trivial)
            exact ⟨k + 1, by omega, by go_num, by rw [y1], by rw [y1]; exact hl3, by rw [y2]; simpa using hown3, hb3⟩
          case measure => simp [intOf]; omega
        · go_wp2_with (at_builtin; refine wpList_ap1 rfl (.tmp 95) (.tmp 97) _ rfl elemEv rfl hown1 (Ev.cells ⟨1, (n : Int), false, op, 0, false⟩) _ rfl _ rfl (by simp) (Ev.one _) (by simp [maxLen, HLN.out]; omega) (by simp [HLN.out]; omega) hz1' ?_)
          intro v3 w3 hown3 hg3 _
          have hb3 : Below w.heap.size w w3 := (hb'.alloc hz1' _).grown hg3 (by simp; omega) (fun g hg => (hown1.lt hg).1)
          have hr3 := (hres1.alloc _).kept hg3 (hres1.ne hown1 (by decide))
          have hz3 := hb3.size
          clear hg3 e0 e1 e2 e3 e4 e5
          go_wp2_with (at_builtin; refine wpList_ap1 rfl (.tmp 99) (.tmp 101) _ rfl elemInt rfl hr3 (icell (n : Int)) _ rfl _ rfl (by simp) (icellOne _) (by simp [maxLen, HRL.out]; omega) (by simp [HRL.out]; omega) hz3 ?_)
          intro v4 w4 hown4 hg4 _
          have hb4 : Below w.heap.size w w4 := (hb3.alloc hz3 _).grown hg4 (by simp; omega) (fun g hg => (hr3.lt hg).1)
          have hl4 := (hown3.alloc _).kept hg4 (hown3.ne hr3 (by decide))
          clear hg4
          go_wp2
          go_roundw
          case rel =>
            obtain ⟨y1, y2⟩ := HY.out (by trivial)
            exact ⟨k + 1, by omega, by go_num, by rw [y1]; show Value.int .i64 _ = .int .i64 ((n + 1 : Nat) : Int); go_num, by rw [y1]; simpa using hl4, by rw [y2]; simpa using hown4, hb4⟩
          case measure => simp [intOf]; omega
      · have hkm : ((kk : Int) % 8) = 1 := by omega
        have HE : Hid (actEv ⟨kk, op, val⟩ n = ⟨1, (n : Int), true, op, val, false⟩) := by unfold Hid actEv; simp [hm]
        have HCL := Lib.hid (fun W => call_any ⟨1, (n : Int), true, op, val, false⟩ W)
        have HY : Hid (callOk ⟨1, (n : Int), true, op, val, false⟩ = true → recSt s (k + 1) = (l ++ [⟨1, (n : Int), true, op, val, false⟩], n + 1) ∧ recRes s (k + 1) = rs ++ [(n : Int)]) := by
          intro hc
          rw [HST.out, HRS.out, ref_yes (st := (l, n)) (a := ⟨kk, op, val⟩) (by show kk % 8 < 4; omega) (by rw [HE.out]; exact hc), HE.out]
          exact ⟨rfl, rfl⟩
        have HZ : Hid (callOk ⟨1, (n : Int), true, op, val, false⟩ = false → recSt s (k + 1) = (l, n) ∧ recRes s (k + 1) = rs ++ [-1]) := by
          intro hc
          rw [HST.out, HRS.out, ref_no (st := (l, n)) (a := ⟨kk, op, val⟩) (by show kk % 8 < 4; omega) (by rw [HE.out]; exact hc)]
          exact ⟨rfl, rfl⟩
        clear hm HE HST HRS
        generalize hcb : callOk ⟨1, (n : Int), true, op, val, false⟩ = cb at *
        clear hcb
        go_wp2_with fail
        refine (HCL.out _).mono ?_
        rintro q w1 ⟨rfl, hb1⟩
        have hz1 := hb1.size
        simp only [World.size_alloc] at hz1
        have hbb : Below wr.heap.size wr w1 := (below_two wr _ _).trans (hb1.mono (by simp; omega))
        have hown1 := hown.below hbb
        have hres1 := hres.below hbb
        have hb' := hb.trans (hbb.mono hz)
        have hz1' := hb'.size
        have hzlt : wr.heap.size + 1 < w1.heap.size := by omega
        have e0 : w1.cell? ⟨wr.heap.size + 1, 0, none⟩ = some (.int .i64 1) := (hb1.cell (p := ⟨wr.heap.size + 1, 0, none⟩) (by simp)).trans (by rw [cell_of_row _ _ _ _ _ _ (heap_alloc2_new _ _ _)]; rfl)
        have e1 : w1.cell? ⟨wr.heap.size + 1, 1, none⟩ = some (.int .i64 n) := (hb1.cell (p := ⟨wr.heap.size + 1, 1, none⟩) (by simp)).trans (by rw [cell_of_row _ _ _ _ _ _ (heap_alloc2_new _ _ _)]; rfl)
        have e2 : w1.cell? ⟨wr.heap.size + 1, 2, none⟩ = some (.bool true) := (hb1.cell (p := ⟨wr.heap.size + 1, 2, none⟩) (by simp)).trans (by rw [cell_of_row _ _ _ _ _ _ (heap_alloc2_new _ _ _)]; rfl)
        have e3 : w1.cell? ⟨wr.heap.size + 1, 3, none⟩ = some (.int .i64 op) := (hb1.cell (p := ⟨wr.heap.size + 1, 3, none⟩) (by simp)).trans (by rw [cell_of_row _ _ _ _ _ _ (heap_alloc2_new _ _ _)]; rfl)
        have e4 : w1.cell? ⟨wr.heap.size + 1, 4, none⟩ = some (.int .i64 val) := (hb1.cell (p := ⟨wr.heap.size + 1, 4, none⟩) (by simp)).trans (by rw [cell_of_row _ _ _ _ _ _ (heap_alloc2_new _ _ _)]; rfl)
        have e5 : w1.cell? ⟨wr.heap.size + 1, 5, none⟩ = some (.bool false) := (hb1.cell (p := ⟨wr.heap.size + 1, 5, none⟩) (by simp)).trans (by rw [cell_of_row _ _ _ _ _ _ (heap_alloc2_new _ _ _)]; rfl)
        clear hbb hb1 c0 c1 c2
        rcases cb with _ | _
        · go_wp2_with (at_builtin; refine wpList_ap1 rfl (.tmp 92) (.tmp 93) _ rfl elemInt rfl hres1 (icell (-1)) _ rfl _ rfl (by simp) (icellOne _) (by simp [maxLen, HRL.out]; omega) (by simp [HRL.out]; omega) hz1' ?_)
          intro v3 w3 hown3 hg3 _
          have hb3 : Below w.heap.size w w3 := (hb'.alloc hz1' _).grown hg3 (by simp; omega) (fun g hg => (hres1.lt hg).1)
          have hl3 := (hown1.alloc _).kept hg3 (hown1.ne hres1 (by decide))
          clear hg3
          go_wp2
          go_roundw
          case rel =>
            obtain ⟨y1, y2⟩ := HZ.out (by trivial)
            exact ⟨k + 1, by omega, by go_num, by rw [y1], by rw [y1]; exact hl3, by rw [y2]; simpa using hown3, hb3⟩
          case measure => simp [intOf]; omega
        · go_wp2_with (at_builtin; refine wpList_ap1 rfl (.tmp 95) (.tmp 97) _ rfl elemEv rfl hown1 (Ev.cells ⟨1, (n : Int), true, op, val, false⟩) _ rfl _ rfl (by simp) (Ev.one _) (by simp [maxLen, HLN.out]; omega) (by simp [HLN.out]; omega) hz1' ?_)
          intro v3 w3 hown3 hg3 _
          have hb3 : Below w.heap.size w w3 := (hb'.alloc hz1' _).grown hg3 (by simp; omega) (fun g hg => (hown1.lt hg).1)
          have hr3 := (hres1.alloc _).kept hg3 (hres1.ne hown1 (by decide))
          have hz3 := hb3.size
          clear hg3 e0 e1 e2 e3 e4 e5
          go_wp2_with (at_builtin; refine wpList_ap1 rfl (.tmp 99) (.tmp 101) _ rfl elemInt rfl hr3 (icell (n : Int)) _ rfl _ rfl (by simp) (icellOne _) (by simp [maxLen, HRL.out]; omega) (by simp [HRL.out]; omega) hz3 ?_)
          intro v4 w4 hown4 hg4 _
          have hb4 : Below w.heap.size w w4 := (hb3.alloc hz3 _).grown hg4 (by simp; omega) (fun g hg => (hr3.lt hg).1)
          have hl4 := (hown3.alloc _).kept hg4 (hown3.ne hr3 (by decide))
          clear hg4
          go_wp2
          go_roundw
          case rel =>
            obtain ⟨y1, y2⟩ := HY.out (by trivial)
            exact ⟨k + 1, by omega, by go_num, by rw [y1]; show Value.int .i64 _ = .int .i64 ((n + 1 : Nat) : Int); go_num, by rw [y1]; simpa using hl4, by rw [y2]; simpa using hown4, hb4⟩
          case measure => simp [intOf]; omega
      · have hkm : ((kk : Int) % 8) = 2 := by omega
        have HE : Hid (actEv ⟨kk, op, val⟩ n = ⟨1, (n : Int), true, op, val, true⟩) := by unfold Hid actEv; simp [hm]
        have HCL := Lib.hid (fun W => call_any ⟨1, (n : Int), true, op, val, true⟩ W)
        have HY : Hid (callOk ⟨1, (n : Int), true, op, val, true⟩ = true → recSt s (k + 1) = (l ++ [⟨1, (n : Int), true, op, val, true⟩], n + 1) ∧ recRes s (k + 1) = rs ++ [(n : Int)]) := by
          intro hc
          rw [HST.out, HRS.out, ref_yes (st := (l, n)) (a := ⟨kk, op, val⟩) (by show kk % 8 < 4; omega) (by rw [HE.out]; exact hc), HE.out]
          exact ⟨rfl, rfl⟩
        have HZ : Hid (callOk ⟨1, (n : Int), true, op, val, true⟩ = false → recSt s (k + 1) = (l, n) ∧ recRes s (k + 1) = rs ++ [-1]) := by
          intro hc
          rw [HST.out, HRS.out, ref_no (st := (l, n)) (a := ⟨kk, op, val⟩) (by show kk % 8 < 4; omega) (by rw [HE.out]; exact hc)]
          exact ⟨rfl, rfl⟩
        clear hm HE HST HRS
        generalize hcb : callOk ⟨1, (n : Int), true, op, val, true⟩ = cb at *
        clear hcb
        go_wp2_with fail
        refine (HCL.out _).mono ?_
        rintro q w1 ⟨rfl, hb1⟩
        have hz1 := hb1.size
        simp only [World.size_alloc] at hz1
        have hbb : Below wr.heap.size wr w1 := (below_two wr _ _).trans (hb1.mono (by simp; omega))
        have hown1 := hown.below hbb
        have hres1 := hres.below hbb
        have hb' := hb.trans (hbb.mono hz)
        have hz1' := hb'.size
        have hzlt : wr.heap.size + 1 < w1.heap.size := by omega
        have e0 : w1.cell? ⟨wr.heap.size + 1, 0, none⟩ = some (.int .i64 1) := (hb1.cell (p := ⟨wr.heap.size + 1, 0, none⟩) (by simp)).trans (by rw [cell_of_row _ _ _ _ _ _ (heap_alloc2_new _ _ _)]; rfl)
        have e1 : w1.cell? ⟨wr.heap.size + 1, 1, none⟩ = some (.int .i64 n) := (hb1.cell (p := ⟨wr.heap.size + 1, 1, none⟩) (by simp)).trans (by rw [cell_of_row _ _ _ _ _ _ (heap_alloc2_new _ _ _)]; rfl)
        have e2 : w1.cell? ⟨wr.heap.size + 1, 2, none⟩ = some (.bool true) := (hb1.cell (p := ⟨wr.heap.size + 1, 2, none⟩) (by simp)).trans (by rw [cell_of_row _ _ _ _ _ _ (heap_alloc2_new _ _ _)]; rfl)
        have e3 : w1.cell? ⟨wr.heap.size + 1, 3, none⟩ = some (.int .i64 op) := (hb1.cell (p := ⟨wr.heap.size + 1, 3, none⟩) (by simp)).trans (by rw [cell_of_row _ _ _ _ _ _ (heap_alloc2_new _ _ _)]; rfl)
        have e4 : w1.cell? ⟨wr.heap.size + 1, 4, none⟩ = some (.int .i64 val) := (hb1.cell (p := ⟨wr.heap.size + 1, 4, none⟩) (by simp)).trans (by rw [cell_of_row _ _ _ _ _ _ (heap_alloc2_new _ _ _)]; rfl)
        have e5 : w1.cell? ⟨wr.heap.size + 1, 5, none⟩ = some (.bool true) := (hb1.cell (p := ⟨wr.heap.size + 1, 5, none⟩) (by simp)).trans (by rw [cell_of_row _ _ _ _ _ _ (heap_alloc2_new _ _ _)]; rfl)
        clear hbb hb1 c0 c1 c2
        rcases cb with _ | _
        · go_wp2_with (at_builtin; refine wpList_ap1 rfl (.tmp 92) (.tmp 93) _ rfl elemInt rfl hres1 (icell (-1)) _ rfl _ rfl (by simp) (icellOne _) (by simp [maxLen, HRL.out]; omega) (by simp [HRL.out]; omega) hz1' ?_)
          intro v3 w3 hown3 hg3 _
          have hb3 : Below w.heap.size w w3 := (hb'.alloc hz1' _).grown hg3 (by simp; omega) (fun g hg => (hres1.lt hg).1)
          have hl3 := (hown1.alloc _).kept hg3 (hown1.ne hres1 (by decide))
          clear hg3
          go_wp2
          go_roundw
          case rel =>
            obtain ⟨y1, y2⟩ := HZ.out (by trivial)
            exact ⟨k + 1, by omega, by go_num, by rw [y1], by rw [y1]; exact hl3, by rw [y2]; simpa using hown3, hb3⟩
          case measure => simp [intOf]; omega
        · go_wp2_with (at_builtin; refine wpList_ap1 rfl (.tmp 95) (.tmp 97) _ rfl elemEv rfl hown1 (Ev.cells ⟨1, (n : Int), true, op, val, true⟩) _ rfl _ rfl (by simp) (Ev.one _) (by simp [maxLen, HLN.out]; omega) (by simp [HLN.out]; omega) hz1' ?_)
          intro v3 w3 hown3 hg3 _
          have hb3 : Below w.heap.size w w3 := (hb'.alloc hz1' _).grown hg3 (by simp; omega) (fun g hg => (hown1.lt hg).1)
          have hr3 := (hres1.alloc _).kept hg3 (hres1.ne hown1 (by decide))
          have hz3 := hb3.size
          clear hg3 e0 e1 e2 e3 e4 e5
          go_wp2_with (at_builtin; refine wpList_ap1 rfl (.tmp 99) (.tmp 101) _ rfl elemInt rfl hr3 (icell (n : Int)) _ rfl _ rfl (by simp) (icellOne _) (by simp [maxLen, HRL.out]; omega) (by simp [HRL.out]; omega) hz3 ?_)
          intro v4 w4 hown4 hg4 _
          have hb4 : Below w.heap.size w w4 := (hb3.alloc hz3 _).grown hg4 (by simp; omega) (fun g hg => (hr3.lt hg).1)
          have hl4 := (hown3.alloc _).kept hg4 (hown3.ne hr3 (by decide))
          clear hg4
          go_wp2
          go_roundw
          case rel =>
            obtain ⟨y1, y2⟩ := HY.out (by trivial)
            exact ⟨k + 1, by omega, by go_num, by rw [y1]; show Value.int .i64 _ = .int .i64 ((n + 1 : Nat) : Int); go_num, by rw [y1]; simpa using hl4, by rw [y2]; simpa using hown4, hb4⟩
          case measure => simp [intOf]; omega
      · have hkm : ((kk : Int) % 8) = 3 := by omega
        have HE : Hid (actEv ⟨kk, op, val⟩ n = ⟨1, (n : Int), false, 0, 0, true⟩) := by unfold Hid actEv; simp [hm]
        have HCL := Lib.hid (fun W => call_any ⟨1, (n : Int), false, 0, 0, true⟩ W)
        have HY : Hid (callOk ⟨1, (n : Int), false, 0, 0, true⟩ = true → recSt s (k + 1) = (l ++ [⟨1, (n : Int), false, 0, 0, true⟩], n + 1) ∧ recRes s (k + 1) = rs ++ [(n : Int)]) := by
          intro hc
          rw [HST.out, HRS.out, ref_yes (st := (l, n)) (a := ⟨kk, op, val⟩) (by show kk % 8 < 4; omega) (by rw [HE.out]; exact hc), HE.out]
          exact ⟨rfl, rfl⟩
        have HZ : Hid (callOk ⟨1, (n : Int), false, 0, 0, true⟩ = false → recSt s (k + 1) = (l, n) ∧ recRes s (k + 1) = rs ++ [-1]) := by
          intro hc
          rw [HST.out, HRS.out, ref_no (st := (l, n)) (a := ⟨kk, op, val⟩) (by show kk % 8 < 4; omega) (by rw [HE.out]; exact hc)]
          exact ⟨rfl, rfl⟩
        clear hm HE HST HRS
        generalize hcb : callOk ⟨1, (n : Int), false, 0, 0, true⟩ = cb at *
        clear hcb
        go_wp2_with fail
        refine (HCL.out _).mono ?_
        rintro q w1 ⟨rfl, hb1⟩
        have hz1 := hb1.size
        simp only [World.size_alloc] at hz1
        have hbb : Below wr.heap.size wr w1 := (below_two wr _ _).trans (hb1.mono (by simp; omega))
        have hown1 := hown.below hbb
        have hres1 := hres.below hbb
        have hb' := hb.trans (hbb.mono hz)
        have hz1' := hb'.size
        have hzlt : wr.heap.size + 1 < w1.heap.size := by omega
        have e0 : w1.cell? ⟨wr.heap.size + 1, 0, none⟩ = some (.int .i64 1) := (hb1.cell (p := ⟨wr.heap.size + 1, 0, none⟩) (by simp)).trans (by rw [cell_of_row _ _ _ _ _ _ (heap_alloc2_new _ _ _)]; rfl)
        have e1 : w1.cell? ⟨wr.heap.size + 1, 1, none⟩ = some (.int .i64 n) := (hb1.cell (p := ⟨wr.heap.size + 1, 1, none⟩) (by simp)).trans (by rw [cell_of_row _ _ _ _ _ _ (heap_alloc2_new _ _ _)]; rfl)
        have e2 : w1.cell? ⟨wr.heap.size + 1, 2, none⟩ = some (.bool false) := (hb1.cell (p := ⟨wr.heap.size + 1, 2, none⟩) (by simp)).trans (by rw [cell_of_row _ _ _ _ _ _ (heap_alloc2_new _ _ _)]; rfl)
        have e3 : w1.cell? ⟨wr.heap.size + 1, 3, none⟩ = some (.int .i64 0) := (hb1.cell (p := ⟨wr.heap.size + 1, 3, none⟩) (by simp)).trans (by rw [cell_of_row _ _ _ _ _ _ (heap_alloc2_new _ _ _)]; rfl)
        have e4 : w1.cell? ⟨wr.heap.size + 1, 4, none⟩ = some (.int .i64 0) := (hb1.cell (p := ⟨wr.heap.size + 1, 4, none⟩) (by simp)).trans (by rw [cell_of_row _ _ _ _ _ _ (heap_alloc2_new _ _ _)]; rfl)
        have e5 : w1.cell? ⟨wr.heap.size + 1, 5, none⟩ = some (.bool true) := (hb1.cell (p := ⟨wr.heap.size + 1, 5, none⟩) (by simp)).trans (by rw [cell_of_row _ _ _ _ _ _ (heap_alloc2_new _ _ _)]; rfl)
        clear hbb hb1 c0 c1 c2
        rcases cb with _ | _
        · go_wp2_with (at_builtin; refine wpList_ap1 rfl (.tmp 92) (.tmp 93) _ rfl elemInt rfl hres1 (icell (-1)) _ rfl _ rfl (by simp) (icellOne _) (by simp [maxLen, HRL.out]; omega) (by simp [HRL.out]; omega) hz1' ?_)
          intro v3 w3 hown3 hg3 _
          have hb3 : Below w.heap.size w w3 := (hb'.alloc hz1' _).grown hg3 (by simp; omega) (fun g hg => (hres1.lt hg).1)
          have hl3 := (hown1.alloc _).kept hg3 (hown1.ne hres1 (by decide))
          clear hg3
          go_wp2
          go_roundw
          case rel =>
            obtain ⟨y1, y2⟩ := HZ.out (by trivial)
            exact ⟨k + 1, by omega, by go_num, by rw [y1], by rw [y1]; exact hl3, by rw [y2]; simpa using hown3, hb3⟩
          case measure => simp [intOf]; omega
        · go_wp2_with (at_builtin; refine wpList_ap1 rfl (.tmp 95) (.tmp 97) _ rfl elemEv rfl hown1 (Ev.cells ⟨1, (n : Int), false, 0, 0, true⟩) _ rfl _ rfl (by simp) (Ev.one _) (by simp [maxLen, HLN.out]; omega) (by simp [HLN.out]; omega) hz1' ?_)
          intro v3 w3 hown3 hg3 _
          have hb3 : Below w.heap.size w w3 := (hb'.alloc hz1' _).grown hg3 (by simp; omega) (fun g hg => (hown1.lt hg).1)
          have hr3 := (hres1.alloc _).kept hg3 (hres1.ne hown1 (by decide))
          have hz3 := hb3.size
          clear hg3 e0 e1 e2 e3 e4 e5
          go_wp2_with (at_builtin; refine wpList_ap1 rfl (.tmp 99) (.tmp 101) _ rfl elemInt rfl hr3 (icell (n : Int)) _ rfl _ rfl (by simp) (icellOne _) (by simp [maxLen, HRL.out]; omega) (by simp [HRL.out]; omega) hz3 ?_)
          intro v4 w4 hown4 hg4 _
          have hb4 : Below w.heap.size w w4 := (hb3.alloc hz3 _).grown hg4 (by simp; omega) (fun g hg => (hr3.lt hg).1)
          have hl4 := (hown3.alloc _).kept hg4 (hown3.ne hr3 (by decide))
          clear hg4
          go_wp2
          go_roundw
          case rel =>
            obtain ⟨y1, y2⟩ := HY.out (by trivial)
            exact ⟨k + 1, by omega, by go_num, by rw [y1]; show Value.int .i64 _ = .int .i64 ((n + 1 : Nat) : Int); go_num, by rw [y1]; simpa using hl4, by rw [y2]; simpa using hown4, hb4⟩
          case measure => simp [intOf]; omega
      · have hkm : ((kk : Int) % 8) = 4 := by omega
        by_cases hn0 : 0 < n
        · have hn0' : (0 : Int) < (n : Int) := by omega
          have HOP : Hid (actOp ⟨kk, op, val⟩ n = (op + 128) % (n : Int)) := by unfold Hid; rw [actOp_pos (a := ⟨kk, op, val⟩) (by show kk % 8 < 6; omega) hn0]
          have HD := Lib.hid (fun A c W (hW : EvS W W.heap.size A l) => refdone_any l A c W.heap.size ((op + 128) % (n : Int)) val W hW (Nat.le_refl _) (by rw [HLN.out]; omega))
          have HY : Hid (recSt s (k + 1) = (l ++ (refDone l ((op + 128) % (n : Int)) val).1, n) ∧ recRes s (k + 1) = rs ++ [(refDone l ((op + 128) % (n : Int)) val).2]) := by
            unfold Hid
            rw [HST.out, HRS.out, ref_done (st := (l, n)) (a := ⟨kk, op, val⟩) (by show ¬ kk % 8 < 4; omega) (by show kk % 8 ≠ 7; omega)]
            simp only
            rw [HOP.out]
            exact ⟨rfl, rfl⟩
          have hdl := refDone_len l ((op + 128) % (n : Int)) val
          clear hm HST HRS HOP
          generalize refDone l ((op + 128) % (n : Int)) val = d at *
          have hown1 := (hown.alloc (.cells #[.int .u8 kk, .int .i8 op, .int .i8 val] 78)).alloc (.cells #[.int .i64 1, .int .i64 n, .bool false, .int .i64 op, .int .i64 val, .bool false] 56)
          have hr1 := hown1.reads
          rw [HLN.out] at HD
          go_wp2_with fail
          refine (HD.out _ _ _ hr1).mono ?_
          rintro q w1 ⟨v1', rfl, hd1, hb1⟩
          have hz1 := hb1.size
          simp only [World.size_alloc] at hz1
          have hbb : Below wr.heap.size wr w1 := (below_two wr _ _).trans (hb1.mono (by simp; omega))
          have hownb := hown.below hbb
          have hres1 := hres.below hbb
          have hb' := hb.trans (hbb.mono hz)
          have hz1' := hb'.size
          obtain ⟨Ad, cd, rfl, -, -⟩ := hd1.form
          have hrd := hd1.reads
          rw [List.length_map]
          clear hbb hb1 c0 c1 c2 hd1 hown1 hr1 HD
          generalize hdn : d.1.length = dn at *
          have HDN := Lib.hid hdn
          clear hdn
          go_wp2_with (at_builtin; refine wpList_apS rfl (.tmp 58) (.tmp 59) _ rfl elemEv rfl hownb w1.heap.size Ad _ cd (d.1.map Ev.cells) rfl hrd (by rw [List.length_map, HDN.out]) OwS.oneEv (by simp [maxLen, HLN.out, HDN.out]; omega) (by simp [HLN.out, HDN.out]; omega) hz1' ?_)
          intro v3 w3 hown3 hg3 _
          have hb3 : Below w.heap.size w w3 := hb'.grown hg3 hz1' (fun g hg => (hownb.lt hg).1)
          have hr3 := hres1.kept hg3 (hres1.ne hownb (by decide))
          have hz3 := hb3.size
          clear hg3 hrd
          go_wp2_with (at_builtin; refine wpList_ap1 rfl (.tmp 61) (.tmp 63) _ rfl elemInt rfl hr3 (icell d.2) _ rfl _ rfl (by simp) (icellOne _) (by simp [maxLen, HRL.out]; omega) (by simp [HRL.out]; omega) hz3 ?_)
          intro v4 w4 hown4 hg4 _
          have hb4 : Below w.heap.size w w4 := (hb3.alloc hz3 _).grown hg4 (by simp; omega) (fun g hg => (hr3.lt hg).1)
          have hl4 := (hown3.alloc _).kept hg4 (hown3.ne hr3 (by decide))
          clear hg4
          go_wp2
          go_roundw
          case rel =>
            obtain ⟨y1, y2⟩ := HY.out
            exact ⟨k + 1, by omega, by go_num, by first | (rw [y1]; done) | (rw [y1]; rfl), by rw [y1]; simpa using hl4, by rw [y2]; simpa using hown4, hb4⟩
          case measure => simp [intOf]; omega
        · obtain rfl : n = 0 := by omega
          have hnp : ¬ (kk % 8 < 6 ∧ 0 < 0) := by omega
          have HOP : Hid (actOp ⟨kk, op, val⟩ 0 = op) := by unfold Hid; rw [actOp_neg (a := ⟨kk, op, val⟩) hnp]
          have HD := Lib.hid (fun A c W (hW : EvS W W.heap.size A l) => refdone_any l A c W.heap.size (op) val W hW (Nat.le_refl _) (by rw [HLN.out]; omega))
          have HY : Hid (recSt s (k + 1) = (l ++ (refDone l (op) val).1, 0) ∧ recRes s (k + 1) = rs ++ [(refDone l (op) val).2]) := by
            unfold Hid
            rw [HST.out, HRS.out, ref_done (st := (l, 0)) (a := ⟨kk, op, val⟩) (by show ¬ kk % 8 < 4; omega) (by show kk % 8 ≠ 7; omega)]
            simp only
            rw [HOP.out]
            exact ⟨rfl, rfl⟩
          have hdl := refDone_len l (op) val
          clear hm HST HRS HOP
          generalize refDone l (op) val = d at *
          have hown1 := (hown.alloc (.cells #[.int .u8 kk, .int .i8 op, .int .i8 val] 78)).alloc (.cells #[.int .i64 1, .int .i64 0, .bool false, .int .i64 op, .int .i64 val, .bool false] 56)
          have hr1 := hown1.reads
          rw [HLN.out] at HD
          go_wp2_with fail
          refine (HD.out _ _ _ hr1).mono ?_
          rintro q w1 ⟨v1', rfl, hd1, hb1⟩
          have hz1 := hb1.size
          simp only [World.size_alloc] at hz1
          have hbb : Below wr.heap.size wr w1 := (below_two wr _ _).trans (hb1.mono (by simp; omega))
          have hownb := hown.below hbb
          have hres1 := hres.below hbb
          have hb' := hb.trans (hbb.mono hz)
          have hz1' := hb'.size
          obtain ⟨Ad, cd, rfl, -, -⟩ := hd1.form
          have hrd := hd1.reads
          rw [List.length_map]
          clear hbb hb1 c0 c1 c2 hd1 hown1 hr1 HD
          generalize hdn : d.1.length = dn at *
          have HDN := Lib.hid hdn
          clear hdn
          go_wp2_with (at_builtin; refine wpList_apS rfl (.tmp 58) (.tmp 59) _ rfl elemEv rfl hownb w1.heap.size Ad _ cd (d.1.map Ev.cells) rfl hrd (by rw [List.length_map, HDN.out]) OwS.oneEv (by simp [maxLen, HLN.out, HDN.out]; omega) (by simp [HLN.out, HDN.out]; omega) hz1' ?_)
          intro v3 w3 hown3 hg3 _
          have hb3 : Below w.heap.size w w3 := hb'.grown hg3 hz1' (fun g hg => (hownb.lt hg).1)
          have hr3 := hres1.kept hg3 (hres1.ne hownb (by decide))
          have hz3 := hb3.size
          clear hg3 hrd
          go_wp2_with (at_builtin; refine wpList_ap1 rfl (.tmp 61) (.tmp 63) _ rfl elemInt rfl hr3 (icell d.2) _ rfl _ rfl (by simp) (icellOne _) (by simp [maxLen, HRL.out]; omega) (by simp [HRL.out]; omega) hz3 ?_)
          intro v4 w4 hown4 hg4 _
          have hb4 : Below w.heap.size w w4 := (hb3.alloc hz3 _).grown hg4 (by simp; omega) (fun g hg => (hr3.lt hg).1)
          have hl4 := (hown3.alloc _).kept hg4 (hown3.ne hr3 (by decide))
          clear hg4
          go_wp2
          go_roundw
          case rel =>
            obtain ⟨y1, y2⟩ := HY.out
            exact ⟨k + 1, by omega, by go_num, by first | (rw [y1]; done) | (rw [y1]; rfl), by rw [y1]; simpa using hl4, by rw [y2]; simpa using hown4, hb4⟩
          case measure => simp [intOf]; omega
      · have hkm : ((kk : Int) % 8) = 5 := by omega
        by_cases hn0 : 0 < n
        · have hn0' : (0 : Int) < (n : Int) := by omega
          have HOP : Hid (actOp ⟨kk, op, val⟩ n = (op + 128) % (n : Int)) := by unfold Hid; rw [actOp_pos (a := ⟨kk, op, val⟩) (by show kk % 8 < 6; omega) hn0]
          have HD := Lib.hid (fun A c W (hW : EvS W W.heap.size A l) => refdone_any l A c W.heap.size ((op + 128) % (n : Int)) val W hW (Nat.le_refl _) (by rw [HLN.out]; omega))
          have HY : Hid (recSt s (k + 1) = (l ++ (refDone l ((op + 128) % (n : Int)) val).1, n) ∧ recRes s (k + 1) = rs ++ [(refDone l ((op + 128) % (n : Int)) val).2]) := by
            unfold Hid
            rw [HST.out, HRS.out, ref_done (st := (l, n)) (a := ⟨kk, op, val⟩) (by show ¬ kk % 8 < 4; omega) (by show kk % 8 ≠ 7; omega)]
            simp only
            rw [HOP.out]
            exact ⟨rfl, rfl⟩
          have hdl := refDone_len l ((op + 128) % (n : Int)) val
          clear hm HST HRS HOP
          generalize refDone l ((op + 128) % (n : Int)) val = d at *
          have hown1 := (hown.alloc (.cells #[.int .u8 kk, .int .i8 op, .int .i8 val] 78)).alloc (.cells #[.int .i64 1, .int .i64 n, .bool false, .int .i64 op, .int .i64 val, .bool false] 56)
          have hr1 := hown1.reads
          rw [HLN.out] at HD
          go_wp2_with fail
          refine (HD.out _ _ _ hr1).mono ?_
          rintro q w1 ⟨v1', rfl, hd1, hb1⟩
          have hz1 := hb1.size
          simp only [World.size_alloc] at hz1
          have hbb : Below wr.heap.size wr w1 := (below_two wr _ _).trans (hb1.mono (by simp; omega))
          have hownb := hown.below hbb
          have hres1 := hres.below hbb
          have hb' := hb.trans (hbb.mono hz)
          have hz1' := hb'.size
          obtain ⟨Ad, cd, rfl, -, -⟩ := hd1.form
          have hrd := hd1.reads
          rw [List.length_map]
          clear hbb hb1 c0 c1 c2 hd1 hown1 hr1 HD
          generalize hdn : d.1.length = dn at *
          have HDN := Lib.hid hdn
          clear hdn
          go_wp2_with (at_builtin; refine wpList_apS rfl (.tmp 58) (.tmp 59) _ rfl elemEv rfl hownb w1.heap.size Ad _ cd (d.1.map Ev.cells) rfl hrd (by rw [List.length_map, HDN.out]) OwS.oneEv (by simp [maxLen, HLN.out, HDN.out]; omega) (by simp [HLN.out, HDN.out]; omega) hz1' ?_)
          intro v3 w3 hown3 hg3 _
          have hb3 : Below w.heap.size w w3 := hb'.grown hg3 hz1' (fun g hg => (hownb.lt hg).1)
          have hr3 := hres1.kept hg3 (hres1.ne hownb (by decide))
          have hz3 := hb3.size
          clear hg3 hrd
          go_wp2_with (at_builtin; refine wpList_ap1 rfl (.tmp 61) (.tmp 63) _ rfl elemInt rfl hr3 (icell d.2) _ rfl _ rfl (by simp) (icellOne _) (by simp [maxLen, HRL.out]; omega) (by simp [HRL.out]; omega) hz3 ?_)
          intro v4 w4 hown4 hg4 _
          have hb4 : Below w.heap.size w w4 := (hb3.alloc hz3 _).grown hg4 (by simp; omega) (fun g hg => (hr3.lt hg).1)
          have hl4 := (hown3.alloc _).kept hg4 (hown3.ne hr3 (by decide))
          clear hg4
          go_wp2
          go_roundw
          case rel =>
            obtain ⟨y1, y2⟩ := HY.out
            exact ⟨k + 1, by omega, by go_num, by first | (rw [y1]; done) | (rw [y1]; rfl), by rw [y1]; simpa using hl4, by rw [y2]; simpa using hown4, hb4⟩
          case measure => simp [intOf]; omega
        · obtain rfl : n = 0 := by omega
          have hnp : ¬ (kk % 8 < 6 ∧ 0 < 0) := by omega
          have HOP : Hid (actOp ⟨kk, op, val⟩ 0 = op) := by unfold Hid; rw [actOp_neg (a := ⟨kk, op, val⟩) hnp]
          have HD := Lib.hid (fun A c W (hW : EvS W W.heap.size A l) => refdone_any l A c W.heap.size (op) val W hW (Nat.le_refl _) (by rw [HLN.out]; omega))
          have HY : Hid (recSt s (k + 1) = (l ++ (refDone l (op) val).1, 0) ∧ recRes s (k + 1) = rs ++ [(refDone l (op) val).2]) := by
            unfold Hid
            rw [HST.out, HRS.out, ref_done (st := (l, 0)) (a := ⟨kk, op, val⟩) (by show ¬ kk % 8 < 4; omega) (by show kk % 8 ≠ 7; omega)]
            simp only
            rw [HOP.out]
            exact ⟨rfl, rfl⟩
          have hdl := refDone_len l (op) val
          clear hm HST HRS HOP
          generalize refDone l (op) val = d at *
          have hown1 := (hown.alloc (.cells #[.int .u8 kk, .int .i8 op, .int .i8 val] 78)).alloc (.cells #[.int .i64 1, .int .i64 0, .bool false, .int .i64 op, .int .i64 val, .bool false] 56)
          have hr1 := hown1.reads
          rw [HLN.out] at HD
          go_wp2_with fail
          refine (HD.out _ _ _ hr1).mono ?_
          rintro q w1 ⟨v1', rfl, hd1, hb1⟩
          have hz1 := hb1.size
          simp only [World.size_alloc] at hz1
          have hbb : Below wr.heap.size wr w1 := (below_two wr _ _).trans (hb1.mono (by simp; omega))
          have hownb := hown.below hbb
          have hres1 := hres.below hbb
          have hb' := hb.trans (hbb.mono hz)
          have hz1' := hb'.size
          obtain ⟨Ad, cd, rfl, -, -⟩ := hd1.form
          have hrd := hd1.reads
          rw [List.length_map]
          clear hbb hb1 c0 c1 c2 hd1 hown1 hr1 HD
          generalize hdn : d.1.length = dn at *
          have HDN := Lib.hid hdn
          clear hdn
          go_wp2_with (at_builtin; refine wpList_apS rfl (.tmp 58) (.tmp 59) _ rfl elemEv rfl hownb w1.heap.size Ad _ cd (d.1.map Ev.cells) rfl hrd (by rw [List.length_map, HDN.out]) OwS.oneEv (by simp [maxLen, HLN.out, HDN.out]; omega) (by simp [HLN.out, HDN.out]; omega) hz1' ?_)
          intro v3 w3 hown3 hg3 _
          have hb3 : Below w.heap.size w w3 := hb'.grown hg3 hz1' (fun g hg => (hownb.lt hg).1)
          have hr3 := hres1.kept hg3 (hres1.ne hownb (by decide))
          have hz3 := hb3.size
          clear hg3 hrd
          go_wp2_with (at_builtin; refine wpList_ap1 rfl (.tmp 61) (.tmp 63) _ rfl elemInt rfl hr3 (icell d.2) _ rfl _ rfl (by simp) (icellOne _) (by simp [maxLen, HRL.out]; omega) (by simp [HRL.out]; omega) hz3 ?_)
          intro v4 w4 hown4 hg4 _
          have hb4 : Below w.heap.size w w4 := (hb3.alloc hz3 _).grown hg4 (by simp; omega) (fun g hg => (hr3.lt hg).1)
          have hl4 := (hown3.alloc _).kept hg4 (hown3.ne hr3 (by decide))
          clear hg4
          go_wp2
          go_roundw
          case rel =>
            obtain ⟨y1, y2⟩ := HY.out
            exact ⟨k + 1, by omega, by go_num, by first | (rw [y1]; done) | (rw [y1]; rfl), by rw [y1]; simpa using hl4, by rw [y2]; simpa using hown4, hb4⟩
          case measure => simp [intOf]; omega
      · have hkm : ((kk : Int) % 8) = 6 := by omega
        have hnp : ¬ (kk % 8 < 6 ∧ 0 < n) := by omega
        have HOP : Hid (actOp ⟨kk, op, val⟩ n = op) := by unfold Hid; rw [actOp_neg (a := ⟨kk, op, val⟩) hnp]
        have HD := Lib.hid (fun A c W (hW : EvS W W.heap.size A l) => refdone_any l A c W.heap.size (op) val W hW (Nat.le_refl _) (by rw [HLN.out]; omega))
        have HY : Hid (recSt s (k + 1) = (l ++ (refDone l (op) val).1, n) ∧ recRes s (k + 1) = rs ++ [(refDone l (op) val).2]) := by
          unfold Hid
          rw [HST.out, HRS.out, ref_done (st := (l, n)) (a := ⟨kk, op, val⟩) (by show ¬ kk % 8 < 4; omega) (by show kk % 8 ≠ 7; omega)]
          simp only
          rw [HOP.out]
          exact ⟨rfl, rfl⟩
        have hdl := refDone_len l (op) val
        clear hm HST HRS HOP
        generalize refDone l (op) val = d at *
        have hown1 := (hown.alloc (.cells #[.int .u8 kk, .int .i8 op, .int .i8 val] 78)).alloc (.cells #[.int .i64 1, .int .i64 n, .bool false, .int .i64 op, .int .i64 val, .bool false] 56)
        have hr1 := hown1.reads
        rw [HLN.out] at HD
        go_wp2_with fail
        refine (HD.out _ _ _ hr1).mono ?_
        rintro q w1 ⟨v1', rfl, hd1, hb1⟩
        have hz1 := hb1.size
        simp only [World.size_alloc] at hz1
        have hbb : Below wr.heap.size wr w1 := (below_two wr _ _).trans (hb1.mono (by simp; omega))
        have hownb := hown.below hbb
        have hres1 := hres.below hbb
        have hb' := hb.trans (hbb.mono hz)
        have hz1' := hb'.size
        obtain ⟨Ad, cd, rfl, -, -⟩ := hd1.form
        have hrd := hd1.reads
        rw [List.length_map]
        clear hbb hb1 c0 c1 c2 hd1 hown1 hr1 HD
        generalize hdn : d.1.length = dn at *
        have HDN := Lib.hid hdn
        clear hdn
        go_wp2_with (at_builtin; refine wpList_apS rfl (.tmp 58) (.tmp 59) _ rfl elemEv rfl hownb w1.heap.size Ad _ cd (d.1.map Ev.cells) rfl hrd (by rw [List.length_map, HDN.out]) OwS.oneEv (by simp [maxLen, HLN.out, HDN.out]; omega) (by simp [HLN.out, HDN.out]; omega) hz1' ?_)
        intro v3 w3 hown3 hg3 _
        have hb3 : Below w.heap.size w w3 := hb'.grown hg3 hz1' (fun g hg => (hownb.lt hg).1)
        have hr3 := hres1.kept hg3 (hres1.ne hownb (by decide))
        have hz3 := hb3.size
        clear hg3 hrd
        go_wp2_with (at_builtin; refine wpList_ap1 rfl (.tmp 61) (.tmp 63) _ rfl elemInt rfl hr3 (icell d.2) _ rfl _ rfl (by simp) (icellOne _) (by simp [maxLen, HRL.out]; omega) (by simp [HRL.out]; omega) hz3 ?_)
        intro v4 w4 hown4 hg4 _
        have hb4 : Below w.heap.size w w4 := (hb3.alloc hz3 _).grown hg4 (by simp; omega) (fun g hg => (hr3.lt hg).1)
        have hl4 := (hown3.alloc _).kept hg4 (hown3.ne hr3 (by decide))
        clear hg4
        go_wp2
        go_roundw
        case rel =>
          obtain ⟨y1, y2⟩ := HY.out
          exact ⟨k + 1, by omega, by go_num, by first | (rw [y1]; done) | (rw [y1]; rfl), by rw [y1]; simpa using hl4, by rw [y2]; simpa using hown4, hb4⟩
        case measure => simp [intOf]; omega
      · have hkm : ((kk : Int) % 8) = 7 := by omega
        have HY : Hid (recSt s (k + 1) = (l ++ [Ev.cut], n) ∧ recRes s (k + 1) = rs ++ [0]) := by
          unfold Hid
          rw [HST.out, HRS.out, ref_cut (st := (l, n)) (a := ⟨kk, op, val⟩) hm]
          exact ⟨rfl, rfl⟩
        clear hm HST HRS
        have hown1 := (hown.alloc (.cells #[.int .u8 kk, .int .i8 op, .int .i8 val] 78)).alloc (.cells #[.int .i64 1, .int .i64 n, .bool false, .int .i64 op, .int .i64 val, .bool false] 56)
        have hb' : Below w.heap.size w ((wr.alloc (.cells #[.int .u8 kk, .int .i8 op, .int .i8 val] 78)).alloc (.cells #[.int .i64 1, .int .i64 n, .bool false, .int .i64 op, .int .i64 val, .bool false] 56)) := (hb.alloc hz _).alloc (by simp; omega) _
        go_wp2_with (at_builtin; refine wpList_ap1 rfl (.tmp 82) (.tmp 84) _ rfl elemEv rfl hown1 Ev.cut.cells _ rfl _ rfl (by simp) (Ev.one _) (by simp [maxLen, HLN.out]; omega) (by simp [HLN.out]; omega) (by simp; omega) ?_)
        intro v3 w3 hown3 hg3 _
        have hb3 : Below w.heap.size w w3 := (hb'.alloc (by simp; omega) _).grown hg3 (by simp; omega) (fun g hg => (hown1.lt hg).1)
        have hr3 := (((hres.alloc _).alloc _).alloc _).kept hg3 (hres.ne hown (by decide))
        have hz3 := hb3.size
        clear hg3
        go_wp2_with (at_builtin; refine wpList_ap1 rfl (.tmp 86) (.tmp 87) _ rfl elemInt rfl hr3 (icell 0) _ rfl _ rfl (by simp) (icellOne _) (by simp [maxLen, HRL.out]; omega) (by simp [HRL.out]; omega) hz3 ?_)
        intro v4 w4 hown4 hg4 _
        have hb4 : Below w.heap.size w w4 := (hb3.alloc hz3 _).grown hg4 (by simp; omega) (fun g hg => (hr3.lt hg).1)
        have hl4 := (hown3.alloc _).kept hg4 (hown3.ne hr3 (by decide))
        clear hg4
        go_wp2
        go_roundw
        case rel =>
          obtain ⟨y1, y2⟩ := HY.out
          exact ⟨k + 1, by omega, by go_num, by first | (rw [y1]; done) | (rw [y1]; rfl), by rw [y1]; simpa using hl4, by rw [y2]; simpa using hown4, hb4⟩
        case measure => simp [intOf]; omega
    · obtain rfl : k = s.length := by omega
      go_wp2
      go_ret2
      exact ⟨_, _, rfl, hown, hres, hb⟩
end Go.Proofs.Ytcgbnlhloopnfaa
