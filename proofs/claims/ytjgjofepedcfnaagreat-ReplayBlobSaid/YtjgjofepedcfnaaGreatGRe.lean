/- Walk of tegularef22.Used.
Walks of tegularef22: With, Same.
Walks of tegularef22: Same, Apply.
Walk of tegularef22.Choose.
Walks of design's formed and Check.
Disjoint rows of numbers in memory; the state of layout's measure. No program is walked here. -/
import Derived.Test.YtjgjofepedcfnaaGreatSpY
namespace Go.Proofs.YtjgjofepedcfnaaGreat
open Go.RowKit
section
variable {L : LayD} {ms : List Mv} {d : Int} {k j : Nat}
end
theorem LayB.grown {w w' : World} {X : Nat} {L : LayD} {A : Option Addr} {c base size : Nat} {e : TypeId} {v : Value} {rows : List (List Value)} (h : LayB w X L A c) (ho : OwS w base e size v rows) (hne : e ≠ 36) (hg : w.grownBy w' v.ownBlock) : LayB w' X L A c :=
 (hg.block _ h.lt (fun he => ho.blk_ne h hne he.symm)).trans h
end Go.Proofs.YtjgjofepedcfnaaGreat
namespace Go.Proofs.YtjgjofepedcfnaaGreat
open Go.RowKit
theorem elemMv : Elem Tryz.prog 25 89 4 32 := Elem.mk (z := .agg #[.int .i64 0, .int .i64 0, .int .i64 0, .int .i64 0]) Tryz.underlying25 (by kernel_rfl) (by decide) rfl
theorem withM_len (ms : List Mv) (m : Mv) : (withM ms m).length ≤ ms.length + 1 := withL_len m ms _
def WithR (w : World) (ms : List Mv) (m : Mv) (s5 s6 s7 : Value) (wr : World) : Prop :=
 ∃ (k : Nat) (put : Bool) (out : List Mv), k ≤ ms.length ∧ s6 = .bool put ∧ s7 = .int .i64 k ∧ out ++ withL m put (ms.drop k) = withM ms m ∧ OwS wr (w.heap.size + 1) 89 4 s5 (out.map Mv.cells) ∧ Below w.heap.size w wr ∧ MvB wr w.heap.size m
theorem MvB.made (w : World) (m : Mv) : MvB (w.alloc (.cells #[.int .i64 m.g, .int .i64 m.p, .int .i64 m.to.disk, .int .i64 m.to.block] 89)) w.heap.size m := heap_alloc_new w _
theorem MvB.grown {w w' : World} {X : Nat} {m : Mv} {o : Option Nat} (h : MvB w X m) (hg : w.grownBy w' o) (hne : o ≠ some X) : MvB w' X m := (hg.block _ h.lt (fun he => hne he.symm)).trans h
set_option maxHeartbeats 4000000 in
set_option maxRecDepth 100000 in
theorem r22with {Am : Option Addr} {B cm : Nat} {ms : List Mv} (m : Mv) (w : World) (hM : MvS w B Am ms) (hB : B ≤ w.heap.size) (hlen : ms.length ≤ 100000) :
  Calls Tryz.prog 89 #[.slice Am ms.length cm, m.agg] w fun r w' => (∃ v, r = .returned v ∧ OwS w' w.heap.size 89 4 v ((withM ms m).map Mv.cells)) ∧ Below w.heap.size w w' := by
 have HM := Lib.hid hM
 have HWL := Lib.hid (withM_len ms m)
 have HW0 : Hid (withM ms m = withL m (m.to.disk == -1) ms) := rfl
 unfold Mv.agg
 clear hM
 obtain ⟨put0, hput⟩ : ∃ put0, (m.to.disk == -1) = put0 := ⟨_, rfl⟩
 go_enter Tryz.func89, Tryz.ntmps89
 go_wp2
 have hmb := MvB.made w m
 have hb0 : Below w.heap.size w (w.alloc (.cells #[.int .i64 m.g, .int .i64 m.p, .int .i64 m.to.disk, .int .i64 m.to.block] 89)) := below_laid
 generalize w.alloc _ = w0 at *
 rw [hput] at HW0
 have H0 : Hid (WithR w ms m (.slice none 0 0) (.bool put0) (.int .i64 0) w0) := ⟨0, put0, [], by omega, rfl, rfl, by rw [HW0.out]; simp, OwS.nil _ _ _ _, hb0, hmb⟩
 clear hb0 hmb hput
 go_loopw [5, 6, 7, 8] (fun s5 s6 s7 _ wr => WithR w ms m s5 s6 s7 wr) (fun _ _ s7 _ _ => ms.length - (intOf s7).toNat)
 case atStart => exact H0.out
 case round =>
  clear H0 HW0
  obtain ⟨k, put, out, hk, rfl, rfl, heq, hown, hb, hmb⟩ := hrel
  obtain ⟨A5, c5, rfl, -, -⟩ := hown.form
  rw [List.length_map] at hown ⊢
  have hol : out.length ≤ ms.length + 1 := by
   have := HWL.out
   rw [← heq, List.length_append] at this
   omega
  have HO := Lib.hid hown
  have HB := Lib.hid hb
  have HMB := Lib.hid hmb
  have HEQ := Lib.hid heq
  clear heq
  by_cases hkn : k < ms.length
  ·have hkI : (k : Int) < (ms.length : Int) := by omega
   obtain ⟨x, hxk⟩ := at_some hkn
   obtain ⟨b, off, rfl, -, q0, q1, q2, q3⟩ := MvS.at_ (HM.out.below' hb hB) hxk
   have hdrop : ms.drop k = x :: ms.drop (k + 1) := by
    obtain ⟨h1, rfl⟩ := List.getElem?_eq_some_iff.1 hxk
    exact List.drop_eq_getElem_cons h1
   have HDR := Lib.hid hdrop
   have hsz := hb.size
   have hwl : w.heap.size < wr.heap.size := hmb.lt
   have hmx : MvB (wr.alloc (.cells #[.int .i64 x.g, .int .i64 x.p, .int .i64 x.to.disk, .int .i64 x.to.block] 89)) wr.heap.size x := MvB.made wr x
   have hm1 : MvB (wr.alloc (.cells #[.int .i64 x.g, .int .i64 x.p, .int .i64 x.to.disk, .int .i64 x.to.block] 89)) w.heap.size m := hmb.below below_laid hmb.lt
   have hb1 : Below w.heap.size w (wr.alloc (.cells #[.int .i64 x.g, .int .i64 x.p, .int .i64 x.to.disk, .int .i64 x.to.block] 89)) := hb.trans (below_laid.mono hb.size)
   have ho1 := hown.alloc (.cells #[.int .i64 x.g, .int .i64 x.p, .int .i64 x.to.disk, .int .i64 x.to.block] 89)
   clear hxk hdrop hown hb hmb
   go_upto_region 7 with (fail)
   have hMne : (Value.slice A5 out.length c5).ownBlock ≠ some wr.heap.size := fun he => by
    have := (HO.out.lt (k := wr.heap.size) he).2
    omega
   generalize wr.heap.size = M at *
   generalize wr.alloc _ = w1 at *
   clear HO HB HMB q0 q1 q2 q3
   have HO := Lib.hid ho1
   have HB := Lib.hid hb1
   have HM1 := Lib.hid hm1
   have HMX := Lib.hid hmx
   have HNE := Lib.hid hMne
   obtain ⟨x0, x1, x2, x3⟩ := hmx.cells
   obtain ⟨m0, m1, m2, m3⟩ := hm1.cells
   have hb1s := hb1.size
   have hMl : M < w1.heap.size := hmx.lt
   have hXl : w.heap.size < w1.heap.size := hm1.lt
   clear ho1 hb1 hm1 hmx hMne
   have HKEY : Hid (x.g = m.g → x.p = m.p → withL m put (ms.drop k) = withL m put (ms.drop (k + 1))) := fun h1 h2 => by rw [HDR.out]; simp [withL, h1, h2]
   have HINS : Hid (¬ (x.g = m.g ∧ x.p = m.p) → (put = false ∧ (m.g < x.g ∨ (x.g = m.g ∧ m.p < x.p))) → withL m put (ms.drop k) = m :: x :: withL m true (ms.drop (k + 1))) := fun h1 h2 => by rw [HDR.out]; simp only [withL]; rw [if_neg h1, if_pos h2]
   have HNIN : Hid (¬ (x.g = m.g ∧ x.p = m.p) → ¬ (put = false ∧ (m.g < x.g ∨ (x.g = m.g ∧ m.p < x.p))) → withL m put (ms.drop k) = x :: withL m put (ms.drop (k + 1))) := fun h1 h2 => by rw [HDR.out]; simp only [withL]; rw [if_neg h1, if_neg h2]
   by_cases hkey : x.g = m.g ∧ x.p = m.p
   ·have f1 : (x.g == m.g) = true := by simpa using hkey.1
    have f2 : (x.p == m.p) = true := by simpa using hkey.2
    have HR := Lib.hid (HKEY.out hkey.1 hkey.2)
    clear hkey
    go_wp2
    go_roundw
    case rel => exact ⟨k + 1, put, out, by omega, rfl, by go_num, by rw [← HR.out]; exact HEQ.out, HO.out, HB.out, HM1.out⟩
    case measure => simp [intOf] <;> omega
   ·go_cut [34] (fun s34 wx => s34 = .bool false ∧ wx = w1)
    case first =>
     by_cases e1 : x.g = m.g
     ·have f1 : (x.g == m.g) = true := by simpa using e1
      have f2 : (x.p == m.p) = false := by simpa using fun h => hkey ⟨e1, h⟩
      clear e1 hkey
      go_wp2_with fail
      go_meet
      exact ⟨rfl, rfl⟩
     ·have f1 : (x.g == m.g) = false := by simpa using e1
      clear e1 hkey
      go_wp2_with fail
      go_meet
      exact ⟨rfl, rfl⟩
    obtain ⟨rfl, rfl⟩ := hcut
    go_upto_region 8 with (fail)
    obtain ⟨ins, hins⟩ : ∃ ins, decide (put = false ∧ (m.g < x.g ∨ (x.g = m.g ∧ m.p < x.p))) = ins := ⟨_, rfl⟩
    have HINB := Lib.hid hins
    go_cut [57] (fun s57 wx => s57 = .bool ins ∧ wx = wc)
    case first =>
     cases put
     ·rcases (show m.g < x.g ∨ (¬ m.g < x.g ∧ x.g ≠ m.g) ∨ (¬ m.g < x.g ∧ x.g = m.g ∧ m.p < x.p) ∨ (¬ m.g < x.g ∧ x.g = m.g ∧ ¬ m.p < x.p) by omega) with e1 | ⟨e1, e2⟩ | ⟨e1, e2, e3⟩ | ⟨e1, e2, e3⟩
      ·obtain rfl : ins = true := by rw [← hins, decide_eq_true_iff]; exact ⟨rfl, .inl e1⟩
       have f1 : decide (m.g < x.g) = true := by rw [decide_eq_true_iff]; exact e1
       clear e1 hins hkey
       go_wp2_with fail
       go_meet
       exact ⟨rfl, rfl⟩
      ·obtain rfl : ins = false := by rw [← hins, decide_eq_false_iff_not]; omega
       have f1 : decide (m.g < x.g) = false := by rw [decide_eq_false_iff_not]; exact e1
       have f2 : (x.g == m.g) = false := by simpa using e2
       clear e1 e2 hins hkey
       go_wp2_with fail
       go_meet
       exact ⟨rfl, rfl⟩
      ·obtain rfl : ins = true := by rw [← hins, decide_eq_true_iff]; exact ⟨rfl, .inr ⟨e2, e3⟩⟩
       have f1 : decide (m.g < x.g) = false := by rw [decide_eq_false_iff_not]; exact e1
       have f2 : (x.g == m.g) = true := by simpa using e2
       have f3 : decide (m.p < x.p) = true := by rw [decide_eq_true_iff]; exact e3
       clear e1 e2 e3 hins hkey
       go_wp2_with fail
       go_meet
       exact ⟨rfl, rfl⟩
      ·obtain rfl : ins = false := by rw [← hins, decide_eq_false_iff_not]; omega
       have f1 : decide (m.g < x.g) = false := by rw [decide_eq_false_iff_not]; exact e1
       have f2 : (x.g == m.g) = true := by simpa using e2
       have f3 : decide (m.p < x.p) = false := by rw [decide_eq_false_iff_not]; exact e3
       clear e1 e2 e3 hins hkey
       go_wp2_with fail
       go_meet
       exact ⟨rfl, rfl⟩
     ·obtain rfl : ins = false := by rw [← hins]; simp
      clear hins hkey
      go_wp2_with fail
      go_meet
      exact ⟨rfl, rfl⟩
    obtain ⟨rfl, rfl⟩ := hcut
    cases ins
    ·have HR := Lib.hid (HNIN.out hkey (by have := HINB.out; rwa [decide_eq_false_iff_not] at this))
     clear hins hkey
     go_wp2_with (at_builtin; refine wpList_ap1 rfl (.tmp 62) (.tmp 64) _ rfl elemMv rfl HO.out x.cells _ (by rfl) wc.heap.size (by rfl) (by rfl) (Mv.one x) (by simp [maxLen]; omega) (by simp; omega) (by omega) ?_)
     rintro v1 w3 hown1 hg1 -
     have HO1 : Hid (OwS w3 (w.heap.size + 1) 89 4 v1 ((out ++ [x]).map Mv.cells)) := by
      rw [Hid, List.map_append]
      exact hown1
     have HB1 : Hid (Below w.heap.size w w3) := (HB.out.alloc HB.out.size _).grown hg1 (by simp; omega) (fun g hg => by have := (HO.out.lt hg).1; omega)
     have HM2 : Hid (MvB w3 w.heap.size m) := (HM1.out.below below_laid HM1.out.lt).grown hg1 (fun he => by have := (HO.out.lt he).1; omega)
     clear hown1 hg1
     go_wp2
     go_roundw
     case rel => exact ⟨k + 1, put, out ++ [x], by omega, rfl, by go_num, by rw [← HEQ.out, HR.out]; simp, HO1.out, HB1.out, HM2.out⟩
     case measure => simp [intOf] <;> omega
    ·have HR := Lib.hid (HINS.out hkey (by have := HINB.out; rwa [decide_eq_true_iff] at this))
     clear hins hkey
     go_wp2_with (at_builtin; refine wpList_ap1 rfl (.tmp 58) (.tmp 60) _ rfl elemMv rfl HO.out m.cells _ (by rfl) wc.heap.size (by rfl) (by rfl) (Mv.one m) (by simp [maxLen]; omega) (by simp; omega) (by omega) ?_)
     rintro v1 w3 hown1 hg1 hvb
     have hown1' : OwS w3 (w.heap.size + 1) 89 4 v1 ((out ++ [m]).map Mv.cells) := by
      rw [List.map_append]
      exact hown1
     have hB1 : Below w.heap.size w w3 := (HB.out.alloc HB.out.size _).grown hg1 (by simp; omega) (fun g hg => by have := (HO.out.lt hg).1; omega)
     have hM2 : MvB w3 w.heap.size m := (HM1.out.below below_laid HM1.out.lt).grown hg1 (fun he => by have := (HO.out.lt he).1; omega)
     have hX2 : MvB w3 M x := (HMX.out.below below_laid HMX.out.lt).grown hg1 HNE.out
     obtain ⟨A6, c6, rfl, -, -⟩ := hown1'.form
     have e6 : ((out ++ [m]).map Mv.cells).length = out.length + 1 := by simp
     rw [e6] at hown1' ⊢
     clear e6
     have hz3 : w.heap.size + 1 ≤ w3.heap.size := by have := hM2.lt; omega
     obtain ⟨x0', x1', x2', x3'⟩ := hX2.cells
     have HO1 := Lib.hid hown1'
     have HB1 := Lib.hid hB1
     have HM2 := Lib.hid hM2
     clear hown1 hown1' hg1 hvb hB1 hM2 hX2
     go_wp2_with (at_builtin; refine wpList_ap1 rfl (.tmp 62) (.tmp 64) _ rfl elemMv rfl HO1.out x.cells _ (by rfl) w3.heap.size (by rfl) (by rfl) (Mv.one x) (by simp [maxLen]; omega) (by simp; omega) hz3 ?_)
     rintro v2 w4 hown2 hg2 -
     have HO2 : Hid (OwS w4 (w.heap.size + 1) 89 4 v2 ((out ++ [m, x]).map Mv.cells)) := by
      rw [Hid, List.map_append]
      simpa using hown2
     have HB3 : Hid (Below w.heap.size w w4) := (HB1.out.alloc HB1.out.size _).grown hg2 (by simp; omega) (fun g hg => by have := (HO1.out.lt hg).1; omega)
     have HM3 : Hid (MvB w4 w.heap.size m) := (HM2.out.below below_laid HM2.out.lt).grown hg2 (fun he => by have := (HO1.out.lt he).1; omega)
     clear hown2 hg2
     go_wp2
     go_roundw
     case rel => exact ⟨k + 1, true, out ++ [m, x], by omega, rfl, by go_num, by rw [← HEQ.out, HR.out]; simp, HO2.out, HB3.out, HM3.out⟩
     case measure => simp [intOf] <;> omega
  ·have hkI : ¬ (k : Int) < (ms.length : Int) := by omega
   have hdr : ms.drop k = [] := List.drop_eq_nil_of_le (by omega)
   obtain ⟨m0, m1, m2, m3⟩ := hmb.cells
   have hsz := hb.size
   have hXl : w.heap.size < wr.heap.size := hmb.lt
   cases put
   ·have HR : Hid (withM ms m = out ++ [m]) := by rw [Hid, ← HEQ.out, hdr]; simp [withL]
    clear hdr hown hb hmb
    go_wp2_with (at_builtin; refine wpList_ap1 rfl (.tmp 68) (.tmp 70) _ rfl elemMv rfl HO.out m.cells _ (by rfl) wr.heap.size (by rfl) (by rfl) (Mv.one m) (by simp [maxLen]; omega) (by simp; omega) (by omega) ?_)
    rintro v1 w3 hown1 hg1 -
    have HO1 : Hid (OwS w3 (w.heap.size + 1) 89 4 v1 ((withM ms m).map Mv.cells)) := by
     rw [Hid, HR.out, List.map_append]
     exact hown1
    have HB1 : Hid (Below w.heap.size w w3) := (HB.out.alloc HB.out.size _).grown hg1 (by simp; omega) (fun g hg => by have := (HO.out.lt hg).1; omega)
    clear hown1 hg1
    go_wp2
    go_ret
    exact ⟨⟨_, rfl, HO1.out.mono (by omega)⟩, HB1.out⟩
   ·have HR : Hid (withM ms m = out) := by rw [Hid, ← HEQ.out, hdr]; simp [withL]
    clear hdr hown hb hmb
    go_wp2
    go_ret
    exact ⟨⟨_, rfl, by rw [HR.out]; exact HO.out.mono (by omega)⟩, HB.out⟩
end Go.Proofs.YtjgjofepedcfnaaGreat
namespace Go.Proofs.YtjgjofepedcfnaaGreat
open Go.RowKit
theorem OwS.rds {w : World} {B : Nat} {A : Option Addr} {n c : Nat} {ms : List Mv} (h : OwS w B 89 4 (.slice A n c) (ms.map Mv.cells)) : n = ms.length ∧ MvS w w.heap.size A ms := by
 refine ⟨?_, h.reads⟩
 obtain ⟨A', c', he, -⟩ := h.form
 rw [List.length_map] at he
 injection he
set_option maxHeartbeats 2000000 in
set_option maxRecDepth 100000 in
theorem r22apply {L : LayD} {A Am : Option Addr} {B c cm : Nat} {ms : List Mv} (m : Mv) (w : World) (hx : LayX L) (hv : GsV w B A L.gs) (hM : MvS w B Am ms) (hB : B ≤ w.heap.size) (hlen : ms.length ≤ 100000) :
  Calls Tryz.prog 46 #[layAgg L A c, .slice Am ms.length cm, m.agg] w fun r w' => (∃ v, r = .returned (.tuple #[v, .int .i64 (applyL L ms m).2]) ∧ OwS w' w.heap.size 89 4 v ((applyL L ms m).1.map Mv.cells)) ∧ Below w.heap.size w w' := by
 have HV := Lib.hid hv
 have HM := Lib.hid hM
 have HCI := Lib.hid (fun W hv hB => r21is (L := L) (A := A) (B := B) (c := c) m.g m.p W hx hv hB)
 have HCW := Lib.hid (fun W hM hB => r22with (Am := Am) (B := B) (cm := cm) (ms := ms) m W hM hB hlen)
 have HCV := Lib.hid (fun (Ax : Option Addr) (Bx cx : Nat) (W : World) hv hM hB => r22valid (L := L) (A := A) (Am := Ax) (B := Bx) (c := c) (cm := cx) (ms := withM ms m) W hx hv hM hB (by have := withM_len ms m; omega))
 have HAP : Hid (applyL L ms m = if isP L m.g m.p = false then ([], 2) else if m.to.disk = -1 ∧ (withM ms m).length = ms.length then ([], 9) else if validM L (withM ms m) then (withM ms m, 0) else ([], 1)) := rfl
 have HWL := Lib.hid (withM_len ms m)
 unfold layAgg at *
 unfold Mv.agg at *
 clear hv hM
 generalize applyL L ms m = res at *
 go_enter Tryz.func46, Tryz.ntmps46
 go_wp2_with fail
 have hl0 := (LayB.made w L A c).below (below_laid (o := .cells #[.int .i64 m.g, .int .i64 m.p, .int .i64 m.to.disk, .int .i64 m.to.block] 89)) (by simp)
 have hm0 : MvB ((w.alloc (.cells #[.int .i64 L.disks, .slice A L.n c, .int .i64 L.tiles, .int .i64 L.spare] 36)).alloc (.cells #[.int .i64 m.g, .int .i64 m.p, .int .i64 m.to.disk, .int .i64 m.to.block] 89)) (w.heap.size + 1) m := by
  have := MvB.made (w.alloc (.cells #[.int .i64 L.disks, .slice A L.n c, .int .i64 L.tiles, .int .i64 L.spare] 36)) m
  simpa using this
 have hb0 : Below w.heap.size w ((w.alloc (.cells #[.int .i64 L.disks, .slice A L.n c, .int .i64 L.tiles, .int .i64 L.spare] 36)).alloc (.cells #[.int .i64 m.g, .int .i64 m.p, .int .i64 m.to.disk, .int .i64 m.to.block] 89)) := (below_laid (w := w)).trans ((below_laid (w := w.alloc _)).mono (by simp))
 generalize (w.alloc _).alloc _ = w0 at *
 have hB0 : B ≤ w0.heap.size := Nat.le_trans hB hb0.size
 refine (HCI.out w0 (HV.out.below hb0 hB) hB0).mono ?_
 rintro r w1 ⟨rfl, hb1⟩
 have HB1 := Lib.hid (hb0.trans (hb1.mono hb0.size))
 have HL1 := Lib.hid (hl0.below hb1 hl0.lt)
 have hm1 := hm0.below hb1 hm0.lt
 have HM1 := Lib.hid hm1
 obtain ⟨m0, m1, m2, m3⟩ := hm1.cells
 clear hb0 hb1 hl0 hm0 hm1 hB0
 obtain ⟨ip, hip⟩ : ∃ ip, isP L m.g m.p = ip := ⟨_, rfl⟩
 rw [hip] at HAP ⊢
 clear hip
 cases ip
 ·have HR : Hid (res = ([], 2)) := by rw [Hid, HAP.out]; simp
  go_wp2
  go_ret2
  exact ⟨⟨_, by rw [HR.out]; rfl, by rw [HR.out]; exact OwS.nil _ _ _ _⟩, HB1.out⟩
 ·go_wp2_with fail
  refine (HCW.out w1 (HM.out.below' HB1.out hB) (Nat.le_trans hB HB1.out.size)).mono ?_
  rintro r w2 ⟨⟨v, rfl, hown⟩, hb2⟩
  obtain ⟨A8, c8, rfl, -, -⟩ := hown.form
  rw [List.length_map] at hown ⊢
  have HO := Lib.hid hown
  have HB2 := Lib.hid (HB1.out.trans (hb2.mono HB1.out.size))
  have hl2 := HL1.out.below hb2 HL1.out.lt
  have hm2 := HM1.out.below hb2 HM1.out.lt
  obtain ⟨n0, n1, n2, n3⟩ := hm2.cells
  obtain ⟨l0, l1, l2, l3⟩ := hl2.cells
  have HZ : Hid (w.heap.size ≤ w1.heap.size) := HB1.out.size
  clear hown hb2 hl2 hm2 m0 m1 m2 m3
  have hwl := HWL.out
  generalize hnl : (withM ms m).length = nl at *
  have HNL := Lib.hid hnl
  clear hnl
  by_cases h1 : m.to.disk = -1 ∧ nl = ms.length
  ·have HR : Hid (res = ([], 9)) := by rw [Hid, HAP.out]; simp [h1]
   have f1 : (m.to.disk == -1) = true := by simpa using h1.1
   obtain rfl := h1.2
   clear h1
   go_wp2
   go_ret2
   exact ⟨⟨_, by rw [HR.out]; rfl, by rw [HR.out]; exact OwS.nil _ _ _ _⟩, HB2.out⟩
  ·have HAP2 : Hid (res = if validM L (withM ms m) then (withM ms m, 0) else ([], 1)) := by rw [Hid, HAP.out, if_neg (by simp), if_neg h1]
   have HCV2 := Lib.hid (HCV.out A8 w2.heap.size c8 w2 ((HV.out.below HB2.out hB).more (Nat.le_trans hB HB2.out.size)) HO.out.rds.2 (Nat.le_refl _))
   obtain ⟨vv, hvv⟩ : ∃ vv, validM L (withM ms m) = vv := ⟨_, rfl⟩
   rw [hvv] at HAP2 HCV2
   clear hvv
   go_upto_region 4 with (fail)
   go_cut [29] (fun s29 wx => s29 = .bool false ∧ wx = w2)
   case first =>
    by_cases e1 : m.to.disk = -1
    ·have f1 : (m.to.disk == -1) = true := by simpa using e1
     have f2 : (nl == ms.length) = false := by simpa using fun h => h1 ⟨e1, h⟩
     have f3 : ((nl : Int) == (ms.length : Int)) = false := by simpa using fun h => h1 ⟨e1, by omega⟩
     clear e1 h1
     go_wp2_with fail
     go_meet
     exact ⟨rfl, rfl⟩
    ·have f1 : (m.to.disk == -1) = false := by simpa using e1
     clear e1 h1
     go_wp2_with fail
     go_meet
     exact ⟨rfl, rfl⟩
   obtain ⟨rfl, rfl⟩ := hcut
   clear h1
   go_wp2_with fail
   refine HCV2.out.mono ?_
   rintro r w3 ⟨rfl, hb3⟩
   have HB3 := Lib.hid (HB2.out.trans (hb3.mono HB2.out.size))
   have HO3 := Lib.hid (HO.out.below hb3)
   clear hb3
   cases vv
   ·have HR : Hid (res = ([], 1)) := by rw [Hid, HAP2.out]; simp
    go_wp2
    go_ret2
    exact ⟨⟨_, by rw [HR.out]; rfl, by rw [HR.out]; exact OwS.nil _ _ _ _⟩, HB3.out⟩
   ·have HR : Hid (res = (withM ms m, 0)) := by rw [Hid, HAP2.out]; simp
    go_wp2
    go_ret2
    exact ⟨⟨_, by rw [HR.out]; rfl, by rw [HR.out]; exact HO3.out.mono HZ.out⟩, HB3.out⟩
end Go.Proofs.YtjgjofepedcfnaaGreat
namespace Go.Proofs.YtjgjofepedcfnaaGreat
open Go.RowKit
section
variable {L : LayD} {ms : List Mv} {g : Int} {dead : List Bool} {k : Nat}
end
def PlB (w : World) (X : Nat) (t : Plc) : Prop := w.heap[X]? = some (.cells #[.int .i64 t.disk, .int .i64 t.block] 87)
section
variable {w w' : World} {X : Nat} {t : Plc}
theorem PlB.cells (h : PlB w X t) : w.cell? ⟨X, 0, none⟩ = some (.int .i64 t.disk) ∧ w.cell? ⟨X, 1, none⟩ = some (.int .i64 t.block) ∧ w.frozen? ⟨X, 0, none⟩ = false ∧ w.frozen? ⟨X, 1, none⟩ = false :=
 ⟨by rw [cell_of_row _ _ _ _ _ _ h]; rfl, by rw [cell_of_row _ _ _ _ _ _ h]; rfl, frozen_of_row _ _ _ _ _ h, frozen_of_row _ _ _ _ _ h⟩
theorem PlB.lt (h : PlB w X t) : X < w.heap.size := (Array.getElem?_eq_some_iff.1 h).1
theorem PlB.below {C : Nat} (h : PlB w X t) (hb : Below C w w') (hC : X < C) : PlB w' X t := (hb.block _ hC).trans h
theorem PlB.set (h : PlB w X t) (u : Plc) : PlB ((w.setCell ⟨X, 0, none⟩ (.int .i64 u.disk)).setCell ⟨X, 1, none⟩ (.int .i64 u.block)) X u := by
 have hb2 := heap_setCell_same w X 0 _ _ (.int .i64 u.disk) h
 unfold PlB
 rw [heap_setCell_same _ X 1 _ _ _ hb2]
 rfl
theorem LayB.far {L : LayD} {A : Option Addr} {c : Nat} (h : LayB w X L A c) {p : Addr} (hp : X ≠ p.block) (u : Value) : LayB (w.setCell p u) X L A c := (heap_setCell_other w _ _ _ hp).trans h
end
end Go.Proofs.YtjgjofepedcfnaaGreat
namespace Go.Proofs.YtjgjofepedcfnaaGreat
open Go.RowKit
set_option maxHeartbeats 4000000 in
set_option maxRecDepth 100000 in
theorem formed_any {d wd r lam B : Nat} {gs : List (List Nat)} {A : Option Addr} {c : Nat} (w : World) (h : desB d wd r lam gs = true) (hV : GsV w B A gs) (hB : B ≤ w.heap.size) (hd : 2 ≤ d ∧ d ≤ 60) (hw : 2 ≤ wd ∧ wd ≤ 16) (hn : gs.length ≤ 4096) :
  Calls Tryz.prog 142 #[.agg #[.int .i64 (d : Int), .slice A gs.length c]] w fun e w' => e = .returned (.bool true) ∧ Below w.heap.size w w' := by
 have HV := Lib.hid hV
 have hds := des_parts h
 have hn1 : ¬ ((gs.length : Int) < 1) := by have := hds.1; omega
 have hn2 : ¬ (4096 < (gs.length : Int)) := by omega
 have hn3 : (0 : Int) < (gs.length : Int) := by have := hds.1; omega
 have hd1 : ¬ ((d : Int) < 2) := by omega
 have hd2 : ¬ (60 < (d : Int)) := by omega
 have hw1 : ¬ ((wd : Int) < 2) := by omega
 have HP := Lib.hid hds.2
 obtain ⟨l0, hl0⟩ : ∃ l, gs[0]? = some l := at_some (by omega)
 have HL0 := Lib.hid hl0
 obtain ⟨b, off, A0, c0, hA, hbB, hat0⟩ := hV.at_ hl0
 subst hA
 have HFI : Hid (∀ W, Below w.heap.size w W → W.cell? ⟨b, off, none⟩ = some (.slice A0 wd c0)) := fun W hW => by
  have := (hat0 W w.heap.size hW hB).1
  rw [(HP.out l0 (List.mem_of_getElem? HL0.out)).1, Nat.add_zero] at this
  exact this
 clear hV h hds hat0 hl0
 have g0 := HFI.out (w.alloc (.cells #[.int .i64 (d : Int), .slice (some ⟨b, off, none⟩) gs.length c] 34)) below_laid
 go_enter Tryz.func142, Tryz.ntmps142
 go_wp2
 have hbx := heap_alloc_new w (.cells #[.int .i64 (d : Int), .slice (some ⟨b, off, none⟩) gs.length c] 34)
 have hb0 : Below w.heap.size w (w.alloc (.cells #[.int .i64 (d : Int), .slice (some ⟨b, off, none⟩) gs.length c] 34)) := below_laid
 generalize w.alloc _ = w0 at *
 have c0' : w0.cell? ⟨w.heap.size, 0, none⟩ = some (.int .i64 (d : Int)) := by rw [cell_of_row _ _ _ _ _ _ hbx]; rfl
 have c1' : w0.cell? ⟨w.heap.size, 1, none⟩ = some (.slice (some ⟨b, off, none⟩) gs.length c) := by rw [cell_of_row _ _ _ _ _ _ hbx]; rfl
 have HB0 := Lib.hid hb0
 clear hbx hb0
 go_loopw [38, 4, 5, 6, 52] (fun s38 _ _ _ _ wr => ∃ j : Nat, j ≤ gs.length ∧ s38 = .int .i64 j ∧ wr = w0) (fun s38 _ _ _ _ _ => gs.length - (intOf s38).toNat)
 case atStart => exact ⟨0, by omega, rfl, rfl⟩
 case round =>
  obtain ⟨j, hj, rfl, rfl⟩ := hrel
  by_cases hjn : j < gs.length
  ·have hjI : (j : Int) < (gs.length : Int) := by omega
   obtain ⟨l, hl⟩ := at_some hjn
   obtain ⟨b', off', Al, cl, hA', -, hat⟩ := HV.out.at_ hl
   cases hA'
   have hlw := (HP.out l (List.mem_of_getElem? hl)).1
   obtain ⟨g1, hI⟩ := hat wr w.heap.size HB0.out hB
   rw [hlw] at g1
   have HLW := Lib.hid hlw
   have HGL := Lib.hid hl
   have HII := Lib.hid hI
   clear hlw hl hI hat
   go_wp2
   go_loopw [52, 5, 6] (fun s52 _ _ wx => ∃ i : Nat, i ≤ wd ∧ s52 = .int .i64 i ∧ wx = wr) (fun s52 _ _ _ => wd - (intOf s52).toNat)
   case atStart => exact ⟨0, by omega, rfl, rfl⟩
   case round =>
    obtain ⟨i, hi, rfl, rfl⟩ := hrel
    by_cases hiw : i < wd
    ·have hiI : (i : Int) < (wd : Int) := by omega
     obtain ⟨x, hx⟩ : ∃ x, l[i]? = some x := at_some (by rw [HLW.out]; exact hiw)
     obtain ⟨bl, ol, rfl, -, e1⟩ := nints_at HII.out hx
     have hxd := (HP.out l (List.mem_of_getElem? HGL.out)).2.2 x (List.mem_of_getElem? hx)
     have hx0 : decide ((x : Int) < 0) = false := by rw [decide_eq_false_iff_not]; omega
     have hx1 : decide (d ≤ x) = false := by rw [decide_eq_false_iff_not]; omega
     rcases i with _ | p
     ·simp only [Nat.add_zero] at e1
      clear hx
      go_wp2
      go_roundw
      case rel => exact ⟨1, by omega, by go_num, trivial⟩
      case measure => simp [intOf] <;> omega
     ·obtain ⟨y, hy⟩ : ∃ y, l[p]? = some y := at_some (by rw [HLW.out]; omega)
      obtain ⟨bl', ol', e, -, e2⟩ := nints_at HII.out hy
      cases e
      have hyx : y < x := inc_adj (HP.out l (List.mem_of_getElem? HGL.out)).2.1 hx hy
      have hiI : (p : Int) + 1 < (wd : Int) := by omega
      have hyI : decide (x ≤ y) = false := by rw [decide_eq_false_iff_not]; omega
      have hpI : decide ((0 : Int) < (p : Int) + 1) = true := by rw [decide_eq_true_iff]; omega
      clear hx hy
      go_wp2
      go_roundw
      case rel => exact ⟨p + 2, by omega, by go_num, trivial⟩
      case measure => simp [intOf] <;> omega
    ·have hiI : ¬ (i : Int) < (wd : Int) := by omega
     go_wp2
     go_roundw
     case rel => exact ⟨j + 1, by omega, by go_num, trivial⟩
     case measure => simp [intOf] <;> omega
  ·have hjI : ¬ (j : Int) < (gs.length : Int) := by omega
   go_wp2
   go_ret
   exact ⟨rfl, HB0.out⟩
set_option maxHeartbeats 4000000 in
set_option maxRecDepth 100000 in
theorem dcheck_any {d wd r lam B : Nat} {gs : List (List Nat)} {A : Option Addr} {c : Nat} (w : World) (h : desB d wd r lam gs = true) (hV : GsV w B A gs) (hB : B ≤ w.heap.size) (hd : 2 ≤ d ∧ d ≤ 60) (hw : 2 ≤ wd ∧ wd ≤ 16) (hn : gs.length ≤ 4096) (hlam : 1 ≤ lam) :
  Calls Tryz.prog 118 #[.agg #[.int .i64 (d : Int), .slice A gs.length c]] w fun e w' => e = .returned (.tuple #[.int .i64 (r : Int), .int .i64 (lam : Int), .int .i64 0]) ∧ Below w.heap.size w w' := by
 have HV := Lib.hid hV
 have HX := Lib.hid h
 have hds := des_parts h
 have HP := Lib.hid hds.2
 have HFO := Lib.hid (fun W hV hB => formed_any (d := d) (wd := wd) (r := r) (lam := lam) (B := B) (gs := gs) (A := A) (c := c) W h hV hB hd hw hn)
 have hn1 := hds.1
 clear hV h hds
 go_enter Tryz.func118, Tryz.ntmps118
 go_wp2_with fail
 have hbx := heap_alloc_new w (.cells #[.int .i64 (d : Int), .slice A gs.length c] 34)
 have hb0 : Below w.heap.size w (w.alloc (.cells #[.int .i64 (d : Int), .slice A gs.length c] 34)) := below_laid
 generalize w.alloc _ = w0 at *
 have hxl : w.heap.size < w0.heap.size := (Array.getElem?_eq_some_iff.1 hbx).1
 refine (HFO.out w0 (HV.out.below hb0 hB) (Nat.le_trans hB hb0.size)).mono ?_
 rintro e w1 ⟨rfl, hb1⟩
 have HB1 := Lib.hid (hb0.trans (hb1.mono hb0.size))
 have hbx1 := (hb1.block _ hxl).trans hbx
 have HBX := Lib.hid hbx1
 have HXL : Hid (w.heap.size < w1.heap.size) := (Array.getElem?_eq_some_iff.1 hbx1).1
 clear hbx hb0 hb1 hbx1 hxl
 have HBB : Hid (∀ wr, Below w1.heap.size w1 wr → wr.cell? ⟨w.heap.size, 0, none⟩ = some (.int .i64 (d : Int)) ∧ wr.cell? ⟨w.heap.size, 1, none⟩ = some (.slice A gs.length c)) := by
  intro wr hb
  have hbx := (hb.block _ HXL.out).trans HBX.out
  exact ⟨by rw [cell_of_row _ _ _ _ _ _ hbx]; rfl, by rw [cell_of_row _ _ _ _ _ _ hbx]; rfl⟩
 have hv1 := HV.out.below HB1.out hB
 have hB1 : B ≤ w1.heap.size := Nat.le_trans hB HB1.out.size
 have HV1 := Lib.hid hv1
 have HPZ : Hid (PairV (w1.alloc (.cells Tryz.zeroCells178 178)) w1.heap.size 178 (pairTo gs 0)) := by rw [Hid, pair_zero]; exact PairV.zero w1
 have HBZ : Hid (Below w1.heap.size w1 (w1.alloc (.cells Tryz.zeroCells178 178))) := below_laid
 obtain ⟨z0, z1⟩ := HBB.out _ HBZ.out
 clear hv1
 go_wp2
 clear z0 z1
 generalize hD : w1.heap.size = D at *
 generalize w1.alloc _ = w2 at *
 have HD := Lib.hid hD
 clear hD
 go_loopw [23, 7, 9, 11, 29, 35] (fun s23 _ _ _ _ _ wr => ∃ j : Nat, j ≤ gs.length ∧ s23 = .int .i64 j ∧ PairV wr D 178 (pairTo gs j) ∧ Below D w1 wr) (fun s23 _ _ _ _ _ _ => gs.length - (intOf s23).toNat)
 case atStart => exact ⟨0, by omega, rfl, HPZ.out, HBZ.out⟩
 case round =>
  clear HPZ HBZ
  obtain ⟨j, hj, rfl, hpv, hbl⟩ := hrel
  have HPV := Lib.hid hpv
  have HBL := Lib.hid hbl
  clear hpv hbl
  by_cases hjn : j < gs.length
  ·have hjI : (j : Int) < (gs.length : Int) := by omega
   obtain ⟨l, hl⟩ := at_some hjn
   obtain ⟨b, off, Al, cl, hA, hbB, hat⟩ := HV1.out.at_ hl
   subst hA
   have hlw := (HP.out l (List.mem_of_getElem? hl)).1
   obtain ⟨g1, -⟩ := hat wr D HBL.out hB1
   rw [hlw] at g1
   have HLW := Lib.hid hlw
   have HGL := Lib.hid hl
   obtain ⟨x0, hx0⟩ : ∃ x, l[0]? = some x := at_some (by omega)
   obtain ⟨bl, ol, rfl, -, -⟩ := nints_at (hat w1 D (Below.refl _ _) hB1).2 hx0
   have HCL : Hid (∀ W, Below D w1 W → ∀ k x : Nat, l[k]? = some x → W.cell? ⟨bl, ol + k, none⟩ = some (.int .i64 (x : Int)) ∧ x < d) := by
    intro W hW k x hx
    obtain ⟨b1, o1, e, -, hc⟩ := nints_at (hat W D hW hB1).2 hx
    cases e
    exact ⟨hc, (HP.out l (List.mem_of_getElem? HGL.out)).2.2 x (List.mem_of_getElem? hx)⟩
   clear hlw hl hat hx0
   go_wp2
   clear g1
   go_loopw [29, 9, 11, 35] (fun s29 _ _ _ wr => ∃ i : Nat, i ≤ wd ∧ s29 = .int .i64 i ∧ PairV wr D 178 ((prodTo l i 0).foldl incF (pairTo gs j)) ∧ Below D w1 wr) (fun s29 _ _ _ _ => wd - (intOf s29).toNat)
   case atStart => exact ⟨0, by omega, rfl, by rw [prodTo_zero]; exact HPV.out, HBL.out⟩
   case round =>
    clear HPV HBL
    obtain ⟨i, hi, rfl, hpv, hbl⟩ := hrel
    have HPV := Lib.hid hpv
    have HBL := Lib.hid hbl
    clear hpv hbl
    by_cases hiw : i < wd
    ·have hiI : (i : Int) < (wd : Int) := by omega
     obtain ⟨x, hx⟩ : ∃ x, l[i]? = some x := at_some (by rw [HLW.out]; exact hiw)
     obtain ⟨e1, hxd⟩ := HCL.out wr HBL.out i x hx
     have HXX := Lib.hid hx
     clear hx
     go_wp2
     clear e1
     go_loopw [35, 11] (fun s35 _ wr => ∃ k : Nat, k ≤ wd ∧ s35 = .int .i64 k ∧ PairV wr D 178 ((prodTo l i k).foldl incF (pairTo gs j)) ∧ Below D w1 wr) (fun s35 _ _ => wd - (intOf s35).toNat)
     case atStart => exact ⟨0, by omega, rfl, HPV.out, HBL.out⟩
     case round =>
      clear HPV HBL
      obtain ⟨k, hk, rfl, hpv, hbl⟩ := hrel
      have HPV := Lib.hid hpv
      have HBL := Lib.hid hbl
      clear hpv hbl
      by_cases hkw : k < wd
      ·have hkI : (k : Int) < (wd : Int) := by omega
       obtain ⟨y, hy⟩ : ∃ y, l[k]? = some y := at_some (by rw [HLW.out]; exact hkw)
       obtain ⟨e2, hyd⟩ := HCL.out wr HBL.out k y hy
       have hx60 : (x : Int) < 60 := by omega
       have hy60 : (y : Int) < 60 := by omega
       have hpd : PairV wr.drew D 178 ((prodTo l i k).foldl incF (pairTo gs j)) := HPV.out
       have hbd : (prodTo l i k).foldl incF (pairTo gs j) x y ≤ 100000 := by
        have := fold_bd (l := l) (i := i) (k := k) (pairTo gs j) x y (by rw [HLW.out]; omega) (by rw [HLW.out]; omega)
        have h2 := pair_bd gs j x y
        rw [HLW.out] at this
        have h3 : (i + 1) * wd ≤ 17 * 16 := Nat.mul_le_mul (by omega) (by omega)
        omega
       have hin := hpd.inc (a := x) (b := y) (by omega) (by omega)
       obtain ⟨c0, f0⟩ := hpd.cell (a := x) (b := y) (by omega) (by omega)
       have hnx : (prodTo l i (k + 1)).foldl incF (pairTo gs j) = incF ((prodTo l i k).foldl incF (pairTo gs j)) (x, y) := by rw [prodTo_next HXX.out hy, List.foldl_append]; rfl
       rw [← hnx] at hin
       generalize (prodTo l i k).foldl incF (pairTo gs j) x y = n at *
       have HS : Hid (PairV (wr.drew.setCell ⟨D, x * 60 + y, none⟩ (.int .i64 ((n : Int) + 1))) D 178 ((prodTo l i (k + 1)).foldl incF (pairTo gs j))) := by unfold Hid; simpa using hin
       have HS2 : Hid (Below D w1 (wr.drew.setCell ⟨D, x * 60 + y, none⟩ (.int .i64 ((n : Int) + 1)))) := HBL.out.drew.setCell (Nat.le_refl _) _
       clear hin hnx hpd hy
       go_wp2_with fail
       refine still_tail_drew 8 (by kernel_rfl) (by kernel_rfl) ?_
       simp only [List.take_succ_cons, List.take_zero, List.drop_succ_cons, List.drop_zero]
       repeat still_step
       refine wpStill_nil ?_
       go_wp2
       go_roundw
       case rel => exact ⟨k + 1, by omega, by go_num, HS.out, HS2.out⟩
       case measure => simp [intOf] <;> omega
      ·obtain rfl : wd = k := by omega
       have HPW : Hid (PairV wr D 178 ((prodTo l (i + 1) 0).foldl incF (pairTo gs j))) := by
        have := HPV.out
        rw [← HLW.out, prodTo_row (by rw [HLW.out]; omega)] at this
        exact this
       go_wp2
       go_roundw
       case rel => exact ⟨i + 1, by omega, by go_num, HPW.out, HBL.out⟩
       case measure => simp [intOf] <;> omega
    ·obtain rfl : wd = i := by omega
     have HPW : Hid (PairV wr D 178 (pairTo gs (j + 1))) := by
      have := HPV.out
      rw [← HLW.out, prodTo_all, pair_next HGL.out (HP.out l (List.mem_of_getElem? HGL.out)).2.1] at this
      exact this
     go_wp2
     go_roundw
     case rel => exact ⟨j + 1, by omega, by go_num, HPW.out, HBL.out⟩
     case measure => simp [intOf] <;> omega
  ·obtain rfl : j = gs.length := by omega
   have e0 := (HPV.out.cell (a := 0) (b := 0) (by omega) (by omega)).1
   have e1 := (HPV.out.cell (a := 0) (b := 1) (by omega) (by omega)).1
   rw [pair_all HX.out (by omega) (by omega), if_pos rfl] at e0
   rw [pair_all HX.out (by omega) (by omega), if_neg (by omega)] at e1
   simp only [Nat.zero_mul, Nat.zero_add] at e0 e1
   go_wp2_with fail
   go_quiet (fail)
   clear e0 e1
   generalize hdr : wr.drewN _ = w3
   have HP3 : Hid (PairV w3 D 178 (pairTo gs gs.length)) := by rw [← hdr]; exact HPV.out
   have HB3 : Hid (Below D w1 w3) := by rw [← hdr]; exact below_drewN HBL.out _
   obtain ⟨c0, -⟩ := HBB.out w3 HB3.out
   clear hdr HPV HBL
   go_wp2
   go_loopw [58, 14, 15, 16, 63] (fun s58 _ _ _ _ wr => ∃ a : Nat, a ≤ d ∧ s58 = .int .i64 a ∧ wr = w3) (fun s58 _ _ _ _ _ => d - (intOf s58).toNat)
   case atStart => exact ⟨0, by omega, rfl, rfl⟩
   case round =>
    obtain ⟨a, ha, rfl, rfl⟩ := hrel
    by_cases had : a < d
    ·have haI : (a : Int) < (d : Int) := by omega
     go_wp2
     go_loopw [63, 15, 16] (fun s63 _ _ wx => ∃ q : Nat, q ≤ d ∧ s63 = .int .i64 q ∧ wx = wr) (fun s63 _ _ _ => d - (intOf s63).toNat)
     case atStart => exact ⟨0, by omega, rfl, rfl⟩
     case round =>
      obtain ⟨q, hq, rfl, rfl⟩ := hrel
      by_cases hqd : q < d
      ·have hqI : (q : Int) < (d : Int) := by omega
       have ha60 : (a : Int) < 60 := by omega
       have hq60 : (q : Int) < 60 := by omega
       have e0 := (HP3.out.cell (a := a) (b := q) (by omega) (by omega)).1
       rw [pair_all HX.out had hqd] at e0
       by_cases haq : a = q
       ·subst haq
        rw [if_pos rfl] at e0
        go_wp2
        go_roundw
        case rel => exact ⟨a + 1, by omega, by go_num, trivial⟩
        case measure => simp [intOf] <;> omega
       ·have hne : (a == q) = false := by simpa using haq
        have hne2 : ((a : Int) == (q : Int)) = false := by simp; omega
        rw [if_neg haq] at e0
        clear haq
        go_wp2
        go_roundw
        case rel => exact ⟨q + 1, by omega, by go_num, trivial⟩
        case measure => simp [intOf] <;> omega
      ·have hqI : ¬ (q : Int) < (d : Int) := by omega
       go_wp2
       go_roundw
       case rel => exact ⟨a + 1, by omega, by go_num, trivial⟩
       case measure => simp [intOf] <;> omega
    ·have haI : ¬ (a : Int) < (d : Int) := by omega
     have hlI : ¬ ((lam : Int) < 1) := by omega
     go_wp2
     go_ret3
     exact ⟨rfl, HB1.out.trans (HB3.out.mono (by rw [← HD.out]; exact HB1.out.size))⟩
end Go.Proofs.YtjgjofepedcfnaaGreat
namespace Go.Proofs.YtjgjofepedcfnaaGreat
open Go.RowKit
def updF {α : Type} (f : Nat → α) (k : Nat) (a : α) : Nat → α := fun x => if x = k then a else f x
def sepW (a b : Value) : Prop := a.ownBlock = none ∨ a.ownBlock ≠ b.ownBlock
theorem sepW.symm {a b : Value} (h : sepW a b) : sepW b a := by
 unfold sepW at *
 rcases h with h | h
 ·rcases hb : b.ownBlock with _ | q
  ·exact .inl rfl
  ·exact .inr (by rw [h]; simp)
 ·exact .inr h.symm
def Fam (w : World) (B N : Nat) (vs : Nat → Value) (ls : Nat → List Nat) : Prop := ∀ i, i < N → OwS w B 3 1 (vs i) (rowsI (ls i)) ∧ ∀ j, j < N → j ≠ i → sepW (vs i) (vs j)
section
variable {w w' : World} {B N : Nat} {vs : Nat → Value} {ls : Nat → List Nat}
theorem Fam.below (h : Fam w B N vs ls) (hb : Below w.heap.size w w') : Fam w' B N vs ls := fun i hi => ⟨(h i hi).1.below hb, (h i hi).2⟩
theorem Fam.congr {ls' : Nat → List Nat} (h : Fam w B N vs ls) (he : ∀ i, i < N → ls i = ls' i) : Fam w B N vs ls' := fun i hi => ⟨he i hi ▸ (h i hi).1, (h i hi).2⟩
theorem Fam.far (h : Fam w B N vs ls) {p : Addr} {t : TypeId} {cs : Array Value} {fr : Nat × Nat} (hp : w.heap[p.block]? = some (.cells cs t fr)) (ht : t ≠ 3) (u : Value) : Fam (w.setCell p u) B N vs ls :=
 fun i hi => ⟨(h i hi).1.far ((h i hi).1.blk_ne hp (fun e => ht e.symm)) u, (h i hi).2⟩
theorem Fam.kept (h : Fam w B N vs ls) {base size : Nat} {e : TypeId} {v : Value} {rows : List (List Value)} (ho : OwS w base e size v rows) (he : e ≠ 3) (hg : w.grownBy w' v.ownBlock) : Fam w' B N vs ls :=
 fun i hi => ⟨(h i hi).1.kept hg ((h i hi).1.ne ho (fun x => he x.symm)), (h i hi).2⟩
theorem sepW_new {base size : Nat} {e : TypeId} {u u' v : Value} {rows : List (List Value)} (h : OwS w base e size v rows) (hs : sepW v u) (hu : u'.ownBlock = u.ownBlock ∨ ∃ q, u'.ownBlock = some q ∧ w.heap.size ≤ q) : sepW v u' := by
 rcases hu with hu | ⟨q, hu, hq⟩
 ·unfold sepW; rw [hu]; exact hs
 ·rcases hv : v.ownBlock with _ | b
  ·exact .inl hv
  ·refine .inr ?_
   rw [hv, hu]
   intro he
   injection he with he
   have := (h.lt hv).2
   omega
theorem Fam.upd (h : Fam w B N vs ls) {k : Nat} (hk : k < N) {v' : Value} {l' : List Nat} (hg : w.grownBy w' (vs k).ownBlock) (ho : OwS w' B 3 1 v' (rowsI l')) (hl : v'.ownBlock = (vs k).ownBlock ∨ ∃ q, v'.ownBlock = some q ∧ w.heap.size ≤ q) :
  Fam w' B N (updF vs k v') (updF ls k l') := by
 intro i hi
 by_cases e : i = k
 ·subst e
  unfold updF
  rw [if_pos rfl, if_pos rfl]
  refine ⟨ho, fun j hj hji => ?_⟩
  rw [if_neg hji]
  exact (sepW_new (h j hj).1 ((h j hj).2 i hk (Ne.symm hji)) hl).symm
 ·unfold updF
  rw [if_neg e, if_neg e]
  have hs := (h i hi).2 k hk (Ne.symm e)
  refine ⟨(h i hi).1.kept hg hs, fun j hj hji => ?_⟩
  by_cases e2 : j = k
  ·subst e2
   rw [if_pos rfl]
   exact sepW_new (h i hi).1 hs hl
  ·rw [if_neg e2]
   exact (h i hi).2 j hj hji
theorem Fam.add (h : Fam w B N vs ls) : Fam w B (N + 1) (updF vs N (.slice none 0 0)) (updF ls N []) := by
 intro i hi
 by_cases e : i = N
 ·subst e
  unfold updF
  rw [if_pos rfl, if_pos rfl]
  exact ⟨OwS.nil _ _ _ _, fun j hj hji => .inl rfl⟩
 ·unfold updF
  rw [if_neg e, if_neg e]
  refine ⟨(h i (by omega)).1, fun j hj hji => ?_⟩
  by_cases e2 : j = N
  ·rw [if_pos e2]
   unfold sepW
   rcases hq : (vs i).ownBlock with _ | q
   ·exact .inl rfl
   ·exact .inr (by simp [Value.ownBlock])
  ·rw [if_neg e2]
   exact (h i (by omega)).2 j (by omega) hji
end
/-! ### what measure lays: the groups on each disk, the ranks in each group -/
def onP (L : LayD) (d g : Nat) : List Nat := (List.range g).filter fun k => ((L.gs[k]?).getD []).contains d
def onQ (L : LayD) (d g : Nat) (row : List Nat) (i : Nat) : List Nat := onP L d g ++ if (row.take i).contains d then [g] else []
def rkRow (L : LayD) (k : Nat) : List Nat := ((L.gs[k]?).getD []).map fun d => rankL L k d
def lsO (L : LayD) (g : Nat) : Nat → List Nat := fun x => if x < L.disks then onP L x g else rkRow L (x - L.disks)
def lsI (L : LayD) (g : Nat) (row : List Nat) (i : Nat) : Nat → List Nat := fun x => if x < L.disks then onQ L x g row i else if x < L.disks + g then rkRow L (x - L.disks) else (row.take i).map fun d => rankL L g d
section
variable {L : LayD} {d g i : Nat} {row : List Nat}
theorem onP_all : onP L d L.n = onD L d := rfl
theorem onP_len (L : LayD) (d g : Nat) (hg : g ≤ L.n) : (onP L d g).length = rankL L g d := by
 unfold onP rankL
 have h := countP_range (L.gs.take g) (fun r => r.contains d)
 rw [← h, List.length_take, Nat.min_eq_left (show g ≤ L.gs.length from hg)]
 congr 1
 apply List.filter_congr
 intro k hk
 rw [List.mem_range] at hk
 rw [List.getElem?_take, if_pos hk]
theorem onP_succ (hr : L.gs[g]? = some row) : onP L d (g + 1) = onQ L d g row row.length := by
 unfold onP onQ
 rw [List.range_succ, List.filter_append, List.take_length]
 congr 1
 simp only [List.filter_cons, List.filter_nil, hr, Option.getD_some]
theorem onQ_zero : onQ L d g row 0 = onP L d g := by simp [onQ]
theorem onQ_hit (hinc : row.Pairwise (· < ·)) (hd : row[i]? = some d) : onQ L d g row (i + 1) = onQ L d g row i ++ [g] ∧ onQ L d g row i = onP L d g := by
 have hn : (row.take i).contains d = false := by
  rw [Bool.eq_false_iff]
  intro hc
  obtain ⟨hi, rfl⟩ := List.getElem?_eq_some_iff.1 hd
  rw [List.contains_iff_mem, List.mem_take_iff_getElem] at hc
  obtain ⟨j, hj, he⟩ := hc
  have := List.pairwise_iff_getElem.1 hinc j i (by omega) hi (by omega)
  omega
 have hy : (row.take (i + 1)).contains d = true := by
  rw [List.take_add_one, hd]
  simp
 unfold onQ
 rw [hn, hy]
 simp
theorem onQ_miss {e : Nat} (hd : row[i]? = some d) (he : e ≠ d) : onQ L e g row (i + 1) = onQ L e g row i := by
 unfold onQ
 have : (row.take (i + 1)).contains e = (row.take i).contains e := by
  rw [List.take_add_one, hd]
  simp [he]
 rw [this]
end
end Go.Proofs.YtjgjofepedcfnaaGreat
