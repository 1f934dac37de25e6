/- Walk of tegularef50.SameBase.
Walks of tegularef27.SameSectors and tegularef50.Same, on equal states.
Walks of tegulalaw50: to, from, sameLeaves.
Walks of tegularef27.Short, tegulalaw50.few. -/
import Derived.Test.YtjgjofepedcfnaaGreatGRp
import Derived.Laws.BytesArg
namespace Go.Proofs.YtjgjofepedcfnaaGreat
open Go.RowKit
instance : DecidableEq Leaf := fun a b => decidable_of_iff (sameLf a b = true) sameLf_iff
def sameSb (a b : St) : Bool := decide (a.ls = b.ls) && decide (a.ms = b.ms)
theorem sameSb_ls {a b : St} (h : a.ls ≠ b.ls) : sameSb a b = false := by simp [sameSb, h]
theorem sameSb_ms {a b : St} (h : a.ms ≠ b.ms) : sameSb a b = false := by simp [sameSb, h]
theorem sameSb_eq {a b : St} (h : a.ls = b.ls) (h2 : a.ms = b.ms) : sameSb a b = true := by simp [sameSb, h, h2]
structure SbI (w wr : World) (L1 L2 : Array Value) : Prop where
 p : wr.heap[w.heap.size]? = some (.cells L1 45 (0, 0))
 q : wr.heap[w.heap.size + 1]? = some (.cells L2 45 (0, 0))
 bel : Below w.heap.size w wr
theorem SbI.cells {w wr : World} {x y s z u v : Value} (h : SbI w wr #[x, y, s] #[z, u, v]) : wr.cell? ⟨w.heap.size, 0, none⟩ = some x ∧ wr.cell? ⟨w.heap.size, 1, none⟩ = some y ∧ wr.cell? ⟨w.heap.size + 1, 0, none⟩ = some z ∧ wr.cell? ⟨w.heap.size + 1, 1, none⟩ = some u :=
 ⟨by rw [cell_of_row _ _ _ _ _ _ h.p]; rfl, by rw [cell_of_row _ _ _ _ _ _ h.p]; rfl, by rw [cell_of_row _ _ _ _ _ _ h.q]; rfl, by rw [cell_of_row _ _ _ _ _ _ h.q]; rfl⟩
theorem SbI.call {w wr w' : World} {L1 L2 : Array Value} (h : SbI w wr L1 L2) (hb : Below wr.heap.size wr w') : SbI w w' L1 L2 := by
 have h1 := (Array.getElem?_eq_some_iff.1 h.p).1
 have h2 := (Array.getElem?_eq_some_iff.1 h.q).1
 exact ⟨(hb.block _ h1).trans h.p, (hb.block _ h2).trans h.q, h.bel.trans (hb.mono h.bel.size)⟩
theorem SbI.drewN {w wr : World} {L1 L2 : Array Value} (h : SbI w wr L1 L2) (n : Nat) : SbI w (wr.drewN n) L1 L2 := h.call (below_drewN (Below.refl _ _) _)
def lvFew (ls : List Leaf) : Prop := ∀ x ∈ ls, x.vs.length ≤ 1000000 ∧ x.ss.length ≤ 1000000
set_option maxHeartbeats 4000000 in
set_option maxRecDepth 100000 in
theorem r50sameBase {B : Nat} {va vb : Value} {a b : St} (w : World) (ha : StV w B va a) (hb : StV w B vb b) (hB : B ≤ w.heap.size) (hfa : lvFew a.ls) (hfb : lvFew b.ls) (n1 : a.ls.length ≤ 1000000) (n2 : a.ms.length ≤ 1000000) (_n3 : b.ls.length ≤ 1000000) (_n4 : b.ms.length ≤ 1000000) :
  Calls Tryz.prog 42 #[va, vb] w fun r w' => r = .returned (.bool (sameSb a b)) ∧ Below w.heap.size w w' := by
 obtain ⟨A1, c1, A2, c2, A3, c3, rfl, ha0, ha1, -⟩ := ha
 obtain ⟨C1, e1, C2, e2, C3, e3, rfl, hb0, hb1, -⟩ := hb
 have HA0 := Lib.hid ha0
 have HA1 := Lib.hid ha1
 have HB0 := Lib.hid hb0
 have HB1 := Lib.hid hb1
 have HFA := Lib.hid hfa
 have HFB := Lib.hid hfb
 clear ha0 ha1 hb0 hb1 hfa hfb
 by_cases hv : a.ls.length = b.ls.length
 ·by_cases hs : a.ms.length = b.ms.length
  ·have HLSL := Lib.hid hv
   have HMSL := Lib.hid hs
   rw [← hv, ← hs]
   have hvI : ((a.ls.length : Int) != (a.ls.length : Int)) = false := by simp
   have hsI : ((a.ms.length : Int) != (a.ms.length : Int)) = false := by simp
   clear hv hs
   go_enter Tryz.func42, Tryz.ntmps42
   go_upto_region 1 with (fail)
   obtain ⟨w1, hw1', hp, hq, hbl, hz⟩ := two_laid w (.cells #[.slice A1 a.ls.length c1, .slice A2 a.ms.length c2, .slice A3 a.nt.length c3] 45) (.cells #[.slice C1 a.ls.length e1, .slice C2 a.ms.length e2, .slice C3 b.nt.length e3] 45)
   rw [hw1']
   have HI1 : Hid (SbI w w1 #[.slice A1 a.ls.length c1, .slice A2 a.ms.length c2, .slice A3 a.nt.length c3] #[.slice C1 a.ls.length e1, .slice C2 a.ms.length e2, .slice C3 b.nt.length e3]) := ⟨hp, hq, hbl⟩
   obtain ⟨l0, l1, m0, m1⟩ := HI1.out.cells
   clear hp hq hbl hz hw1'
   go_wp2
   clear l0 l1 m0 m1
   go_loopw [5] (fun s5 wr => ∃ k : Nat, k ≤ a.ls.length ∧ s5 = .int .i64 k ∧ (∀ j : Nat, j < k → a.ls[j]? = b.ls[j]?) ∧ SbI w wr #[.slice A1 a.ls.length c1, .slice A2 a.ms.length c2, .slice A3 a.nt.length c3] #[.slice C1 a.ls.length e1, .slice C2 a.ms.length e2, .slice C3 b.nt.length e3]) (fun s5 _ => a.ls.length - (intOf s5).toNat)
   case atStart => exact ⟨0, by omega, rfl, fun j hj => absurd hj (by omega), HI1.out⟩
   case round =>
    obtain ⟨k, hk, rfl, heq, hI⟩ := hrel
    have HEQ := Lib.hid heq
    have HI := Lib.hid hI
    obtain ⟨l0, l1, m0, m1⟩ := hI.cells
    clear heq
    by_cases hka : k < a.ls.length
    ·have hkI : (k : Int) < (a.ls.length : Int) := by omega
     have hk0 : ¬ (k : Int) < 0 := by omega
     obtain ⟨x, hx⟩ := at_some hka
     obtain ⟨y, hy⟩ := at_some (l := b.ls) (i := k) (by have := HLSL.out; omega)
     obtain ⟨b1, o1, xa, xb, rfl, -, x0, x1, hxl⟩ := LvS.at_ (HA0.out.below hI.bel hB) hx
     obtain ⟨b2, o2, ya, yb, rfl, -, y0, y1, hyl⟩ := LvS.at_ (HB0.out.below hI.bel hB) hy
     have hfx := HFA.out x (List.mem_of_getElem? hx)
     have hfy := HFB.out y (List.mem_of_getElem? hy)
     have hbs := hI.bel.size
     have HCL : Hid (Calls Tryz.prog 85 #[.agg #[xa, xb], .agg #[ya, yb]] wr.drew fun r w' => r = .returned (.bool (sameLf x y)) ∧ Below wr.heap.size wr w') := by
      have hd : Below wr.heap.size wr wr.drew := (Below.refl _ _).drew
      exact (r50sameLeaf wr.drew (hxl.below hd (Nat.le_trans hB hbs)) (hyl.below hd (Nat.le_trans hB hbs)) (show B ≤ wr.heap.size from Nat.le_trans hB hbs) hfx.1 hfx.2 hfy.1 hfy.2).mono fun r w' h => ⟨h.1, hd.trans h.2⟩
     have HNE : Hid (sameLf x y = false → sameSb a b = false) := fun h => by
      refine sameSb_ls fun e => ?_
      rw [e, hy] at hx
      cases hx
      rw [sameLf_iff.2 rfl] at h
      cases h
     have HNX : Hid (sameLf x y = true → ∀ j : Nat, j < k + 1 → a.ls[j]? = b.ls[j]?) := fun h j hj => by
      rcases Nat.lt_or_eq_of_le (Nat.le_of_lt_succ hj) with hj | rfl
      ·exact HEQ.out j hj
      ·rw [hx, hy, sameLf_iff.1 h]
     obtain ⟨A4, n4, c4, A5, n5, c5, hxs⟩ := hxl.slices
     obtain ⟨A6, n6, c6, A7, n7, c7, hys⟩ := hyl.slices
     obtain ⟨rfl, rfl⟩ : xa = .slice A4 n4 c4 ∧ xb = .slice A5 n5 c5 := by
      injection hxs with hxs
      exact ⟨by have := congrArg (fun x => x[0]?) hxs; simpa using this, by have := congrArg (fun x => x[1]?) hxs; simpa using this⟩
     obtain ⟨rfl, rfl⟩ : ya = .slice A6 n6 c6 ∧ yb = .slice A7 n7 c7 := by
      injection hys with hys
      exact ⟨by have := congrArg (fun x => x[0]?) hys; simpa using this, by have := congrArg (fun x => x[1]?) hys; simpa using this⟩
     obtain ⟨same, hsame⟩ : ∃ q, sameLf x y = q := ⟨_, rfl⟩
     rw [hsame] at HCL HNE HNX
     clear hx hy hI hxl hyl hfx hfy hsame hxs hys
     go_wp2_with fail
     refine still_tail_drew 10 (by kernel_rfl) (by kernel_rfl) ?_
     simp only [List.take_succ_cons, List.take_zero, List.drop_succ_cons, List.drop_zero]
     repeat still_step
     refine wpStill_nil ?_
     go_wp2_with fail
     refine HCL.out.mono ?_
     rintro r w5 ⟨rfl, hb5⟩
     have HI5 := Lib.hid (HI.out.call hb5)
     clear hb5 HCL
     cases same
     ·have HR := Lib.hid (HNE.out rfl)
      clear l0 l1 m0 m1 x0 x1 y0 y1
      go_wp2
      go_ret
      exact ⟨ret_bool (by rw [HR.out]), HI5.out.bel⟩
     ·have HR := Lib.hid (HNX.out rfl)
      clear l0 l1 m0 m1 x0 x1 y0 y1
      go_wp2
      go_roundw
      case rel => exact ⟨k + 1, by omega, by go_num, HR.out, HI5.out⟩
      case measure => simp [intOf] <;> omega
    ·have hkI : ¬ (k : Int) < (a.ls.length : Int) := by omega
     have HLSE : Hid (a.ls = b.ls) := by
      apply List.ext_getElem?
      intro j
      by_cases hj : j < k
      ·exact HEQ.out j hj
      ·rw [List.getElem?_eq_none (by omega), List.getElem?_eq_none (by have := HLSL.out; omega)]
     clear hI
     have HI9 := Lib.hid HI.out
     clear HI HEQ
     go_wp2
     clear l0 l1 m0 m1
     go_loopw [6] (fun s6 wr => ∃ k : Nat, k ≤ a.ms.length ∧ s6 = .int .i64 k ∧ (∀ j : Nat, j < k → a.ms[j]? = b.ms[j]?) ∧ SbI w wr #[.slice A1 a.ls.length c1, .slice A2 a.ms.length c2, .slice A3 a.nt.length c3] #[.slice C1 a.ls.length e1, .slice C2 a.ms.length e2, .slice C3 b.nt.length e3]) (fun s6 _ => a.ms.length - (intOf s6).toNat)
     case atStart => exact ⟨0, by omega, rfl, fun j hj => absurd hj (by omega), HI9.out⟩
     case round =>
      obtain ⟨k, hk, rfl, heq, hI⟩ := hrel
      have HEQ := Lib.hid heq
      have HI := Lib.hid hI
      obtain ⟨l0, l1, m0, m1⟩ := hI.cells
      clear heq
      by_cases hka : k < a.ms.length
      ·have hkI : (k : Int) < (a.ms.length : Int) := by omega
       have hk0 : ¬ (k : Int) < 0 := by omega
       obtain ⟨x, hx⟩ := at_some hka
       obtain ⟨y, hy⟩ := at_some (l := b.ms) (i := k) (by have := HMSL.out; omega)
       obtain ⟨b1, o1, rfl, -, x0, x1, x2, x3⟩ := MvS.at_ (HA1.out.below' hI.bel hB) hx
       obtain ⟨b2, o2, rfl, -, y0, y1, y2, y3⟩ := MvS.at_ (HB1.out.below' hI.bel hB) hy
       have HNE : Hid (x ≠ y → sameSb a b = false) := fun h => by
        refine sameSb_ms fun e => h ?_
        rw [e, hy] at hx
        exact (Option.some.inj hx).symm
       have HNX : Hid (x = y → ∀ j : Nat, j < k + 1 → a.ms[j]? = b.ms[j]?) := fun h j hj => by
        rcases Nat.lt_or_eq_of_le (Nat.le_of_lt_succ hj) with hj | rfl
        ·exact HEQ.out j hj
        ·rw [hx, hy, h]
       clear hx hy hI
       obtain ⟨xg, xp, xd, xb⟩ := x
       obtain ⟨yg, yp, yd, yb⟩ := y
       simp only at x0 x1 x2 x3 y0 y1 y2 y3
       by_cases e1 : xg = yg
       ·by_cases e2 : xp = yp
        ·by_cases e3 : xd = yd
         ·by_cases e4 : xb = yb
          ·have HR := Lib.hid (HNX.out (by rw [e1, e2, e3, e4]))
           subst e1 e2 e3 e4
           go_wp2_with fail
           go_quiet (fail)
           go_wp2
           go_roundw
           case rel => exact ⟨k + 1, by omega, by go_num, HR.out, HI.out.drewN _⟩
           case measure => simp [intOf] <;> omega
          ·have HR := Lib.hid (HNE.out (by simp [e4]))
           have f4 : (xb == yb) = false := by simpa using e4
           subst e1 e2 e3
           clear e4
           go_wp2_with fail
           go_quiet (fail)
           go_wp2
           go_ret
           exact ⟨ret_bool (by rw [HR.out]), below_drewN HI.out.bel _⟩
         ·have HR := Lib.hid (HNE.out (by simp [e3]))
          have f4 : (xd == yd) = false := by simpa using e3
          subst e1 e2
          clear e3
          go_wp2_with fail
          go_quiet (fail)
          go_wp2
          go_ret
          exact ⟨ret_bool (by rw [HR.out]), below_drewN HI.out.bel _⟩
        ·have HR := Lib.hid (HNE.out (by simp [e2]))
         have f4 : (xp == yp) = false := by simpa using e2
         subst e1
         clear e2
         go_wp2_with fail
         go_quiet (fail)
         go_wp2
         go_ret
         exact ⟨ret_bool (by rw [HR.out]), below_drewN HI.out.bel _⟩
       ·have HR := Lib.hid (HNE.out (by simp [e1]))
        have f4 : (xg == yg) = false := by simpa using e1
        clear e1
        go_wp2_with fail
        go_quiet (fail)
        go_wp2
        go_ret
        exact ⟨ret_bool (by rw [HR.out]), below_drewN HI.out.bel _⟩
      ·have hkI : ¬ (k : Int) < (a.ms.length : Int) := by omega
       have HMSE : Hid (a.ms = b.ms) := by
        apply List.ext_getElem?
        intro j
        by_cases hj : j < k
        ·exact HEQ.out j hj
        ·rw [List.getElem?_eq_none (by omega), List.getElem?_eq_none (by have := HMSL.out; omega)]
       clear hI
       go_wp2
       go_ret
       exact ⟨ret_bool (by rw [sameSb_eq HLSE.out HMSE.out]), HI.out.bel⟩
  ·have hsI : ((a.ms.length : Int) != (b.ms.length : Int)) = true := by simp; omega
   have hsJ : ((a.ms.length : Int) == (b.ms.length : Int)) = false := by simp; omega
   have HR : Hid (sameSb a b = false) := sameSb_ms fun e => hs (by rw [e])
   rw [← hv]
   clear hv hs
   go_enter Tryz.func42, Tryz.ntmps42
   go_wp2
   go_ret
   exact ⟨ret_bool (by rw [HR.out]), (below_laid (w := w)).trans (below_laid.mono (by simp))⟩
 ·have hvI : ((a.ls.length : Int) != (b.ls.length : Int)) = true := by simp; omega
  have hvJ : ((a.ls.length : Int) == (b.ls.length : Int)) = false := by simp; omega
  have HR : Hid (sameSb a b = false) := sameSb_ls fun e => hv (by rw [e])
  clear hv
  go_enter Tryz.func42, Tryz.ntmps42
  go_wp2
  go_ret
  exact ⟨ret_bool (by rw [HR.out]), (below_laid (w := w)).trans (below_laid.mono (by simp))⟩
end Go.Proofs.YtjgjofepedcfnaaGreat
namespace Go.Proofs.YtjgjofepedcfnaaGreat
open Go.RowKit
theorem conv_nt {P : Program} {src dst e : TypeId} (hs : P.underlying src = some (.slice e)) (he : P.underlying e = some (.int .u8)) (hd : P.underlying dst = some .string) {w : World} {B : Nat} {A : Option Addr} {g : List Nat} (h : BytS w B A g) (c : Nat) :
  (convert src dst (.slice A g.length c)).run P w = .ok (.string (strOfNums (g.map fun x : Nat => (x : Int)))) w := by
 by_cases h0 : 0 < g.length
 ·obtain ⟨b, off, rfl, -, hc⟩ := h.2 (by simpa using h0)
  refine run_convert_bytes_arg w src e hs he b off g.length c (g.map fun x : Nat => (x : Int)) (by simp) (fun i hi => ?_) dst hd
  have hr : (g.map u8C)[i]? = some (u8C g[i]) := by rw [List.getElem?_map, List.getElem?_eq_getElem hi]; rfl
  have := hc i _ hr 0 _ rfl
  simp only [Nat.mul_one, Nat.add_zero] at this
  rw [this]
  simp [List.getD, List.getElem?_eq_getElem hi]
 ·have e0 : g = [] := List.length_eq_zero_iff.1 (by omega)
  subst e0
  cases A with
  | none =>
   rw [show (([] : List Nat).length) = 0 from rfl, run_convert_bytes_nil w src e hs he 0 c dst hd]
   rfl
  | some a =>
   rw [run_convert_bytes_string w src dst e (some a) _ c hs he hd, run_bytesToString w a _ c [] (by simpa using run_loadCells_list (P := P) w a [] (fun j v hj => by simp at hj))]
   rfl
set_option maxHeartbeats 4000000 in
set_option maxRecDepth 100000 in
theorem r27sameSectors {B c1 c2 : Nat} {A1 A2 : Option Addr} {nt : List (List Nat)} (w : World) (h1 : NtS w B A1 nt) (h2 : NtS w B A2 nt) (hB : B ≤ w.heap.size) (hn : nt.length ≤ 1000000) :
  Calls Tryz.prog 43 #[.slice A1 nt.length c1, .slice A2 nt.length c2] w fun r w' => r = .returned (.bool true) ∧ Below w.heap.size w w' := by
 have H1 := Lib.hid h1
 have H2 := Lib.hid h2
 have hlI : ((nt.length : Int) != (nt.length : Int)) = false := by simp
 clear h1 h2
 go_enter Tryz.func43, Tryz.ntmps43
 go_wp2
 go_loopw [5] (fun s5 wr => ∃ k : Nat, k ≤ nt.length ∧ s5 = .int .i64 k ∧ Below w.heap.size w wr) (fun s5 _ => nt.length - (intOf s5).toNat)
 case atStart => exact ⟨0, by omega, rfl, Below.refl _ _⟩
 case round =>
  obtain ⟨k, hk, rfl, hb⟩ := hrel
  have HB := Lib.hid hb
  by_cases hka : k < nt.length
  ·have hkI : (k : Int) < (nt.length : Int) := by omega
   have hk0 : ¬ (k : Int) < 0 := by omega
   obtain ⟨g, hg⟩ := at_some hka
   obtain ⟨b1, o1, Ai, ci, rfl, -, x0, hxg⟩ := NtS.at_ (H1.out.below hb hB) hg
   obtain ⟨b2, o2, Aj, cj, rfl, -, y0, hyg⟩ := NtS.at_ (H2.out.below hb hB) hg
   have hd : ∀ n, Below wr.heap.size wr (wr.drewN n) := fun n => below_drewN (Below.refl _ _) _
   have kx := fun n => conv_nt (P := Tryz.prog) (src := 26) (dst := 9) Tryz.underlying26 Tryz.underlying5 Tryz.underlying9 (RdS.below' hxg (hd n) (Nat.le_trans hB hb.size)) ci
   have ky := fun n => conv_nt (P := Tryz.prog) (src := 26) (dst := 9) Tryz.underlying26 Tryz.underlying5 Tryz.underlying9 (RdS.below' hyg (hd n) (Nat.le_trans hB hb.size)) cj
   generalize strOfNums (g.map fun x : Nat => (x : Int)) = st at *
   clear hg hb hxg hyg hd
   go_wp2_with fail
   go_quiet (fail)
   go_wp2
   go_roundw
   case rel => exact ⟨k + 1, by omega, by go_num, below_drewN HB.out _⟩
   case measure => simp [intOf] <;> omega
  ·have hkI : ¬ (k : Int) < (nt.length : Int) := by omega
   clear hb
   go_wp2
   go_ret
   exact ⟨rfl, HB.out⟩
set_option maxHeartbeats 4000000 in
set_option maxRecDepth 100000 in
theorem r50same {B : Nat} {va vb : Value} {S : St} (w : World) (ha : StV w B va S) (hb : StV w B vb S) (hB : B ≤ w.heap.size) (hf : lvFew S.ls) (n1 : S.ls.length ≤ 1000000) (n2 : S.ms.length ≤ 1000000) (n3 : S.nt.length ≤ 1000000) :
  Calls Tryz.prog 16 #[va, vb] w fun r w' => r = .returned (.bool true) ∧ Below w.heap.size w w' := by
 obtain ⟨A1, c1, A2, c2, A3, c3, rfl, ha0⟩ := ha.form
 obtain ⟨C1, d1, C2, d2, C3, d3, rfl, hb0⟩ := hb.form
 obtain ⟨A1', c1', A2', c2', A3', c3', he, -, -, hna⟩ := ha0
 obtain ⟨C1', d1', C2', d2', C3', d3', he2, -, -, hnb⟩ := hb0
 have e1 : Value.slice A3 S.nt.length c3 = .slice A3' S.nt.length c3' := by injection he with he; have := congrArg (fun x => x[2]?) he; simpa using this
 have e2 : Value.slice C3 S.nt.length d3 = .slice C3' S.nt.length d3' := by injection he2 with he2; have := congrArg (fun x => x[2]?) he2; simpa using this
 cases e1
 cases e2
 have HSB : Hid (∀ W, Below w.heap.size w W → Calls Tryz.prog 42 #[.agg #[.slice A1 S.ls.length c1, .slice A2 S.ms.length c2, .slice A3 S.nt.length c3], .agg #[.slice C1 S.ls.length d1, .slice C2 S.ms.length d2, .slice C3 S.nt.length d3]] W fun r w' => r = .returned (.bool true) ∧ Below W.heap.size W w') := fun W hW => by
  have h := r50sameBase W (ha.below hW hB) (hb.below hW hB) (Nat.le_trans hB hW.size) hf hf n1 n2 n1 n2
  rw [sameSb_eq rfl rfl] at h
  exact h
 have HSS : Hid (∀ W, Below w.heap.size w W → Calls Tryz.prog 43 #[.slice A3 S.nt.length c3, .slice C3 S.nt.length d3] W fun r w' => r = .returned (.bool true) ∧ Below W.heap.size W w') := fun W hW => r27sameSectors W (hna.below hW hB) (hnb.below hW hB) (Nat.le_trans hB hW.size) n3
 clear ha hb hna hnb he he2
 go_enter Tryz.func16, Tryz.ntmps16
 go_upto_region 1 with (fail)
 obtain ⟨w1, hw1', hp, hq, hbl, hz⟩ := two_laid w (.cells #[.slice A1 S.ls.length c1, .slice A2 S.ms.length c2, .slice A3 S.nt.length c3] 45) (.cells #[.slice C1 S.ls.length d1, .slice C2 S.ms.length d2, .slice C3 S.nt.length d3] 45)
 rw [hw1']
 have HBL := Lib.hid hbl
 have HP := Lib.hid hp
 have HQ := Lib.hid hq
 have hz1 : w.heap.size + 2 ≤ w1.heap.size := Nat.le_of_eq hz.symm
 have p0 : w1.cell? ⟨w.heap.size, 0, none⟩ = some (.slice A1 S.ls.length c1) := by rw [cell_of_row _ _ _ _ _ _ hp]; rfl
 have p1 : w1.cell? ⟨w.heap.size, 1, none⟩ = some (.slice A2 S.ms.length c2) := by rw [cell_of_row _ _ _ _ _ _ hp]; rfl
 have p2 : w1.cell? ⟨w.heap.size, 2, none⟩ = some (.slice A3 S.nt.length c3) := by rw [cell_of_row _ _ _ _ _ _ hp]; rfl
 have q0 : w1.cell? ⟨w.heap.size + 1, 0, none⟩ = some (.slice C1 S.ls.length d1) := by rw [cell_of_row _ _ _ _ _ _ hq]; rfl
 have q1 : w1.cell? ⟨w.heap.size + 1, 1, none⟩ = some (.slice C2 S.ms.length d2) := by rw [cell_of_row _ _ _ _ _ _ hq]; rfl
 have q2 : w1.cell? ⟨w.heap.size + 1, 2, none⟩ = some (.slice C3 S.nt.length d3) := by rw [cell_of_row _ _ _ _ _ _ hq]; rfl
 clear hp hq hbl hz hw1'
 go_wp2_with fail
 refine (HSB.out w1 HBL.out).mono ?_
 rintro e w2 ⟨rfl, hb2⟩
 have HB2 := Lib.hid (HBL.out.trans (hb2.mono HBL.out.size))
 have u2 : w2.cell? ⟨w.heap.size, 2, none⟩ = some (.slice A3 S.nt.length c3) := by rw [cell_of_row _ _ _ _ _ _ ((hb2.block _ (by omega)).trans HP.out)]; rfl
 have v2 : w2.cell? ⟨w.heap.size + 1, 2, none⟩ = some (.slice C3 S.nt.length d3) := by rw [cell_of_row _ _ _ _ _ _ ((hb2.block _ (by omega)).trans HQ.out)]; rfl
 clear hb2 p0 p1 p2 q0 q1 q2
 go_wp2_with fail
 refine (HSS.out w2 HB2.out).mono ?_
 rintro e w3 ⟨rfl, hb3⟩
 have HB3 := Lib.hid (HB2.out.trans (hb3.mono HB2.out.size))
 clear hb3
 go_wp2
 go_ret
 exact ⟨rfl, HB3.out⟩
end Go.Proofs.YtjgjofepedcfnaaGreat
namespace Go.Proofs.YtjgjofepedcfnaaGreat
open Go.RowKit
theorem lto_any (a b c : Value) (w : World) (ha : ∃ A n k, a = .slice A n k) (hb : ∃ A n k, b = .slice A n k) (hc : ∃ A n k, c = .slice A n k) :
  Calls Tryz.prog 17 #[.agg #[a, b, c]] w fun r w' => r = .returned (.agg #[a, b, c]) ∧ Below w.heap.size w w' := by
 obtain ⟨A1, n1, c1, rfl⟩ := ha
 obtain ⟨A2, n2, c2, rfl⟩ := hb
 obtain ⟨A3, n3, c3, rfl⟩ := hc
 go_enter Tryz.func17, Tryz.ntmps17
 go_wp2
 (try simp only [Exit.inBlock, Exit.then])
 refine bodyPost_ret (v := .agg #[.slice A1 n1 c1, .slice A2 n2 c2, .slice A3 n3 c3]) ?_ rfl ⟨rfl, (below_laid (w := w)).trans (below_laid.mono (by simp))⟩
 exact results_cell_row rfl _ _ (w.heap.size + 1) 45 #[.slice A1 n1 c1, .slice A2 n2 c2, .slice A3 n3 c3] (0, 0) _ rfl (by simpa using heap_alloc_new (w.alloc (.cells #[.slice A1 n1 c1, .slice A2 n2 c2, .slice A3 n3 c3] 41)) (.cells #[.slice A1 n1 c1, .slice A2 n2 c2, .slice A3 n3 c3] 45)) Tryz.underlying45 rfl (by kernel_rfl)
theorem lfrom_any (a b c : Value) (w : World) (ha : ∃ A n k, a = .slice A n k) (hb : ∃ A n k, b = .slice A n k) (hc : ∃ A n k, c = .slice A n k) :
  Calls Tryz.prog 20 #[.agg #[a, b, c]] w fun r w' => r = .returned (.agg #[a, b, c]) ∧ Below w.heap.size w w' := by
 obtain ⟨A1, n1, c1, rfl⟩ := ha
 obtain ⟨A2, n2, c2, rfl⟩ := hb
 obtain ⟨A3, n3, c3, rfl⟩ := hc
 go_enter Tryz.func20, Tryz.ntmps20
 go_wp2
 (try simp only [Exit.inBlock, Exit.then])
 refine bodyPost_ret (v := .agg #[.slice A1 n1 c1, .slice A2 n2 c2, .slice A3 n3 c3]) ?_ rfl ⟨rfl, (below_laid (w := w)).trans (below_laid.mono (by simp))⟩
 exact results_cell_row rfl _ _ (w.heap.size + 1) 41 #[.slice A1 n1 c1, .slice A2 n2 c2, .slice A3 n3 c3] (0, 0) _ rfl (by simpa using heap_alloc_new (w.alloc (.cells #[.slice A1 n1 c1, .slice A2 n2 c2, .slice A3 n3 c3] 45)) (.cells #[.slice A1 n1 c1, .slice A2 n2 c2, .slice A3 n3 c3] 41)) Tryz.underlying41 rfl (by kernel_rfl)
end Go.Proofs.YtjgjofepedcfnaaGreat
namespace Go.Proofs.YtjgjofepedcfnaaGreat
open Go.RowKit
def shortB (r : Rcd) : Bool := decide (r.ws.length ≤ 70) && decide (r.ms.length ≤ 70) && decide (r.nt.length ≤ 300)
def fewB (rs : List Rcd) : Bool := rs.all shortB && decide (rs.length ≤ 10)
set_option maxHeartbeats 4000000 in
set_option maxRecDepth 100000 in
theorem r27short {B : Nat} {rv : Value} {r : Rcd} (w : World) (hr : RcdV w B rv r) :
  Calls Tryz.prog 12 #[rv] w fun e w' => e = .returned (.bool (shortB r)) ∧ Below w.heap.size w w' := by
 obtain ⟨Aw, cw, Am, cm, An, cn, rfl, -⟩ := hr
 obtain ⟨gen, seq, ws, ms, nt⟩ := r
 by_cases h1 : ws.length ≤ 70
 ·have f1 : decide ((ws.length : Int) ≤ 70) = true := by rw [decide_eq_true_iff]; omega
  have g1 : (ws.length : Int) ≤ 70 := by omega
  by_cases h2 : ms.length ≤ 70
  ·have f2 : decide ((ms.length : Int) ≤ 70) = true := by rw [decide_eq_true_iff]; omega
   have g2 : (ms.length : Int) ≤ 70 := by omega
   by_cases h3 : nt.length ≤ 300
   ·have f3 : decide ((nt.length : Int) ≤ 300) = true := by rw [decide_eq_true_iff]; omega
    have g3 : (nt.length : Int) ≤ 300 := by omega
    have HR : Hid (shortB ⟨gen, seq, ws, ms, nt⟩ = true) := by simp [Hid, shortB, h1, h2, h3]
    go_enter Tryz.func12, Tryz.ntmps12
    go_wp2
    go_ret
    exact ⟨ret_bool (by rw [HR.out]), below_laid⟩
   ·have f3 : decide ((nt.length : Int) ≤ 300) = false := by rw [decide_eq_false_iff_not]; omega
    have g3 : ¬ (nt.length : Int) ≤ 300 := by omega
    have HR : Hid (shortB ⟨gen, seq, ws, ms, nt⟩ = false) := by simp [Hid, shortB, h3]
    go_enter Tryz.func12, Tryz.ntmps12
    go_wp2
    go_ret
    exact ⟨ret_bool (by rw [HR.out]), below_laid⟩
  ·have f2 : decide ((ms.length : Int) ≤ 70) = false := by rw [decide_eq_false_iff_not]; omega
   have g2 : ¬ (ms.length : Int) ≤ 70 := by omega
   have HR : Hid (shortB ⟨gen, seq, ws, ms, nt⟩ = false) := by simp [Hid, shortB, h2]
   go_enter Tryz.func12, Tryz.ntmps12
   go_wp2
   go_ret
   exact ⟨ret_bool (by rw [HR.out]), below_laid⟩
 ·have f1 : decide ((ws.length : Int) ≤ 70) = false := by rw [decide_eq_false_iff_not]; omega
  have g1 : ¬ (ws.length : Int) ≤ 70 := by omega
  have HR : Hid (shortB ⟨gen, seq, ws, ms, nt⟩ = false) := by simp [Hid, shortB, h1]
  go_enter Tryz.func12, Tryz.ntmps12
  go_wp2
  go_ret
  exact ⟨ret_bool (by rw [HR.out]), below_laid⟩
set_option maxHeartbeats 4000000 in
set_option maxRecDepth 100000 in
theorem lfew {B cr : Nat} {Ar : Option Addr} {rs : List Rcd} (w : World) (hrs : RcsS w B Ar rs) (hB : B ≤ w.heap.size) (hlen : rs.length ≤ 9223372036854775807) :
  Calls Tryz.prog 11 #[.slice Ar rs.length cr] w fun e w' => e = .returned (.bool (fewB rs)) ∧ Below w.heap.size w w' := by
 have HRS := Lib.hid hrs
 clear hrs
 go_enter Tryz.func11, Tryz.ntmps11
 go_wp2
 go_loopw [6] (fun s6 wr => ∃ k : Nat, k ≤ rs.length ∧ s6 = .int .i64 k ∧ (∀ r ∈ rs.take k, shortB r = true) ∧ Below w.heap.size w wr) (fun s6 _ => rs.length - (intOf s6).toNat)
 case atStart => exact ⟨0, by omega, rfl, fun r hr => by simp at hr, Below.refl _ _⟩
 case round =>
  obtain ⟨k, hk, rfl, hall, hb⟩ := hrel
  have HAL := Lib.hid hall
  have HB := Lib.hid hb
  clear hall
  by_cases hkn : k < rs.length
  ·have hkI : (k : Int) < (rs.length : Int) := by omega
   have hk0 : ¬ (k : Int) < 0 := by omega
   obtain ⟨r, hrk⟩ : ∃ r, rs[k]? = some r := ⟨_, List.getElem?_eq_getElem hkn⟩
   obtain ⟨b, off, Aw, cw, Am, cm, An, cn, rfl, hbB, hcl⟩ := RcsS.at2 HRS.out hrk hB
   obtain ⟨x0, x1, x2, x3, x4, hrv, -⟩ := hcl wr hb
   have HCS := Lib.hid (r27short wr hrv)
   have HNX : Hid (shortB r = true → ∀ q ∈ rs.take (k + 1), shortB q = true) := fun h q hq => by
    rw [List.take_add_one, hrk] at hq
    rcases List.mem_append.1 hq with hq | hq
    ·exact HAL.out q hq
    ·simp at hq
     rw [hq]
     exact h
   have HNO : Hid (shortB r = false → fewB rs = false) := fun h => by
    have : rs.all shortB = false := by
     rw [List.all_eq_false]
     exact ⟨r, List.mem_of_getElem? hrk, by rw [h]; simp⟩
    simp [fewB, this]
   obtain ⟨sb, hsb⟩ : ∃ q, shortB r = q := ⟨_, rfl⟩
   rw [hsb] at HCS HNX HNO
   obtain ⟨gen, seq, ws, ms, nt⟩ := r
   simp only at x0 x1 x2 x3 x4 HCS
   clear hrk hcl hrv hsb hb
   go_wp2_with fail
   refine HCS.out.mono ?_
   rintro e w2 ⟨rfl, hb2⟩
   have HB2 := Lib.hid (HB.out.trans (hb2.mono HB.out.size))
   clear hb2 HCS x0 x1 x2 x3 x4
   cases sb
   ·have HR := Lib.hid (HNO.out rfl)
    go_wp2
    go_ret
    exact ⟨ret_bool (by rw [HR.out]), HB2.out⟩
   ·have HR := Lib.hid (HNX.out rfl)
    go_wp2
    go_roundw
    case rel => exact ⟨k + 1, by omega, by go_num, HR.out, HB2.out⟩
    case measure => simp [intOf] <;> omega
  ·have hkI : ¬ (k : Int) < (rs.length : Int) := by omega
   obtain rfl : k = rs.length := by omega
   have hall : rs.all shortB = true := by
    rw [List.all_eq_true]
    have := HAL.out
    rwa [List.take_of_length_le (Nat.le_refl _)] at this
   by_cases h10 : rs.length ≤ 10
   ·have f1 : decide ((rs.length : Int) ≤ 10) = true := by rw [decide_eq_true_iff]; omega
    have g1 : (rs.length : Int) ≤ 10 := by omega
    have HR : Hid (fewB rs = true) := by simp [Hid, fewB, hall, h10]
    clear hall hb
    go_wp2
    go_ret
    exact ⟨ret_bool (by rw [HR.out]), HB.out⟩
   ·have f1 : decide ((rs.length : Int) ≤ 10) = false := by rw [decide_eq_false_iff_not]; omega
    have g1 : ¬ (rs.length : Int) ≤ 10 := by omega
    have HR : Hid (fewB rs = false) := by simp [Hid, fewB, h10]
    clear hall hb
    go_wp2
    go_ret
    exact ⟨ret_bool (by rw [HR.out]), HB.out⟩
end Go.Proofs.YtjgjofepedcfnaaGreat
