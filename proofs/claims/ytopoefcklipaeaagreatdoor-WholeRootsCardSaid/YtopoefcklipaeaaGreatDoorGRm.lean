/- Walks of replay.Valid's closure with slices.IndexFunc and ContainsFunc at notes; of replay.known and its closures, slices.IndexFunc and ContainsFunc at moves.
Walk of replay.Valid.
Walk of replay.known.
What replay.copied's rounds make (no program is walked here). -/
import Derived.Test.YtopoefcklipaeaaGreatDoorGRl
import Derived.Laws.Entries
namespace Go.Proofs.YtopoefcklipaeaaGreatDoor
open Go.RowKit
def noteOk (n : List Nat) : Bool := decide (1 ≤ n.length) && decide (n.length ≤ 256)
def idxI : Option Nat → Int
 | some i => i
 | none => -1
theorem idxI_any {α : Type} (p : α → Bool) (l : List α) : decide (0 ≤ idxI (l.findIdx? p)) = l.any p := by
 rcases hi : l.findIdx? p with _ | i
 ·rw [List.findIdx?_eq_none_iff] at hi
  have : l.any p = false := by rw [List.any_eq_false]; intro x hx; rw [hi x hx]; simp
  rw [this]
  rfl
 ·obtain ⟨h1, h2, -⟩ := List.findIdx?_eq_some_iff_getElem.1 hi
  have : l.any p = true := List.any_eq_true.2 ⟨_, List.getElem_mem h1, h2⟩
  rw [this, decide_eq_true_iff]
  simp only [idxI]
  omega
theorem vnote (A : Option Addr) (n : List Nat) (c : Nat) (w : World) : Calls Tryz.prog 70 #[.slice A n.length c] w fun r w' => r = .returned (.bool (!noteOk n)) ∧ w = w' := by
 have HR : Hid (noteOk n = (decide (1 ≤ n.length) && decide (n.length ≤ 256))) := rfl
 by_cases h1 : (n.length : Int) < 1
 ·have HQ : Hid ((!noteOk n) = true) := by unfold Hid; rw [HR.out, decide_eq_false (by omega)]; rfl
  rw [HQ.out]
  go_enter Tryz.func70, Tryz.ntmps70
  go_wp2
  go_ret
  exact ⟨rfl, rfl⟩
 ·by_cases h2 : (256 : Int) < (n.length : Int)
  ·have HQ : Hid ((!noteOk n) = true) := by unfold Hid; rw [HR.out, decide_eq_false (p := n.length ≤ 256) (by omega)]; simp
   rw [HQ.out]
   go_enter Tryz.func70, Tryz.ntmps70
   go_wp2
   go_ret
   exact ⟨rfl, rfl⟩
  ·have HQ : Hid ((!noteOk n) = false) := by unfold Hid; rw [HR.out, decide_eq_true (p := n.length ≤ 256) (by omega), decide_eq_true (p := 1 ≤ n.length) (by omega)]; rfl
   rw [HQ.out]
   go_enter Tryz.func70, Tryz.ntmps70
   go_wp2
   go_ret
   exact ⟨rfl, rfl⟩
set_option maxHeartbeats 1000000 in
set_option maxRecDepth 100000 in
theorem idxNotes {B c : Nat} {A : Option Addr} {l : List (List Nat)} (w : World) (h : NtS w B A l) (hB : B ≤ w.heap.size) (hlen : l.length ≤ 1000000) :
  Calls Tryz.prog 151 #[.slice A l.length c, .func (.func 70) #[] #[]] w fun r w' => r = .returned (.int .i64 (idxI (l.findIdx? fun n => !noteOk n))) ∧ Below w.heap.size w w' := by
 have H := Lib.hid h
 clear h
 go_enter Tryz.func151, Tryz.ntmps151
 go_wp2
 go_loopw [8] (fun i wr => ∃ k : Nat, k ≤ l.length ∧ i = .int .i64 k ∧ (∀ j o, j < k → l[j]? = some o → noteOk o = true) ∧ Below w.heap.size w wr) (fun i _ => l.length - (intOf i).toNat)
 case atStart => exact ⟨0, by omega, rfl, fun j _ hj => absurd hj (by omega), Below.refl _ _⟩
 case round =>
  obtain ⟨k, hk, rfl, hno, hb⟩ := hrel
  have HN := Lib.hid hno
  clear hno
  by_cases hlt : k < l.length
  ·obtain ⟨o, ho⟩ : ∃ o, l[k]? = some o := ⟨_, List.getElem?_eq_getElem hlt⟩
   obtain ⟨b, off, Ai, ci, rfl, hbB, c0, -⟩ := (H.out.below hb hB).at_ (k := k) ho
   have HO := Lib.hid ho
   clear ho
   have hs := hb.size
   have HC := Lib.hid (vnote Ai o ci wr)
   rcases hp : noteOk o with _ | _
   ·rw [hp] at HC
    have HP := Lib.hid hp
    clear hp
    go_wp2_with fail
    refine HC.out.mono ?_
    rintro r w1 ⟨rfl, rfl⟩
    go_wp2
    go_ret
    have hfi : l.findIdx? (fun n => !noteOk n) = some k := by
     rw [List.findIdx?_eq_some_iff_getElem]
     have hel : l[k] = o := by have := HO.out; rw [List.getElem?_eq_getElem hlt] at this; exact Option.some.inj this
     exact ⟨hlt, by rw [hel, HP.out]; rfl, fun j hj => by rw [HN.out j l[j] hj (List.getElem?_eq_getElem (by omega))]; simp⟩
    exact ⟨ret_int (by rw [hfi]; rfl), hb⟩
   ·rw [hp] at HC
    have HP := Lib.hid hp
    clear hp
    go_wp2_with fail
    refine HC.out.mono ?_
    rintro r w1 ⟨rfl, rfl⟩
    go_wp2
    go_roundw
    case rel => exact ⟨k + 1, by omega, by go_num, fun j o' hj hjo => by
     rcases Nat.lt_or_eq_of_le (Nat.le_of_lt_succ hj) with hj' | rfl
     ·exact HN.out j o' hj' hjo
     ·rw [HO.out] at hjo; cases hjo; exact HP.out, hb⟩
    case measure => simp [intOf]; omega
  ·obtain rfl : k = l.length := by omega
   go_wp2
   go_ret
   have hfi : l.findIdx? (fun n => !noteOk n) = none := by
    rw [List.findIdx?_eq_none_iff]
    intro o ho
    obtain ⟨j, hj, rfl⟩ := List.getElem_of_mem ho
    rw [HN.out j _ hj (List.getElem?_eq_getElem hj)]
    rfl
   exact ⟨ret_int (by rw [hfi]; rfl), hb⟩
set_option maxHeartbeats 1000000 in
theorem contNotes {B c : Nat} {A : Option Addr} {l : List (List Nat)} (w : World) (h : NtS w B A l) (hB : B ≤ w.heap.size) (hlen : l.length ≤ 1000000) :
  Calls Tryz.prog 69 #[.slice A l.length c, .func (.func 70) #[] #[]] w fun r w' => r = .returned (.bool (l.any fun n => !noteOk n)) ∧ Below w.heap.size w w' := by
 have HI := Lib.hid (idxNotes (c := c) w h hB hlen)
 have HA := Lib.hid (idxI_any (fun n => !noteOk n) l)
 generalize idxI _ = q at *
 generalize l.any _ = z at *
 clear h
 go_enter Tryz.func69, Tryz.ntmps69
 go_wp2_with fail
 refine HI.out.mono ?_
 rintro r w1 ⟨rfl, hb⟩
 go_wp2
 go_ret
 exact ⟨ret_bool HA.out, hb⟩
/-! ### known -/
def knP (L : LayD) (g p : Int) : Bool := decide (g < (L.G : Int)) && decide (p < (L.w : Int))
set_option maxHeartbeats 1000000 in
theorem known1 {L : LayD} {A : Option Addr} {B c X : Nat} (g p : Int) (w : World) (hx : LayX L) (hv : GsV w B A L.gs) (hB : B ≤ w.heap.size) (hX : LayB w X L A c) :
  Calls Tryz.prog 154 #[.int .i64 g, .int .i64 p, .pointer (some ⟨X, 0, none⟩)] w fun r w' => r = .returned (.bool (knP L g p)) ∧ Below w.heap.size w w' := by
 have HGR : Hid (∀ W, Below w.heap.size w W → Calls Tryz.prog 26 #[.agg #[.int .i64 L.disks, .slice A L.n c, .int .i64 L.tiles, .int .i64 L.spare]] W fun r w' => r = .returned (.int .i64 (L.G : Int)) ∧ Below W.heap.size W w') := fun W hW => lgroups2_any W hx (hv.below hW hB) (Nat.le_trans hB hW.size)
 have HWI : Hid (∀ W, Below w.heap.size w W → Calls Tryz.prog 28 #[.agg #[.int .i64 L.disks, .slice A L.n c, .int .i64 L.tiles, .int .i64 L.spare]] W fun r w' => r = .returned (.int .i64 (L.w : Int)) ∧ Below W.heap.size W w') := fun W hW => lwidth_any W hx (hv.below hW hB) (Nat.le_trans hB hW.size)
 have HX := Lib.hid hX
 have hlt := hX.lt
 obtain ⟨l0, l1, l2, l3⟩ := hX.cells
 have HP : Hid (knP L g p = (decide (g < (L.G : Int)) && decide (p < (L.w : Int)))) := rfl
 generalize knP L g p = q at *
 generalize L.G = G at *
 generalize L.w = wd at *
 clear hx hv hX
 by_cases h1 : g < (G : Int)
 ·have HQ : Hid (q = decide (p < (wd : Int))) := by unfold Hid; rw [HP.out, decide_eq_true h1]; rfl
  go_enter Tryz.func154, Tryz.ntmps154
  go_wp2_with fail
  refine (HGR.out w (Below.refl _ _)).mono ?_
  rintro r w1 ⟨rfl, hb1⟩
  obtain ⟨m0, m1, m2, m3⟩ := (HX.out.below hb1 hlt).cells
  have HB1 := Lib.hid hb1
  clear hb1 l0 l1 l2 l3
  go_wp2_with fail
  refine (HWI.out w1 HB1.out).mono ?_
  rintro r w2 ⟨rfl, hb2⟩
  have HB2 := Lib.hid (HB1.out.trans (hb2.mono HB1.out.size))
  clear hb2
  go_wp2
  go_ret
  exact ⟨ret_bool HQ.out.symm, HB2.out⟩
 ·have HQ : Hid (q = false) := by unfold Hid; rw [HP.out, decide_eq_false h1]; rfl
  go_enter Tryz.func154, Tryz.ntmps154
  go_wp2_with fail
  refine (HGR.out w (Below.refl _ _)).mono ?_
  rintro r w1 ⟨rfl, hb1⟩
  have HB1 := Lib.hid hb1
  clear hb1 l0 l1 l2 l3
  go_wp2
  go_ret
  exact ⟨ret_bool HQ.out.symm, HB1.out⟩
def IsB (w : World) (Y X : Nat) : Prop := w.heap[Y]? = some (.cells #[.func (.func 154) #[] #[.pointer (some ⟨X, 0, none⟩)]] 257)
theorem IsB.lt {w : World} {Y X : Nat} (h : IsB w Y X) : Y < w.heap.size := (Array.getElem?_eq_some_iff.1 h).1
theorem IsB.cell {w : World} {Y X : Nat} (h : IsB w Y X) : w.cell? ⟨Y, 0, none⟩ = some (.func (.func 154) #[] #[.pointer (some ⟨X, 0, none⟩)]) := by rw [cell_of_row _ _ _ _ _ _ h]; rfl
theorem IsB.below {w w' : World} {Y X C : Nat} (h : IsB w Y X) (hb : Below C w w') (hC : Y < C) : IsB w' Y X := (hb.block _ hC).trans h
set_option maxHeartbeats 1000000 in
theorem known2 {L : LayD} {A : Option Addr} {B c X Y : Nat} (m : Mv) (w : World) (hx : LayX L) (hv : GsV w B A L.gs) (hB : B ≤ w.heap.size) (hX : LayB w X L A c) (hY : IsB w Y X) :
  Calls Tryz.prog 156 #[m.agg, .pointer (some ⟨Y, 0, none⟩)] w fun r w' => r = .returned (.bool (!knP L m.g m.p)) ∧ Below w.heap.size w w' := by
 obtain ⟨g, p, ⟨d, b⟩⟩ := m
 have hbl : Below w.heap.size w (w.alloc (.cells #[.int .i64 g, .int .i64 p, .int .i64 d, .int .i64 b] 196)) := below_laid
 have HK := Lib.hid (known1 g p (w.alloc (.cells #[.int .i64 g, .int .i64 p, .int .i64 d, .int .i64 b] 196)) hx (hv.below hbl hB) (Nat.le_trans hB hbl.size) (hX.below hbl hX.lt))
 have hyl := hY.lt
 have hy0 := hY.cell
 have hyc : (w.alloc (.cells #[.int .i64 g, .int .i64 p, .int .i64 d, .int .i64 b] 196)).cell? ⟨Y, 0, none⟩ = some (.func (.func 154) #[] #[.pointer (some ⟨X, 0, none⟩)]) := (hY.below hbl hyl).cell
 have HB := Lib.hid hbl
 unfold Mv.agg
 simp only
 clear hx hv hX hY hbl hy0
 generalize knP L g p = q at *
 go_enter Tryz.func156, Tryz.ntmps156
 go_wp2_with fail
 refine HK.out.mono ?_
 rintro r w1 ⟨rfl, hb1⟩
 have HB1 := Lib.hid (HB.out.trans (hb1.mono HB.out.size))
 clear hb1
 go_wp2
 go_ret
 exact ⟨rfl, HB1.out⟩
set_option maxHeartbeats 1000000 in
set_option maxRecDepth 100000 in
theorem idxMoves {L : LayD} {A Am : Option Addr} {B c cm X Y : Nat} {l : List Mv} (w : World) (hx : LayX L) (hv : GsV w B A L.gs) (h : MvS w B Am l) (hB : B ≤ w.heap.size) (hX : LayB w X L A c) (hY : IsB w Y X) (hlen : l.length ≤ 1000000) :
  Calls Tryz.prog 230 #[.slice Am l.length cm, .func (.func 156) #[] #[.pointer (some ⟨Y, 0, none⟩)]] w fun r w' => r = .returned (.int .i64 (idxI (l.findIdx? fun m => !knP L m.g m.p))) ∧ Below w.heap.size w w' := by
 have H := Lib.hid h
 have HK : Hid (∀ (m : Mv) (W : World), Below w.heap.size w W → Calls Tryz.prog 156 #[m.agg, .pointer (some ⟨Y, 0, none⟩)] W fun r w' => r = .returned (.bool (!knP L m.g m.p)) ∧ Below W.heap.size W w') := fun m W hW => known2 m W hx (hv.below hW hB) (Nat.le_trans hB hW.size) (hX.below hW hX.lt) (hY.below hW hY.lt)
 clear h hx hv hX hY
 go_enter Tryz.func230, Tryz.ntmps230
 go_wp2
 go_loopw [8] (fun i wr => ∃ k : Nat, k ≤ l.length ∧ i = .int .i64 k ∧ (∀ j o, j < k → l[j]? = some o → knP L o.g o.p = true) ∧ Below w.heap.size w wr) (fun i _ => l.length - (intOf i).toNat)
 case atStart => exact ⟨0, by omega, rfl, fun j _ hj => absurd hj (by omega), Below.refl _ _⟩
 case round =>
  obtain ⟨k, hk, rfl, hno, hb⟩ := hrel
  have HN := Lib.hid hno
  clear hno
  by_cases hlt : k < l.length
  ·obtain ⟨o, ho⟩ : ∃ o, l[k]? = some o := ⟨_, List.getElem?_eq_getElem hlt⟩
   obtain ⟨b, off, rfl, hbB, c0, c1, c2, c3⟩ := MvS.at_ (H.out.below' hb hB) (k := k) ho
   have HO := Lib.hid ho
   clear ho
   have hs := hb.size
   have HC := Lib.hid (HK.out o wr hb)
   unfold Mv.agg at HC
   rcases hp : knP L o.g o.p with _ | _
   ·rw [hp] at HC
    have HP := Lib.hid hp
    clear hp
    go_wp2_with fail
    refine HC.out.mono ?_
    rintro r w1 ⟨rfl, hb1⟩
    go_wp2
    go_ret
    have hfi : l.findIdx? (fun m => !knP L m.g m.p) = some k := by
     rw [List.findIdx?_eq_some_iff_getElem]
     have hel : l[k] = o := by have := HO.out; rw [List.getElem?_eq_getElem hlt] at this; exact Option.some.inj this
     exact ⟨hlt, by rw [hel, HP.out]; rfl, fun j hj => by rw [HN.out j l[j] hj (List.getElem?_eq_getElem (by omega))]; simp⟩
    exact ⟨ret_int (by rw [hfi]; rfl), hb.trans (hb1.mono hs)⟩
   ·rw [hp] at HC
    have HP := Lib.hid hp
    clear hp
    go_wp2_with fail
    refine HC.out.mono ?_
    rintro r w1 ⟨rfl, hb1⟩
    go_wp2
    go_roundw
    case rel => exact ⟨k + 1, by omega, by go_num, fun j o' hj hjo => by
     rcases Nat.lt_or_eq_of_le (Nat.le_of_lt_succ hj) with hj' | rfl
     ·exact HN.out j o' hj' hjo
     ·rw [HO.out] at hjo; cases hjo; exact HP.out, hb.trans (hb1.mono hs)⟩
    case measure => simp [intOf]; omega
  ·obtain rfl : k = l.length := by omega
   go_wp2
   go_ret
   have hfi : l.findIdx? (fun m => !knP L m.g m.p) = none := by
    rw [List.findIdx?_eq_none_iff]
    intro o ho
    obtain ⟨j, hj, rfl⟩ := List.getElem_of_mem ho
    rw [HN.out j _ hj (List.getElem?_eq_getElem hj)]
    rfl
   exact ⟨ret_int (by rw [hfi]; rfl), hb⟩
set_option maxHeartbeats 1000000 in
theorem contMoves {L : LayD} {A Am : Option Addr} {B c cm X Y : Nat} {l : List Mv} (w : World) (hx : LayX L) (hv : GsV w B A L.gs) (h : MvS w B Am l) (hB : B ≤ w.heap.size) (hX : LayB w X L A c) (hY : IsB w Y X) (hlen : l.length ≤ 1000000) :
  Calls Tryz.prog 155 #[.slice Am l.length cm, .func (.func 156) #[] #[.pointer (some ⟨Y, 0, none⟩)]] w fun r w' => r = .returned (.bool (l.any fun m => !knP L m.g m.p)) ∧ Below w.heap.size w w' := by
 have HI := Lib.hid (idxMoves (cm := cm) w hx hv h hB hX hY hlen)
 have HA := Lib.hid (idxI_any (fun m : Mv => !knP L m.g m.p) l)
 generalize idxI _ = q at *
 generalize l.any _ = z at *
 clear h hx hv hX hY
 go_enter Tryz.func155, Tryz.ntmps155
 go_wp2_with fail
 refine HI.out.mono ?_
 rintro r w1 ⟨rfl, hb⟩
 go_wp2
 go_ret
 exact ⟨ret_bool HA.out, hb⟩
end Go.Proofs.YtopoefcklipaeaaGreatDoor
namespace Go.Proofs.YtopoefcklipaeaaGreatDoor
open Go.RowKit
def leafOk (L : LayD) (x : Leaf) : Bool := decide (x.vs.length = L.w) && decide (x.ss.length = L.w)
def stOk (L : LayD) (S : St) : Bool := decide (S.ls.length = L.G) && validM L S.ms && S.ls.all (leafOk L) && S.nt.all noteOk
theorem LvS.row {w : World} {B : Nat} {A : Option Addr} {ls : List Leaf} (h : LvS w B A ls) {k : Nat} {x : Leaf} (hx : ls[k]? = some x) : ∃ b off Av cv As cs, A = some ⟨b, off, none⟩ ∧ b < B ∧ w.cell? ⟨b, off + k * 2, none⟩ = some (.slice Av x.vs.length cv) ∧ w.cell? ⟨b, off + k * 2 + 1, none⟩ = some (.slice As x.ss.length cs) ∧
  U64S w B Av x.vs ∧ U64S w B As x.ss ∧ x.vs.length ≤ cv ∧ x.ss.length ≤ cs := by
 obtain ⟨b, off, ua, ub, rfl, hb, c0, c1, ⟨Av, cv, As, cs, he, h1, h2, h3, h4⟩⟩ := h.at_ hx
 injection he with he
 have e1 : ua = .slice Av x.vs.length cv := by have := congrArg (fun x => x[0]?) he; simpa using this
 have e2 : ub = .slice As x.ss.length cs := by have := congrArg (fun x => x[1]?) he; simpa using this
 subst e1 e2
 exact ⟨b, off, Av, cv, As, cs, rfl, hb, c0, c1, h1, h2, h3, h4⟩
theorem len_eq {a b : Nat} (h : a = b) : ((a : Int) == (b : Int)) = true ∧ ((a : Int) != (b : Int)) = false ∧ (a == b) = true ∧ (a != b) = false := by subst h; simp
theorem len_ne {a b : Nat} (h : a ≠ b) : ((a : Int) == (b : Int)) = false ∧ ((a : Int) != (b : Int)) = true ∧ (a == b) = false ∧ (a != b) = true := by
 have : ¬ (a : Int) = (b : Int) := by omega
 refine ⟨beq_eq_false_iff_ne.2 this, ?_, beq_eq_false_iff_ne.2 h, ?_⟩
 ·rw [bne, beq_eq_false_iff_ne.2 this]; rfl
 ·rw [bne, beq_eq_false_iff_ne.2 h]; rfl
set_option maxHeartbeats 2000000 in
set_option maxRecDepth 100000 in
theorem rvalidS {L : LayD} {A : Option Addr} {B c : Nat} {v : Value} {S : St} (w : World) (hx : LayX L) (hv : GsV w B A L.gs) (h : StV w B v S) (hwf : ∀ m ∈ S.ms, PlWf m.to) (hB : B ≤ w.heap.size) (n1 : S.ls.length ≤ 100000) (n2 : S.ms.length ≤ 10000) (n3 : S.nt.length ≤ 1000000) :
  Calls Tryz.prog 29 #[layAgg L A c, v] w fun r w' => r = .returned (.bool (stOk L S)) ∧ Below w.heap.size w w' := by
 obtain ⟨A1, c1, A2, c2, A3, c3, rfl, h1, h2, h3⟩ := h
 obtain ⟨ls, ms, nt⟩ := S
 simp only at h1 h2 h3 hwf n1 n2 n3 ⊢
 have HVA : Hid (∀ W, Below w.heap.size w W → Calls Tryz.prog 25 #[.agg #[.int .i64 L.disks, .slice A L.n c, .int .i64 L.tiles, .int .i64 L.spare]] W fun r w' => r = .returned (.bool true) ∧ Below W.heap.size W w') := fun W hW => lvalid_any W hx (hv.below hW hB) (Nat.le_trans hB hW.size)
 have HGR : Hid (∀ W, Below w.heap.size w W → Calls Tryz.prog 26 #[.agg #[.int .i64 L.disks, .slice A L.n c, .int .i64 L.tiles, .int .i64 L.spare]] W fun r w' => r = .returned (.int .i64 (L.G : Int)) ∧ Below W.heap.size W w') := fun W hW => lgroups2_any W hx (hv.below hW hB) (Nat.le_trans hB hW.size)
 have HWI : Hid (∀ W, Below w.heap.size w W → Calls Tryz.prog 28 #[.agg #[.int .i64 L.disks, .slice A L.n c, .int .i64 L.tiles, .int .i64 L.spare]] W fun r w' => r = .returned (.int .i64 (L.w : Int)) ∧ Below W.heap.size W w') := fun W hW => lwidth_any W hx (hv.below hW hB) (Nat.le_trans hB hW.size)
 have HSV : Hid (∀ W, Below w.heap.size w W → Calls Tryz.prog 68 #[.agg #[.int .i64 L.disks, .slice A L.n c, .int .i64 L.tiles, .int .i64 L.spare], .slice A2 ms.length c2] W fun r w' => r = .returned (.bool (validM L ms)) ∧ Below W.heap.size W w') := fun W hW => svalid_any W hx (hv.below hW hB) (h2.below' hW hB) hwf (Nat.le_trans hB hW.size) (by omega)
 have HCN : Hid (∀ W, Below w.heap.size w W → Calls Tryz.prog 69 #[.slice A3 nt.length c3, .func (.func 70) #[] #[]] W fun r w' => r = .returned (.bool (nt.any fun n => !noteOk n)) ∧ Below W.heap.size W w') := fun W hW => contNotes W (h3.below hW hB) (Nat.le_trans hB hW.size) n3
 have HLS := Lib.hid h1
 have HNA : Hid ((nt.any fun n => !noteOk n) = !nt.all noteOk) := by unfold Hid; rw [List.not_all_eq_any_not]
 have HOK : Hid (stOk L ⟨ls, ms, nt⟩ = (decide (ls.length = L.G) && validM L ms && ls.all (leafOk L) && nt.all noteOk)) := rfl
 have HLF : Hid (∀ x, leafOk L x = (decide (x.vs.length = L.w) && decide (x.ss.length = L.w))) := fun _ => rfl
 generalize stOk L ⟨ls, ms, nt⟩ = res at *
 unfold layAgg
 generalize leafOk L = lf at *
 generalize validM L ms = vm at *
 generalize L.G = G at *
 generalize L.w = wd at *
 generalize nt.all noteOk = na at *
 rw [HNA.out] at HCN
 clear hx hv h1 h2 h3 hwf HNA
 go_enter Tryz.func29, Tryz.ntmps29
 go_upto_region 1 with (fail)
 obtain ⟨w1, hw1', ha, hc, hb, hz⟩ := two_laid w (.cells #[.int .i64 L.disks, .slice A L.n c, .int .i64 L.tiles, .int .i64 L.spare] 28) (.cells #[.slice A1 ls.length c1, .slice A2 ms.length c2, .slice A3 nt.length c3] 34)
 rw [hw1']
 have HA := Lib.hid ha
 have HC := Lib.hid hc
 have HB := Lib.hid hb
 have hz1 : w.heap.size + 1 < w1.heap.size := by omega
 have Q : ∀ d xs, (Sort.grow (redrawn w1 d) xs).cell? ⟨w.heap.size, 0, none⟩ = some (.int .i64 L.disks) ∧ (Sort.grow (redrawn w1 d) xs).cell? ⟨w.heap.size, 1, none⟩ = some (.slice A L.n c) ∧ (Sort.grow (redrawn w1 d) xs).cell? ⟨w.heap.size, 2, none⟩ = some (.int .i64 L.tiles) ∧ (Sort.grow (redrawn w1 d) xs).cell? ⟨w.heap.size, 3, none⟩ = some (.int .i64 L.spare) := fun d xs => by
  have hq := ((below_regrown w1 d xs).block _ (by omega)).trans ha
  exact ⟨by rw [cell_of_row _ _ _ _ _ _ hq]; rfl, by rw [cell_of_row _ _ _ _ _ _ hq]; rfl, by rw [cell_of_row _ _ _ _ _ _ hq]; rfl, by rw [cell_of_row _ _ _ _ _ _ hq]; rfl⟩
 have Y : ∀ d xs, (Sort.grow (redrawn w1 d) xs).cell? ⟨w.heap.size + 1, 0, none⟩ = some (.slice A1 ls.length c1) ∧ (Sort.grow (redrawn w1 d) xs).cell? ⟨w.heap.size + 1, 1, none⟩ = some (.slice A2 ms.length c2) := fun d xs => by
  have hq := ((below_regrown w1 d xs).block _ hz1).trans hc
  exact ⟨by rw [cell_of_row _ _ _ _ _ _ hq]; rfl, by rw [cell_of_row _ _ _ _ _ _ hq]; rfl⟩
 have KV := Lib.hid (fun d xs => HVA.out (Sort.grow (redrawn w1 d) xs) (HB.out.trans ((below_regrown w1 d xs).mono HB.out.size)))
 have KG := Lib.hid (fun d xs => HGR.out (Sort.grow (redrawn w1 d) xs) (HB.out.trans ((below_regrown w1 d xs).mono HB.out.size)))
 have KS := Lib.hid (fun d xs => HSV.out (Sort.grow (redrawn w1 d) xs) (HB.out.trans ((below_regrown w1 d xs).mono HB.out.size)))
 clear ha hc hb hw1' hz
 by_cases hG : ls.length = G
 case neg =>
  have HRF : Hid (res = false) := by rw [Hid, HOK.out, decide_eq_false hG]; rfl
  obtain ⟨g1, g2, g3, g4⟩ := len_ne hG
  clear hG
  refine quiet_below (by kernel_rfl) (by kernel_rfl) ?_
  repeat (go_big_quiet_step (first | (go_at_call 25; exact Calls.regrown_of (KV.out _ _)) | (go_at_call 26; exact Calls.regrown_of (KG.out _ _))))
  refine wpQuiet_nil ?_
  intro w2 hb2
  have HB2 := Lib.hid (HB.out.trans (hb2.mono HB.out.size))
  clear hb2 Q Y
  go_wp2
  go_ret
  exact ⟨ret_bool HRF.out.symm, HB2.out⟩
 case pos =>
  obtain ⟨g1, g2, g3, g4⟩ := len_eq hG
  have HR1 : Hid (res = (vm && ls.all lf && na)) := by rw [Hid, HOK.out, decide_eq_true hG]; rfl
  clear hG HOK
  refine quiet_below (by kernel_rfl) (by kernel_rfl) ?_
  repeat (go_big_quiet_step (first | (go_at_call 25; exact Calls.regrown_of (KV.out _ _)) | (go_at_call 26; exact Calls.regrown_of (KG.out _ _)) | (go_at_call 68; exact Calls.regrown_of (KS.out _ _))))
  refine wpQuiet_nil ?_
  intro w2 hb2
  have HB2 := Lib.hid (HB.out.trans (hb2.mono HB.out.size))
  have HA2 := Lib.hid ((hb2.block _ (by omega)).trans HA.out)
  have HC2 := Lib.hid ((hb2.block _ hz1).trans HC.out)
  have hz2 : w.heap.size + 1 < w2.heap.size := Nat.lt_of_lt_of_le hz1 hb2.size
  clear hb2 Q Y HA HC HB hz1 KV KG KS g1 g2 g3 g4
  cases vm with
  | false =>
   have HRF : Hid (res = false) := by rw [Hid, HR1.out]; rfl
   go_wp2
   go_ret
   exact ⟨ret_bool HRF.out.symm, HB2.out⟩
  | true =>
   have HR2 : Hid (res = (ls.all lf && na)) := HR1.out
   clear HR1
   have y0 : w2.cell? ⟨w.heap.size + 1, 0, none⟩ = some (.slice A1 ls.length c1) := by rw [cell_of_row _ _ _ _ _ _ HC2.out]; rfl
   go_wp2
   go_loopw [6, 28] (fun s6 s28 wr => ∃ k : Nat, k ≤ ls.length ∧ s28 = .int .i64 k ∧ (ls.take k).all lf = true ∧ Below w2.heap.size w2 wr) (fun _ s28 _ => ls.length - (intOf s28).toNat)
   case atStart => exact ⟨0, by omega, rfl, rfl, Below.refl _ _⟩
   case round =>
    obtain ⟨k, hk, rfl, hall, hbw⟩ := hrel
    have HAL := Lib.hid hall
    have HBW := Lib.hid hbw
    have hzw := hbw.size
    clear hall hbw y0
    by_cases hkn : k < ls.length
    case neg =>
     have hkI : ¬ (k : Int) < (ls.length : Int) := by omega
     obtain rfl : k = ls.length := by omega
     have HR3 : Hid (res = na) := by have h0 := HAL.out; rw [List.take_of_length_le (Nat.le_refl _)] at h0; rw [Hid, HR2.out, h0]; rfl
     have HBX := Lib.hid (HB2.out.trans (HBW.out.mono (by omega)))
     have y2 : wr.cell? ⟨w.heap.size + 1, 2, none⟩ = some (.slice A3 nt.length c3) := by rw [cell_of_row _ _ _ _ _ _ ((HBW.out.block _ hz2).trans HC2.out)]; rfl
     clear hkn
     go_wp2_with fail
     refine (HCN.out wr HBX.out).mono ?_
     rintro r w5 ⟨rfl, hb5⟩
     have HB5 := Lib.hid (HBX.out.trans (hb5.mono HBX.out.size))
     clear hb5
     go_wp2
     go_ret
     exact ⟨ret_bool HR3.out.symm, HB5.out⟩
    case pos =>
     have hkI : (k : Int) < (ls.length : Int) := by omega
     have hk0 : ¬ (k : Int) < 0 := by omega
     obtain ⟨x, hxk⟩ : ∃ x, ls[k]? = some x := ⟨_, List.getElem?_eq_getElem hkn⟩
     have HBX := Lib.hid (HB2.out.trans (HBW.out.mono (by omega)))
     obtain ⟨b, off, Av, cv, As, cs, rfl, hbB, q0, q1, -, -, -, -⟩ := (HLS.out.below HBX.out hB).row hxk
     have HXK := Lib.hid hxk
     have HTK : Hid ((ls.take (k + 1)).all lf = lf x) := by
      have h0 := HAL.out
      unfold Hid
      rw [List.take_add_one, hxk, List.all_append, h0]
      simp
     clear hxk
     go_upto_region 6 with (fail)
     have hn5 : (wr.alloc (.cells #[.slice Av x.vs.length cv, .slice As x.ss.length cs] 58)).heap[wr.heap.size]? = some (.cells #[.slice Av x.vs.length cv, .slice As x.ss.length cs] 58 (0, 0)) := heap_alloc_new wr _
     have hb5 : Below w.heap.size w (wr.alloc (.cells #[.slice Av x.vs.length cv, .slice As x.ss.length cs] 58)) := HBX.out.alloc HBX.out.size _
     have hb5' : Below w2.heap.size w2 (wr.alloc (.cells #[.slice Av x.vs.length cv, .slice As x.ss.length cs] 58)) := HBW.out.alloc hzw _
     have hz5 : wr.heap.size < (wr.alloc (.cells #[.slice Av x.vs.length cv, .slice As x.ss.length cs] 58)).heap.size := by simp
     generalize wr.alloc _ = w5 at *
     have HB5 := Lib.hid hb5'
     have ha5 := (hb5'.block _ (by omega)).trans HA2.out
     have Q : ∀ d xs, (Sort.grow (redrawn w5 d) xs).cell? ⟨w.heap.size, 0, none⟩ = some (.int .i64 L.disks) ∧ (Sort.grow (redrawn w5 d) xs).cell? ⟨w.heap.size, 1, none⟩ = some (.slice A L.n c) ∧ (Sort.grow (redrawn w5 d) xs).cell? ⟨w.heap.size, 2, none⟩ = some (.int .i64 L.tiles) ∧ (Sort.grow (redrawn w5 d) xs).cell? ⟨w.heap.size, 3, none⟩ = some (.int .i64 L.spare) := fun d xs => by
      have hq := ((below_regrown w5 d xs).block _ (by omega)).trans ha5
      exact ⟨by rw [cell_of_row _ _ _ _ _ _ hq]; rfl, by rw [cell_of_row _ _ _ _ _ _ hq]; rfl, by rw [cell_of_row _ _ _ _ _ _ hq]; rfl, by rw [cell_of_row _ _ _ _ _ _ hq]; rfl⟩
     have Y : ∀ d xs, (Sort.grow (redrawn w5 d) xs).cell? ⟨wr.heap.size, 0, none⟩ = some (.slice Av x.vs.length cv) ∧ (Sort.grow (redrawn w5 d) xs).cell? ⟨wr.heap.size, 1, none⟩ = some (.slice As x.ss.length cs) := fun d xs => by
      have hq := ((below_regrown w5 d xs).block _ hz5).trans hn5
      exact ⟨by rw [cell_of_row _ _ _ _ _ _ hq]; rfl, by rw [cell_of_row _ _ _ _ _ _ hq]; rfl⟩
     have KW := Lib.hid (fun d xs => HWI.out (Sort.grow (redrawn w5 d) xs) (hb5.trans ((below_regrown w5 d xs).mono hb5.size)))
     clear hn5 hb5 hb5' ha5 q0 q1
     have HRX : Hid (lf x = false → res = false) := fun hf => by
      rw [HR2.out, List.all_eq_false.2 ⟨x, List.mem_of_getElem? HXK.out, by rw [hf]; simp⟩]
      rfl
     have HLX := Lib.hid (HLF.out x)
     generalize lf x = lx at *
     by_cases e1 : x.vs.length = wd
     ·by_cases e2 : x.ss.length = wd
      ·obtain ⟨g1, g2, g3, g4⟩ := len_eq e1
       obtain ⟨f1, f2, f3, f4⟩ := len_eq e2
       have HT : Hid ((ls.take (k + 1)).all lf = true) := by rw [Hid, HTK.out, HLX.out, decide_eq_true e1, decide_eq_true e2]; rfl
       clear e1 e2
       refine quiet_below (by kernel_rfl) (by kernel_rfl) ?_
       repeat (go_big_quiet_step (first | (go_at_call 28; exact Calls.regrown_of (KW.out _ _))))
       refine wpQuiet_nil ?_
       intro w6 hb6
       have HB6 := Lib.hid (HB5.out.trans (hb6.mono HB5.out.size))
       clear hb6 Q Y KW
       go_wp2
       go_roundw
       case rel => exact ⟨k + 1, by omega, by go_num, HT.out, HB6.out⟩
       case measure => simp [intOf] <;> omega
      ·obtain ⟨g1, g2, g3, g4⟩ := len_eq e1
       obtain ⟨f1, f2, f3, f4⟩ := len_ne e2
       have HF : Hid (res = false) := HRX.out (by rw [HLX.out, decide_eq_false e2]; simp)
       clear e1 e2
       refine quiet_below (by kernel_rfl) (by kernel_rfl) ?_
       repeat (go_big_quiet_step (first | (go_at_call 28; exact Calls.regrown_of (KW.out _ _))))
       refine wpQuiet_nil ?_
       intro w6 hb6
       have HB6 := Lib.hid (HB2.out.trans ((HB5.out.trans (hb6.mono HB5.out.size)).mono (by omega)))
       clear hb6 Q Y KW
       go_wp2
       go_ret
       exact ⟨ret_bool HF.out.symm, HB6.out⟩
     ·obtain ⟨g1, g2, g3, g4⟩ := len_ne e1
      have HF : Hid (res = false) := HRX.out (by rw [HLX.out, decide_eq_false e1]; rfl)
      clear e1
      refine quiet_below (by kernel_rfl) (by kernel_rfl) ?_
      repeat (go_big_quiet_step (first | (go_at_call 28; exact Calls.regrown_of (KW.out _ _))))
      refine wpQuiet_nil ?_
      intro w6 hb6
      have HB6 := Lib.hid (HB2.out.trans ((HB5.out.trans (hb6.mono HB5.out.size)).mono (by omega)))
      clear hb6 Q Y KW
      go_wp2
      go_ret
      exact ⟨ret_bool HF.out.symm, HB6.out⟩
end Go.Proofs.YtopoefcklipaeaaGreatDoor
namespace Go.Proofs.YtopoefcklipaeaaGreatDoor
open Go.RowKit
theorem run_store_func (P : Program) (w : World) (a : Addr) (m : Mode) (f : Fn) (x y : Array Value) : (store a (.func f x y) m).run P w = stored P w a (.func f x y) m := run_store P w a _ m rfl
attribute [local go_sem] run_store_func
def knW (L : LayD) (x : Pw) : Bool := knP L x.g x.p
def knM (L : LayD) (x : Mv) : Bool := knP L x.g x.p
def knownB (L : LayD) (r : Rcd) : Bool := r.ws.all (knW L) && r.ms.all (knM L)
set_option maxHeartbeats 2000000 in
set_option maxRecDepth 100000 in
theorem rknown {L : LayD} {A : Option Addr} {B c : Nat} {v : Value} {r : Rcd} (w : World) (hx : LayX L) (hv : GsV w B A L.gs) (h : RcdV w B v r) (hB : B ≤ w.heap.size) (n1 : r.ws.length ≤ 1000000) (n2 : r.ms.length ≤ 1000000) :
  Calls Tryz.prog 72 #[layAgg L A c, v] w fun e w' => e = .returned (.bool (knownB L r)) ∧ Below w.heap.size w w' := by
 obtain ⟨A1, c1, A2, c2, A3, c3, rfl, h1, h2, h3⟩ := h
 obtain ⟨gen, seq, ws, ms, nt⟩ := r
 simp only at h1 h2 h3 n1 n2 ⊢
 have HK1 : Hid (∀ (g p : Int) (W : World), Below w.heap.size w W → LayB W w.heap.size L A c → Calls Tryz.prog 154 #[.int .i64 g, .int .i64 p, .pointer (some ⟨w.heap.size, 0, none⟩)] W fun e w' => e = .returned (.bool (knP L g p)) ∧ Below W.heap.size W w') := fun g p W hW hX => known1 g p W hx (hv.below hW hB) (Nat.le_trans hB hW.size) hX
 have HCM : Hid (∀ (W : World), Below w.heap.size w W → LayB W w.heap.size L A c → IsB W (w.heap.size + 1 + 1) w.heap.size → Calls Tryz.prog 155 #[.slice A2 ms.length c2, .func (.func 156) #[] #[.pointer (some ⟨w.heap.size + 1 + 1, 0, none⟩)]] W fun e w' => e = .returned (.bool (!ms.all (knM L))) ∧ Below W.heap.size W w') := fun W hW hX hY => by
  have h := contMoves (cm := c2) W hx (hv.below hW hB) (h2.below' hW hB) (Nat.le_trans hB hW.size) hX hY n2
  rwa [show (ms.any fun m => !knP L m.g m.p) = !ms.all (knM L) by rw [List.not_all_eq_any_not]; rfl] at h
 have HW := Lib.hid h1
 have HOK : Hid (knownB L ⟨gen, seq, ws, ms, nt⟩ = (ws.all (knW L) && ms.all (knM L))) := rfl
 have HKW : Hid (∀ x : Pw, knW L x = knP L x.g x.p) := fun _ => rfl
 generalize knownB L ⟨gen, seq, ws, ms, nt⟩ = res at *
 generalize knW L = kw at *
 generalize ms.all (knM L) = km at *
 unfold layAgg
 unfold LayB IsB at HCM
 unfold LayB at HK1
 generalize knP L = kp at *
 clear hx hv h1 h2 h3
 go_enter Tryz.func72, Tryz.ntmps72
 go_upto_region 2 with (fail)
 obtain ⟨w1, hw1', ha, hc, hb, hz⟩ := two_laid w (.cells #[.int .i64 L.disks, .slice A L.n c, .int .i64 L.tiles, .int .i64 L.spare] 28) (.cells #[.int .u64 gen, .int .u64 seq, .slice A1 ws.length c1, .slice A2 ms.length c2, .slice A3 nt.length c3] 42)
 rw [hw1']
 have hb2 := hb.alloc hb.size (.cells #[.func (.func 154) #[] #[.pointer (some ⟨w.heap.size, 0, none⟩)]] 257)
 have hy2 := heap_alloc_new w1 (.cells #[.func (.func 154) #[] #[.pointer (some ⟨w.heap.size, 0, none⟩)]] 257)
 rw [hz] at hy2
 have ha2 := (Below.heap_alloc w1 (.cells #[.func (.func 154) #[] #[.pointer (some ⟨w.heap.size, 0, none⟩)]] 257) w.heap.size (by omega)).trans ha
 have hc2 := (Below.heap_alloc w1 (.cells #[.func (.func 154) #[] #[.pointer (some ⟨w.heap.size, 0, none⟩)]] 257) (w.heap.size + 1) (by omega)).trans hc
 have hz2 : w.heap.size + 1 + 1 < (w1.alloc (.cells #[.func (.func 154) #[] #[.pointer (some ⟨w.heap.size, 0, none⟩)]] 257)).heap.size := by simp; omega
 generalize w1.alloc _ = w2 at *
 have HB := Lib.hid hb2
 have HA := Lib.hid ha2
 have HC := Lib.hid hc2
 have HY := Lib.hid hy2
 clear ha hc hb hw1' hz hb2 hy2 ha2 hc2
 have r2 : w2.cell? ⟨w.heap.size + 1, 2, none⟩ = some (.slice A1 ws.length c1) := by rw [cell_of_row _ _ _ _ _ _ HC.out]; rfl
 go_wp2
 go_loopw [7, 12] (fun s7 s12 wr => ∃ k : Nat, k ≤ ws.length ∧ s12 = .int .i64 k ∧ (ws.take k).all kw = true ∧ Below w2.heap.size w2 wr) (fun _ s12 _ => ws.length - (intOf s12).toNat)
 case atStart => exact ⟨0, by omega, rfl, rfl, Below.refl _ _⟩
 case round =>
  obtain ⟨k, hk, rfl, hall, hbw⟩ := hrel
  have HAL := Lib.hid hall
  have HBW := Lib.hid hbw
  have hzw := hbw.size
  clear hall hbw r2
  have HBX := Lib.hid (HB.out.trans (HBW.out.mono HB.out.size))
  by_cases hkn : k < ws.length
  case neg =>
   have hkI : ¬ (k : Int) < (ws.length : Int) := by omega
   obtain rfl : k = ws.length := by omega
   have HR3 : Hid (res = km) := by have h0 := HAL.out; rw [List.take_of_length_le (Nat.le_refl _)] at h0; rw [Hid, HOK.out, h0]; rfl
   have r3 : wr.cell? ⟨w.heap.size + 1, 3, none⟩ = some (.slice A2 ms.length c2) := by rw [cell_of_row _ _ _ _ _ _ ((HBW.out.block _ (by omega)).trans HC.out)]; rfl
   have HAR := Lib.hid ((HBW.out.block _ (by omega)).trans HA.out)
   have HYR := Lib.hid ((HBW.out.block _ hz2).trans HY.out)
   clear hkn
   go_wp2_with fail
   refine (HCM.out wr HBX.out HAR.out HYR.out).mono ?_
   rintro e w5 ⟨rfl, hb5⟩
   have HB5 := Lib.hid (HBX.out.trans (hb5.mono HBX.out.size))
   clear hb5
   go_wp2
   go_ret
   exact ⟨ret_bool HR3.out.symm, HB5.out⟩
  case pos =>
   have hkI : (k : Int) < (ws.length : Int) := by omega
   have hk0 : ¬ (k : Int) < 0 := by omega
   obtain ⟨x, hxk⟩ : ∃ x, ws[k]? = some x := ⟨_, List.getElem?_eq_getElem hkn⟩
   obtain ⟨b, off, rfl, hbB, hcx⟩ := PwS.at_ (HW.out.below' HBX.out hB) hxk
   have HXK := Lib.hid hxk
   have HTK : Hid ((ws.take (k + 1)).all kw = kw x) := by
    have h0 := HAL.out
    unfold Hid
    rw [List.take_add_one, hxk, List.all_append, h0]
    simp
   have HRX : Hid (kw x = false → res = false) := fun hf => by
    rw [HOK.out, List.all_eq_false.2 ⟨x, List.mem_of_getElem? HXK.out, by rw [hf]; simp⟩]
    rfl
   have HKX := Lib.hid (HKW.out x)
   generalize kw x = kx at *
   obtain ⟨g, p, v, ⟨b0, b1, b2, b3, b4, b5, b6, b7⟩⟩ := x
   simp only at HKX
   have x0 := hcx 0 _ rfl
   have x1 := hcx 1 _ rfl
   have x2 := hcx 2 _ rfl
   have x3 := hcx 3 _ rfl
   have x4 := hcx 4 _ rfl
   have x5 := hcx 5 _ rfl
   have x6 := hcx 6 _ rfl
   have x7 := hcx 7 _ rfl
   have x8 := hcx 8 _ rfl
   have x9 := hcx 9 _ rfl
   have x10 := hcx 10 _ rfl
   simp only [Nat.add_zero] at x0
   clear hcx hxk
   have hbn := HBX.out.alloc HBX.out.size (.cells #[.int .i64 g, .int .i64 p, .int .u64 v, .int .u8 b0, .int .u8 b1, .int .u8 b2, .int .u8 b3, .int .u8 b4, .int .u8 b5, .int .u8 b6, .int .u8 b7] 190)
   have hbn2 := HBW.out.alloc hzw (.cells #[.int .i64 g, .int .i64 p, .int .u64 v, .int .u8 b0, .int .u8 b1, .int .u8 b2, .int .u8 b3, .int .u8 b4, .int .u8 b5, .int .u8 b6, .int .u8 b7] 190)
   have HBN := Lib.hid hbn
   have HBN2 := Lib.hid hbn2
   have yc : wr.cell? ⟨w.heap.size + 1 + 1, 0, none⟩ = some (.func (.func 154) #[] #[.pointer (some ⟨w.heap.size, 0, none⟩)]) := by rw [cell_of_row _ _ _ _ _ _ ((HBW.out.block _ hz2).trans HY.out)]; rfl
   have HKC := Lib.hid (HK1.out g p _ HBN.out ((HBN2.out.block _ (by omega)).trans HA.out))
   have yc5 : (wr.alloc (.cells #[.int .i64 g, .int .i64 p, .int .u64 v, .int .u8 b0, .int .u8 b1, .int .u8 b2, .int .u8 b3, .int .u8 b4, .int .u8 b5, .int .u8 b6, .int .u8 b7] 190)).cell? ⟨w.heap.size + 1 + 1, 0, none⟩ = some (.func (.func 154) #[] #[.pointer (some ⟨w.heap.size, 0, none⟩)]) := by rw [cell_of_row _ _ _ _ _ _ ((HBN2.out.block _ hz2).trans HY.out)]; rfl
   clear yc
   clear hbn hbn2
   go_wp2_with fail
   refine HKC.out.mono ?_
   rintro e w5 ⟨rfl, hb5⟩
   have HB5 := Lib.hid (HBN2.out.trans (hb5.mono HBN2.out.size))
   clear hb5 x0 x1 x2 x3 x4 x5 x6 x7 x8 x9 x10
   rw [HKX.out] at HTK HRX
   generalize kp g p = q at *
   cases q with
   | true =>
    go_wp2
    go_roundw
    case rel => exact ⟨k + 1, by omega, by go_num, HTK.out, HB5.out⟩
    case measure => simp [intOf] <;> omega
   | false =>
    have HF := Lib.hid (HRX.out rfl)
    have HBE := Lib.hid (HB.out.trans (HB5.out.mono HB.out.size))
    go_wp2
    go_ret
    exact ⟨ret_bool HF.out.symm, HBE.out⟩
end Go.Proofs.YtopoefcklipaeaaGreatDoor
namespace Go.Proofs.YtopoefcklipaeaaGreatDoor
open Go.RowKit
theorem elemNt : Elem Tryz.prog 32 40 1 24 := Elem.mk (z := .slice none 0 0) Tryz.underlying32 (by kernel_rfl) (by decide) rfl
structure Cp (w5 y : World) (a b : List (List Value)) (oA oB : Option Value) : Prop where
 bel : Below w5.heap.size w5 y
 ga : ∀ v, oA = some v → OwS y w5.heap.size 38 1 v a
 gb : ∀ v, oB = some v → OwS y w5.heap.size 38 1 v b
section
variable {w5 y y' w7 : World} {a b : List (List Value)} {oA oB : Option Value} {v : Value}
theorem Cp.start (w5 : World) (a b : List (List Value)) : Cp w5 w5.drew a b none none := ⟨(Below.refl _ _).drew, (fun v h => by cases h), (fun v h => by cases h)⟩
theorem Cp.mkA (h : Cp w5 y a b none oB) (hb : Below y.heap.size y y') (ho : OwS y' y.heap.size 38 1 v a) : Cp w5 y' a b (some v) oB :=
 ⟨bel_trans h.bel hb, (fun v h' => by cases h'; exact ho.mono h.bel.size), fun v h' => (h.gb v h').below hb⟩
theorem Cp.mkB (h : Cp w5 y a b oA none) (hb : Below y.heap.size y y') (ho : OwS y' y.heap.size 38 1 v b) : Cp w5 y' a b oA (some v) :=
 ⟨bel_trans h.bel hb, fun v h' => (h.ga v h').below hb, (fun v h' => by cases h'; exact ho.mono h.bel.size)⟩
variable {X : Nat} {E : Nat → Prop} {T : TypeId} {lv mv nv v7 va vb : Value} {S : St}
theorem grown_free {lo : Nat} {lv : Value} {o : Obj} {y w7 : World} (hy : lo ≤ y.heap.size) (hl : ∀ k, lv.ownBlock = some k → lo ≤ k) (hg : (y.alloc o).grownBy w7 lv.ownBlock) : Below lo y w7 :=
 ((Below.refl lo y).alloc hy o).grown hg (by simp; omega) hl
theorem cp_done {rows : List (Value × Value)} {x : Leaf} {o : Obj} (h5 : StB w5 X E T lv mv nv S) (hrn : rows.length = S.ls.length) (how : OwS w5 0 58 2 lv (rows.map fun x => [x.1, x.2]))
  (hrl : ∀ (k : Nat) (x : Value × Value) (L : Leaf), rows[k]? = some x → S.ls[k]? = some L → Stb (FX X E lv nv) w5 fun W => LfV W W.heap.size (.agg #[x.1, x.2]) L) (hE : ∀ k, E k → k < w5.heap.size) (hlo : ∀ k, FsB lv nv k → X < k)
  (hcp : Cp w5 y (x.vs.map u64C) (x.ss.map u64C) (some va) (some vb)) (hg : (y.alloc o).grownBy w7 lv.ownBlock) (ho7 : OwS w7 0 58 2 v7 (rows.map (fun x => [x.1, x.2]) ++ [[va, vb]])) (hv : v7.ownBlock = lv.ownBlock ∨ v7.ownBlock = some (y.heap.size + 1)) :
  (StB (w7.setCell ⟨X, 0, none⟩ v7) X E T v7 mv nv ⟨S.ls ++ [x], S.ms, S.nt⟩ ∧ Below X w5 (w7.setCell ⟨X, 0, none⟩ v7) ∧ ∀ k, FsB v7 nv k → X < k) ∧ w7.heap[X]? = some (.cells #[lv, mv, nv] T (0, 0)) := by
 have hX := h5.lt
 have hF : ∀ k, FX X E lv nv k → k < w5.heap.size := fun k hk => h5.flt hE hk
 have ha := hcp.ga va rfl
 have hb := hcp.gb vb rfl
 have hl : Stb (FX X E lv nv) y fun W => LfV W W.heap.size (.agg #[va, vb]) x := LfV.stb (B0 := w5.heap.size) (LfV.mk ha hb) (LfF.mk ha hb (Nat.le_refl _) (Nat.le_refl _)) hF
 have hp := (h5.call hcp.bel).pushL hrn (how.below hcp.bel) (fun k x L h1 h2 => (hrl k x L h1 h2).step (.of hcp.bel)) hl hg ho7 hv
 have hsz := hcp.bel.size
 refine ⟨⟨hp.1, ?_, fun k hk => ?_⟩, hp.2⟩
 ·refine ((hcp.bel.mono (Nat.le_of_lt hX)).trans (grown_free (lo := X) (by omega) (fun k hk => ?_) hg)).setCell (Nat.le_refl X) _
  exact Nat.le_of_lt (hlo k (.inl hk))
 ·rcases hk with hk | hk
  ·rcases hv with e | e
   ·exact hlo k (.inl (e ▸ hk))
   ·rw [e] at hk; injection hk with hk; omega
  ·exact hlo k (.inr hk)
theorem cn_done {vs : List (Option Addr × Nat)} {n : List Nat} {An : Option Addr} {cn : Nat} {o : Obj} (h5 : StB w5 X E T lv mv nv S) (hvn : vs.length = S.nt.length) (_how : OwS w5 0 40 1 nv ((vs.zip S.nt).map ntRow))
  (hvl : ∀ (i : Nat) (p : Option Addr × Nat) (g : List Nat), vs[i]? = some p → S.nt[i]? = some g → Stb (FX X E lv nv) w5 fun W => BytS W W.heap.size p.1 g) (hE : ∀ k, E k → k < w5.heap.size) (hlo : ∀ k, FsB lv nv k → X < k)
  (hb : Below w5.heap.size w5 y) (hon : OwS y w5.heap.size 5 1 (.slice An n.length cn) (n.map u8C)) (hg : (y.alloc o).grownBy w7 nv.ownBlock) (ho7 : OwS w7 0 40 1 v7 ((vs.zip S.nt).map ntRow ++ [[.slice An n.length cn]])) (hv : v7.ownBlock = nv.ownBlock ∨ v7.ownBlock = some (y.heap.size + 1)) :
  (StB (w7.setCell ⟨X, 2, none⟩ v7) X E T lv mv v7 ⟨S.ls, S.ms, S.nt ++ [n]⟩ ∧ Below X w5 (w7.setCell ⟨X, 2, none⟩ v7) ∧ ∀ k, FsB lv v7 k → X < k) ∧ w7.heap[X]? = some (.cells #[lv, mv, nv] T (0, 0)) := by
 have hX := h5.lt
 have hF : ∀ k, FX X E lv nv k → k < w5.heap.size := fun k hk => h5.flt hE hk
 have hx : Stb (FX X E lv nv) y fun W => BytS W W.heap.size An n := RdS.stb0 (B0 := w5.heap.size) hon.reads (fun a ha => (hon.lt (k := a.block) (by rw [ha]; rfl)).1) hF
 have hp := (h5.call hb).pushN (A := An) (c := cn) hvn (fun k x L h1 h2 => (hvl k x L h1 h2).step (.of hb)) hx hg ho7 hv
 have hsz := hb.size
 refine ⟨⟨hp.1, ?_, fun k hk => ?_⟩, hp.2⟩
 ·refine ((hb.mono (Nat.le_of_lt hX)).trans (grown_free (lo := X) (by omega) (fun k hk => ?_) hg)).setCell (Nat.le_refl X) _
  exact Nat.le_of_lt (hlo k (.inr hk))
 ·rcases hk with hk | hk
  ·exact hlo k (.inl hk)
  ·rcases hv with e | e
   ·exact hlo k (.inr (e ▸ hk))
   ·rw [e] at hk; injection hk with hk; omega
end
end Go.Proofs.YtopoefcklipaeaaGreatDoor
