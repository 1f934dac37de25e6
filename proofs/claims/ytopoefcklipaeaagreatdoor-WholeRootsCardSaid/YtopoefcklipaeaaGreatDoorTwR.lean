/- Walk of spare's check. -/
import Derived.Test.YtopoefcklipaeaaGreatDoorGRg
namespace Go.Proofs.YtopoefcklipaeaaGreatDoor
open Go.RowKit
def plKey (t : Plc) : Lit := pKey t.disk t.block
def PlWf (t : Plc) : Prop := (Lit.int .i64 t.disk).wf = true ∧ (Lit.int .i64 t.block).wf = true
theorem plKey_inj {a b : Plc} (ha : PlWf a) (hb : PlWf b) (h : plKey a = plKey b) : a = b := by
 obtain ⟨h1, h2⟩ := pKey_inj ha.1 ha.2 hb.1 hb.2 h
 cases a; cases b; simp at h1 h2; rw [h1, h2]
def seenF (f : Lit → Bool) (l : List Mv) : Lit → Bool := l.foldl (fun f m => updK f (plKey m.to) true) f
theorem seenF_iff {t : Plc} (ht : PlWf t) : ∀ (l : List Mv) (f : Lit → Bool), (∀ m ∈ l, PlWf m.to) → (seenF f l (plKey t) = true ↔ f (plKey t) = true ∨ ∃ m ∈ l, m.to = t) := by
 intro l
 induction l with
 | nil => intro f _; simp [seenF]
 | cons x xs ih =>
  intro f hw
  have h := ih (updK f (plKey x.to) true) (fun m hm => hw m (List.mem_cons_of_mem _ hm))
  show seenF (updK f (plKey x.to) true) xs (plKey t) = true ↔ _
  rw [h]
  by_cases e : x.to = t
  ·constructor
   ·intro _; exact .inr ⟨x, List.mem_cons_self, e⟩
   ·intro _; left; unfold updK; rw [e, WideAt.sameKey_self (show WideAt.IsKeyLit (plKey t) from trivial)]; rfl
  ·have hu : updK f (plKey x.to) true (plKey t) = f (plKey t) := by
    unfold updK
    rw [Maps.sameKey_ne (fun h => e (plKey_inj (hw x List.mem_cons_self) ht h.symm))]
    rfl
   rw [hu]
   constructor
   ·rintro (h | ⟨m, hm, he⟩)
    ·exact .inl h
    ·exact .inr ⟨m, List.mem_cons_of_mem _ hm, he⟩
   ·rintro (h | ⟨m, hm, he⟩)
    ·exact .inl h
    ·rcases List.mem_cons.1 hm with rfl | hm
     ·exact absurd he e
     ·exact .inr ⟨m, hm, he⟩
theorem seenF_succ {ms : List Mv} {k : Nat} {m : Mv} (h : ms[k]? = some m) (f : Lit → Bool) : seenF f (ms.take (k + 1)) = updK (seenF f (ms.take k)) (plKey m.to) true := by
 unfold seenF
 rw [List.take_add_one, h, List.foldl_append]
 rfl
def staZ : Array Value := #[.int .i64 0, .slice none 0 0, .int .i64 0, .int .i64 0, .slice none 0 0, .int .i64 0, .int .i64 0]
def ChkP (b : Bool) (L : LayD) (A : Option Addr) (c : Nat) (Am : Option Addr) (nm cm : Nat) (r : Ending) : Prop :=
 r = .returned (.tuple #[.agg (if b then staC L A c Am nm cm else staZ), .bool b])
structure ChkS (w wr : World) (S M : Nat) (L : LayD) (A : Option Addr) (c : Nat) (Am : Option Addr) (ms : List Mv) (cm k : Nat) : Prop where
 bel : Below w.heap.size w wr
 lay : LayB wr w.heap.size L A c
 res : wr.heap[w.heap.size + 1]? = some (.cells staZ 299)
 sta : StaB wr S L A c Am ms.length cm
 map : MapS wr Tryz.prog 194 M (ms.map fun m => plKey m.to) (seenF (fun _ => false) (ms.take k))
 ord : w.heap.size + 1 < S ∧ S < M
theorem ChkS.below {w wr w' : World} {S M : Nat} {L : LayD} {A Am : Option Addr} {c cm k : Nat} {ms : List Mv} (h : ChkS w wr S M L A c Am ms cm k) (hb : Below wr.heap.size wr w') : ChkS w w' S M L A c Am ms cm k :=
 ⟨h.bel.trans (hb.mono h.bel.size), h.lay.below hb h.lay.lt, (hb.block _ (blk_lt h.res)).trans h.res, h.sta.below hb h.sta.lt, h.map.below hb, h.ord⟩
theorem homes_pos {L : LayD} (ok : LayOk L) : 1 ≤ L.homes := by
 unfold LayD.homes
 exact Nat.mul_pos ok.tiles.1 (rpos ok)
def ChkQ (ms : List Mv) (k : Nat) (m : Mv) (res : Bool) (w : World) (S M : Nat) (L : LayD) (A : Option Addr) (c : Nat) (Am : Option Addr) (cm N : Nat) (s : Value) (wx : World) : Prop :=
 ((s = .bool true ∧ res = false) ∨ (s = .bool false ∧ ∀ x, 0 < k → ms[k - 1]? = some x → ltM x m)) ∧ ChkS w wx S M L A c Am ms cm k ∧ MvB wx N m
set_option maxHeartbeats 8000000 in
set_option maxRecDepth 100000 in
theorem scheck_any {L : LayD} {A Am : Option Addr} {B c cm : Nat} {ms : List Mv} (w : World) (hx : LayX L) (hv : GsV w B A L.gs) (hM : MvS w B Am ms) (hwf : ∀ m ∈ ms, PlWf m.to) (hB : B ≤ w.heap.size) (hlen : ms.length ≤ 100000) :
  Calls Tryz.prog 150 #[layAgg L A c, .slice Am ms.length cm] w fun r w' => ChkP (validM L ms) L A c Am ms.length cm r ∧ Below w.heap.size w w' := by
 have HV := Lib.hid hv
 have HM := Lib.hid hM
 have HWF := Lib.hid hwf
 have HBD := Lib.hid (fun i m hm h => valid_bad (L := L) (ms := ms) (i := i) (m := m) hm h)
 have HBD2 := Lib.hid (fun i m hm h => valid_bad2 (L := L) (ms := ms) (i := i) (m := m) hm h)
 have HGD := Lib.hid (fun h1 h2 => (valid_iff (L := L) (ms := ms)).2 ⟨h1, h2⟩)
 have HCB := Lib.hid (fun W hv hB => lblocks_any (L := L) (A := A) (B := B) (c := c) W hx hv hB)
 have HCH := Lib.hid (fun g p W hv hB => shas_any (L := L) (A := A) (Am := Am) (B := B) (c := c) (nm := ms.length) (cm := cm) g p W hx hv hB)
 have HCO := Lib.hid (fun m g p W => order_any m g p W)
 have HCA := Lib.hid (fun g W hv hM hB hs his hg => sapart_any (L := L) (A := A) (Am := Am) (B := B) (c := c) (cm := cm) (ms := ms) g W hx hv hM hB hlen hs his hg)
 have hbk : (L.blocks : Int) - (L.spare : Int) = (L.homes : Int) := by unfold LayD.blocks; omega
 have hb0' : ¬ (L.blocks : Int) = 0 := by have := homes_pos hx.ok; unfold LayD.blocks; omega
 have hbz : ((L.blocks : Int) == 0) = false := by simpa using hb0'
 have hbz2 : (L.blocks == 0) = false := by have := homes_pos hx.ok; simp [LayD.blocks]; omega
 have hbb := hx.ok.blocks
 unfold layAgg staC Mv.agg memAgg at *
 clear hv hM hwf hx
 obtain ⟨res, hres⟩ : ∃ res, validM L ms = res := ⟨_, rfl⟩
 rw [hres] at HGD ⊢
 simp only [hres] at HBD HBD2
 clear hres
 go_enter Tryz.func150, Tryz.ntmps150
 go_wp2_with fail
 generalize hW0 : w.alloc _ = w0
 have hl0 : LayB w0 w.heap.size L A c := by rw [← hW0]; exact LayB.made w L _ c
 have hb0 : Below w.heap.size w w0 := by rw [← hW0]; exact below_laid
 have hz0 : w0.heap.size = w.heap.size + 1 := by rw [← hW0]; simp
 generalize hW1 : w0.alloc _ = w1
 have hr1 : w1.heap[w.heap.size + 1]? = some (.cells staZ 299) := by rw [← hW1, ← hz0]; exact heap_alloc_new w0 _
 have hl1 : LayB w1 w.heap.size L A c := by rw [← hW1]; exact hl0.below below_laid hl0.lt
 have hb1 : Below w.heap.size w w1 := by rw [← hW1]; exact hb0.trans (below_laid.mono hb0.size)
 clear hW0 hW1 hl0 hb0 hz0
 refine (HCB.out w1 (HV.out.below hb1 hB) (Nat.le_trans hB hb1.size)).mono ?_
 rintro r w2 ⟨rfl, hb2⟩
 have hl2 := hl1.below hb2 hl1.lt
 have hr2 := (hb2.block _ (blk_lt hr1)).trans hr1
 have hB2 := hb1.trans (hb2.mono hb1.size)
 obtain ⟨l0, l1, l2, l3⟩ := hl2.cells
 clear hb1 hb2 hl1 hr1
 go_upto_region 5 with (fail)
 have hsz2 : w.heap.size + 1 < w2.heap.size := blk_lt hr2
 have hst3 := StaB.made w2 L A c Am ms.length cm
 have hl3 := hl2.below (below_laid (w := w2) (o := .cells #[.int .i64 L.disks, .slice A L.n c, .int .i64 L.tiles, .int .i64 L.spare, .slice Am ms.length cm, .int .i64 L.homes, .int .i64 L.blocks] 299)) hl2.lt
 have hr3 := ((below_laid (w := w2) (o := .cells #[.int .i64 L.disks, .slice A L.n c, .int .i64 L.tiles, .int .i64 L.spare, .slice Am ms.length cm, .int .i64 L.homes, .int .i64 L.blocks] 299)).block _ (blk_lt hr2)).trans hr2
 have hb3 := hB2.trans ((below_laid (w := w2) (o := .cells #[.int .i64 L.disks, .slice A L.n c, .int .i64 L.tiles, .int .i64 L.spare, .slice Am ms.length cm, .int .i64 L.homes, .int .i64 L.blocks] 299)).mono hB2.size)
 clear l0 l1 l2 l3 hl2 hr2 hB2
 generalize w2.heap.size = S at *
 generalize w2.alloc _ = w3 at *
 have hSl : S < w3.heap.size := hst3.lt
 have H0 : Hid (ChkS w (w3.alloc (.map #[] 0)) S w3.heap.size L A c Am ms cm 0) := ⟨hb3.alloc hb3.size _, hl3.below below_laid hl3.lt, (below_laid.block _ (blk_lt hr3)).trans hr3, hst3.below below_laid hst3.lt, MapS.made w3 _ _ _, hsz2, hSl⟩
 clear hst3 hl3 hr3 hb3
 have hmm : ∀ W : World, (Instr.makeMap 387 none).run Tryz.prog W = .ok (.map (some W.heap.size)) (W.alloc (.map #[] 0)) := fun W => rfl
 go_upto_region 6 with (fail)
 generalize w3.heap.size = M at *
 generalize w3.alloc _ = w4 at *
 clear hmm
 go_wp2
 go_loopw [29, 9, 10] (fun s29 _ _ wr => ∃ k : Nat, k ≤ ms.length ∧ s29 = .int .i64 k ∧ (∀ (j : Nat) m, j < k → ms[j]? = some m → StepOk L ms j m) ∧ ChkS w wr S M L A c Am ms cm k) (fun s29 _ _ _ => ms.length - (intOf s29).toNat)
 case atStart => exact ⟨0, by omega, rfl, fun j m hj => absurd hj (by omega), H0.out⟩
 case round =>
  clear H0
  obtain ⟨k, hk, rfl, hok, hcs⟩ := hrel
  have HOK := Lib.hid hok
  have HCS := Lib.hid hcs
  clear hok
  by_cases hkn : k < ms.length
  ·have hkI : (k : Int) < (ms.length : Int) := by omega
   obtain ⟨m, hm⟩ := at_some hkn
   have hm1 := HM.out.below' hcs.bel hB
   obtain ⟨b, off, rfl, -, q0, q1, q2, q3⟩ := MvS.at_ hm1 hm
   have HMM := Lib.hid hm
   have hwfm := HWF.out m (List.mem_of_getElem? hm)
   have HWFM := Lib.hid hwfm
   have hkl : plKey m.to ∈ ms.map fun m => plKey m.to := List.mem_map_of_mem (List.mem_of_getElem? hm)
   have HKL := Lib.hid hkl
   have hseen : seenF (fun _ => false) (ms.take k) (plKey m.to) = true ↔ ∃ j x, j < k ∧ ms[j]? = some x ∧ x.to = m.to := by
    rw [seenF_iff hwfm _ _ (fun x hx => HWF.out x (List.mem_of_mem_take hx))]
    constructor
    ·rintro (h | ⟨x, hx, he⟩)
     ·cases h
     ·rw [List.mem_take_iff_getElem] at hx
      obtain ⟨j, hj, rfl⟩ := hx
      exact ⟨j, _, by omega, List.getElem?_eq_getElem (by omega), he⟩
    ·rintro ⟨j, x, hj, hjx, he⟩
     obtain ⟨hj2, rfl⟩ := List.getElem?_eq_some_iff.1 hjx
     exact .inr ⟨_, by rw [List.mem_take_iff_getElem]; exact ⟨j, by omega, rfl⟩, he⟩
   have HSEEN := Lib.hid hseen
   have HSUC := Lib.hid (seenF_succ hm (fun _ => false))
   have hmb := MvB.made wr m
   have hcs1 := hcs.below (below_laid (o := .cells #[.int .i64 m.g, .int .i64 m.p, .int .i64 m.to.disk, .int .i64 m.to.block] 196))
   clear hm hm1 hkl hseen hwfm
   go_upto_region 9 with (fail)
   have hNl : M < wr.heap.size := hcs.map.lt
   generalize wr.heap.size = N at *
   generalize wr.alloc _ = w5 at *
   clear HCS hcs
   obtain ⟨m0, m1, m2, m3⟩ := hmb.cells
   have s5 := hcs1.sta.cells
   have HC5 := Lib.hid hcs1
   have HM5 := Lib.hid hmb
   have hB5 : B ≤ w5.heap.size := Nat.le_trans hB hcs1.bel.size
   have hhas := HCH.out m.g m.p w5 (HV.out.below hcs1.bel hB) hB5
   obtain ⟨ip, hip⟩ : ∃ ip, isP L m.g m.p = ip := ⟨_, rfl⟩
   rw [hip] at hhas
   have HIP := Lib.hid hip
   have HHAS := Lib.hid hhas
   clear hmb hcs1 hhas hip q0 q1 q2 q3
   go_wp2_with fail
   refine HHAS.out.mono ?_
   rintro r w6 ⟨rfl, hb6⟩
   have HC6 := Lib.hid (HC5.out.below hb6)
   have HM6 := Lib.hid (HM5.out.below hb6 HM5.out.lt)
   clear hb6 m0 m1 m2 m3 s5 HC5 HM5 HHAS
   cases ip
   ·have HR : Hid (res = false) := HBD.out k m HMM.out (fun hs => by have := hs.is; rw [HIP.out] at this; cases this)
    have hrz := HC6.out.res
    have y0 := (cell_of_row _ _ 0 _ _ _ hrz).trans (show _ = some (Value.int .i64 0) from rfl)
    have y1 := (cell_of_row _ _ 1 _ _ _ hrz).trans (show _ = some (Value.slice none 0 0) from rfl)
    have y2 := (cell_of_row _ _ 2 _ _ _ hrz).trans (show _ = some (Value.int .i64 0) from rfl)
    have y3 := (cell_of_row _ _ 3 _ _ _ hrz).trans (show _ = some (Value.int .i64 0) from rfl)
    have y4 := (cell_of_row _ _ 4 _ _ _ hrz).trans (show _ = some (Value.slice none 0 0) from rfl)
    have y5 := (cell_of_row _ _ 5 _ _ _ hrz).trans (show _ = some (Value.int .i64 0) from rfl)
    have y6 := (cell_of_row _ _ 6 _ _ _ hrz).trans (show _ = some (Value.int .i64 0) from rfl)
    have fz : ∀ j, (w6).frozen? ⟨w.heap.size + 1, j, none⟩ = false := fun j => frozen_of_row _ _ j _ _ hrz
    have HBE : Hid (Below w.heap.size w (setAll (w6) (w.heap.size + 1) 0 staZ.toList)) := HC6.out.bel.trans (setAll_keep (t := 299) w.heap.size (Nat.le_succ _) staZ.toList 0 (w6) ⟨_, hrz⟩).1
    unfold staZ at HBE
    simp only [setAll] at HBE
    clear hrz 
    go_wp2
    (try simp only [Exit.inBlock, Exit.then])
    refine bodyPost_ret (v := .tuple #[.agg #[.int .i64 0, .slice none 0 0, .int .i64 0, .int .i64 0, .slice none 0 0, .int .i64 0, .int .i64 0], .bool false]) ?_ rfl ⟨by rw [HR.out]; rfl, HBE.out⟩
    rw [results_cell_tmp rfl]
    go_simp
   ·have s6 := HC6.out.sta.cells
    have X := fun d xs => (HM6.out.below (below_regrown w6 d xs) HM6.out.lt).cells
    have KO : Hid (∀ x d xs, Calls Tryz.prog 159 #[.agg #[.int .i64 x.g, .int .i64 x.p, .int .i64 x.to.disk, .int .i64 x.to.block], .agg #[.int .i64 m.g, .int .i64 m.p]] (Sort.grow (redrawn w6 d) xs) fun r w' => r = .returned (.int .i64 (ordM m.g m.p x)) ∧ Below (Sort.grow (redrawn w6 d) xs).heap.size (Sort.grow (redrawn w6 d) xs) w') := fun x d xs => HCO.out x m.g m.p _
    go_upto_region 11 with (fail)
    go_cut [57] (fun s57 wx => ChkQ ms k m res w S M L A c (some ⟨b, off, none⟩) cm N s57 wx)
    case first =>
     by_cases hk0 : k = 0
     ·subst hk0
      refine quiet_below (by kernel_rfl) (by kernel_rfl) ?_
      repeat (go_big_quiet_step (fail))
      refine wpQuiet_nil ?_
      intro w7 hb7
      have HC7 := Lib.hid (HC6.out.below hb7)
      have HM7 := Lib.hid (HM6.out.below hb7 HM6.out.lt)
      clear hb7 X s6
      go_wp2_with fail
      go_meet
      exact ⟨.inr ⟨rfl, fun x h => absurd h (by omega)⟩, HC7.out, HM7.out⟩
     ·obtain ⟨q, rfl⟩ : ∃ q, k = q + 1 := ⟨k - 1, by omega⟩
      obtain ⟨x, hxq⟩ := at_some (l := ms) (i := q) (by omega)
      have hm6 := HM.out.below' HC6.out.bel hB
      have Q : ∀ d xs, (Sort.grow (redrawn w6 d) xs).cell? ⟨b, off + q * 4, none⟩ = some (.int .i64 x.g) ∧ (Sort.grow (redrawn w6 d) xs).cell? ⟨b, off + q * 4 + 1, none⟩ = some (.int .i64 x.p) ∧ (Sort.grow (redrawn w6 d) xs).cell? ⟨b, off + q * 4 + 2, none⟩ = some (.int .i64 x.to.disk) ∧ (Sort.grow (redrawn w6 d) xs).cell? ⟨b, off + q * 4 + 3, none⟩ = some (.int .i64 x.to.block) := fun d xs => by
       obtain ⟨b', off', e, -, q0, q1, q2, q3⟩ := MvS.at_ (hm6.below' (below_regrown w6 d xs) (Nat.le_trans hB HC6.out.bel.size)) hxq
       cases e
       exact ⟨q0, q1, q2, q3⟩
      have HXQ := Lib.hid hxq
      have hpI : decide ((0 : Int) < (q : Int) + 1) = true := by rw [decide_eq_true_iff]; omega
      have hsub : IntKind.i64.wrap ((q : Int) + 1 - 1) = (q : Int) := by rw [show (q : Int) + 1 - 1 = (q : Int) by omega]; exact IntWalk.i64_in _ (by omega)
      have HNG := Lib.hid (ord_neg (g := m.g) (p := m.p) (m := x))
      have HKX := Lib.hid (fun d xs => KO.out x d xs)
      obtain ⟨om, hom⟩ : ∃ om, ordM m.g m.p x = om := ⟨_, rfl⟩
      rw [hom] at HNG
      simp only [hom] at HKX
      clear hm6 hxq hk0 hom KO
      by_cases hneg : om < 0
      ·have f1 : decide (0 ≤ om) = false := by rw [decide_eq_false_iff_not]; omega
       have HLT : Hid (ltM x m) := by have := HNG.out.1 hneg; unfold Hid ltM; omega
       clear hneg
       refine quiet_below (by kernel_rfl) (by kernel_rfl) ?_
       repeat (go_big_quiet_step (first | (go_at_call 159; exact Calls.regrown_of (HKX.out _ _))))
       refine wpQuiet_nil ?_
       intro w7 hb7
       have HC7 := Lib.hid (HC6.out.below hb7)
       have HM7 := Lib.hid (HM6.out.below hb7 HM6.out.lt)
       clear hb7 X s6 Q HKX
       go_wp2_with fail
       go_meet
       exact ⟨.inr ⟨rfl, fun y _ hy => by rw [Nat.add_sub_cancel, HXQ.out] at hy; cases hy; exact HLT.out⟩, HC7.out, HM7.out⟩
      ·have f1 : decide (0 ≤ om) = true := by rw [decide_eq_true_iff]; omega
       have HR : Hid (res = false) := HBD.out (q + 1) m HMM.out fun hs => hneg (HNG.out.2 (by have := hs.ord x (by omega) HXQ.out; unfold ltM at this; omega))
       clear hneg
       refine quiet_below (by kernel_rfl) (by kernel_rfl) ?_
       repeat (go_big_quiet_step (first | (go_at_call 159; exact Calls.regrown_of (HKX.out _ _))))
       refine wpQuiet_nil ?_
       intro w7 hb7
       have HC7 := Lib.hid (HC6.out.below hb7)
       have HM7 := Lib.hid (HM6.out.below hb7 HM6.out.lt)
       clear hb7 X s6 Q HKX
       go_wp2_with fail
       go_meet
       exact ⟨.inl ⟨rfl, HR.out⟩, HC7.out, HM7.out⟩
    obtain ⟨h57, hc7, hm7⟩ := hcut
    have HC7 := Lib.hid hc7
    have HM7 := Lib.hid hm7
    clear hc7 hm7 X KO s6 HC6 HM6
    rcases h57 with ⟨rfl, hR⟩ | ⟨rfl, hO⟩
    ·have HR := Lib.hid hR
     clear hR
     have hrz := HC7.out.res
     have y0 := (cell_of_row _ _ 0 _ _ _ hrz).trans (show _ = some (Value.int .i64 0) from rfl)
     have y1 := (cell_of_row _ _ 1 _ _ _ hrz).trans (show _ = some (Value.slice none 0 0) from rfl)
     have y2 := (cell_of_row _ _ 2 _ _ _ hrz).trans (show _ = some (Value.int .i64 0) from rfl)
     have y3 := (cell_of_row _ _ 3 _ _ _ hrz).trans (show _ = some (Value.int .i64 0) from rfl)
     have y4 := (cell_of_row _ _ 4 _ _ _ hrz).trans (show _ = some (Value.slice none 0 0) from rfl)
     have y5 := (cell_of_row _ _ 5 _ _ _ hrz).trans (show _ = some (Value.int .i64 0) from rfl)
     have y6 := (cell_of_row _ _ 6 _ _ _ hrz).trans (show _ = some (Value.int .i64 0) from rfl)
     have fz : ∀ j, (wc).frozen? ⟨w.heap.size + 1, j, none⟩ = false := fun j => frozen_of_row _ _ j _ _ hrz
     have HBE : Hid (Below w.heap.size w (setAll (wc) (w.heap.size + 1) 0 staZ.toList)) := HC7.out.bel.trans (setAll_keep (t := 299) w.heap.size (Nat.le_succ _) staZ.toList 0 (wc) ⟨_, hrz⟩).1
     unfold staZ at HBE
     simp only [setAll] at HBE
     clear hrz 
     go_wp2
     (try simp only [Exit.inBlock, Exit.then])
     refine bodyPost_ret (v := .tuple #[.agg #[.int .i64 0, .slice none 0 0, .int .i64 0, .int .i64 0, .slice none 0 0, .int .i64 0, .int .i64 0], .bool false]) ?_ rfl ⟨by rw [HR.out]; rfl, HBE.out⟩
     rw [results_cell_tmp rfl]
     go_simp
    have HO := Lib.hid hO
    clear hO
    obtain ⟨l0, l1, l2, l3⟩ := HC7.out.lay.cells
    obtain ⟨m0, m1, m2, m3⟩ := HM7.out.cells
    have s7 := HC7.out.sta.cells
    have hlook := HC7.out.map.g.look keyedPl Tryz.underlying387 (zeroBoolK _) (keyOf_pl _ _ HWFM.out.1 HWFM.out.2) (pKey_lit _ _)
    obtain ⟨sb, hsb⟩ : ∃ sb, seenF (fun _ => false) (ms.take k) (plKey m.to) = sb := ⟨_, rfl⟩
    rw [show pKey m.to.disk m.to.block = plKey m.to from rfl, hsb] at hlook
    have HSB : Hid (sb = true ↔ ∃ j x, j < k ∧ ms[j]? = some x ∧ x.to = m.to) := by rw [Hid, ← hsb]; exact HSEEN.out
    clear hsb
    change (Instr.lookup _ _ _ _).run _ _ = Result.ok (.bool sb) _ at hlook
    have HBAD : Hid ((m.to.disk < 0 ∨ (L.disks : Int) ≤ m.to.disk ∨ m.to.block < (L.homes : Int) ∨ (L.blocks : Int) ≤ m.to.block ∨ sb = true) → res = false) := fun hbad => HBD.out k m HMM.out fun hs => by
     have h2 := toOk_iff.1 hs.to
     rcases hbad with h | h | h | h | h
     ·exact h2.1 h
     ·exact h2.2.1 h
     ·exact h2.2.2.1 h
     ·exact h2.2.2.2 h
     ·obtain ⟨j, x, hj, hjx, he⟩ := HSB.out.1 h
      exact hs.sep j x hj hjx he
    by_cases e1 : m.to.disk < 0
    ·have HR := Lib.hid (HBAD.out (.inl e1))
     have f1 : decide (m.to.disk < 0) = true := by rw [decide_eq_true_iff]; exact e1
     clear e1
     have hrz := HC7.out.res
     have y0 := (cell_of_row _ _ 0 _ _ _ hrz).trans (show _ = some (Value.int .i64 0) from rfl)
     have y1 := (cell_of_row _ _ 1 _ _ _ hrz).trans (show _ = some (Value.slice none 0 0) from rfl)
     have y2 := (cell_of_row _ _ 2 _ _ _ hrz).trans (show _ = some (Value.int .i64 0) from rfl)
     have y3 := (cell_of_row _ _ 3 _ _ _ hrz).trans (show _ = some (Value.int .i64 0) from rfl)
     have y4 := (cell_of_row _ _ 4 _ _ _ hrz).trans (show _ = some (Value.slice none 0 0) from rfl)
     have y5 := (cell_of_row _ _ 5 _ _ _ hrz).trans (show _ = some (Value.int .i64 0) from rfl)
     have y6 := (cell_of_row _ _ 6 _ _ _ hrz).trans (show _ = some (Value.int .i64 0) from rfl)
     have fz : ∀ j, (wc).frozen? ⟨w.heap.size + 1, j, none⟩ = false := fun j => frozen_of_row _ _ j _ _ hrz
     have HBE : Hid (Below w.heap.size w (setAll (wc) (w.heap.size + 1) 0 staZ.toList)) := HC7.out.bel.trans (setAll_keep (t := 299) w.heap.size (Nat.le_succ _) staZ.toList 0 (wc) ⟨_, hrz⟩).1
     unfold staZ at HBE
     simp only [setAll] at HBE
     clear hrz 
     go_wp2
     (try simp only [Exit.inBlock, Exit.then])
     refine bodyPost_ret (v := .tuple #[.agg #[.int .i64 0, .slice none 0 0, .int .i64 0, .int .i64 0, .slice none 0 0, .int .i64 0, .int .i64 0], .bool false]) ?_ rfl ⟨by rw [HR.out]; rfl, HBE.out⟩
     rw [results_cell_tmp rfl]
     go_simp
    have f1 : decide (m.to.disk < 0) = false := by rw [decide_eq_false_iff_not]; exact e1
    by_cases e2 : (L.disks : Int) ≤ m.to.disk
    ·have HR := Lib.hid (HBAD.out (.inr (.inl e2)))
     have f2 : decide ((L.disks : Int) ≤ m.to.disk) = true := by rw [decide_eq_true_iff]; exact e2
     clear e1 e2
     have hrz := HC7.out.res
     have y0 := (cell_of_row _ _ 0 _ _ _ hrz).trans (show _ = some (Value.int .i64 0) from rfl)
     have y1 := (cell_of_row _ _ 1 _ _ _ hrz).trans (show _ = some (Value.slice none 0 0) from rfl)
     have y2 := (cell_of_row _ _ 2 _ _ _ hrz).trans (show _ = some (Value.int .i64 0) from rfl)
     have y3 := (cell_of_row _ _ 3 _ _ _ hrz).trans (show _ = some (Value.int .i64 0) from rfl)
     have y4 := (cell_of_row _ _ 4 _ _ _ hrz).trans (show _ = some (Value.slice none 0 0) from rfl)
     have y5 := (cell_of_row _ _ 5 _ _ _ hrz).trans (show _ = some (Value.int .i64 0) from rfl)
     have y6 := (cell_of_row _ _ 6 _ _ _ hrz).trans (show _ = some (Value.int .i64 0) from rfl)
     have fz : ∀ j, (wc).frozen? ⟨w.heap.size + 1, j, none⟩ = false := fun j => frozen_of_row _ _ j _ _ hrz
     have HBE : Hid (Below w.heap.size w (setAll (wc) (w.heap.size + 1) 0 staZ.toList)) := HC7.out.bel.trans (setAll_keep (t := 299) w.heap.size (Nat.le_succ _) staZ.toList 0 (wc) ⟨_, hrz⟩).1
     unfold staZ at HBE
     simp only [setAll] at HBE
     clear hrz 
     go_wp2
     (try simp only [Exit.inBlock, Exit.then])
     refine bodyPost_ret (v := .tuple #[.agg #[.int .i64 0, .slice none 0 0, .int .i64 0, .int .i64 0, .slice none 0 0, .int .i64 0, .int .i64 0], .bool false]) ?_ rfl ⟨by rw [HR.out]; rfl, HBE.out⟩
     rw [results_cell_tmp rfl]
     go_simp
    have f2 : decide ((L.disks : Int) ≤ m.to.disk) = false := by rw [decide_eq_false_iff_not]; exact e2
    by_cases e3 : m.to.block < (L.homes : Int)
    ·have HR := Lib.hid (HBAD.out (.inr (.inr (.inl e3))))
     have f3 : decide (m.to.block < (L.homes : Int)) = true := by rw [decide_eq_true_iff]; exact e3
     clear e1 e2 e3
     have hrz := HC7.out.res
     have y0 := (cell_of_row _ _ 0 _ _ _ hrz).trans (show _ = some (Value.int .i64 0) from rfl)
     have y1 := (cell_of_row _ _ 1 _ _ _ hrz).trans (show _ = some (Value.slice none 0 0) from rfl)
     have y2 := (cell_of_row _ _ 2 _ _ _ hrz).trans (show _ = some (Value.int .i64 0) from rfl)
     have y3 := (cell_of_row _ _ 3 _ _ _ hrz).trans (show _ = some (Value.int .i64 0) from rfl)
     have y4 := (cell_of_row _ _ 4 _ _ _ hrz).trans (show _ = some (Value.slice none 0 0) from rfl)
     have y5 := (cell_of_row _ _ 5 _ _ _ hrz).trans (show _ = some (Value.int .i64 0) from rfl)
     have y6 := (cell_of_row _ _ 6 _ _ _ hrz).trans (show _ = some (Value.int .i64 0) from rfl)
     have fz : ∀ j, (wc).frozen? ⟨w.heap.size + 1, j, none⟩ = false := fun j => frozen_of_row _ _ j _ _ hrz
     have HBE : Hid (Below w.heap.size w (setAll (wc) (w.heap.size + 1) 0 staZ.toList)) := HC7.out.bel.trans (setAll_keep (t := 299) w.heap.size (Nat.le_succ _) staZ.toList 0 (wc) ⟨_, hrz⟩).1
     unfold staZ at HBE
     simp only [setAll] at HBE
     clear hrz 
     go_wp2
     (try simp only [Exit.inBlock, Exit.then])
     refine bodyPost_ret (v := .tuple #[.agg #[.int .i64 0, .slice none 0 0, .int .i64 0, .int .i64 0, .slice none 0 0, .int .i64 0, .int .i64 0], .bool false]) ?_ rfl ⟨by rw [HR.out]; rfl, HBE.out⟩
     rw [results_cell_tmp rfl]
     go_simp
    have f3 : decide (m.to.block < (L.homes : Int)) = false := by rw [decide_eq_false_iff_not]; exact e3
    by_cases e4 : (L.blocks : Int) ≤ m.to.block
    ·have HR := Lib.hid (HBAD.out (.inr (.inr (.inr (.inl e4)))))
     have f4 : decide ((L.blocks : Int) ≤ m.to.block) = true := by rw [decide_eq_true_iff]; exact e4
     clear e1 e2 e3 e4
     have hrz := HC7.out.res
     have y0 := (cell_of_row _ _ 0 _ _ _ hrz).trans (show _ = some (Value.int .i64 0) from rfl)
     have y1 := (cell_of_row _ _ 1 _ _ _ hrz).trans (show _ = some (Value.slice none 0 0) from rfl)
     have y2 := (cell_of_row _ _ 2 _ _ _ hrz).trans (show _ = some (Value.int .i64 0) from rfl)
     have y3 := (cell_of_row _ _ 3 _ _ _ hrz).trans (show _ = some (Value.int .i64 0) from rfl)
     have y4 := (cell_of_row _ _ 4 _ _ _ hrz).trans (show _ = some (Value.slice none 0 0) from rfl)
     have y5 := (cell_of_row _ _ 5 _ _ _ hrz).trans (show _ = some (Value.int .i64 0) from rfl)
     have y6 := (cell_of_row _ _ 6 _ _ _ hrz).trans (show _ = some (Value.int .i64 0) from rfl)
     have fz : ∀ j, (wc).frozen? ⟨w.heap.size + 1, j, none⟩ = false := fun j => frozen_of_row _ _ j _ _ hrz
     have HBE : Hid (Below w.heap.size w (setAll (wc) (w.heap.size + 1) 0 staZ.toList)) := HC7.out.bel.trans (setAll_keep (t := 299) w.heap.size (Nat.le_succ _) staZ.toList 0 (wc) ⟨_, hrz⟩).1
     unfold staZ at HBE
     simp only [setAll] at HBE
     clear hrz 
     go_wp2
     (try simp only [Exit.inBlock, Exit.then])
     refine bodyPost_ret (v := .tuple #[.agg #[.int .i64 0, .slice none 0 0, .int .i64 0, .int .i64 0, .slice none 0 0, .int .i64 0, .int .i64 0], .bool false]) ?_ rfl ⟨by rw [HR.out]; rfl, HBE.out⟩
     rw [results_cell_tmp rfl]
     go_simp
    have f4 : decide ((L.blocks : Int) ≤ m.to.block) = false := by rw [decide_eq_false_iff_not]; exact e4
    have HTO := Lib.hid (toOk_iff.2 ⟨e1, e2, e3, e4⟩)
    clear e1 e2 e3 e4
    cases sb
    case true =>
     have HR := Lib.hid (HBAD.out (.inr (.inr (.inr (.inr rfl)))))
     have hrz := HC7.out.res
     have y0 := (cell_of_row _ _ 0 _ _ _ hrz).trans (show _ = some (Value.int .i64 0) from rfl)
     have y1 := (cell_of_row _ _ 1 _ _ _ hrz).trans (show _ = some (Value.slice none 0 0) from rfl)
     have y2 := (cell_of_row _ _ 2 _ _ _ hrz).trans (show _ = some (Value.int .i64 0) from rfl)
     have y3 := (cell_of_row _ _ 3 _ _ _ hrz).trans (show _ = some (Value.int .i64 0) from rfl)
     have y4 := (cell_of_row _ _ 4 _ _ _ hrz).trans (show _ = some (Value.slice none 0 0) from rfl)
     have y5 := (cell_of_row _ _ 5 _ _ _ hrz).trans (show _ = some (Value.int .i64 0) from rfl)
     have y6 := (cell_of_row _ _ 6 _ _ _ hrz).trans (show _ = some (Value.int .i64 0) from rfl)
     have fz : ∀ j, (wc).frozen? ⟨w.heap.size + 1, j, none⟩ = false := fun j => frozen_of_row _ _ j _ _ hrz
     have HBE : Hid (Below w.heap.size w (setAll (wc) (w.heap.size + 1) 0 staZ.toList)) := HC7.out.bel.trans (setAll_keep (t := 299) w.heap.size (Nat.le_succ _) staZ.toList 0 (wc) ⟨_, hrz⟩).1
     unfold staZ at HBE
     simp only [setAll] at HBE
     clear hrz 
     go_wp2
     (try simp only [Exit.inBlock, Exit.then])
     refine bodyPost_ret (v := .tuple #[.agg #[.int .i64 0, .slice none 0 0, .int .i64 0, .int .i64 0, .slice none 0 0, .int .i64 0, .int .i64 0], .bool false]) ?_ rfl ⟨by rw [HR.out]; rfl, HBE.out⟩
     rw [results_cell_tmp rfl]
     go_simp
    case false =>
     have HSO : Hid (∀ (j : Nat) x, j < k → ms[j]? = some x → x.to ≠ m.to) := fun j x hj hx he => by have := HSB.out.2 ⟨j, x, hj, hx, he⟩; cases this
     have HST : Hid (StepOk L ms k m) := ⟨HIP.out, HTO.out, HO.out, HSO.out⟩
     go_upto_region 15 with (fail)
     clear hlook
     have hKn : (ms.map fun m => plKey m.to).length < maxLen := by rw [List.length_map]; simp [maxLen]; omega
     go_wp2_with (refine wpList_putS rfl (.tmp 95) (.tmp 97) (.const (.bool true)) _ rfl keyedPl Tryz.underlying387 rfl HC7.out.map hKn _ (plKey m.to) rfl (keyOf_pl _ _ HWFM.out.1 HWFM.out.2) (pKey_lit _ _) HKL.out true rfl ?_)
     intro w8 hmap8 hg8
     have hord := HC7.out.ord
     have HC8 : Hid (ChkS w w8 S M L A c (some ⟨b, off, none⟩) ms cm (k + 1)) :=
      ⟨HC7.out.bel.grown hg8 HC7.out.bel.size (fun q hq => by cases hq; omega), (hg8.block _ HC7.out.lay.lt (by intro e; cases e; omega)).trans HC7.out.lay, (hg8.block _ (blk_lt HC7.out.res) (by intro e; injection e with e; omega)).trans HC7.out.res, (hg8.block _ HC7.out.sta.lt (by intro e; injection e with e; omega)).trans HC7.out.sta, by rw [HSUC.out]; exact hmap8, hord⟩
     clear hmap8 hg8 l0 l1 l2 l3 m0 m1 m2 m3 s7
     go_wp2
     go_roundw
     case rel =>
      refine ⟨k + 1, by omega, by go_num, fun j x hj hx => ?_, HC8.out⟩
      rcases Nat.lt_or_eq_of_le (Nat.le_of_lt_succ hj) with hj | rfl
      ·exact HOK.out j x hj hx
      ·rw [HMM.out] at hx; cases hx; exact HST.out
     case measure => simp [intOf] <;> omega
  ·have hkI : ¬ (k : Int) < (ms.length : Int) := by omega
   have hkm : k = ms.length := by omega
   have HOA : Hid (∀ (j : Nat) m, ms[j]? = some m → StepOk L ms j m) := fun j m hj => HOK.out j m (by have := (List.getElem?_eq_some_iff.1 hj).1; omega) hj
   have HPW : Hid (ms.Pairwise ltM) := adj_pairwise (fun i x y hx hy => (HOA.out (i + 1) y hy).ord x (by omega) (by simpa using hx))
   have HIS : Hid (∀ m ∈ ms, isP L m.g m.p = true) := fun m hm => by
    obtain ⟨j, hj, rfl⟩ := List.mem_iff_getElem.1 hm
    exact (HOA.out j _ (List.getElem?_eq_getElem hj)).is
   clear HOK hcs
   go_wp2
   go_loopw [101, 12] (fun s101 _ wr => ∃ q : Nat, q ≤ ms.length ∧ s101 = .int .i64 q ∧ (∀ (j : Nat) m, j < q → ms[j]? = some m → apartL L ms m.g = true) ∧ ChkS w wr S M L A c Am ms cm k) (fun s101 _ _ => ms.length - (intOf s101).toNat)
   case atStart => exact ⟨0, by omega, rfl, fun j m hj => absurd hj (by omega), HCS.out⟩
   case round =>
    clear HCS
    obtain ⟨q, hq, rfl, hap, hcs⟩ := hrel
    have HAP := Lib.hid hap
    have HCS := Lib.hid hcs
    clear hap
    by_cases hqn : q < ms.length
    ·have hqI : (q : Int) < (ms.length : Int) := by omega
     obtain ⟨m, hm⟩ := at_some hqn
     obtain ⟨b, off, rfl, -, q0, q1, q2, q3⟩ := MvS.at_ (HM.out.below' hcs.bel hB) hm
     obtain ⟨gn, pn, hgn, -, hgl, -⟩ := isP_nat (HOA.out q m hm).is
     rw [hgn] at q0
     have HMM : Hid (apartL L ms gn = true → ∀ (j : Nat) x, j < q + 1 → ms[j]? = some x → apartL L ms x.g = true) := fun h j x hj hx => by
      rcases Nat.lt_or_eq_of_le (Nat.le_of_lt_succ hj) with hj | rfl
      ·exact HAP.out j x hj hx
      ·rw [hm] at hx; cases hx; rw [hgn]; exact h
     have HBA : Hid (apartL L ms gn = false → res = false) := fun h => HBD2.out q m hm fun h2 => by rw [hgn, h] at h2; cases h2
     have hcs1 := hcs.below (below_laid (o := .cells #[.int .i64 gn, .int .i64 m.p, .int .i64 m.to.disk, .int .i64 m.to.block] 196))
     have hmb : (wr.alloc (.cells #[.int .i64 gn, .int .i64 m.p, .int .i64 m.to.disk, .int .i64 m.to.block] 196)).heap[wr.heap.size]? = some (.cells #[.int .i64 gn, .int .i64 m.p, .int .i64 m.to.disk, .int .i64 m.to.block] 196) := heap_alloc_new wr _
     clear hm hgn hcs HCS
     go_upto_region 20 with (fail)
     generalize wr.heap.size = N at *
     generalize wr.alloc _ = w5 at *
     have m0 := (cell_of_row _ _ 0 _ _ _ hmb).trans (show _ = some (Value.int .i64 (gn : Int)) from rfl)
     have s5 := hcs1.sta.cells
     have HC5 := Lib.hid hcs1
     have hca := HCA.out gn w5 (HV.out.below hcs1.bel hB) (HM.out.below' hcs1.bel hB) (Nat.le_trans hB hcs1.bel.size) HPW.out HIS.out hgl
     obtain ⟨ab, hab⟩ : ∃ ab, apartL L ms gn = ab := ⟨_, rfl⟩
     rw [hab] at hca HMM HBA
     have HCA2 := Lib.hid hca
     clear hca hab hmb hcs1 q0 q1 q2 q3
     go_wp2_with fail
     refine HCA2.out.mono ?_
     rintro r w6 ⟨rfl, hb6⟩
     have HC6 := Lib.hid (HC5.out.below hb6)
     clear hb6 m0 s5 HC5
     cases ab
     ·have HR := Lib.hid (HBA.out rfl)
      have hrz := HC6.out.res
      have y0 := (cell_of_row _ _ 0 _ _ _ hrz).trans (show _ = some (Value.int .i64 0) from rfl)
      have y1 := (cell_of_row _ _ 1 _ _ _ hrz).trans (show _ = some (Value.slice none 0 0) from rfl)
      have y2 := (cell_of_row _ _ 2 _ _ _ hrz).trans (show _ = some (Value.int .i64 0) from rfl)
      have y3 := (cell_of_row _ _ 3 _ _ _ hrz).trans (show _ = some (Value.int .i64 0) from rfl)
      have y4 := (cell_of_row _ _ 4 _ _ _ hrz).trans (show _ = some (Value.slice none 0 0) from rfl)
      have y5 := (cell_of_row _ _ 5 _ _ _ hrz).trans (show _ = some (Value.int .i64 0) from rfl)
      have y6 := (cell_of_row _ _ 6 _ _ _ hrz).trans (show _ = some (Value.int .i64 0) from rfl)
      have fz : ∀ j, (w6).frozen? ⟨w.heap.size + 1, j, none⟩ = false := fun j => frozen_of_row _ _ j _ _ hrz
      have HBE : Hid (Below w.heap.size w (setAll (w6) (w.heap.size + 1) 0 staZ.toList)) := HC6.out.bel.trans (setAll_keep (t := 299) w.heap.size (Nat.le_succ _) staZ.toList 0 (w6) ⟨_, hrz⟩).1
      unfold staZ at HBE
      simp only [setAll] at HBE
      clear hrz 
      go_wp2
      (try simp only [Exit.inBlock, Exit.then])
      refine bodyPost_ret (v := .tuple #[.agg #[.int .i64 0, .slice none 0 0, .int .i64 0, .int .i64 0, .slice none 0 0, .int .i64 0, .int .i64 0], .bool false]) ?_ rfl ⟨by rw [HR.out]; rfl, HBE.out⟩
      rw [results_cell_tmp rfl]
      go_simp
     ·have HA := Lib.hid (HMM.out rfl)
      go_wp2
      go_roundw
      case rel => exact ⟨q + 1, by omega, by go_num, HA.out, HC6.out⟩
      case measure => simp [intOf] <;> omega
    ·have hqI : ¬ (q : Int) < (ms.length : Int) := by omega
     have HR : Hid (res = true) := HGD.out HOA.out fun m hm => by
      obtain ⟨j, hj, rfl⟩ := List.mem_iff_getElem.1 hm
      exact HAP.out j _ (by omega) (List.getElem?_eq_getElem hj)
     have s5 := hcs.sta.cells
     clear hcs
     have hrz := HCS.out.res
     have y0 := (cell_of_row _ _ 0 _ _ _ hrz).trans (show _ = some (Value.int .i64 0) from rfl)
     have y1 := (cell_of_row _ _ 1 _ _ _ hrz).trans (show _ = some (Value.slice none 0 0) from rfl)
     have y2 := (cell_of_row _ _ 2 _ _ _ hrz).trans (show _ = some (Value.int .i64 0) from rfl)
     have y3 := (cell_of_row _ _ 3 _ _ _ hrz).trans (show _ = some (Value.int .i64 0) from rfl)
     have y4 := (cell_of_row _ _ 4 _ _ _ hrz).trans (show _ = some (Value.slice none 0 0) from rfl)
     have y5 := (cell_of_row _ _ 5 _ _ _ hrz).trans (show _ = some (Value.int .i64 0) from rfl)
     have y6 := (cell_of_row _ _ 6 _ _ _ hrz).trans (show _ = some (Value.int .i64 0) from rfl)
     have fz : ∀ j, (wr).frozen? ⟨w.heap.size + 1, j, none⟩ = false := fun j => frozen_of_row _ _ j _ _ hrz
     have HBE : Hid (Below w.heap.size w (setAll (wr) (w.heap.size + 1) 0 (staC L A c Am ms.length cm).toList)) := HCS.out.bel.trans (setAll_keep (t := 299) w.heap.size (Nat.le_succ _) (staC L A c Am ms.length cm).toList 0 (wr) ⟨_, hrz⟩).1
     unfold staC at HBE
     simp only [setAll] at HBE
     clear hrz 
     go_wp2
     (try simp only [Exit.inBlock, Exit.then])
     refine bodyPost_ret (v := .tuple #[.agg #[.int .i64 (L.disks : Int), .slice A L.n c, .int .i64 (L.tiles : Int), .int .i64 (L.spare : Int), .slice Am ms.length cm, .int .i64 (L.homes : Int), .int .i64 (L.blocks : Int)], .bool true]) ?_ rfl ⟨by rw [HR.out]; rfl, HBE.out⟩
     rw [results_cell_tmp rfl]
     go_simp
end Go.Proofs.YtopoefcklipaeaaGreatDoor
