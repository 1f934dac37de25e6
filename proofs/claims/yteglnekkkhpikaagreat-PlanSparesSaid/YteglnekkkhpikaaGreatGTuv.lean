/- Walks: slices.Index and slices.Contains at []int; spare.Used.
Walk of spare.Choose.
Memory laws for rows of the call's own: a row put in, a row taken out, cells behind the rows. No program is walked here. -/
import Derived.Test.YteglnekkkhpikaaGreatGTqr
import Derived.Test.YteglnekkkhpikaaGreatGSmm
import Derived.Lib.Overlaps
import Derived.Lib.AppendZerosOnto
import Derived.Laws.Externs
import Derived.Laws.IdiomCopy
namespace Go.Proofs.YteglnekkkhpikaaGreat
open Go.RowKit

def IdxP (l : List Int) (x : Int) (r : Ending) : Prop := ∃ k : Int, r = .returned (.int .i64 k) ∧ decide (k ≥ 0) = l.contains x
set_option maxHeartbeats 1000000 in
theorem idx_any {A : Option Addr} {B c : Nat} {l : List Int} (x : Int) (w : World) (hl : IntS w B A l) (hlen : l.length ≤ 100000) :
    Calls Tryz.prog 95 #[.slice A l.length c, .int .i64 x] w fun r w' => IdxP l x r ∧ Below w.heap.size w w' := by
  have HL := Lib.hid hl
  clear hl
  go_enter Tryz.func95, Tryz.ntmps95
  go_wp2
  go_loopw [8, 5] (fun s8 _ wr => ∃ k : Nat, k ≤ l.length ∧ s8 = .int .i64 k ∧ (l.take k).contains x = false ∧ wr = w) (fun s8 _ _ => l.length - (intOf s8).toNat)
  case atStart => exact ⟨0, by omega, rfl, rfl, rfl⟩
  case round =>
    obtain ⟨k, hk, rfl, hno, rfl⟩ := hrel
    have HNO := Lib.hid hno
    clear hno
    by_cases hkn : k < l.length
    · have hkI : (k : Int) < (l.length : Int) := by omega
      obtain ⟨b, off, y, rfl, -, hy, q0⟩ := IntS.at_ HL.out hkn
      have HST : Hid (x ≠ y → (l.take (k + 1)).contains x = false) := fun h => by
        rw [List.take_add_one, hy]
        simp only [Option.toList_some, List.contains_append, HNO.out, Bool.false_or]
        simpa using h
      have HYS : Hid (x = y → decide ((k : Int) ≥ 0) = l.contains x) := fun h => by
        rw [h]
        have : l.contains y = true := by rw [List.contains_iff_mem]; exact List.mem_of_getElem? hy
        rw [this]
        simp
      clear hy
      by_cases e1 : x = y
      · have f1 : (x == y) = true := by simpa using e1
        have HR := Lib.hid (HYS.out e1)
        clear e1
        go_wp2
        go_ret
        exact ⟨⟨_, rfl, HR.out⟩, Below.refl _ _⟩
      · have f1 : (x == y) = false := by simpa using e1
        have HR := Lib.hid (HST.out e1)
        clear e1
        go_wp2
        go_roundw
        case rel => exact ⟨k + 1, by omega, by go_num, HR.out, trivial⟩
        case measure => simp [intOf] <;> omega
    · have hkI : ¬ (k : Int) < (l.length : Int) := by omega
      have HRR : Hid (IdxP l x (.returned (.int .i64 (-1)))) := by
        have := HNO.out
        rw [List.take_of_length_le (by omega)] at this
        exact ⟨-1, rfl, by rw [this]; rfl⟩
      go_wp2
      go_ret
      exact ⟨HRR.out, Below.refl _ _⟩
set_option maxHeartbeats 1000000 in
theorem cont_any {A : Option Addr} {B c : Nat} {l : List Int} (x : Int) (w : World) (hl : IntS w B A l) (hlen : l.length ≤ 100000) :
    Calls Tryz.prog 91 #[.slice A l.length c, .int .i64 x] w fun r w' => r = .returned (.bool (l.contains x)) ∧ Below w.heap.size w w' := by
  have HC := Lib.hid ((idx_any (c := c) x w hl hlen).mono fun r w' h => (⟨h.1, h.2⟩ : (∃ k : Int, r = .returned (.int .i64 k) ∧ decide (k ≥ 0) = l.contains x) ∧ _))
  generalize l.contains x = res at *
  clear hl
  go_enter Tryz.func91, Tryz.ntmps91
  go_wp2_with fail
  refine HC.out.mono ?_
  rintro r w1 ⟨⟨k, rfl, hk⟩, hb⟩
  have HK := Lib.hid hk
  clear hk
  go_wp2
  go_ret
  exact ⟨ret_bool (by simpa using HK.out), hb⟩
def UseP (L : LayD) (ms : List Mv) (d : Int) (B : Nat) (w' : World) (r : Ending) : Prop :=
  (validM L ms = false → r = .returned (.tuple #[.slice none 0 0, .int .i64 1])) ∧ (validM L ms = true → (decide (0 ≤ d) && decide (d < (L.disks : Int))) = false → r = .returned (.tuple #[.slice none 0 0, .int .i64 2])) ∧
    (validM L ms = true → (decide (0 ≤ d) && decide (d < (L.disks : Int))) = true → ∃ v, r = .returned (.tuple #[v, .int .i64 0]) ∧ OwS w' B 3 1 v ((usedL L ms d).map icell))
end Go.Proofs.YteglnekkkhpikaaGreat
namespace Go.Proofs.YteglnekkkhpikaaGreat
open Go.RowKit

theorem holds_contains (L : LayD) (ms : List Mv) (g d : Int) : (disksL L ms g).contains d = holdsL L ms g d := by
  unfold disksL holdsL
  rw [Bool.eq_iff_iff, List.contains_iff_mem, List.mem_map, List.any_eq_true]
  constructor
  · rintro ⟨i, hi, h⟩
    exact ⟨i, hi, by simpa using h⟩
  · rintro ⟨i, hi, h⟩
    exact ⟨i, hi, by simpa using h⟩
/-- what spare.Choose answers -/
def choR (L : LayD) (ms : List Mv) (g : Int) (dead : List Bool) : Plc × Int :=
  if validM L ms = false ∨ dead.length ≠ L.disks then (⟨0, 0⟩, 1) else if (decide (0 ≤ g) && decide (g < (L.G : Int))) = false then (⟨0, 0⟩, 2) else
    match chooseL L ms g dead with | none => (⟨0, 0⟩, 11) | some t => (t, 0)
theorem used_ge {L : LayD} {ms : List Mv} {d : Int} : ∀ x ∈ usedL L ms d, (L.homes : Int) ≤ x := fun x hx => by
  obtain ⟨⟨i, -, rfl⟩, -⟩ := usedL_mem.1 hx
  omega
theorem used_len (L : LayD) (ms : List Mv) (d : Int) : (usedL L ms d).length ≤ L.spare := by
  unfold usedL
  refine Nat.le_trans (List.length_filter_le _ _) ?_
  simp
theorem best_none {L : LayD} {ms : List Mv} {g : Int} {dead : List Bool} {k : Nat} : decide ((bestP L ms g dead k).1 < 0) = true → bestTo L ms g dead k = none := fun h => by
  unfold bestP at h
  rcases hb : bestTo L ms g dead k with _ | ⟨x, c⟩
  · rfl
  · rw [hb] at h
    simp at h
    omega
theorem best_some {L : LayD} {ms : List Mv} {g : Int} {dead : List Bool} {k : Nat} : decide ((bestP L ms g dead k).1 < 0) = false → ∃ x c : Nat, bestTo L ms g dead k = some (x, c) ∧ (bestP L ms g dead k).1 = (x : Int) := fun h => by
  unfold bestP at *
  rcases hb : bestTo L ms g dead k with _ | ⟨x, c⟩
  · rw [hb] at h
    simp at h
  · exact ⟨x, c, rfl, rfl⟩
def freeF (b : Int) (us : List Int) (i : Nat) : Int := (us.take i).foldl (fun k x => if x = k then k + 1 else k) b
theorem freeF_succ {b : Int} {us : List Int} {i : Nat} {y : Int} (h : us[i]? = some y) : freeF b us (i + 1) = if y = freeF b us i then freeF b us i + 1 else freeF b us i := by
  unfold freeF
  rw [List.take_add_one, h]
  simp only [Option.toList_some, List.foldl_append, List.foldl_cons, List.foldl_nil]
theorem freeF_le (b : Int) (us : List Int) : ∀ i : Nat, b ≤ freeF b us i ∧ freeF b us i ≤ b + i := by
  intro i
  induction i with
  | zero => unfold freeF; simp
  | succ i ih =>
    rcases h : us[i]? with _ | y
    · have hl : us.length ≤ i := List.getElem?_eq_none_iff.1 h
      have e : freeF b us (i + 1) = freeF b us i := by unfold freeF; rw [List.take_of_length_le hl, List.take_of_length_le (by omega)]
      rw [e]
      omega
    · rw [freeF_succ h]
      split <;> omega
/-- the cells of a place that is not written -/
structure CheS (w : World) (L : LayD) (A : Option Addr) (c : Nat) (Am : Option Addr) (nm cm : Nat) (wr : World) : Prop where
  bel : Below w.heap.size w wr
  lay : LayB wr w.heap.size L A c
  res : PlB wr (w.heap.size + 1) ⟨0, 0⟩
  sta : ∃ S, StaB wr S L A c Am nm cm ∧ w.heap.size + 2 ≤ S
theorem CheS.below {w wr w' : World} {L : LayD} {A : Option Addr} {c : Nat} {Am : Option Addr} {nm cm : Nat} (h : CheS w L A c Am nm cm wr) (hb : Below wr.heap.size wr w') : CheS w L A c Am nm cm w' :=
  ⟨h.bel.trans (hb.mono h.bel.size), h.lay.below hb h.lay.lt, h.res.below hb h.res.lt, by obtain ⟨S, h1, h2⟩ := h.sta; exact ⟨S, h1.below hb h1.lt, h2⟩⟩
set_option maxHeartbeats 8000000 in
set_option maxRecDepth 100000 in
theorem sChoose_any {L : LayD} {A Am Ad : Option Addr} {B c cm cd : Nat} {ms : List Mv} {dead : List Bool} (g : Int) (w : World) (hx : LayX L) (hv : GsV w B A L.gs) (hM : MvS w B Am ms) (hwf : ∀ m ∈ ms, PlWf m.to) (hD : BoolS w B Ad dead) (_hdl : dead.length ≤ 100000) (hB : B ≤ w.heap.size) (hlen : ms.length ≤ 100000) :
    Calls Tryz.prog 64 #[layAgg L A c, .slice Am ms.length cm, .int .i64 g, .slice Ad dead.length cd] w fun r w' => r = .returned (.tuple #[(choR L ms g dead).1.agg, .int .i64 (choR L ms g dead).2]) ∧ Below w.heap.size w w' := by
  have HV := Lib.hid hv
  have HM := Lib.hid hM
  have HD := Lib.hid hD
  have HC := Lib.hid (fun W hv hM hB => scheck_any (L := L) (A := A) (Am := Am) (B := B) (c := c) (cm := cm) (ms := ms) W hx hv hM hwf hB hlen)
  have HG := Lib.hid (fun W hv hB => lgroups2_any (L := L) (A := A) (B := B) (c := c) W hx hv hB)
  have HPV : Hid (validM L ms = true → MvOk L ms) := fun h => valid_ok h
  have HU := Lib.hid (fun (d : Int) W hok hM hB => sused_any (L := L) (A := A) (Am := Am) (B := B) (c := c) (cm := cm) (ms := ms) d W hok hM hB hlen)
  have HDS := Lib.hid (fun (a : Nat) W hv hM hB hs his ha => sdisks_any (L := L) (A := A) (Am := Am) (B := B) (c := c) (cm := cm) (ms := ms) a W hx hv hM hB hlen hs his ha)
  have HX1 : Hid (validM L ms = false → choR L ms g dead = (⟨0, 0⟩, 1)) := fun h => by unfold choR; rw [if_pos (.inl h)]
  have HX2 : Hid (dead.length ≠ L.disks → choR L ms g dead = (⟨0, 0⟩, 1)) := fun h => by unfold choR; rw [if_pos (.inr h)]
  have HX3 : Hid (validM L ms = true → dead.length = L.disks → (decide (0 ≤ g) && decide (g < (L.G : Int))) = false → choR L ms g dead = (⟨0, 0⟩, 2)) := fun h1 h2 h3 => by unfold choR; rw [if_neg (by rw [h1, h2]; simp), if_pos h3]
  have HX4 : Hid (validM L ms = true → dead.length = L.disks → (decide (0 ≤ g) && decide (g < (L.G : Int))) = true → choR L ms g dead = match chooseL L ms g dead with | none => (⟨0, 0⟩, 11) | some t => (t, 0)) := fun h1 h2 h3 => by unfold choR; rw [if_neg (by rw [h1, h2]; simp), if_neg (by rw [h3]; simp)]
  have hd60 := hx.ok.disks
  have hsp : L.homes + L.spare ≤ 65536 := hx.ok.blocks
  have hw16 := hx.ok.w
  unfold layAgg at *
  unfold staC at HU HDS
  clear hv hM hwf hD
  obtain ⟨res, hres⟩ : ∃ res, validM L ms = res := ⟨_, rfl⟩
  obtain ⟨xr, hxr⟩ : ∃ xr, choR L ms g dead = xr := ⟨_, rfl⟩
  rw [hres] at HC HPV
  simp only [hres, hxr] at HX1 HX2 HX3 HX4
  rw [hxr]
  clear hres hxr
  go_enter Tryz.func64, Tryz.ntmps64
  go_wp2_with fail
  generalize hW0 : w.alloc _ = w0
  have hl0 : LayB w0 w.heap.size L A c := by rw [← hW0]; exact LayB.made w L _ c
  have hb0 : Below w.heap.size w w0 := by rw [← hW0]; exact below_laid
  have hz0 : w0.heap.size = w.heap.size + 1 := by rw [← hW0]; simp
  generalize hW1 : w0.alloc _ = w1
  have hp1 : PlB w1 (w.heap.size + 1) ⟨0, 0⟩ := by rw [← hW1, ← hz0]; exact heap_alloc_new w0 _
  have hl1 : LayB w1 w.heap.size L A c := by rw [← hW1]; exact hl0.below below_laid hl0.lt
  have hb1 : Below w.heap.size w w1 := by rw [← hW1]; exact hb0.trans (below_laid.mono hb0.size)
  clear hW0 hW1 hl0 hb0 hz0
  refine (HC.out w1 (HV.out.below hb1 hB) (HM.out.below' hb1 hB) (Nat.le_trans hB hb1.size)).mono ?_
  rintro r w2 ⟨hr, hb2⟩
  have HL2 := Lib.hid (hl1.below hb2 hl1.lt)
  have HP2 := Lib.hid (hp1.below hb2 hp1.lt)
  have HB2 := Lib.hid (hb1.trans (hb2.mono hb1.size))
  clear hl1 hp1 hb1 hb2 HC
  cases res
  · obtain rfl := hr
    unfold staZ
    have hp3 := HP2.out.below (below_laid (o := .cells #[.int .i64 0, .slice none 0 0, .int .i64 0, .int .i64 0, .slice none 0 0, .int .i64 0, .int .i64 0] 98)) HP2.out.lt
    have HB3 := Lib.hid (HB2.out.trans ((below_laid (w := w2) (o := .cells #[.int .i64 0, .slice none 0 0, .int .i64 0, .int .i64 0, .slice none 0 0, .int .i64 0, .int .i64 0] 98)).mono HB2.out.size))
    obtain ⟨p0, p1, f0, f1⟩ := hp3.cells
    obtain rfl := HX1.out rfl
    clear hp3
    go_wp2
    (try simp only [Exit.inBlock, Exit.then])
    refine bodyPost_ret (v := .tuple #[.agg #[.int .i64 0, .int .i64 0], .int .i64 1]) ?_ rfl ⟨rfl, (HB3.out.setCell (by simp) _).setCell (by simp) _⟩
    rw [results_cell_tmp rfl]
    go_simp
  · obtain rfl := hr
    unfold staC
    have hs3 := StaB.made w2 L A c Am ms.length cm
    have hp3 := HP2.out.below (below_laid (o := .cells #[.int .i64 L.disks, .slice A L.n c, .int .i64 L.tiles, .int .i64 L.spare, .slice Am ms.length cm, .int .i64 L.homes, .int .i64 L.blocks] 98)) HP2.out.lt
    have hl3 := HL2.out.below (below_laid (o := .cells #[.int .i64 L.disks, .slice A L.n c, .int .i64 L.tiles, .int .i64 L.spare, .slice Am ms.length cm, .int .i64 L.homes, .int .i64 L.blocks] 98)) HL2.out.lt
    have hb3 := HB2.out.trans ((below_laid (w := w2) (o := .cells #[.int .i64 L.disks, .slice A L.n c, .int .i64 L.tiles, .int .i64 L.spare, .slice Am ms.length cm, .int .i64 L.homes, .int .i64 L.blocks] 98)).mono HB2.out.size)
    have hz2 := HP2.out.lt
    go_upto_region 2 with (fail)
    generalize w2.heap.size = S at *
    generalize w2.alloc _ = w3 at *
    have HS3 := Lib.hid hs3
    obtain ⟨l0, l1, l2, l3⟩ := hl3.cells
    have s3 := hs3.cells
    have HL3 := Lib.hid hl3
    have HP3 := Lib.hid hp3
    have HB3 := Lib.hid hb3
    clear hs3 hp3 hl3 HP2 HL2 HB2
    by_cases e1 : dead.length = L.disks
    case neg =>
      have g1 : (dead.length == L.disks) = false := by simpa using e1
      have g2 : ((dead.length : Int) == (L.disks : Int)) = false := by rw [beq_eq_false_iff_ne]; omega
      obtain rfl := HX2.out e1
      obtain ⟨p0, p1, f0, f1⟩ := HP3.out.cells
      clear e1
      go_wp2
      (try simp only [Exit.inBlock, Exit.then])
      refine bodyPost_ret (v := .tuple #[.agg #[.int .i64 0, .int .i64 0], .int .i64 1]) ?_ rfl ⟨rfl, (HB3.out.setCell (by simp) _).setCell (by simp) _⟩
      rw [results_cell_tmp rfl]
      go_simp
    case pos =>
      have HE1 := Lib.hid e1
      rw [e1]
      have HX3' := Lib.hid (HX3.out (by simp) e1)
      have HX4' := Lib.hid (HX4.out (by simp) e1)
      have hvb := HV.out.below hb3 hB
      have hgc := HG.out w3 hvb (Nat.le_trans hB hb3.size)
      have HGC := Lib.hid hgc
      clear e1 hgc hvb HX1 HX2 HX3 HX4
      go_upto_region 4 with (fail)
      by_cases h1 : g < 0
      · have f0 : (decide (0 ≤ g) && decide (g < (L.G : Int))) = false := by rw [Bool.and_eq_false_iff]; left; rw [decide_eq_false_iff_not]; omega
        have f1 : decide (g < 0) = true := by simpa using h1
        obtain rfl := HX3'.out f0
        obtain ⟨p0, p1, f0', f1'⟩ := HP3.out.cells
        clear f0 h1
        go_wp2
        (try simp only [Exit.inBlock, Exit.then])
        refine bodyPost_ret (v := .tuple #[.agg #[.int .i64 0, .int .i64 0], .int .i64 2]) ?_ rfl ⟨rfl, (HB3.out.setCell (by simp) _).setCell (by simp) _⟩
        rw [results_cell_tmp rfl]
        go_simp
      · by_cases h2 : (g : Int) < (L.G : Int)
        case neg =>
          have f0 : (decide (0 ≤ g) && decide (g < (L.G : Int))) = false := by rw [Bool.and_eq_false_iff]; right; rw [decide_eq_false_iff_not]; exact h2
          have f1 : decide (g < 0) = false := by simpa using h1
          have f2 : decide (g ≥ (L.G : Int)) = true := by rw [decide_eq_true_iff]; omega
          obtain rfl := HX3'.out f0
          clear f0 h1 h2
          go_wp2_with fail
          refine HGC.out.mono ?_
          rintro r w4 ⟨rfl, hb4⟩
          have hp4 := HP3.out.below hb4 HP3.out.lt
          have HB4 := Lib.hid (HB3.out.trans (hb4.mono HB3.out.size))
          obtain ⟨p0, p1, f0', f1'⟩ := hp4.cells
          clear hp4 hb4 s3 l0 l1 l2 l3
          go_wp2
          (try simp only [Exit.inBlock, Exit.then])
          refine bodyPost_ret (v := .tuple #[.agg #[.int .i64 0, .int .i64 0], .int .i64 2]) ?_ rfl ⟨rfl, (HB4.out.setCell (by simp) _).setCell (by simp) _⟩
          rw [results_cell_tmp rfl]
          go_simp
        case pos =>
          have f0 : (decide (0 ≤ g) && decide (g < (L.G : Int))) = true := by rw [Bool.and_eq_true]; exact ⟨by rw [decide_eq_true_iff]; omega, by rw [decide_eq_true_iff]; exact h2⟩
          obtain ⟨a, rfl⟩ : ∃ a : Nat, g = (a : Int) := ⟨g.toNat, by omega⟩
          have f1 : decide ((a : Int) < 0) = false := by simp
          have f2 : decide (L.G ≤ a) = false := by rw [decide_eq_false_iff_not]; omega
          have HX4 := Lib.hid (HX4'.out f0)
          have HHC := Lib.hid (fun d => holds_contains L ms (a : Int) d)
          have HDL := Lib.hid (disks_len L ms (a : Int))
          have HBS := Lib.hid (fun k => bestP_step (L := L) (ms := ms) (g := (a : Int)) (dead := dead) (k := k))
          have HAL : Hid (a < L.G) := by unfold Hid; omega
          clear f0 h1 h2 HX3' HX4'
          go_wp2_with fail
          refine HGC.out.mono ?_
          rintro r w4 ⟨rfl, hb4⟩
          have HS4 := Lib.hid (HS3.out.below hb4 HS3.out.lt)
          have HL4 := Lib.hid (HL3.out.below hb4 HL3.out.lt)
          have HP4 := Lib.hid (HP3.out.below hb4 HP3.out.lt)
          have HB4 := Lib.hid (HB3.out.trans (hb4.mono HB3.out.size))
          have hds := HDS.out a w4 (HV.out.below HB4.out hB) (HM.out.below' HB4.out hB) (Nat.le_trans hB HB4.out.size) (HPV.out (by simp)).ord (HPV.out (by simp)).is HAL.out
          have HDC := Lib.hid hds
          have s4 := HS4.out.cells
          clear hds hb4 s3 l0 l1 l2 l3 HGC hb3
          go_wp2_with fail
          refine HDC.out.mono ?_
          rintro r w5 ⟨⟨v, rfl, hown⟩, hb5⟩
          have HS5 := Lib.hid (HS4.out.below hb5 HS4.out.lt)
          have HL5 := Lib.hid (HL4.out.below hb5 HL4.out.lt)
          have HP5 := Lib.hid (HP4.out.below hb5 HP4.out.lt)
          have HB5 := Lib.hid (HB4.out.trans (hb5.mono HB4.out.size))
          obtain ⟨Ab, cb, rfl, -, -⟩ := hown.form
          rw [List.length_map] at hown ⊢
          have HRB := Lib.hid hown.reads
          have hmv := HM.out.below' HB5.out hB
          have hbD := HD.out.below' HB5.out hB
          have HM5 := Lib.hid hmv
          have HD5 := Lib.hid hbD
          have HZ5 := Lib.hid (Nat.le_trans hB HB5.out.size)
          have hl5 := HL5.out.cells
          generalize disksL L ms (a : Int) = ds at *
          clear hown hb5 s4 hmv hbD HS4 HL4 HP4 HB4 HDC
          obtain ⟨l0, l1, l2, l3⟩ := hl5
          go_upto_region 7 with (fail)
          go_quiet (fail)
          generalize hdr : w5.drewN _ = wo
          have HLo : Hid (LayB wo w.heap.size L A c) := by rw [← hdr]; exact HL5.out
          have HPo : Hid (PlB wo (w.heap.size + 1) ⟨0, 0⟩) := by rw [← hdr]; exact HP5.out
          have HSo : Hid (StaB wo S L A c Am ms.length cm) := by rw [← hdr]; exact HS5.out
          have HBo : Hid (Below w.heap.size w wo) := by rw [← hdr]; exact below_drewN HB5.out _
          have HMo : Hid (MvS wo B Am ms) := by rw [← hdr]; exact HM5.out
          have HDo : Hid (BoolS wo B Ad dead) := by rw [← hdr]; exact HD5.out
          have HRo : Hid (IntS wo wo.heap.size Ab ds) := by rw [← hdr]; exact HRB.out
          have HZo : Hid (B ≤ wo.heap.size) := by rw [← hdr]; exact HZ5.out
          clear hdr l0 l1 l2 l3 HL5 HP5 HS5 HB5 HM5 HD5 HRB HZ5
          obtain ⟨l0, l1, l2, l3⟩ := HLo.out.cells
          go_wp2
          clear l0 l1 l2 l3
          go_loopw [56, 15, 16, 13, 14] (fun s56 _ _ s13 s14 wr => ∃ k : Nat, k ≤ L.disks ∧ s56 = .int .i64 k ∧ s13 = .int .i64 (bestP L ms (a : Int) dead k).1 ∧ s14 = .int .i64 (bestP L ms (a : Int) dead k).2 ∧ Below wo.heap.size wo wr) (fun s56 _ _ _ _ _ => L.disks - (intOf s56).toNat)
          case atStart => exact ⟨0, by omega, rfl, rfl, rfl, Below.refl _ _⟩
          case round =>
            obtain ⟨k, hk, rfl, rfl, rfl, hb⟩ := hrel
            have HB := Lib.hid hb
            have HNF := Lib.hid (best_none (L := L) (ms := ms) (g := (a : Int)) (dead := dead) (k := k))
            have HSF := Lib.hid (best_some (L := L) (ms := ms) (g := (a : Int)) (dead := dead) (k := k))
            have HST := Lib.hid (HBS.out k)
            generalize bestP L ms (a : Int) dead k = bp at *
            obtain ⟨bp1, bp2⟩ := bp
            have s1 := (HSo.out.below hb HSo.out.lt).cells
            by_cases hkd : k < L.disks
            · have hkI : (k : Int) < (L.disks : Int) := by omega
              have hu := HU.out (k : Int) wr (HPV.out (by simp)) (HMo.out.below' hb HZo.out) (Nat.le_trans HZo.out hb.size)
              have HUC := Lib.hid hu
              clear hu hb
              go_wp2_with fail
              refine HUC.out.mono ?_
              rintro r w6 ⟨⟨v, rfl, hown⟩, hb6⟩
              have HB6 := Lib.hid (HB.out.trans (hb6.mono HB.out.size))
              obtain ⟨Au, cu, rfl, -, -⟩ := hown.form
              rw [List.length_map]
              obtain ⟨dk, hdk⟩ := at_some (l := dead) (i := k) (by have := HE1.out; omega)
              obtain ⟨bd, od, rfl, -, q0⟩ := BoolS.at_ (HDo.out.below' HB6.out HZo.out) hdk
              have hdk2 : dead[k]?.getD false = dk := by rw [hdk]; rfl
              have HCC := Lib.hid (cont_any (c := cb) (k : Int) w6 (HRo.out.below' HB6.out (Nat.le_refl _)) (by have := HDL.out; omega))
              have hst := HST.out
              rw [hdk2, ← HHC.out] at hst
              clear HST
              obtain ⟨co, hco⟩ : ∃ co, ds.contains (k : Int) = co := ⟨_, rfl⟩
              rw [hco] at hst HCC
              obtain ⟨nu, hnu⟩ : ∃ nu, (usedL L ms k).length = nu := ⟨_, rfl⟩
              rw [hnu] at hst
              simp only [hnu]
              have HST := Lib.hid hst
              clear hst hco hnu hdk hdk2 hown hb6 s1 HB
              cases dk
              case true =>
                have HR : Hid (bestP L ms (a : Int) dead (k + 1) = (bp1, bp2)) := by rw [Hid, HST.out, if_neg (by simp)]
                go_wp2
                go_roundw
                case rel => exact ⟨k + 1, by omega, by go_num, by rw [HR.out], by rw [HR.out], HB6.out⟩
                case measure => simp [intOf] <;> omega
              case false =>
                cases co
                case true =>
                  have HR : Hid (bestP L ms (a : Int) dead (k + 1) = (bp1, bp2)) := by rw [Hid, HST.out, if_neg (by simp)]
                  go_wp2_with fail
                  refine HCC.out.mono ?_
                  rintro r w7 ⟨rfl, hb7⟩
                  have HB7 := Lib.hid (HB6.out.trans (hb7.mono HB6.out.size))
                  clear hb7 q0
                  go_wp2
                  go_roundw
                  case rel => exact ⟨k + 1, by omega, by go_num, by rw [HR.out], by rw [HR.out], HB7.out⟩
                  case measure => simp [intOf] <;> omega
                case false =>
                  by_cases e2 : (nu : Int) < bp2
                  · have HR : Hid (bestP L ms (a : Int) dead (k + 1) = ((k : Int), (nu : Int))) := by rw [Hid, HST.out, if_pos ⟨rfl, rfl, e2⟩]
                    have f1 : decide ((nu : Int) < bp2) = true := by simpa using e2
                    clear e2
                    go_wp2_with fail
                    refine HCC.out.mono ?_
                    rintro r w7 ⟨rfl, hb7⟩
                    have HB7 := Lib.hid (HB6.out.trans (hb7.mono HB6.out.size))
                    clear hb7 q0
                    go_wp2
                    go_roundw
                    case rel => exact ⟨k + 1, by omega, by go_num, by rw [HR.out], by rw [HR.out], HB7.out⟩
                    case measure => simp [intOf] <;> omega
                  · have HR : Hid (bestP L ms (a : Int) dead (k + 1) = (bp1, bp2)) := by rw [Hid, HST.out, if_neg (fun h => e2 h.2.2)]
                    have f1 : decide ((nu : Int) < bp2) = false := by simpa using e2
                    clear e2
                    go_wp2_with fail
                    refine HCC.out.mono ?_
                    rintro r w7 ⟨rfl, hb7⟩
                    have HB7 := Lib.hid (HB6.out.trans (hb7.mono HB6.out.size))
                    clear hb7 q0
                    go_wp2
                    go_roundw
                    case rel => exact ⟨k + 1, by omega, by go_num, by rw [HR.out], by rw [HR.out], HB7.out⟩
                    case measure => simp [intOf] <;> omega
            · have hkI : ¬ (k : Int) < (L.disks : Int) := by omega
              have HKD : Hid (k = L.disks) := by unfold Hid; omega
              have HCL : Hid (chooseL L ms (a : Int) dead = (bestTo L ms (a : Int) dead k).map fun x => ⟨x.1, firstFree L.homes (usedL L ms x.1)⟩) := by rw [Hid, HKD.out]; rfl
              by_cases e1 : bp1 < 0
              · have f1 : decide (bp1 < 0) = true := by simpa using e1
                have hn := HNF.out f1
                obtain ⟨x1, hx1⟩ : ∃ x1, x1 = xr := ⟨_, rfl⟩
                have hx2 := HX4.out
                rw [HCL.out, hn] at hx2
                have hx3 : xr = (⟨0, 0⟩, 11) := hx2
                obtain rfl := hx3
                have HBW : Hid (Below w.heap.size w wr) := HBo.out.trans (hb.mono HBo.out.size)
                obtain ⟨p0, p1, f0', f1'⟩ := (HPo.out.below hb HPo.out.lt).cells
                clear hn hx1 hx2 hb e1 s1
                go_wp2
                (try simp only [Exit.inBlock, Exit.then])
                refine bodyPost_ret (v := .tuple #[.agg #[.int .i64 0, .int .i64 0], .int .i64 11]) ?_ rfl ⟨rfl, (HBW.out.setCell (by simp) _).setCell (by simp) _⟩
                rw [results_cell_tmp rfl]
                go_simp
              · have f1 : decide (bp1 < 0) = false := by simpa using e1
                obtain ⟨x, cx, hbx, hbe⟩ := HSF.out f1
                have hbe' : bp1 = (x : Int) := hbe
                obtain rfl := hbe'
                have hx2 := HX4.out
                rw [HCL.out, hbx] at hx2
                have hx3 : xr = (⟨x, firstFree L.homes (usedL L ms x)⟩, 0) := hx2
                obtain ⟨ff, hff⟩ : ∃ ff, firstFree (L.homes : Int) (usedL L ms (x : Int)) = ff := ⟨_, rfl⟩
                rw [hff] at hx3
                obtain rfl := hx3
                have hf1 : decide ((x : Int) < 0) = false := by simp
                have hu := HU.out (x : Int) wr (HPV.out (by simp)) (HMo.out.below' hb HZo.out) (Nat.le_trans HZo.out hb.size)
                have HUC := Lib.hid hu
                have HFF := Lib.hid ((free_fold (usedL L ms x) L.homes (usedL_sorted _ _ _) used_ge).trans hff)
                have HUL := Lib.hid (used_len L ms x)
                clear hu hb hbx hx2 e1 hbe f1 hff
                go_wp2_with fail
                refine HUC.out.mono ?_
                rintro r w6 ⟨⟨v, rfl, hown⟩, hb6⟩
                have HB6 := Lib.hid (HB.out.trans (hb6.mono HB.out.size))
                obtain ⟨Au, cu, rfl, -, -⟩ := hown.form
                rw [List.length_map]
                have HRU := Lib.hid hown.reads
                have HBW : Hid (Below w.heap.size w w6) := HBo.out.trans (HB6.out.mono HBo.out.size)
                have HP6 := Lib.hid (HPo.out.below HB6.out HPo.out.lt)
                generalize usedL L ms (x : Int) = us at *
                clear hown hb6 s1 HB HST
                go_wp2
                go_loopw [91, 19, 17] (fun s91 _ s17 wr => ∃ i : Nat, i ≤ us.length ∧ s91 = .int .i64 i ∧ s17 = .int .i64 (freeF L.homes us i) ∧ wr = w6) (fun s91 _ _ _ => us.length - (intOf s91).toNat)
                case atStart => exact ⟨0, by omega, rfl, rfl, rfl⟩
                case round =>
                  obtain ⟨i, hi, rfl, rfl, rfl⟩ := hrel
                  by_cases hin : i < us.length
                  · have hiI : (i : Int) < (us.length : Int) := by omega
                    obtain ⟨b, off, y, rfl, -, hy, q0⟩ := IntS.at_ HRU.out hin
                    have HFS := Lib.hid (freeF_succ (b := (L.homes : Int)) hy)
                    have hfl := freeF_le L.homes us i
                    have hul := HUL.out
                    generalize freeF L.homes us i = fb at *
                    have wf : IntKind.i64.wrap (fb + 1) = fb + 1 := IntWalk.i64_in _ (by omega)
                    clear hy hfl
                    by_cases e2 : y = fb
                    · have f2 : (y == fb) = true := by simpa using e2
                      have HR : Hid (freeF L.homes us (i + 1) = fb + 1) := by rw [Hid, HFS.out, if_pos e2]
                      clear e2
                      go_wp2
                      go_roundw
                      case rel => exact ⟨i + 1, by omega, by go_num, by rw [HR.out], trivial⟩
                      case measure => simp [intOf] <;> omega
                    · have f2 : (y == fb) = false := by simpa using e2
                      have HR : Hid (freeF L.homes us (i + 1) = fb) := by rw [Hid, HFS.out, if_neg e2]
                      clear e2
                      go_wp2
                      go_roundw
                      case rel => exact ⟨i + 1, by omega, by go_num, by rw [HR.out], trivial⟩
                      case measure => simp [intOf] <;> omega
                  · have hiI : ¬ (i : Int) < (us.length : Int) := by omega
                    have hfr : freeF L.homes us i = ff := by
                      rw [← HFF.out]
                      unfold freeF
                      rw [List.take_of_length_le (by omega)]
                    rw [hfr]
                    clear hfr
                    obtain ⟨p0, p1, f0', f1'⟩ := HP6.out.cells
                    go_wp2
                    (try simp only [Exit.inBlock, Exit.then])
                    refine bodyPost_ret (v := .tuple #[.agg #[.int .i64 (x : Int), .int .i64 ff], .int .i64 0]) ?_ rfl ⟨rfl, (HBW.out.setCell (by simp) _).setCell (by simp) _⟩
                    rw [results_cell_tmp rfl]
                    go_simp
end Go.Proofs.YteglnekkkhpikaaGreat
namespace Go.Proofs.YteglnekkkhpikaaGreat
open Go.RowKit

/-- cells overwritten from a place on -/
def layC (l : List Value) (o : Nat) (vs : List Value) : List Value := l.take o ++ vs ++ l.drop (o + vs.length)
theorem layC_len {l : List Value} {o : Nat} {vs : List Value} (h : o + vs.length ≤ l.length) : (layC l o vs).length = l.length := by
  unfold layC
  simp
  omega
theorem layC_set {l : List Value} {o : Nat} {v : Value} {r : List Value} (h : o < l.length) : layC (l.set o v) (o + 1) r = layC l o (v :: r) := by
  unfold layC
  rw [List.take_add_one, List.take_set_of_le (Nat.le_refl _), List.getElem?_set_self h, List.drop_set_of_lt (by omega), List.length_cons]
  rw [show o + 1 + r.length = o + (r.length + 1) by omega]
  simp
theorem heap_setCells {g : Nat} {e : TypeId} : ∀ (vs : List Value) (w : World) (o : Nat) (cur : Array Value), w.heap[g]? = some (.cells cur e (0, 0)) → o + vs.length ≤ cur.size → (w.setCells g o vs).heap[g]? = some (.cells (layC cur.toList o vs).toArray e (0, 0)) := by
  intro vs
  induction vs with
  | nil =>
    intro w o cur h _
    show w.heap[g]? = _
    rw [h]
    unfold layC
    simp
  | cons v r ih =>
    intro w o cur h hl
    rw [List.length_cons] at hl
    have h1 := heap_setCell_same w g o cur e v h
    have h2 := ih (w.setCell ⟨g, o, none⟩ v) (o + 1) (cur.setIfInBounds o v) h1 (by simp; omega)
    rw [Array.toList_setIfInBounds, layC_set (by simp; omega)] at h2
    exact h2
theorem grownBy_setCells (b : Nat) (vs : List Value) : ∀ (w : World) (j : Nat), w.grownBy (w.setCells b j vs) (some b) := by
  induction vs with
  | nil => intro w j; exact World.grownBy.refl _ _
  | cons v vs ih => intro w j; exact (grownBy_setCell w ⟨b, j, none⟩ v).trans (ih _ _)
theorem layC_shift {l A D m : List Value} {a s : Nat} (hA : A.length = a) (hl : l.take (a + D.length) = A ++ D) (hm : m.length = s) (hb : a + s + D.length ≤ l.length) : (layC (layC l (a + s) D) a m).take (a + s + D.length) = A ++ m ++ D := by
  have h1 : l.take a = A := by
    have : (l.take (a + D.length)).take a = A := by rw [hl, List.take_append_of_le_length (by omega), List.take_of_length_le (by omega)]
    rwa [List.take_take, Nat.min_eq_left (by omega)] at this
  have h2 : (layC l (a + s) D).take a = A := by
    unfold layC
    rw [List.append_assoc, List.take_append_of_le_length (by rw [List.length_take]; omega), List.take_take, Nat.min_eq_left (by omega), h1]
  have h3 : (layC l (a + s) D).drop (a + m.length) = D ++ l.drop (a + s + D.length) := by
    unfold layC
    rw [hm, List.append_assoc, List.drop_append, List.length_take, List.drop_of_length_le (by rw [List.length_take]; omega)]
    rw [show a + s - min (a + s) l.length = 0 by omega]
    simp
  rw [layC, h2, h3, ← List.append_assoc]
  rw [List.take_append_of_le_length (by simp; omega), List.take_of_length_le (by simp; omega)]
theorem layC_fill {A Z D m : List Value} {a s : Nat} (hA : A.length = a) (hm : m.length = s) (_hb : s + D.length ≤ Z.length) : (layC (layC (A ++ Z) a m) (a + s) D).take (a + s + D.length) = A ++ m ++ D := by
  have h1 : (layC (A ++ Z) a m).take (a + s) = A ++ m := by
    unfold layC
    rw [List.take_append_of_le_length (l₁ := A) (by omega), List.take_of_length_le (l := A) (by omega), List.take_append_of_le_length (by simp; omega), List.take_of_length_le (by simp; omega)]
  rw [layC, h1]
  rw [List.take_append_of_le_length (by simp; omega), List.take_of_length_le (by simp; omega)]
theorem layC_cut {l A M D : List Value} {a : Nat} (hA : A.length = a) (hl : l.take (a + M.length + D.length) = A ++ M ++ D) : (layC l a D).take (a + D.length) = A ++ D := by
  have h1 : l.take a = A := by
    have : (l.take (a + M.length + D.length)).take a = A := by rw [hl, List.append_assoc, List.take_append_of_le_length (by omega), List.take_of_length_le (by omega)]
    rwa [List.take_take, Nat.min_eq_left (by omega)] at this
  rw [layC, h1]
  rw [List.take_append_of_le_length (by simp; omega), List.take_of_length_le (by simp; omega)]
section
variable {P : Program}
theorem run_copy_rows (w : World) (dT sT ty elem : TypeId) (size k b o dLen dCap : Nat) (a : Addr) (sLen sCap : Nat) (cs : List Value)
    (hu : P.underlying dT = some (.slice elem)) (hs : (P.info? elem).map (·.size) = some size) (hk : Nat.min sLen dLen = k) (hn : cs.length = k * size)
    (hsrc : ∀ j v, cs[j]? = some v → w.cell? (a.add j) = some v) (hc : ∀ j, j < cs.length → (w.cell? ⟨b, o + j, none⟩).isSome = true) (hf : ∀ j, j < cs.length → w.frozen? ⟨b, o + j, none⟩ = false) (h1 : ∀ v ∈ cs, v.oneCell' = true) :
    (Builtin.copy_ #[dT, sT] ty #[.slice (some ⟨b, o, none⟩) dLen dCap, .slice (some a) sLen sCap]).run P w = .ok (goInt k) (w.setCells b o cs) := by
  have hl := run_loadCells_list (P := P) w a cs hsrc
  have hst := run_storeCells_cells (P := P) b o cs 0 w (by simpa using hc) (by simpa using hf) h1
  cases hq : P.info? elem with
  | none => simp [hq] at hs
  | some i =>
    have hi : i.size = size := by simpa [hq] using hs
    simp [Builtin.copy_, run_underlying hu, Builtin.lenOf, Builtin.firstCells, sizeOf, typeInfo, hq, hi, hk, ← hn, hl, hst]
theorem wp_copy_rows (w : World) {o : Oper} {a : Act} {K : Act → World → Prop} {Q : Exit → Act → World → Prop} (d s : Operand) (t t' : TypeId)
    (ho : o.op = .call { callee := .builtin .copy, args := #[d, s], argTypes := #[t, t'] }) (v u : Value) (hd : a.eval d = v) (hs : a.eval s = u) {v' : Value} {w' : World}
    (hr : (Builtin.copy_ #[t, t'] o.type #[v, u]).run P w = .ok v' w') (h : K (a.put o.dst v') w') : o.wp P a w K Q := by
  unfold Oper.wp execOp
  simp only [ho, resolve, invoke, builtin, Sem.run_bind, Sem.run_pure, Result.andThen_ok, List.map_toArray, List.map_cons, List.map_nil, hd, hs, hr]
  exact h
theorem wpList_copy_rows (w : World) {ops : Array Oper} {rest : List Oper} {o : Oper} {a : Act} {Q : Exit → Act → World → Prop} (hgd : o.guard = none) (d s : Operand) (t t' : TypeId)
    (ho : o.op = .call { callee := .builtin .copy, args := #[d, s], argTypes := #[t, t'] }) (v u : Value) (hd : a.eval d = v) (hs : a.eval s = u) {v' : Value} {w' : World}
    (hr : (Builtin.copy_ #[t, t'] o.type #[v, u]).run P w = .ok v' w') (h : wpList P ops Q rest (a.put o.dst v') w') : wpList P ops Q (o :: rest) a w :=
  wpList_plain hgd fun _ hK => wp_copy_rows w d s t t' ho v u hd hs hr (hK _ _ h)
/-- .. and as one step of a region that draws -/
theorem step_copy_rows {ops : Array Oper} {o : Oper} {a : Act} {w : World} {K : Act → World → Prop} {Q : Exit → Act → World → Prop} {E : Prop}
    (hg : o.guard = none) (d x : Operand) (dT sT : TypeId) (hop : o.op = Op.call { callee := Callee.builtin Builtin.copy, args := #[d, x], argTypes := #[dT, sT] })
    (v u : Value) (hd : a.eval d = v) (hx : a.eval x = u) {v' : Value} {w' : World} (hr : (Builtin.copy_ #[dT, sT] o.type #[v, u]).run P w = .ok v' w') (hK : K (a.put o.dst v') w') :
    if Region.wanted o (yielded ops a.tmps) = true then Oper.wp P o a w K Q else E := by
  have hw : Region.wanted o (yielded ops a.tmps) = true := by simp [Region.wanted, hg]
  rw [if_pos hw]
  exact wp_copy_rows w d x dT sT hop v u hd hx hr hK
/-- append whose run is known, as one step of a region that draws -/
theorem step_append_rows {ops : Array Oper} {o : Oper} {a : Act} {w : World} {K : Act → World → Prop} {Q : Exit → Act → World → Prop} {E : Prop}
    (hg : o.guard = none) (d x : Operand) (dT sT : TypeId) (hop : o.op = Op.call { callee := Callee.builtin Builtin.append, args := #[d, x], argTypes := #[dT, sT] })
    (v u : Value) (hd : a.eval d = v) (hx : a.eval x = u) {v' : Value} {w' : World} (hr : (Builtin.append_ #[dT, sT] o.type #[v, u]).run P w = .ok v' w') (hK : K (a.put o.dst v') w') :
    if Region.wanted o (yielded ops a.tmps) = true then Oper.wp P o a w K Q else E := by
  have hw : Region.wanted o (yielded ops a.tmps) = true := by simp [Region.wanted, hg]
  rw [if_pos hw]
  exact Lib.wp_append_run w d x dT sT hop v u hd hx v' w' hr hK
end
section
variable {w : World} {base size n cap g : Nat} {e : TypeId} {rows : List (List Value)}
theorem flat_take {rows : List (List Value)} (hs : ∀ r ∈ rows, r.length = size) (m : Nat) : (rows.take m).flatten = rows.flatten.take (m * size) := by
  induction rows generalizing m with
  | nil => simp
  | cons x xs ih =>
    cases m with
    | zero => simp
    | succ m =>
      have hx : x.length = size := hs x (by simp)
      simp only [List.take_succ_cons, List.flatten_cons]
      have h1 : x.take ((m + 1) * size) = x := List.take_of_length_le (by rw [hx, Nat.add_mul]; omega)
      rw [ih (fun r hr => hs r (by simp [hr])) m, List.take_append, hx, h1, show (m + 1) * size - size = m * size by rw [Nat.add_mul]; omega]
/-- the block behind a slice of one's own -/
theorem OwS.blk (h : OwS w base e size (.slice (some ⟨g, 0, none⟩) n cap) rows) : ∃ cur, n = rows.length ∧ base ≤ g ∧ w.heap[g]? = some (.cells cur e (0, 0)) ∧ n ≤ cap ∧ cap ≤ maxLen ∧ cur.size = cap * size ∧ cur.toList.take (n * size) = rows.flatten := by
  rcases h.2.2 with ⟨hv, _⟩ | ⟨g', cap', cur, hv, hb, hh, hnc, hcm, hsz, ht⟩
  · cases hv
  · injection hv with h1 h2 h3
    injection h1 with h1
    injection h1 with h1
    subst h1 h2 h3
    exact ⟨cur, rfl, hb, hh, hnc, hcm, hsz, ht⟩
theorem OwS.mkBlk {cur : Array Value} (hs : ∀ r ∈ rows, r.length = size) (hn : n = rows.length) (hb : base ≤ g) (hh : w.heap[g]? = some (.cells cur e (0, 0))) (hnc : n ≤ cap) (hcm : cap ≤ maxLen) (hsz : cur.size = cap * size) (ht : cur.toList.take (n * size) = rows.flatten) : OwS w base e size (.slice (some ⟨g, 0, none⟩) n cap) rows := by
  subst hn
  exact ⟨hs, flatten_length hs, .inr ⟨g, cap, cur, rfl, hb, hh, hnc, hcm, hsz, ht⟩⟩
theorem OwS.isSome (h : OwS w base e size (.slice (some ⟨g, 0, none⟩) n cap) rows) {j : Nat} (hj : j < cap * size) : (w.cell? ⟨g, j, none⟩).isSome = true := by
  obtain ⟨cur, -, -, hh, -, -, hsz, -⟩ := h.blk
  rw [cell_of_row _ _ _ _ _ _ hh, Array.getElem?_eq_getElem (by omega)]
  rfl
/-- a row put in, where there is room -/
theorem OwS.shift (h : OwS w base e size (.slice (some ⟨g, 0, none⟩) n cap) rows) {i : Nat} (hi : i ≤ rows.length) (hr : n + 1 ≤ cap) {m : List Value} (hm : m.length = size) :
    OwS ((w.setCells g ((i + 1) * size) (rows.drop i).flatten).setCells g (i * size) m) base e size (.slice (some ⟨g, 0, none⟩) (n + 1) cap) (rows.take i ++ m :: rows.drop i) := by
  obtain ⟨cur, hn, hb, hh, hnc, hcm, hsz, ht⟩ := h.blk
  have hall : ∀ r ∈ rows.take i ++ m :: rows.drop i, r.length = size := fun r hr => by
    rcases List.mem_append.1 hr with hr | hr
    · exact h.1 r (List.mem_of_mem_take hr)
    · rcases List.mem_cons.1 hr with rfl | hr
      · exact hm
      · exact h.1 r (List.mem_of_mem_drop hr)
  have hdl : (rows.drop i).flatten.length = (n - i) * size := by rw [flatten_length (fun r hr => h.1 r (List.mem_of_mem_drop hr)), List.length_drop, hn]
  have htl : (rows.take i).flatten.length = i * size := by rw [flatten_length (fun r hr => h.1 r (List.mem_of_mem_take hr)), List.length_take, Nat.min_eq_left hi]
  have e1 : (i + 1) * size = i * size + size := by rw [Nat.add_mul, Nat.one_mul]
  have e2 : i * size + (n - i) * size = n * size := by rw [← Nat.add_mul]; congr 1; omega
  have e3 : (n + 1) * size = n * size + size := by rw [Nat.add_mul, Nat.one_mul]
  have e4 : (n + 1) * size ≤ cap * size := Nat.mul_le_mul_right _ hr
  have hfl : rows.flatten = (rows.take i).flatten ++ (rows.drop i).flatten := by rw [← List.flatten_append, List.take_append_drop]
  have hcl : cur.toList.length = cap * size := by rw [Array.length_toList, hsz]
  have hl1 : (layC cur.toList ((i + 1) * size) (rows.drop i).flatten).length = cap * size := by rw [layC_len (by omega), hcl]
  have h1 := heap_setCells (rows.drop i).flatten w ((i + 1) * size) cur hh (by rw [hdl]; omega)
  have h2 := heap_setCells m (w.setCells g ((i + 1) * size) (rows.drop i).flatten) (i * size) _ h1 (by rw [List.size_toArray, hl1]; omega)
  refine OwS.mkBlk hall (by simp; omega) hb h2 hr hcm ?_ ?_
  · rw [List.size_toArray, layC_len (by rw [hl1]; omega), hl1]
  · have h3 := layC_shift (l := cur.toList) (A := (rows.take i).flatten) (D := (rows.drop i).flatten) (m := m) (a := i * size) (s := size) htl (by rw [hdl, e2, ht, hfl]) hm (by rw [hdl, Array.length_toList]; omega)
    rw [hdl] at h3
    rw [e1, show (n + 1) * size = i * size + size + (n - i) * size by omega, List.flatten_append, List.flatten_cons, ← List.append_assoc]
    exact h3
/-- a row put in, into a new block -/
theorem OwS.fill {ROW : Array Value} {Z : List Value} {i : Nat} (hs : ∀ r ∈ rows, r.length = size) (hh : w.heap[g]? = some (.cells ROW e (0, 0))) (hR : ROW.toList = (rows.take i).flatten ++ Z) (hi : i ≤ rows.length) (hn : n = rows.length) (hb : base ≤ g) (hnc : n + 1 ≤ cap) (hcm : cap ≤ maxLen) (hsz : ROW.size = cap * size) {m : List Value} (hm : m.length = size) :
    OwS ((w.setCells g (i * size) m).setCells g ((i + 1) * size) (rows.drop i).flatten) base e size (.slice (some ⟨g, 0, none⟩) (n + 1) cap) (rows.take i ++ m :: rows.drop i) := by
  have hall : ∀ r ∈ rows.take i ++ m :: rows.drop i, r.length = size := fun r hr => by
    rcases List.mem_append.1 hr with hr | hr
    · exact hs r (List.mem_of_mem_take hr)
    · rcases List.mem_cons.1 hr with rfl | hr
      · exact hm
      · exact hs r (List.mem_of_mem_drop hr)
  have hdl : (rows.drop i).flatten.length = (n - i) * size := by rw [flatten_length (fun r hr => hs r (List.mem_of_mem_drop hr)), List.length_drop, hn]
  have htl : (rows.take i).flatten.length = i * size := by rw [flatten_length (fun r hr => hs r (List.mem_of_mem_take hr)), List.length_take, Nat.min_eq_left hi]
  have e1 : (i + 1) * size = i * size + size := by rw [Nat.add_mul, Nat.one_mul]
  have e2 : i * size + (n - i) * size = n * size := by rw [← Nat.add_mul]; congr 1; omega
  have e3 : (n + 1) * size = n * size + size := by rw [Nat.add_mul, Nat.one_mul]
  have e4 : (n + 1) * size ≤ cap * size := Nat.mul_le_mul_right _ hnc
  have hZ : Z.length = cap * size - i * size := by
    have := congrArg List.length hR
    rw [Array.length_toList, List.length_append, htl, hsz] at this
    omega
  have hcl : ROW.toList.length = cap * size := by rw [Array.length_toList, hsz]
  have hl1 : (layC ROW.toList (i * size) m).length = cap * size := by rw [layC_len (by omega), hcl]
  have h1 := heap_setCells m w (i * size) ROW hh (by omega)
  have h2 := heap_setCells (rows.drop i).flatten (w.setCells g (i * size) m) ((i + 1) * size) _ h1 (by rw [List.size_toArray, hl1]; omega)
  refine OwS.mkBlk hall (by simp; omega) hb h2 hnc hcm ?_ ?_
  · rw [List.size_toArray, layC_len (by rw [hl1]; omega), hl1]
  · have h3 := layC_fill (A := (rows.take i).flatten) (Z := Z) (D := (rows.drop i).flatten) (m := m) (a := i * size) (s := size) htl hm (by rw [hdl]; omega)
    rw [hdl] at h3
    rw [hR, e1, show (n + 1) * size = i * size + size + (n - i) * size by omega, List.flatten_append, List.flatten_cons, ← List.append_assoc]
    exact h3
/-- a row taken out -/
theorem OwS.cut (h : OwS w base e size (.slice (some ⟨g, 0, none⟩) n cap) rows) {i : Nat} (hi : i < rows.length) :
    OwS (w.setCells g (i * size) (rows.drop (i + 1)).flatten) base e size (.slice (some ⟨g, 0, none⟩) (n - 1) cap) (rows.take i ++ rows.drop (i + 1)) := by
  obtain ⟨cur, hn, hb, hh, hnc, hcm, hsz, ht⟩ := h.blk
  have hall : ∀ r ∈ rows.take i ++ rows.drop (i + 1), r.length = size := fun r hr => by
    rcases List.mem_append.1 hr with hr | hr
    · exact h.1 r (List.mem_of_mem_take hr)
    · exact h.1 r (List.mem_of_mem_drop hr)
  have hdl : (rows.drop (i + 1)).flatten.length = (n - (i + 1)) * size := by rw [flatten_length (fun r hr => h.1 r (List.mem_of_mem_drop hr)), List.length_drop, hn]
  have htl : (rows.take i).flatten.length = i * size := by rw [flatten_length (fun r hr => h.1 r (List.mem_of_mem_take hr)), List.length_take, Nat.min_eq_left (by omega)]
  have hml : rows[i].length = size := h.1 _ (List.getElem_mem hi)
  have e1 : (i + 1) * size = i * size + size := by rw [Nat.add_mul, Nat.one_mul]
  have e2 : (i + 1) * size + (n - (i + 1)) * size = n * size := by rw [← Nat.add_mul]; congr 1; omega
  have e4 : n * size ≤ cap * size := Nat.mul_le_mul_right _ hnc
  have hfl : rows.flatten = (rows.take i).flatten ++ rows[i] ++ (rows.drop (i + 1)).flatten := by
    have : rows = rows.take i ++ rows[i] :: rows.drop (i + 1) := by rw [← List.drop_eq_getElem_cons hi, List.take_append_drop]
    conv => lhs; rw [this]
    rw [List.flatten_append, List.flatten_cons, List.append_assoc]
  have h1 := heap_setCells (rows.drop (i + 1)).flatten w (i * size) cur hh (by rw [hdl]; omega)
  refine OwS.mkBlk hall (by simp; omega) hb h1 (by omega) hcm ?_ ?_
  · rw [List.size_toArray, layC_len (by rw [hdl, Array.length_toList]; omega), Array.length_toList, hsz]
  · have h3 := layC_cut (l := cur.toList) (A := (rows.take i).flatten) (M := rows[i]) (D := (rows.drop (i + 1)).flatten) (a := i * size) htl (by rw [hdl, hml, show i * size + size + (n - (i + 1)) * size = n * size by omega, ht, hfl])
    rw [hdl] at h3
    rw [show (n - 1) * size = i * size + (n - (i + 1)) * size by rw [← Nat.add_mul]; congr 1; omega, List.flatten_append]
    exact h3
/-- a cell behind the rows -/
theorem OwS.past (h : OwS w base e size (.slice (some ⟨g, 0, none⟩) n cap) rows) {j : Nat} (hj : rows.length * size ≤ j) (u : Value) : OwS (w.setCell ⟨g, j, none⟩ u) base e size (.slice (some ⟨g, 0, none⟩) n cap) rows := by
  obtain ⟨cur, hn, hb, hh, hnc, hcm, hsz, ht⟩ := h.blk
  refine OwS.mkBlk h.1 hn hb (heap_setCell_same _ _ _ _ _ _ hh) hnc hcm (by simp [hsz]) ?_
  rw [Array.toList_setIfInBounds, List.take_set_of_le (by rw [hn]; omega)]
  exact ht
theorem OwS.pastAll (vs : List Value) : ∀ {w : World} (j : Nat), OwS w base e size (.slice (some ⟨g, 0, none⟩) n cap) rows → rows.length * size ≤ j → OwS (w.setCells g j vs) base e size (.slice (some ⟨g, 0, none⟩) n cap) rows := by
  induction vs with
  | nil => intro w j h _; exact h
  | cons v vs ih => intro w j h hj; exact ih (j + 1) (h.past hj v) (by omega)
/-- the cells of rows, from one on -/
theorem OwS.cellsFrom (h : OwS w base e size (.slice (some ⟨g, 0, none⟩) n cap) rows) (i : Nat) {j : Nat} {u : Value} (hj : (rows.drop i).flatten[j]? = some u) : w.cell? ⟨g, i * size + j, none⟩ = some u := by
  obtain ⟨cur, hn, hb, hh, hnc, hcm, hsz, ht⟩ := h.blk
  have hfl : rows.flatten = (rows.take i).flatten ++ (rows.drop i).flatten := by rw [← List.flatten_append, List.take_append_drop]
  have hjl := (List.getElem?_eq_some_iff.1 hj).1
  have hi : i < rows.length := by
    rcases Nat.lt_or_ge i rows.length with hi | hi
    · exact hi
    · rw [List.drop_of_length_le hi] at hjl; simp at hjl
  have htl : (rows.take i).flatten.length = i * size := by rw [flatten_length (fun r hr => h.1 r (List.mem_of_mem_take hr)), List.length_take, Nat.min_eq_left (by omega)]
  have h3 : rows.flatten[i * size + j]? = some u := by rw [hfl, List.getElem?_append_right (by omega), htl, Nat.add_sub_cancel_left]; exact hj
  rw [← ht, List.getElem?_take] at h3
  rw [cell_of_row _ _ _ _ _ _ hh]
  split at h3
  · simpa using h3
  · cases h3
end
end Go.Proofs.YteglnekkkhpikaaGreat
