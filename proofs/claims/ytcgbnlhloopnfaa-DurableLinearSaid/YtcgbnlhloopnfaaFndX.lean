/- Walks of linear.Find and of IndexFunc, ContainsFunc over its closure. -/
import Derived.Test.YtcgbnlhloopnfaaFndW
import Derived.Test.YtcgbnlhloopnfaaDivB
namespace Go.Proofs.Ytcgbnlhloopnfaa
open Go.RowKit

def bigE (os : List Opr) (k : Nat) : Bool := decide (16 < (eraX os k).length)
set_option maxHeartbeats 1000000 in
set_option maxRecDepth 100000 in
theorem big_any (n : Nat) (Ao As : Option Addr) (co cs : Nat) (lb : Bool) (w : World) (hn : n ≤ 100000000) :
    Calls Try.prog 54 #[.agg #[.slice Ao n co, .slice As n cs, .bool lb]] w fun r w' => r = .returned (.bool (decide (16 < n))) ∧ Below w.heap.size w w' := by
  by_cases h : 16 < n
  · have h' : (n : Int) > 16 := by omega
    have hd : decide (16 < n) = true := by simpa using h
    rw [hd]
    go_enter Try.func54, Try.ntmps54
    go_wp2
    go_ret
    exact ⟨ret_bool (by simp), below_laid⟩
  · have h' : ¬ (n : Int) > 16 := by omega
    have hd : decide (16 < n) = false := by simpa using h
    rw [hd]
    go_enter Try.func54, Try.ntmps54
    go_wp2
    go_ret
    exact ⟨ret_bool (by simp), below_laid⟩

set_option maxHeartbeats 1000000 in
set_option maxRecDepth 100000 in
theorem index_era {os : List Opr} {cuts eb c : Nat} (w : World) (h : ErasM w os cuts eb) (hcuts : cuts ≤ 100000) (hlen : os.length ≤ 100000) :
    Calls Try.prog 71 #[.slice (some ⟨eb, 0, none⟩) (cuts + 1) c, .func (.func 54) #[] #[]] w
      fun r w' => r = .returned (.int .i64 (idxI ((List.range (cuts + 1)).find? (bigE os)))) ∧ Below w.heap.size w w' := by
  have HE := Lib.hid h
  clear h
  have hX : ∀ k, (eraX os k).length ≤ 100000 := fun k => Nat.le_trans (List.length_filter_le _ _) (Nat.le_trans (List.length_filter_le _ _) hlen)
  have HX := Lib.hid hX
  clear hX
  go_enter Try.func71, Try.ntmps71
  go_wp2
  go_loopw [8] (fun i wr => ∃ k : Nat, k ≤ cuts + 1 ∧ i = .int .i64 k ∧ (∀ j, j < k → bigE os j = false) ∧ Below w.heap.size w wr) (fun i _ => cuts + 1 - (intOf i).toNat)
  case atStart => exact ⟨0, by omega, rfl, fun j hj => absurd hj (by omega), Below.refl _ _⟩
  case round =>
    obtain ⟨k, hk, rfl, hno, hb⟩ := hrel
    have HN := Lib.hid hno
    clear hno
    by_cases hlt : k < cuts + 1
    · obtain ⟨cur, hcur, hall⟩ := HE.out
      obtain ⟨Ao, co, As, cs, g1, g2, g3, -, -⟩ := hall k (by omega)
      have hcw := (hb.block eb (Array.getElem?_eq_some_iff.1 hcur).1).trans hcur
      have e0 : wr.cell? ⟨eb, k * 3, none⟩ = some (.slice Ao (eraX os k).length co) := by rw [Nat.mul_comm, cell_of_row _ _ _ _ _ _ hcw]; exact g1
      have e1 : wr.cell? ⟨eb, k * 3 + 1, none⟩ = some (.slice As (eraX os k).length cs) := by rw [Nat.mul_comm, cell_of_row _ _ _ _ _ _ hcw]; exact g2
      have e2 : wr.cell? ⟨eb, k * 3 + 2, none⟩ = some (.bool (k == cuts)) := by rw [Nat.mul_comm, cell_of_row _ _ _ _ _ _ hcw]; exact g3
      have HC := Lib.hid (fun W => big_any (eraX os k).length Ao As co cs (k == cuts) W (by have := HX.out k; omega))
      clear hall hcur hcw g1 g2 g3
      have hs := hb.size
      have hkl : (k : Int) < (cuts : Int) + 1 := by omega
      obtain ⟨bg, hbg⟩ : ∃ bg, bigE os k = bg := ⟨_, rfl⟩
      rw [show decide (16 < (eraX os k).length) = bg from hbg] at HC
      have HBG := Lib.hid hbg
      clear hbg
      generalize (k == cuts) = lb at *
      generalize (eraX os k).length = nn at *
      cases bg
      · go_wp2_with fail
        refine (HC.out _).mono ?_
        rintro r w1 ⟨rfl, hb1⟩
        go_wp2
        go_roundw
        case rel => exact ⟨k + 1, by omega, by go_num, fun j hj => by
          rcases Nat.lt_or_eq_of_le (Nat.le_of_lt_succ hj) with hj' | rfl
          · exact HN.out j hj'
          · exact HBG.out, hb.trans (hb1.mono hs)⟩
        case measure => simp [intOf]; omega
      · go_wp2_with fail
        refine (HC.out _).mono ?_
        rintro r w1 ⟨rfl, hb1⟩
        go_wp2
        go_ret
        have hfi : (List.range (cuts + 1)).find? (bigE os) = some k := by
          rw [List.find?_range_eq_some]
          exact ⟨HBG.out, by simpa using hlt, fun j hj => by rw [HN.out j hj]; rfl⟩
        exact ⟨ret_int (by rw [hfi]; rfl), hb.trans (hb1.mono hs)⟩
    · obtain rfl : k = cuts + 1 := by omega
      go_wp2
      go_ret
      have hfi : (List.range (cuts + 1)).find? (bigE os) = none := by
        rw [List.find?_eq_none]
        intro j hj
        rw [HN.out j (by simpa using hj)]
        simp
      exact ⟨ret_int (by rw [hfi]; rfl), hb⟩
def anyBig (os : List Opr) (cuts : Nat) : Bool := (List.range (cuts + 1)).any (bigE os)
set_option maxHeartbeats 1000000 in
theorem contains_era {os : List Opr} {cuts eb c : Nat} (w : World) (h : ErasM w os cuts eb) (hcuts : cuts ≤ 100000) (hlen : os.length ≤ 100000) :
    Calls Try.prog 53 #[.slice (some ⟨eb, 0, none⟩) (cuts + 1) c, .func (.func 54) #[] #[]] w
      fun r w' => r = .returned (.bool (anyBig os cuts)) ∧ Below w.heap.size w w' := by
  have HI := Lib.hid (index_era (c := c) w h hcuts hlen)
  have HA : Hid (anyBig os cuts = ((List.range (cuts + 1)).find? (bigE os)).isSome) := by
    unfold Hid anyBig
    rw [Bool.eq_iff_iff, List.any_eq_true, List.find?_isSome]
  clear h
  rcases hf : (List.range (cuts + 1)).find? (bigE os) with _ | i
  · rw [hf] at HI HA
    simp only [idxI] at HI
    clear hf
    go_enter Try.func53, Try.ntmps53
    go_wp2_with fail
    refine HI.out.mono ?_
    rintro r w1 ⟨rfl, hb1⟩
    go_wp2
    go_ret
    exact ⟨ret_bool (by rw [HA.out]; rfl), hb1⟩
  · rw [hf] at HI HA
    simp only [idxI] at HI
    clear hf
    go_enter Try.func53, Try.ntmps53
    go_wp2_with fail
    refine HI.out.mono ?_
    rintro r w1 ⟨rfl, hb1⟩
    go_wp2
    go_ret
    exact ⟨ret_bool (by rw [HA.out]; simp), hb1⟩

/-- .. of a history with few operations -/
def FindQ [BaseW] (os : List Opr) (cuts : Nat) (r : Ending) (w' : World) : Prop :=
  ∃ b ov wl, r = .returned (.tuple #[ov, .bool b, .int .i64 0]) ∧ (b = true → wl.length = cuts + 1 ∧ accI os cuts 0 0 wl = true ∧ OutS w' ov wl) ∧ (b = false → ov = .slice none 0 0 ∧ ¬ ExpO os cuts 0 0)
/-- what Find leaves -/
def FindP [BaseW] (l : List Ev) (w : World) (r : Ending) (w' : World) : Prop := Below w.heap.size w w' ∧
  (if oneL l then (if anyBig (rawOps l) (cutsL l) then r = .returned (.tuple #[.slice none 0 0, .bool false, .int .i64 7])
    else FindQ (rawOps l) (cutsL l) r w')
  else r = .returned (.tuple #[.slice none 0 0, .bool false, .int .i64 1]))
def allSt : List Lit := (List.range 1114112).map fun j => pKey ((j / 17 : Nat) : Int) ((j % 17 : Nat) - 1 : Int)
theorem allSt_mem (S : Nat) (l : Int) (h1 : S < 65536) (h2 : -1 ≤ l) (h3 : l < 16) : pKey (S : Int) l ∈ allSt := by
  obtain ⟨m, hm⟩ := Int.eq_ofNat_of_zero_le (show 0 ≤ l + 1 by omega)
  refine List.mem_map.2 ⟨S * 17 + m, List.mem_range.2 (by omega), ?_⟩
  rw [show (S * 17 + m) / 17 = S by omega, show (S * 17 + m) % 17 = m by omega, show ((m : Int) - 1) = l by omega]
theorem allSt_len : allSt.length < maxLen := by unfold allSt maxLen; rw [List.length_map, List.length_range]; decide
def allFk (os : List Opr) (cuts : Nat) : List Lit := (List.range (cuts + 1)).flatMap fun (k : Nat) => (valsO os).map fun v => pKey (k : Int) v
theorem allFk_mem {os : List Opr} {cuts : Nat} (k : Nat) (v : Int) (hk : k ≤ cuts) (hv : v ∈ valsO os) : pKey (k : Int) v ∈ allFk os cuts := List.mem_flatMap.2 ⟨k, List.mem_range.2 (by omega), List.mem_map.2 ⟨v, hv, rfl⟩⟩
theorem allFk_len {os : List Opr} {cuts : Nat} (h1 : os.length ≤ 100000) (h2 : cuts ≤ 100000) : (allFk os cuts).length < maxLen := by
  have : (allFk os cuts).length = (cuts + 1) * (os.length + 1) := by
    unfold allFk
    rw [List.length_flatMap]
    simp [valsO, List.map_const']
  rw [this]
  have h3 : (cuts + 1) * (os.length + 1) ≤ 100001 * 100001 := Nat.mul_le_mul (by omega) (by omega)
  unfold maxLen
  omega

set_option maxHeartbeats 4000000 in
set_option maxRecDepth 100000 in
theorem lfind_any (l : List Ev) (A : Option Addr) (c B : Nat) (w : World) (h : EvS w B A l) (hB : B ≤ w.heap.size) (hlen : l.length ≤ 100000) (hwf : WfOp l) (hwr : WfReg l) (hwv : ∀ e ∈ l, (Lit.int .i64 e.val).wf = true) :
    Calls Try.prog 24 #[.slice A l.length c] w (@FindP ⟨w.heap.size⟩ l w) := by
  letI : BaseW := ⟨w.heap.size⟩
  have HD := Lib.hid (divide_any l A c B w h hB hlen hwf hwr)
  unfold DivP at HD
  unfold FindP
  have hcb : cutsL l ≤ 100000 := Nat.le_trans List.countP_le_length hlen
  cases hone : oneL l
  case false =>
    rw [hone] at HD
    simp only [Bool.false_eq_true, if_false] at HD ⊢
    clear h hwf hwr hwv hcb hone
    go_enter Try.func24, Try.ntmps24
    go_wp2_with fail
    refine HD.out.mono ?_
    rintro r w1 ⟨rfl, hb1⟩
    go_wp2
    go_ret3
    exact ⟨hb1, rfl⟩
  case true =>
    have hv : validL l = true := by
      unfold oneL at hone
      rcases hv : validL l with _ | _
      · rw [hv] at hone; cases hone
      · rfl
    rw [hone] at HD
    simp only [if_true] at HD ⊢
    have hol : (rawOps l).length ≤ 100000 := Nat.le_trans (rawTo_bd l l.length).1 hlen
    have HND := Lib.hid (nd_ids hv)
    have HWF := Lib.hid (valsO_wf hwv)
    have HOL := Lib.hid hol
    have HCB := Lib.hid hcb
    clear h hwf hwr hwv hone hv hol hcb
    obtain ⟨os, hos⟩ : ∃ os, rawOps l = os := ⟨_, rfl⟩
    obtain ⟨cuts, hcuts⟩ : ∃ n, cutsL l = n := ⟨_, rfl⟩
    rw [hos] at HND HWF HOL
    rw [hcuts] at HCB
    simp only [hos, hcuts] at HD ⊢
    clear hos hcuts
    obtain ⟨ab, hab⟩ : ∃ ab, anyBig os cuts = ab := ⟨_, rfl⟩
    have HAB := Lib.hid hab
    simp only [hab]
    clear hab
    go_enter Try.func24, Try.ntmps24
    go_wp2_with fail
    refine HD.out.mono ?_
    rintro r w1 ⟨eb, ce, rfl, her, hb1⟩
    have HER := Lib.hid her
    have HB1 := Lib.hid hb1
    have HCE := Lib.hid (contains_era (c := ce) w1 her HCB.out HOL.out)
    rw [HAB.out] at HCE
    clear her hb1
    go_wp2_with fail
    refine HCE.out.mono ?_
    rintro r w2 ⟨rfl, hb2⟩
    have HER2 := Lib.hid (show ErasM w2 os cuts eb from HER.out.stay (belR_big hb2) (no_block w1))
    have HB2 := Lib.hid (HB1.out.trans (hb2.mono HB1.out.size))
    clear hb2
    cases ab
    case true =>
      simp only
      go_wp2
      go_ret3
      exact ⟨HB2.out, rfl⟩
    case false =>
      simp only
      have hmm := @run_makeMap Try.prog
      have h16 : ∀ k, k ≤ cuts → (eraX os k).length ≤ 16 := fun k hk => by
        have h1 := HAB.out
        unfold anyBig at h1
        have h2 := List.any_eq_false.1 h1 k (by simp; omega)
        unfold bigE at h2
        simp at h2
        exact h2
      have HFR := Lib.hid (fun (sb mb : Nat) (W : World) (hS : SInv W os cuts sb mb eb ce (allFk os cuts) [] (.slice none 0 0) (fun _ => false)) =>
        from_any HND.out HCB.out HWF.out h16 allSt_mem allSt_len (fun k v hk hv => allFk_mem k v hk hv) (allFk_len HOL.out HCB.out) (cuts + 1) 0 0 [] (.slice none 0 0) (fun _ => false) W (by omega) (by simp [valsO]) rfl hS)
      clear h16
      go_wp2_with fail
      generalize hWd : (w2.alloc _).alloc _ = W3
      have hb3 : Below w2.heap.size w2 W3 := by rw [← hWd]; exact below_laid.alloc (by simp) _
      have hS3 : SInv W3 os cuts (w2.heap.size + 1) w2.heap.size eb ce (allFk os cuts) [] (.slice none 0 0) (fun _ => false) := by
        refine ⟨by rw [← hWd]; exact heap_new_at _ _ (by simp), HER2.out.stay (belR_big hb3) (no_block w2), ⟨[], rfl, OwS.nil _ _ _ _, by simp⟩, MapS.fresh ?_ _ _ _, fun k v _ _ h => absurd h (by simp), ?_⟩
        · rw [← hWd, Below.heap_alloc _ _ _ (by simp)]
          exact heap_new_at _ _ rfl
        · have := HB2.out.size
          show w.heap.size ≤ _
          omega
      have HS3 := Lib.hid hS3
      have HB3 := Lib.hid (HB2.out.trans (hb3.mono HB2.out.size))
      clear hWd hb3 hS3 hmm
      refine (HFR.out _ _ _ HS3.out).mono ?_
      rintro r w4 ⟨b, rfl, hf4, hd4, hn4⟩
      have hz2 := HB2.out.size
      have hz3 := HB3.out.size
      have HB4 : Hid (Below w.heap.size w w4) := HB3.out.trans (hf4.toBelow (fun k hk => by
        show w.heap.size ≤ k
        simp at hk
        omega) hz3)
      have HD4 := Lib.hid hd4
      have HN4 := Lib.hid hn4
      clear hf4 hd4 hn4 hz2 hz3 HFR
      cases b
      case false =>
        go_wp2
        go_ret3
        exact ⟨HB4.out, false, _, [], rfl, fun h => absurd h (by simp), fun _ => ⟨rfl, (HN4.out (by simp)).1⟩⟩
      case true =>
        obtain ⟨wl, ov, ff, l1, l2, hs4⟩ := HD4.out (by simp)
        obtain ⟨es, e1, e2, e3⟩ := hs4.out
        obtain ⟨A4, n4, c4, rfl⟩ := e2.isSlice
        have s2 := hs4.cells.2.2
        have HO4 := Lib.hid hs4.out
        have HL1 := Lib.hid l1
        have HL2 := Lib.hid l2
        clear e1 e2 e3 hs4 l1 l2
        go_wp2
        go_ret3
        exact ⟨HB4.out, true, _, wl, rfl, fun _ => ⟨HL1.out, HL2.out, by have := HO4.out; rwa [List.nil_append] at this⟩, fun h => absurd h (by simp)⟩
end Go.Proofs.Ytcgbnlhloopnfaa
