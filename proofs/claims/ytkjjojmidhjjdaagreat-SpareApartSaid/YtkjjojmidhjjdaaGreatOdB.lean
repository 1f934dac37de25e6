/- Walk of layout.OnDisk: the pieces whose homes lie on a disk. -/
import Derived.Test.YtkjjojmidhjjdaaGreatOdA
import Derived.Test.YtkjjojmidhjjdaaGreatOdS
namespace Go.Proofs.YtkjjojmidhjjdaaGreat
open Go.RowKit

theorem elemMem : Elem Tryz.prog 33 45 2 16 := Elem.mk (z := .agg #[.int .i64 0, .int .i64 0]) Tryz.underlying33 (by kernel_rfl) (by decide) rfl
theorem memN_one (x : Nat × Nat) : ∀ u ∈ memN x, u.oneCell' = true := by
  intro u hu
  simp [memN] at hu
  rcases hu with rfl | rfl <;> rfl
def homeTo (L : LayD) (d k : Nat) : List (Nat × Nat) := (List.range k).map (homeAt L d)
theorem homeTo_succ (L : LayD) (d k : Nat) : homeTo L d (k + 1) = homeTo L d k ++ [homeAt L d k] := by
  unfold homeTo
  rw [List.range_succ, List.map_append]
  rfl
theorem homeTo_len (L : LayD) (d k : Nat) : (homeTo L d k).length = k := by simp [homeTo]
def HomR (L : LayD) (d : Nat) (w3 : World) (s8 s30 : Value) (wr : World) : Prop := ∃ k : Nat, k ≤ L.homes ∧ s30 = .int .i64 k ∧ OwS wr w3.heap.size 45 2 s8 ((homeTo L d k).map memN) ∧ Below w3.heap.size w3 wr
set_option maxHeartbeats 8000000 in
set_option maxRecDepth 100000 in
theorem lOnDisk_any {L : LayD} {A : Option Addr} {B c : Nat} (d : Nat) (w : World) (hx : LayX L) (hv : GsV w B A L.gs) (hB : B ≤ w.heap.size) (hd : d < L.disks) :
    Calls Tryz.prog 23 #[layAgg L A c, .int .i64 (d : Int)] w fun r w' => (∃ v, r = .returned (.tuple #[v, .int .i64 0]) ∧ OwS w' w.heap.size 45 2 v ((homeOn L d).map memN)) ∧ Below w.heap.size w w' := by
  have HV := Lib.hid hv
  have HX := Lib.hid hx
  have HC := Lib.hid (fun W hv hB => measure_any (L := L) (A := A) (B := B) (c := c) W hx hv hB)
  have HRES : Hid (homeOn L d = homeTo L d L.homes) := rfl
  have hbb : L.homes ≤ 65536 := by
    have := hx.ok.blocks
    unfold LayD.blocks at this
    omega
  unfold layAgg at *
  clear hv
  have f1 : decide ((d : Int) < 0) = false := by rw [decide_eq_false_iff_not]; omega
  have f2 : decide (L.disks ≤ d) = false := by rw [decide_eq_false_iff_not]; omega
  have f3 : decide ((L.disks : Int) ≤ (d : Int)) = false := by rw [decide_eq_false_iff_not]; omega
  go_enter Tryz.func23, Tryz.ntmps23
  go_wp2_with fail
  generalize hW0 : w.alloc _ = w0
  have hb0 : Below w.heap.size w w0 := by rw [← hW0]; exact below_laid
  have hl0 : LayB w0 w.heap.size L A c := by rw [← hW0]; exact LayB.made w L A c
  clear hW0
  refine (HC.out w0 (HV.out.below hb0 hB) (Nat.le_trans hB hb0.size)).mono ?_
  rintro r w2 ⟨⟨Ar, cr, O, rfl, -, hgo⟩, hb2⟩
  have hl2 := hl0.below hb2 hl0.lt
  have hb2w := hb0.trans (hb2.mono hb0.size)
  unfold numC
  clear hb0 hb2 hl0 HC
  go_upto_region 2 with (fail)
  generalize hW3 : w2.alloc _ = w3
  have hn3 : NumB w3 w2.heap.size L A c (.slice Ar L.n cr) (.slice (some ⟨O, 0, none⟩) L.disks L.disks) L.homes L.blocks := by rw [← hW3]; exact NumB.made w2 L A c _ _ _ _
  have hb3 : Below w2.heap.size w2 w3 := by rw [← hW3]; exact below_laid
  have hl3 := hl2.below hb3 hl2.lt
  have HG3 := Lib.hid ((hgo.below hb3 (Nat.le_refl _)).more hb3.size)
  have HB3 := Lib.hid (hb2w.trans (hb3.mono hb2w.size))
  have HN3 := Lib.hid hn3
  generalize w2.heap.size = Q at *
  obtain ⟨l0, l1, l2, l3⟩ := hl3.cells
  have n3 := hn3.cells
  clear hW3 hn3 hb3 hl2 hl3 hgo hb2w
  have HV3 : Hid (GsV w3 w3.heap.size A L.gs) := (HV.out.below HB3.out hB).more (Nat.le_trans hB HB3.out.size)
  have HAT := Lib.hid (fun (b : Nat) (hb : b < L.homes) (W : World) (hW : Below w3.heap.size w3 W) => lat_any (L := L) (A := A) (Ar := Ar) (Ao := some ⟨O, 0, none⟩) (B := w3.heap.size) (c := c) (cr := cr) (co := L.disks) (ho := L.homes) (ca := L.blocks) d b W HX.out (HV3.out.below hW (Nat.le_refl _)) (HG3.out.below hW (Nat.le_refl _)) hW.size hd hb)
  unfold numC at HAT
  go_wp2
  clear n3 l0 l1 l2 l3
  go_loopw [8, 9, 30] (fun s8 _ s30 wr => HomR L d w3 s8 s30 wr) (fun _ _ s30 _ => L.homes - (intOf s30).toNat)
  case atStart => exact ⟨0, by omega, rfl, OwS.nil _ _ _ _, Below.refl _ _⟩
  case round =>
    obtain ⟨k, hk, rfl, hown, hb⟩ := hrel
    obtain ⟨A8, c8, rfl, -, -⟩ := hown.form
    have hol : ((homeTo L d k).map memN).length = k := by rw [List.length_map, homeTo_len]
    rw [hol] at hown ⊢
    have HO := Lib.hid hown
    have HB := Lib.hid hb
    have n4 := (HN3.out.below hb HN3.out.lt).cells
    clear hown hb hol
    by_cases hkh : k < L.homes
    · have hkI : (k : Int) < (L.homes : Int) := by omega
      have HST := Lib.hid (homeTo_succ L d k)
      have ha := HAT.out k hkh wr HB.out
      obtain ⟨x, hx⟩ : ∃ x, homeAt L d k = x := ⟨_, rfl⟩
      rw [hx] at ha HST
      have HA := Lib.hid ha
      clear ha hx
      go_wp2_with fail
      refine HA.out.mono ?_
      rintro r w5 ⟨rfl, hb5⟩
      have HO5 := Lib.hid (HO.out.below hb5)
      have HB5 := Lib.hid (HB.out.trans (hb5.mono HB.out.size))
      have hl := homeTo_len L d k
      have hs5 := HB5.out.size
      clear n4 hb5 HA HO HB
      go_wp2_with (at_builtin; refine wpList_ap1 rfl (.tmp 33) (.tmp 38) _ rfl elemMem rfl HO5.out (memN x) _ (by rfl) w5.heap.size (by rfl) (by rfl) (memN_one x) (by rw [List.length_map, hl]; simp [maxLen]; omega) (by rw [List.length_map, hl]; omega) (by omega) ?_)
      rintro v1 w6 hown1 hg1 -
      have HO6 : Hid (OwS w6 w3.heap.size 45 2 v1 ((homeTo L d (k + 1)).map memN)) := by
        rw [Hid, HST.out, List.map_append]
        exact hown1
      have HB6 : Hid (Below w3.heap.size w3 w6) := (HB5.out.alloc HB5.out.size _).grown hg1 (by simp; omega) (fun q hq => (HO5.out.lt hq).1)
      clear hown1 hg1
      go_wp2
      go_roundw
      case rel => exact ⟨k + 1, by omega, by go_num, HO6.out, HB6.out⟩
      case measure => simp [intOf] <;> omega
    · have hkI : ¬ (k : Int) < (L.homes : Int) := by omega
      obtain rfl : k = L.homes := by omega
      have HE := Lib.hid (HB3.out.trans (HB.out.mono HB3.out.size))
      have HO2 := Lib.hid (HO.out.mono HB3.out.size)
      clear n4 HO HB
      go_wp2
      go_ret2
      exact ⟨⟨_, rfl, by rw [HRES.out]; exact HO2.out⟩, HE.out⟩
end Go.Proofs.YtkjjojmidhjjdaaGreat
