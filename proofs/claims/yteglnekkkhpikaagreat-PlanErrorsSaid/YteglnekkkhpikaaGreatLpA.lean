/- Walk of tegulalaw23.PlanRebuild. -/
import Derived.Test.YteglnekkkhpikaaGreatDeadP
import Derived.Test.YteglnekkkhpikaaGreatGSmk
namespace Go.Proofs.YteglnekkkhpikaaGreat
open Go.RowKit

/-- a rebuild's tasks are few, and each names few pieces -/
theorem reb_small {L : LayD} (ok : LayOk L) {ms : List Mv} (h : MvOk L ms) (d : Int) (dead : List Bool) : (rebL L ms d dead).1.length ≤ L.G ∧ ∀ t ∈ (rebL L ms d dead).1, t.frm.length ≤ 16 := by
  unfold rebL
  split
  · exact ⟨by simp, by simp⟩
  · split
    · exact ⟨by simp, by simp⟩
    · rename_i h1 h2
      obtain ⟨e, rfl⟩ : ∃ e : Nat, d = (e : Int) := ⟨d.toNat, by simp at h1; omega⟩
      rcases hr : refG L ms dead (onL L ms (e : Int)) ms [] with ⟨ts, er⟩
      by_cases he : er = 0
      · subst he
        obtain ⟨new, fin, hn, ho⟩ := rebG_ok _ _ _ _ hr
        obtain ⟨h3, h4, -⟩ := reb_tasks ok ho h (fun x hx => on_isP x hx) (onL_inc ok h e) (fun _ _ _ => rfl)
        simp only [List.nil_append] at hn
        subst hn
        refine ⟨?_, fun t ht => ?_⟩
        · have : (ts.map fun t => (t.g, t.p)).length = (onL L ms (e : Int)).length := by rw [h3]
          rw [List.length_map] at this
          show ts.length ≤ L.G
          rw [this]
          exact on_len ok h e
        · have := (from_good ok h (h4 t ht).hs).1
          have hw := ok.w
          omega
      · have := rebG_err _ _ _ _ _ hr he
        subst this
        exact ⟨by simp, by simp⟩
set_option maxHeartbeats 8000000 in
set_option maxRecDepth 100000 in
theorem planrebuild_any (n : Nat) (hn : n < 65536) (raw : List Nat) (Ar : Option Addr) (cr : Nat) (x y : Nat) (hx256 : x < 256) (hy : y < 65536) (w : World) (hR : BytR w w.heap.size Ar raw) (h256 : ∀ x ∈ raw, x < 256) :
    Calls Tryz.prog 3 #[.int .u16 (n : Int), .slice Ar raw.length cr, .agg #[.int .u8 (x : Int), .int .u16 (y : Int)]] w fun r w' => r = .returned (.bool true) ∧ Below w.heap.size w w' := by
  have HA := Lib.hid (fun W => awakeP_any W)
  have HSM := Lib.hid (fun W => small_any n hn W)
  have HX : Hid (LayX (smallL n)) := small_layX n
  have HR := Lib.hid hR
  clear hR
  by_cases h20 : 12 < raw.length
  · have h20I : (12 : Int) < (raw.length : Int) := by omega
    go_enter Tryz.func3, Tryz.ntmps3
    go_wp2_with fail
    refine (HA.out _).mono ?_
    rintro r w1 ⟨rfl, hb1⟩
    have hb : Below w.heap.size w w1 := below_laid.trans (hb1.mono (by simp))
    go_wp2
    go_ret
    exact ⟨rfl, hb⟩
  have h20I : ¬ (12 : Int) < (raw.length : Int) := by omega
  have HMC := Lib.hid (fun (w0 : World) (X : Nat) (A : Option Addr) (c : Nat) (W : World) (h : LwI w0 X (smallL n) A c W) (hR : BytR w0 w0.heap.size Ar raw) => moves_call (cr := cr) HX.out h hR h256 (by omega))
  have HSL := Lib.hid (fun (w0 w1 w2 : World) (r : Ending) (hb : Below w0.heap.size w0 w1) (h : SmlP n w1 r w2) => small_laid hb h)
  have HOK : Hid (MvOk (smallL n) (movesL (smallL n) raw)) := moves_ok _ _
  have HLN : Hid ((movesL (smallL n) raw).length ≤ 20) := by have := moves_len (smallL n) raw; exact Nat.le_trans this (by omega)
  clear h256
  unfold layAgg at HMC HSL
  generalize SmlP n = SP at HSM HSL
  clear hn
  obtain ⟨L, hL⟩ : ∃ L, smallL n = L := ⟨_, rfl⟩
  rw [hL] at HX HMC HSL HOK HLN
  obtain ⟨ms, hms⟩ : ∃ ms, movesL L raw = ms := ⟨_, rfl⟩
  rw [hms] at HMC HOK HLN
  have HWF : Hid (∀ x ∈ ms, PlWf x.to) := wf_mvs HX.out HOK.out
  have HVM : Hid (validM L ms = true) := ok_valid HOK.out
  have hdk := HX.out.ok.disks
  have HDD := Lib.hid (fun W => dead_any L.disks x y W hdk hx256 hy)
  obtain ⟨e, he⟩ : ∃ e, x % L.disks = e := ⟨_, rfl⟩
  have hed : e < L.disks := by rw [← he]; exact Nat.mod_lt _ (by omega)
  have HDE : Hid (∀ W r W', DeadP L.disks x y W r W' → ∃ (a : Addr) (l : List Bool), r = .returned (.tuple #[.slice (some a) L.disks L.disks, .int .i64 (e : Int)]) ∧ l.length = L.disks ∧ l[e]? = some true ∧ OwS W' W.heap.size 4 1 (.slice (some a) L.disks L.disks) (l.map fun b => [.bool b]) ∧ Below W.heap.size W W') := fun W r W' h => by
    obtain ⟨a, l, h1, h2, h3, -, h4, h5⟩ := h
    rw [he] at h1 h3
    exact ⟨a, l, h1, h2, h3, h4, h5⟩
  generalize DeadP L.disks x y = DP at HDD HDE
  clear hL hms he hx256 hy
  go_enter Tryz.func3, Tryz.ntmps3
  go_wp2_with fail
  generalize hW0 : w.alloc _ = w0
  have hbx : w0.heap[w.heap.size]? = some (.cells #[.int .u8 (x : Int), .int .u16 (y : Int)] 25) := by rw [← hW0]; exact heap_alloc_new w _
  have hb0 : Below w.heap.size w w0 := by rw [← hW0]; exact below_laid
  have hR0 : BytR w0 w0.heap.size Ar raw := (RdS.below' HR.out hb0 (Nat.le_refl _)).more hb0.size
  have HR0 := Lib.hid hR0
  have HB0 := Lib.hid hb0
  have HBX := Lib.hid hbx
  have HZ0 : Hid (w.heap.size < w0.heap.size) := blk_lt hbx
  clear hW0 hb0 hR0 hbx HR
  refine (HA.out w0).mono ?_
  rintro r w1 ⟨rfl, hb1⟩
  have HB1 := Lib.hid hb1
  clear hb1 HA
  go_wp2_with fail
  refine (HSM.out w1).mono ?_
  rintro r w2 hsm
  obtain ⟨A, c, rfl, -, hi3⟩ := HSL.out w0 w1 w2 r HB1.out hsm
  have HI3 := Lib.hid hi3
  clear hsm hi3 HSL HSM HB1
  go_upto_region 6 with (fail)
  generalize w2.alloc _ = w3 at *
  generalize w2.heap.size = X at *
  obtain ⟨l0, l1, l2, l3⟩ := HI3.out.lay.cells
  go_wp2_with fail
  refine (HMC.out w0 X A c w3 HI3.out HR0.out).mono ?_
  rintro r w4 ⟨Am, cm, rfl, hj4⟩
  have HJ4 := Lib.hid hj4
  have hbx4 := (hj4.bel.block _ HZ0.out).trans HBX.out
  have x0 : w4.cell? ⟨w.heap.size, 0, none⟩ = some (.int .u8 (x : Int)) := by rw [cell_of_row _ _ _ _ _ _ hbx4]; rfl
  have x1 : w4.cell? ⟨w.heap.size, 1, none⟩ = some (.int .u16 (y : Int)) := by rw [cell_of_row _ _ _ _ _ _ hbx4]; rfl
  clear hj4 hbx4 l0 l1 l2 l3 HI3 HMC HR0 HBX HZ0
  obtain ⟨l0, l1, l2, l3⟩ := HJ4.out.lay.cells
  go_wp2_with fail
  refine (HDD.out w4).mono ?_
  rintro r w5 hdp
  obtain ⟨ad, dl, rfl, hdlen, hdone, hdown, hb5⟩ := HDE.out w4 r w5 hdp
  have HJ5 := Lib.hid (HJ4.out.below hb5)
  have HD5 : Hid (BoolS w5 w5.heap.size (some ad) dl) := hdown.reads
  have HDN := Lib.hid hdlen
  have HD1 := Lib.hid hdone
  have hmsn := HLN.out
  clear hdp hdlen hdone hdown hb5 HDD HDE HJ4 l0 l1 l2 l3 x0 x1
  have hz : OwS (w5.alloc (.cells #[] 62)) w5.heap.size 62 4 (.slice (some ⟨w5.heap.size, 0, none⟩) 0 0) [] := OwS.lit (by simp) (heap_alloc_new w5 _) rfl rfl (by decide) (Nat.le_refl _)
  have hrr : MvS (w5.alloc (.cells #[] 62)) w5.heap.size Am ms := RdS.below' HJ5.out.mv below_laid (Nat.le_refl _)
  have HZ := Lib.hid hz
  have HRR := Lib.hid hrr
  have HRL := Lib.hid (planL_reb HX.out.ok HOK.out (d := (e : Int)) HDN.out)
  clear hz hrr
  go_wp2_with (at_builtin; refine wpList_apS rfl (.tmp 34) (.tmp 35) _ rfl elemMv rfl HZ.out w5.heap.size _ _ cm (ms.map Mv.cells) rfl HRR.out (by simp) (fun r hr => by obtain ⟨m, -, rfl⟩ := List.mem_map.1 hr; exact Mv.one m) (by simp [maxLen]; omega) (by simp; omega) (by simp) ?_)
  rintro v6 w6 hown6 hg6 -
  have hb6 : Below w5.heap.size w5 w6 := ((Below.refl w5.heap.size w5).alloc (Nat.le_refl _) _).grown hg6 (by simp) (fun k h => (HZ.out.lt h).1)
  obtain ⟨A6, c6, rfl, -, -⟩ := hown6.form
  rw [List.length_map] at hown6 ⊢
  have HJ6 := Lib.hid (HJ5.out.below hb6)
  have HO6 : Hid (MvS w6 w6.heap.size A6 ms) := (OwS.rds hown6).2
  have HD6 : Hid (BoolS w6 w6.heap.size (some ad) dl) := (RdS.below' HD5.out hb6 (Nat.le_refl _)).more hb6.size
  clear hown6 hg6 hb6 HZ HRR HJ5 HD5
  have hpr := prebuild_any (L := L) (A := A) (Am := A6) (Ad := some ad) (B := w6.heap.size) (c := c) (cm := c6) (cd := L.disks) (ms := ms) (dead := dl) (e : Int) w6 HX.out HJ6.out.gs HO6.out HWF.out HD6.out (Nat.le_refl _) (by omega) (by rw [HDN.out]; omega)
  rw [HRL.out, HDN.out] at hpr
  have hsm := reb_small HX.out.ok HOK.out (e : Int) dl
  have hrr := fun (W : World) (hJ : LwJ w0 X L A c Am ms W) (hD : BoolS W W.heap.size (some ad) dl) => r23rebuild (L := L) (A := A) (Am := Am) (Ad := some ad) (B := W.heap.size) (c := c) (cm := cm) (cd := L.disks) (ms := ms) (dead := dl) (e : Int) W HX.out HOK.out hJ.gs hJ.mv hD HDN.out (Nat.le_refl _) (by omega)
  unfold layAgg at hpr hrr
  obtain ⟨⟨ts, er⟩, hres⟩ : ∃ res, rebL L ms (e : Int) dl = res := ⟨_, rfl⟩
  simp only [hres] at hpr hsm hrr
  have HPR := Lib.hid hpr
  have HRB := Lib.hid hrr
  have HS1 := Lib.hid (Nat.le_trans hsm.1 HX.out.ok.G)
  have HS2 := Lib.hid hsm.2
  clear hpr hrr hsm hres HRL
  obtain ⟨l0, l1, l2, l3⟩ := HJ6.out.lay.cells
  go_wp2_with fail
  refine HPR.out.mono ?_
  rintro r w7 ⟨⟨v7, rfl, ht7⟩, hb7⟩
  obtain ⟨A7, c7, rfl⟩ := ht7.form
  have HT7 : Hid (TskS w7 w7.heap.size A7 ts) := ht7.reads
  have HJ7 := Lib.hid (HJ6.out.below hb7)
  have HO7 : Hid (MvS w7 w7.heap.size A6 ms) := (RdS.below' HO6.out hb7 (Nat.le_refl _)).more hb7.size
  have HD7 : Hid (BoolS w7 w7.heap.size (some ad) dl) := (RdS.below' HD6.out hb7 (Nat.le_refl _)).more hb7.size
  clear ht7 hb7 HPR HJ6 HO6 HD6 l0 l1 l2 l3
  obtain ⟨l0, l1, l2, l3⟩ := HJ7.out.lay.cells
  go_wp2_with fail
  refine (HRB.out w7 HJ7.out HD7.out).mono ?_
  rintro r w8 ⟨⟨v8, rfl, ht8⟩, hb8⟩
  obtain ⟨A8, c8, rfl⟩ := ht8.form
  have HT8 : Hid (TskS w8 w8.heap.size A8 ts) := ht8.reads
  have HU8 : Hid (TskS w8 w8.heap.size A7 ts) := (HT7.out.below hb8 (Nat.le_refl _)).more hb8.size
  have HJ8 := Lib.hid (HJ7.out.below hb8)
  have HO8 : Hid (MvS w8 w8.heap.size A6 ms) := (RdS.below' HO7.out hb8 (Nat.le_refl _)).more hb8.size
  clear ht8 hb8 HRB HJ7 HO7 HD7 HT7 l0 l1 l2 l3
  have hsa := r23same (A1 := A7) (A2 := A8) (B1 := w8.heap.size) (B2 := w8.heap.size) (c1 := c7) (c2 := c8) (ts := ts) w8 HU8.out HT8.out (by have := HS1.out; omega) (fun t ht => Nat.le_trans (HS2.out t ht) (by omega)) (Nat.le_refl _) (Nat.le_refl _)
  have HSA := Lib.hid hsa
  have f1 : (er == er) = true := by simp
  clear hsa
  go_wp2_with fail
  refine HSA.out.mono ?_
  rintro r w9 ⟨rfl, hb9⟩
  have HJ9 := Lib.hid (HJ8.out.below hb9)
  have HO9 : Hid (MvS w9 w9.heap.size A6 ms) := (RdS.below' HO8.out hb9 (Nat.le_refl _)).more hb9.size
  clear hb9 HSA HJ8 HO8
  have hs2 := r22same (a := ms) (b := ms) (c1 := c6) (c2 := cm) w9 HO9.out HJ9.out.mv (by omega) (by omega) (Nat.le_refl _) (Nat.le_refl _)
  have HS3 := Lib.hid hs2
  clear hs2
  go_wp2_with fail
  refine HS3.out.mono ?_
  rintro r w10 ⟨hr10, hb10⟩
  obtain rfl : r = .returned (.bool true) := by rw [hr10]; simp
  have HE := Lib.hid (HB0.out.trans ((HJ9.out.below hb10).bel.mono HB0.out.size))
  clear hr10 hb10
  go_wp2
  go_ret
  exact ⟨rfl, HE.out⟩
end Go.Proofs.YteglnekkkhpikaaGreat
