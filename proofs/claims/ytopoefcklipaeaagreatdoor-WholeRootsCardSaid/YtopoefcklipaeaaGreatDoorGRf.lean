/- Walks of layout: groups, has, home, Blocks, Groups, Home.
Walks of layout: Blocks, Groups, Home.
Walks of spare: order, and the small methods of its state.
Walk of slices.BinarySearchFunc on moves, by spare's order. -/
import Derived.Test.YtopoefcklipaeaaGreatDoorGWt
namespace Go.Proofs.YtopoefcklipaeaaGreatDoor
open Go.RowKit
def NumB (w : World) (X : Nat) (L : LayD) (A : Option Addr) (c : Nat) (rv ov : Value) (ho ca : Int) : Prop := w.heap[X]? = some (.cells (numC L A c rv ov ho ca) 180)
section
variable {w w' : World} {X : Nat} {L : LayD} {A : Option Addr} {c : Nat} {rv ov : Value} {ho ca : Int}
theorem NumB.cells (h : NumB w X L A c rv ov ho ca) : w.cell? ⟨X, 0, none⟩ = some (.int .i64 (L.disks : Int)) ∧ w.cell? ⟨X, 1, none⟩ = some (.slice A L.n c) ∧ w.cell? ⟨X, 2, none⟩ = some (.int .i64 (L.tiles : Int)) ∧ w.cell? ⟨X, 3, none⟩ = some (.int .i64 (L.spare : Int)) ∧ w.cell? ⟨X, 4, none⟩ = some (.int .i64 (L.w : Int)) ∧
  w.cell? ⟨X, 5, none⟩ = some (.int .i64 (L.r : Int)) ∧ w.cell? ⟨X, 6, none⟩ = some (.int .i64 (L.n : Int)) ∧ w.cell? ⟨X, 7, none⟩ = some rv ∧ w.cell? ⟨X, 8, none⟩ = some ov ∧ w.cell? ⟨X, 9, none⟩ = some (.int .i64 ho) ∧ w.cell? ⟨X, 10, none⟩ = some (.int .i64 ca) := by
 refine ⟨?_, ?_, ?_, ?_, ?_, ?_, ?_, ?_, ?_, ?_, ?_⟩ <;> (rw [cell_of_row _ _ _ _ _ _ h]; rfl)
theorem NumB.lt (h : NumB w X L A c rv ov ho ca) : X < w.heap.size := blk_lt h
theorem NumB.below {C : Nat} (h : NumB w X L A c rv ov ho ca) (hb : Below C w w') (hC : X < C) : NumB w' X L A c rv ov ho ca := (hb.block _ hC).trans h
theorem NumB.made (w : World) (L : LayD) (A : Option Addr) (c : Nat) (rv ov : Value) (ho ca : Int) : NumB (w.alloc (.cells #[.int .i64 L.disks, .slice A L.n c, .int .i64 L.tiles, .int .i64 L.spare, .int .i64 L.w, .int .i64 L.r, .int .i64 L.n, rv, ov, .int .i64 ho, .int .i64 ca] 180)) w.heap.size L A c rv ov ho ca := heap_alloc_new w _
end
set_option maxHeartbeats 1000000 in
theorem lgroups_any {L : LayD} {A : Option Addr} {c : Nat} {rv ov : Value} {ho ca : Int} (w : World) (hG : L.G ≤ 4096) : Calls Tryz.prog 66 #[.agg (numC L A c rv ov ho ca)] w fun r w' => r = .returned (.int .i64 (L.G : Int)) ∧ Below w.heap.size w w' := by
 have hm : (L.tiles : Int) * (L.n : Int) = (L.G : Int) := by unfold LayD.G; simp
 unfold numC
 go_enter Tryz.func66, Tryz.ntmps66
 go_wp2
 go_ret
 exact ⟨rfl, below_laid⟩
set_option maxHeartbeats 2000000 in
theorem lhas_any {L : LayD} {A : Option Addr} {c : Nat} {Ar Ao : Option Addr} {nr cr no co : Nat} {ho ca : Int} (g p : Int) (w : World) (hG : L.G ≤ 4096) : Calls Tryz.prog 231 #[.agg (numC L A c (.slice Ar nr cr) (.slice Ao no co) ho ca), .int .i64 g, .int .i64 p] w fun r w' => r = .returned (.bool (isP L g p)) ∧ Below w.heap.size w w' := by
 have HI : Hid (isP L g p = (decide (0 ≤ g) && decide (g < L.G) && decide (0 ≤ p) && decide (p < L.w))) := rfl
 have HG := Lib.hid (fun W => lgroups_any (L := L) (A := A) (c := c) (rv := .slice Ar nr cr) (ov := .slice Ao no co) (ho := ho) (ca := ca) W hG)
 unfold numC at *
 generalize isP L g p = res at *
 by_cases h1 : 0 ≤ g
 ·have h1' : decide (g ≥ 0) = true := by rw [decide_eq_true_iff]; omega
  go_enter Tryz.func231, Tryz.ntmps231
  go_wp2_with fail
  have hl := NumB.made w L A c (.slice Ar nr cr) (.slice Ao no co) ho ca
  have hb0 : Below w.heap.size w (w.alloc (.cells #[.int .i64 L.disks, .slice A L.n c, .int .i64 L.tiles, .int .i64 L.spare, .int .i64 L.w, .int .i64 L.r, .int .i64 L.n, .slice Ar nr cr, .slice Ao no co, .int .i64 ho, .int .i64 ca] 180)) := below_laid
  generalize w.alloc _ = w0 at *
  refine (HG.out w0).mono ?_
  rintro r w1 ⟨rfl, hb1⟩
  obtain ⟨-, -, -, -, q4, -⟩ := (hl.below hb1 hl.lt).cells
  have HB1 := Lib.hid (hb0.trans (hb1.mono hb0.size))
  clear hl hb0 hb1
  by_cases h2 : g < (L.G : Int)
  ·have h2' : decide (g < (L.G : Int)) = true := by rw [decide_eq_true_iff]; omega
   by_cases h3 : 0 ≤ p
   ·have h3' : decide (p ≥ 0) = true := by rw [decide_eq_true_iff]; omega
    have HR : Hid (res = decide (p < (L.w : Int))) := by unfold Hid; rw [HI.out]; simp [h1, h2, h3]
    clear h1 h2 HI
    go_wp2
    go_ret
    exact ⟨ret_bool (by rw [HR.out]), HB1.out⟩
   ·have h3' : decide (p ≥ 0) = false := by rw [decide_eq_false_iff_not]; omega
    have HR : Hid (res = false) := by unfold Hid; rw [HI.out]; simp [h3]
    clear h1 h2 h3 HI
    go_wp2
    go_ret
    exact ⟨ret_bool (by rw [HR.out]), HB1.out⟩
  ·have h2' : decide (g < (L.G : Int)) = false := by rw [decide_eq_false_iff_not]; omega
   have HR : Hid (res = false) := by unfold Hid; rw [HI.out]; simp [h2]
   clear h1 h2 HI
   go_wp2
   go_ret
   exact ⟨ret_bool (by rw [HR.out]), HB1.out⟩
 ·have h1' : decide (g ≥ 0) = false := by rw [decide_eq_false_iff_not]; omega
  have HR : Hid (res = false) := by unfold Hid; rw [HI.out]; simp [h1]
  clear h1 HI
  go_enter Tryz.func231, Tryz.ntmps231
  go_wp2
  go_ret
  exact ⟨ret_bool (by rw [HR.out]), below_laid⟩
set_option maxHeartbeats 4000000 in
set_option maxRecDepth 100000 in
theorem lhome_any {L : LayD} {A Ar Ao : Option Addr} {B c cr no co : Nat} {ho ca : Int} (g p : Nat) (w : World) (hx : LayX L) (hv : GsV w B A L.gs) (hr : GsV w B Ar (rkL L)) (hB : B ≤ w.heap.size) (hg : g < L.G) (hp : p < L.w) :
  Calls Tryz.prog 232 #[.agg (numC L A c (.slice Ar L.n cr) (.slice Ao no co) ho ca), .int .i64 (g : Int), .int .i64 (p : Int)] w fun r w' => r = .returned (homeL L g p).agg ∧ Below w.heap.size w w' := by
 unfold numC
 obtain ⟨row, hrow, hlw, -, hlt⟩ := row_of hx.ok g
 have hdk := hdisk_at (p := p) hrow hlw (by omega)
 have hn0 : 1 ≤ L.n := hx.ok.n.1
 have hnb := hx.ok.n.2
 have hwb := hx.ok.w
 have htb : g / L.n < 256 := by
  have h1 : g < L.tiles * L.n := hg
  have h2 := Nat.div_lt_of_lt_mul (Nat.mul_comm L.tiles L.n ▸ h1)
  have := hx.ok.tiles.2
  omega
 have hrb : L.r ≤ 4096 := Nat.le_trans (r_le L) hnb
 have HRES : Hid (homeL L g p = ⟨hdisk L g p, ((g / L.n * L.r + rankL L (g % L.n) (hdisk L g p) : Nat) : Int)⟩) := rfl
 have hgn : g % L.n < L.n := Nat.mod_lt _ (by omega)
 have htr : g / L.n * L.r ≤ 256 * 4096 := Nat.mul_le_mul (by omega) hrb
 have hq1 := tdiv_nat g L.n
 have hq2 := tmod_nat g L.n
 have hq3 : Int.tmod ((p : Int) + ((g / L.n : Nat) : Int)) (L.w : Int) = (((p + g / L.n) % L.w : Nat) : Int) := tmod_nat (p + g / L.n) L.w
 have hq3' : ((p : Int) + ((g / L.n : Nat) : Int)) % (L.w : Int) = (((p + g / L.n) % L.w : Nat) : Int) := by rw [← Int.natCast_add]; exact (Int.natCast_emod _ _).symm
 have hat : (p + g / L.n) % L.w < L.w := Nat.mod_lt _ (by omega)
 have hq4 : ¬ (L.n : Int) = 0 := by omega
 have hq5 : ¬ (L.w : Int) = 0 := by omega
 have hq6 : ¬ L.n = 0 := by omega
 have hq7 : ¬ L.w = 0 := by omega
 have hgi : (g : Int) ≤ 5000 := by have := hx.ok.G; omega
 have hrk : (rkL L)[g % L.n]? = some (row.map fun d => rankL L (g % L.n) d) := by
  unfold rkL rkRow
  rw [List.getElem?_map, List.getElem?_range hgn, Option.map_some, hrow]
  rfl
 generalize hat0 : (p + g / L.n) % L.w = a at *
 generalize g / L.n = t at *
 generalize g % L.n = gg at *
 generalize hdisk L g p = dk at *
 have hrka : (row.map fun d => rankL L gg d)[a]? = some (rankL L gg dk) := by rw [List.getElem?_map, hdk]; rfl
 have hrkl : (row.map fun d => rankL L gg d).length = L.w := by rw [List.length_map, hlw]
 have hrkb := rankL_le L gg dk
 generalize (row.map fun d => rankL L gg d) = rr at *
 generalize rankL L gg dk = rk at *
 have hw1 : IntKind.i64.wrap ((p : Int) + (t : Int)) = (p : Int) + (t : Int) := IntWalk.i64_in _ (by omega)
 have hw2 : IntKind.i64.wrap (t : Int) = (t : Int) := IntWalk.i64_in _ (by omega)
 have hw3 : IntKind.i64.wrap (gg : Int) = (gg : Int) := IntWalk.i64_in _ (by omega)
 have hmul : (t : Int) * (L.r : Int) = ((t * L.r : Nat) : Int) := by simp
 generalize t * L.r = tr at *
 have hw4 : IntKind.i64.wrap ((t : Int) * (L.r : Int)) = (tr : Int) := by rw [hmul]; exact IntWalk.i64_in _ (by omega)
 have hw5 : IntKind.i64.wrap ((tr : Int) + (rk : Int)) = (tr : Int) + (rk : Int) := IntWalk.i64_in _ (by omega)
 clear hmul
 obtain ⟨b, off, Al, cl, rfl, -, hat1⟩ := hv.at_ hrow
 obtain ⟨b2, off2, Al2, cl2, rfl, -, hat2⟩ := hr.at_ hrk
 obtain ⟨bl, ol, rfl, -, -⟩ := nints_at (hat1 w w.heap.size (Below.refl _ _) hB).2 hdk
 obtain ⟨bl2, ol2, rfl, -, -⟩ := nints_at (hat2 w w.heap.size (Below.refl _ _) hB).2 hrka
 have HC : Hid (∀ W, Below w.heap.size w W → W.cell? ⟨b, off + gg, none⟩ = some (.slice (some ⟨bl, ol, none⟩) L.w cl) ∧ W.cell? ⟨bl, ol + a, none⟩ = some (.int .i64 (dk : Int)) ∧ W.cell? ⟨b2, off2 + gg, none⟩ = some (.slice (some ⟨bl2, ol2, none⟩) L.w cl2) ∧ W.cell? ⟨bl2, ol2 + a, none⟩ = some (.int .i64 (rk : Int))) := fun W hW => by
  have r1 := hat1 W w.heap.size hW hB
  have r2 := hat2 W w.heap.size hW hB
  rw [hlw] at r1
  rw [hrkl] at r2
  obtain ⟨_, _, e1, -, s1⟩ := nints_at r1.2 hdk
  cases e1
  obtain ⟨_, _, e2, -, s2⟩ := nints_at r2.2 hrka
  cases e2
  exact ⟨r1.1, s1, r2.1, s2⟩
 clear hat1 hat2 hv hr hlt hrow hdk hrk hrka hlw hrkl hat0
 go_enter Tryz.func232, Tryz.ntmps232
 go_wp2_with fail
 generalize hW0 : w.alloc _ = w0
 have hn : NumB w0 w.heap.size L (some ⟨b, off, none⟩) c (.slice (some ⟨b2, off2, none⟩) L.n cr) (.slice Ao no co) ho ca := by rw [← hW0]; exact NumB.made w L _ _ _ _ _ _
 have hb0 : Below w.heap.size w w0 := by rw [← hW0]; exact below_laid
 have hz0 : w0.heap.size = w.heap.size + 1 := by rw [← hW0]; simp
 generalize hW1 : w0.alloc _ = w1
 have hp1 : PlB w1 (w.heap.size + 1) ⟨0, 0⟩ := by rw [← hW1, ← hz0]; exact heap_alloc_new w0 _
 have hn1 : NumB w1 w.heap.size L (some ⟨b, off, none⟩) c (.slice (some ⟨b2, off2, none⟩) L.n cr) (.slice Ao no co) ho ca := by rw [← hW1]; exact hn.below below_laid hn.lt
 have hb1 : Below w.heap.size w w1 := by rw [← hW1]; exact hb0.trans (below_laid.mono hb0.size)
 clear hW0 hW1 hn hb0 hz0
 have n1 := hn1.cells
 go_quiet (fail)
 generalize hdr : w1.drewN _ = w2
 have hp2 : PlB w2 (w.heap.size + 1) ⟨0, 0⟩ := by rw [← hdr]; exact hp1
 have hn2 : NumB w2 w.heap.size L (some ⟨b, off, none⟩) c (.slice (some ⟨b2, off2, none⟩) L.n cr) (.slice Ao no co) ho ca := by rw [← hdr]; exact hn1
 have hb2 : Below w.heap.size w w2 := by rw [← hdr]; exact below_drewN hb1 _
 clear hdr hp1 hn1 hb1 n1
 have n2 := hn2.cells
 go_upto_region 3 with (fail)
 have HP : Hid (PlB w2.drew (w.heap.size + 1) ⟨0, 0⟩) := hp2
 have HB := Lib.hid hb2.drew
 have n3 : _ := NumB.cells (w := w2.drew) hn2
 have cc := HC.out w2.drew hb2.drew
 obtain ⟨p0, p1, f0, f1⟩ := HP.out.cells
 clear n2 hp2 hn2 hb2
 refine still_tail_drew 24 (by kernel_rfl) (by kernel_rfl) ?_
 simp only [List.take_succ_cons, List.take_zero, List.drop_succ_cons, List.drop_zero]
 generalize w2.drew = w3 at *
 repeat still_step
 refine wpStill_nil ?_
 have hset := HP.out.set ⟨dk, (tr : Int) + (rk : Int)⟩
 have HS := Lib.hid hset
 clear hset n3 cc
 go_wp2
 (try simp only [Exit.inBlock, Exit.then])
 refine bodyPost_ret (v := .agg #[.int .i64 (dk : Int), .int .i64 ((tr : Int) + (rk : Int))]) ?_ rfl ⟨by rw [HRES.out]; simp [Plc.agg], (HB.out.setCell (by simp) _).setCell (by simp) _⟩
 exact results_cell_row rfl _ _ (w.heap.size + 1) 194 #[.int .i64 (dk : Int), .int .i64 ((tr : Int) + (rk : Int))] (0, 0) _ rfl HS.out Tryz.underlying194 rfl (by kernel_rfl)
end Go.Proofs.YtopoefcklipaeaaGreatDoor
namespace Go.Proofs.YtopoefcklipaeaaGreatDoor
open Go.RowKit
set_option maxHeartbeats 1000000 in
theorem lblocks_any {L : LayD} {A : Option Addr} {B c : Nat} (w : World) (hx : LayX L) (hv : GsV w B A L.gs) (hB : B ≤ w.heap.size) : Calls Tryz.prog 162 #[layAgg L A c] w fun r w' => r = .returned (.int .i64 (L.blocks : Int)) ∧ Below w.heap.size w w' := by
 have HV := Lib.hid hv
 have HC := Lib.hid (fun W hv hB => measure_any (L := L) (A := A) (B := B) (c := c) W hx hv hB)
 unfold layAgg at *
 clear hv
 go_enter Tryz.func162, Tryz.ntmps162
 go_wp2_with fail
 have hb0 : Below w.heap.size w (w.alloc (.cells #[.int .i64 L.disks, .slice A L.n c, .int .i64 L.tiles, .int .i64 L.spare] 28)) := below_laid
 generalize w.alloc _ = w0 at *
 refine (HC.out w0 (HV.out.below hb0 hB) (Nat.le_trans hB hb0.size)).mono ?_
 rintro r w1 ⟨⟨Ar, cr, O, rfl, -, -⟩, hb1⟩
 have HB := Lib.hid ((hb0.trans (hb1.mono hb0.size)))
 clear hb0 hb1
 unfold numC
 go_wp2
 go_ret
 exact ⟨rfl, HB.out.trans (below_laid.mono HB.out.size)⟩
set_option maxHeartbeats 1000000 in
theorem lgroups2_any {L : LayD} {A : Option Addr} {B c : Nat} (w : World) (hx : LayX L) (hv : GsV w B A L.gs) (hB : B ≤ w.heap.size) : Calls Tryz.prog 26 #[layAgg L A c] w fun r w' => r = .returned (.int .i64 (L.G : Int)) ∧ Below w.heap.size w w' := by
 have HV := Lib.hid hv
 have HC := Lib.hid (fun W hv hB => measure_any (L := L) (A := A) (B := B) (c := c) W hx hv hB)
 have HG := Lib.hid (fun rv ov W => lgroups_any (L := L) (A := A) (c := c) (rv := rv) (ov := ov) (ho := L.homes) (ca := L.blocks) W hx.ok.G)
 unfold layAgg at *
 unfold numC at HG
 clear hv
 go_enter Tryz.func26, Tryz.ntmps26
 go_wp2_with fail
 have hb0 : Below w.heap.size w (w.alloc (.cells #[.int .i64 L.disks, .slice A L.n c, .int .i64 L.tiles, .int .i64 L.spare] 28)) := below_laid
 generalize w.alloc _ = w0 at *
 refine (HC.out w0 (HV.out.below hb0 hB) (Nat.le_trans hB hb0.size)).mono ?_
 rintro r w1 ⟨⟨Ar, cr, O, rfl, -, -⟩, hb1⟩
 have HB := Lib.hid ((hb0.trans (hb1.mono hb0.size)))
 clear hb0 hb1
 unfold numC
 go_wp2_with fail
 have hb2 : Below w1.heap.size w1 (w1.alloc (.cells #[.int .i64 L.disks, .slice A L.n c, .int .i64 L.tiles, .int .i64 L.spare, .int .i64 L.w, .int .i64 L.r, .int .i64 L.n, .slice Ar L.n cr, .slice (some ⟨O, 0, none⟩) L.disks L.disks, .int .i64 L.homes, .int .i64 L.blocks] 180)) := below_laid
 generalize w1.alloc _ = w2 at *
 refine (HG.out _ _ w2).mono ?_
 rintro r w3 ⟨rfl, hb3⟩
 go_wp2
 go_ret
 exact ⟨rfl, HB.out.trans ((hb2.trans (hb3.mono hb2.size)).mono HB.out.size)⟩
set_option maxHeartbeats 2000000 in
set_option maxRecDepth 100000 in
theorem lhome2_any {L : LayD} {A : Option Addr} {B c : Nat} (g p : Int) (w : World) (hx : LayX L) (hv : GsV w B A L.gs) (hB : B ≤ w.heap.size) :
  Calls Tryz.prog 157 #[layAgg L A c, .int .i64 g, .int .i64 p] w fun r w' => ((isP L g p = true → r = .returned (.tuple #[(homeL L g.toNat p.toNat).agg, .int .i64 0])) ∧ (isP L g p = false → r = .returned (.tuple #[(⟨0, 0⟩ : Plc).agg, .int .i64 2]))) ∧ Below w.heap.size w w' := by
 have HV := Lib.hid hv
 have HC := Lib.hid (fun W hv hB => measure_any (L := L) (A := A) (B := B) (c := c) W hx hv hB)
 have HS := Lib.hid (fun (Ar Ao : Option Addr) nr cr no co W => lhas_any (L := L) (A := A) (c := c) (Ar := Ar) (Ao := Ao) (nr := nr) (cr := cr) (no := no) (co := co) (ho := L.homes) (ca := L.blocks) g p W hx.ok.G)
 have HNA : Hid (isP L g p = true → ∃ a b : Nat, g = a ∧ p = b ∧ a < L.G ∧ b < L.w) := fun h => isP_nat h
 obtain ⟨ip, hip⟩ : ∃ ip, isP L g p = ip := ⟨_, rfl⟩
 rw [hip] at HS HNA ⊢
 unfold layAgg at *
 unfold numC at HS
 clear hv hip
 go_enter Tryz.func157, Tryz.ntmps157
 go_wp2_with fail
 generalize hW0 : w.alloc _ = w0
 have hb0 : Below w.heap.size w w0 := by rw [← hW0]; exact below_laid
 have hz0 : w0.heap.size = w.heap.size + 1 := by rw [← hW0]; simp
 generalize hW1 : w0.alloc _ = w1
 have hp1 : PlB w1 (w.heap.size + 1) ⟨0, 0⟩ := by rw [← hW1, ← hz0]; exact heap_alloc_new w0 _
 have hb1 : Below w.heap.size w w1 := by rw [← hW1]; exact hb0.trans (below_laid.mono hb0.size)
 clear hW0 hW1 hb0 hz0
 refine (HC.out w1 (HV.out.below hb1 hB) (Nat.le_trans hB hb1.size)).mono ?_
 rintro r w2 ⟨⟨Ar, cr, O, rfl, hgr, -⟩, hb2⟩
 have hp2 := hp1.below hb2 hp1.lt
 have hb2w := hb1.trans (hb2.mono hb1.size)
 unfold numC
 go_upto_region 4 with (fail)
 have hn := NumB.made w2 L A c (.slice Ar L.n cr) (.slice (some ⟨O, 0, none⟩) L.disks L.disks) L.homes L.blocks
 have hp3 := hp2.below (below_laid (o := .cells #[.int .i64 L.disks, .slice A L.n c, .int .i64 L.tiles, .int .i64 L.spare, .int .i64 L.w, .int .i64 L.r, .int .i64 L.n, .slice Ar L.n cr, .slice (some ⟨O, 0, none⟩) L.disks L.disks, .int .i64 L.homes, .int .i64 L.blocks] 180)) hp2.lt
 have hb3 := hb2w.trans ((below_laid (w := w2) (o := .cells #[.int .i64 L.disks, .slice A L.n c, .int .i64 L.tiles, .int .i64 L.spare, .int .i64 L.w, .int .i64 L.r, .int .i64 L.n, .slice Ar L.n cr, .slice (some ⟨O, 0, none⟩) L.disks L.disks, .int .i64 L.homes, .int .i64 L.blocks] 180)).mono hb2w.size)
 have hg3 := hgr.below (below_laid (w := w2) (o := .cells #[.int .i64 L.disks, .slice A L.n c, .int .i64 L.tiles, .int .i64 L.spare, .int .i64 L.w, .int .i64 L.r, .int .i64 L.n, .slice Ar L.n cr, .slice (some ⟨O, 0, none⟩) L.disks L.disks, .int .i64 L.homes, .int .i64 L.blocks] 180)) (Nat.le_refl _)
 have hs3 : w2.heap.size ≤ (w2.alloc (.cells #[.int .i64 L.disks, .slice A L.n c, .int .i64 L.tiles, .int .i64 L.spare, .int .i64 L.w, .int .i64 L.r, .int .i64 L.n, .slice Ar L.n cr, .slice (some ⟨O, 0, none⟩) L.disks L.disks, .int .i64 L.homes, .int .i64 L.blocks] 180)).heap.size := by simp
 have hsB : B ≤ w2.heap.size := Nat.le_trans hB hb2w.size
 clear hb1 hb2 hp1 hp2 hgr hb2w
 generalize hM : w2.heap.size = M at *
 generalize w2.alloc _ = w3 at *
 have n3 := hn.cells
 go_wp2_with fail
 refine (HS.out _ _ _ _ _ _ w3).mono ?_
 rintro r w4 ⟨rfl, hb4⟩
 have hn4 := hn.below hb4 hn.lt
 have hp4 := hp3.below hb4 hp3.lt
 have hb4w := hb3.trans (hb4.mono hb3.size)
 have hg4 := hg3.below hb4 hs3
 have hs4 := hb4.size
 clear n3 hn hp3 hb3 hg3 hM
 have n4 := hn4.cells
 obtain ⟨p0, p1, f0, f1⟩ := hp4.cells
 cases ip
 ·have hset := hp4.set ⟨0, 0⟩
  have HSE := Lib.hid hset
  have HBW := Lib.hid hb4w
  clear hn4 hp4 hset hg4 hb4 hb4w
  go_wp2
  (try simp only [Exit.inBlock, Exit.then])
  refine bodyPost_ret (v := .tuple #[.agg #[.int .i64 0, .int .i64 0], .int .i64 2]) ?_ rfl ⟨rfl, (HBW.out.setCell (by simp) _).setCell (by simp) _⟩
  rw [results_cell_tmp rfl]
  go_simp
 ·obtain ⟨a, b, rfl, rfl, ha, hb⟩ := HNA.out rfl
  have HH := Lib.hid (lhome_any (L := L) (A := A) (Ar := Ar) (Ao := some ⟨O, 0, none⟩) (B := w4.heap.size) (c := c) (cr := cr) (no := L.disks) (co := L.disks) (ho := L.homes) (ca := L.blocks) a b w4 hx ((HV.out.below hb4w hB).more (Nat.le_trans hsB (Nat.le_trans hs3 hs4))) (hg4.more (Nat.le_trans hs3 hs4)) (Nat.le_refl _) ha hb)
  unfold numC at HH
  have HP4 := Lib.hid hp4
  have HBW := Lib.hid hb4w
  clear hn4 hp4 hg4 hb4 hb4w p0 p1 f0 f1
  go_wp2_with fail
  refine HH.out.mono ?_
  rintro r w5 ⟨rfl, hb5⟩
  have hp5 := HP4.out.below hb5 HP4.out.lt
  obtain ⟨p0, p1, f0, f1⟩ := hp5.cells
  have HBW5 := Lib.hid (HBW.out.trans (hb5.mono HBW.out.size))
  clear hb5 n4 hp5
  simp only
  obtain ⟨t, ht⟩ : ∃ t, homeL L a b = t := ⟨_, rfl⟩
  have HT := Lib.hid ht
  rw [ht]
  clear ht
  unfold Plc.agg
  go_wp2
  (try simp only [Exit.inBlock, Exit.then])
  refine bodyPost_ret (v := .tuple #[.agg #[.int .i64 t.disk, .int .i64 t.block], .int .i64 0]) ?_ rfl ⟨by rw [HT.out]; rfl, (HBW5.out.setCell (by simp) _).setCell (by simp) _⟩
  rw [results_cell_tmp rfl]
  go_simp
end Go.Proofs.YtopoefcklipaeaaGreatDoor
namespace Go.Proofs.YtopoefcklipaeaaGreatDoor
open Go.RowKit
theorem isnan_any (x : Int) (w : World) : Calls Tryz.prog 333 #[.int .i64 x] w fun r w' => r = .returned (.bool false) ∧ w' = w := by
 go_enter Tryz.func333, Tryz.ntmps333
 go_wp2
 go_ret
 exact ⟨ret_bool (by simp), rfl⟩
set_option maxHeartbeats 1000000 in
theorem compare_any (a b : Int) (w : World) : Calls Tryz.prog 234 #[.int .i64 a, .int .i64 b] w fun r w' => r = .returned (.int .i64 (cmp3 a b)) ∧ w' = w := by
 have HN := Lib.hid (fun x W => isnan_any x W)
 have HC : Hid (cmp3 a b = if a < b then -1 else if b < a then 1 else 0) := rfl
 rcases (show a < b ∨ (¬ a < b ∧ b < a) ∨ (¬ a < b ∧ ¬ b < a) by omega) with h | ⟨h, h2⟩ | ⟨h, h2⟩
 ·have HR : Hid (cmp3 a b = -1) := by rw [Hid, HC.out, if_pos h]
  go_enter Tryz.func234, Tryz.ntmps234
  go_wp2_with fail
  refine (HN.out _ _).mono ?_
  rintro r w1 ⟨rfl, rfl⟩
  go_wp2_with fail
  refine (HN.out _ _).mono ?_
  rintro r w1 ⟨rfl, rfl⟩
  go_wp2
  go_ret
  exact ⟨by rw [HR.out]; rfl, rfl⟩
 ·have HR : Hid (cmp3 a b = 1) := by rw [Hid, HC.out, if_neg h, if_pos h2]
  go_enter Tryz.func234, Tryz.ntmps234
  go_wp2_with fail
  refine (HN.out _ _).mono ?_
  rintro r w1 ⟨rfl, rfl⟩
  go_wp2_with fail
  refine (HN.out _ _).mono ?_
  rintro r w1 ⟨rfl, rfl⟩
  go_wp2
  go_ret
  exact ⟨by rw [HR.out]; rfl, rfl⟩
 ·have HR : Hid (cmp3 a b = 0) := by rw [Hid, HC.out, if_neg h, if_neg h2]
  go_enter Tryz.func234, Tryz.ntmps234
  go_wp2_with fail
  refine (HN.out _ _).mono ?_
  rintro r w1 ⟨rfl, rfl⟩
  go_wp2_with fail
  refine (HN.out _ _).mono ?_
  rintro r w1 ⟨rfl, rfl⟩
  go_wp2
  go_ret
  exact ⟨by rw [HR.out]; rfl, rfl⟩
set_option maxHeartbeats 1000000 in
theorem or_any (g : Nat) (a b : Int) (w : World) (h0 : w.cell? ⟨g, 0, none⟩ = some (.int .i64 a)) (h1 : w.cell? ⟨g, 1, none⟩ = some (.int .i64 b)) : Calls Tryz.prog 233 #[.slice (some ⟨g, 0, none⟩) 2 2] w fun r w' => r = .returned (.int .i64 (if a = 0 then b else a)) ∧ w' = w := by
 obtain ⟨res, hres⟩ : ∃ res, (if a = 0 then b else a) = res := ⟨_, rfl⟩
 have HR := Lib.hid hres
 rw [hres]
 clear hres
 go_enter Tryz.func233, Tryz.ntmps233
 go_wp2
 go_loopw [8, 5] (fun s8 _ wr => ∃ i : Nat, i ≤ 2 ∧ s8 = .int .i64 i ∧ (1 ≤ i → a = 0) ∧ (2 ≤ i → b = 0) ∧ wr = w) (fun s8 _ _ => 2 - (intOf s8).toNat)
 case atStart => exact ⟨0, by omega, rfl, by omega, by omega, rfl⟩
 case round =>
  obtain ⟨i, hi, rfl, ha, hb, rfl⟩ := hrel
  have HA := Lib.hid ha
  have HB := Lib.hid hb
  clear ha hb
  rcases (show i = 0 ∨ i = 1 ∨ i = 2 by omega) with rfl | rfl | rfl
  ·by_cases e : a = 0
   ·have f1 : (a == 0) = true := by simpa using e
    have HE := Lib.hid e
    subst e
    go_wp2
    go_roundw
    case rel => exact ⟨1, by omega, by go_num, by simp, by omega, trivial⟩
    case measure => simp [intOf]
   ·have f1 : (a == 0) = false := by simpa using e
    have HE : Hid (res = a) := by rw [Hid, ← HR.out, if_neg e]
    clear e
    go_wp2
    go_ret
    exact ⟨by rw [HE.out]; rfl, rfl⟩
  ·have HA0 := HA.out (by omega)
   subst HA0
   by_cases e : b = 0
   ·subst e
    go_wp2
    go_roundw
    case rel => exact ⟨2, by omega, by go_num, by simp, by simp, trivial⟩
    case measure => simp [intOf]
   ·have f1 : (b == 0) = false := by simpa using e
    have HE : Hid (res = b) := by rw [Hid, ← HR.out, if_pos rfl]
    clear e
    go_wp2
    go_ret
    exact ⟨by rw [HE.out]; rfl, rfl⟩
  ·have HE : Hid (res = 0) := by rw [Hid, ← HR.out, if_pos (HA.out (by omega)), HB.out (by omega)]
   go_wp2
   go_ret
   exact ⟨by rw [HE.out]; rfl, rfl⟩
def memAgg (g p : Int) : Value := .agg #[.int .i64 g, .int .i64 p]
set_option maxHeartbeats 2000000 in
set_option maxRecDepth 100000 in
theorem order_any (m : Mv) (g p : Int) (w : World) : Calls Tryz.prog 159 #[m.agg, memAgg g p] w fun r w' => r = .returned (.int .i64 (ordM g p m)) ∧ Below w.heap.size w w' := by
 have HC := Lib.hid (fun a b W => compare_any a b W)
 have HO := Lib.hid (fun gg a b W h0 h1 => or_any gg a b W h0 h1)
 have HR : Hid (ordM g p m = if cmp3 m.g g = 0 then cmp3 m.p p else cmp3 m.g g) := rfl
 unfold Mv.agg memAgg
 go_enter Tryz.func159, Tryz.ntmps159
 go_wp2_with fail
 generalize hW0 : w.alloc _ = w0
 have hm0 : MvB w0 w.heap.size m := by rw [← hW0]; exact MvB.made w m
 have hb0 : Below w.heap.size w w0 := by rw [← hW0]; exact below_laid
 have hz0 : w0.heap.size = w.heap.size + 1 := by rw [← hW0]; simp
 generalize hW1 : w0.alloc _ = w1
 have hx1 : w1.heap[w.heap.size + 1]? = some (.cells #[.int .i64 g, .int .i64 p] 311) := by rw [← hW1, ← hz0]; exact heap_alloc_new w0 _
 have hm1 : MvB w1 w.heap.size m := by rw [← hW1]; exact hm0.below below_laid hm0.lt
 have hb1 : Below w.heap.size w w1 := by rw [← hW1]; exact hb0.trans (below_laid.mono hb0.size)
 clear hW0 hW1 hm0 hb0 hz0
 have X := fun d xs => (hm1.below (below_regrown w1 d xs) hm1.lt).cells
 have Y : ∀ d xs, (Sort.grow (redrawn w1 d) xs).cell? ⟨w.heap.size + 1, 0, none⟩ = some (.int .i64 g) ∧ (Sort.grow (redrawn w1 d) xs).cell? ⟨w.heap.size + 1, 1, none⟩ = some (.int .i64 p) := fun d xs => by
  have hq := ((below_regrown w1 d xs).block _ (blk_lt hx1)).trans hx1
  exact ⟨by rw [cell_of_row _ _ _ _ _ _ hq]; rfl, by rw [cell_of_row _ _ _ _ _ _ hq]; rfl⟩
 have KC : Hid (∀ a b d xs, Calls Tryz.prog 234 #[.int .i64 a, .int .i64 b] (Sort.grow (redrawn w1 d) xs) fun r w' => r = .returned (.int .i64 (cmp3 a b)) ∧ Below (Sort.grow (redrawn w1 d) xs).heap.size (Sort.grow (redrawn w1 d) xs) w') := fun a b d xs => (HC.out a b _).mono fun r w' h => ⟨h.1, h.2 ▸ Below.refl _ _⟩
 have HB1 := Lib.hid hb1
 clear hm1 hx1 hb1
 refine quiet_tail 10 (by kernel_rfl) (by decide +kernel) ?_
 simp only [List.take_succ_cons, List.take_zero, List.drop_succ_cons, List.drop_zero]
 repeat (go_big_quiet_step (first | (go_at_call 234; exact Calls.regrown_of (KC.out _ _ _ _))))
 refine wpQuiet_nil ?_
 intro w2 hb2
 have HB2 := Lib.hid (HB1.out.trans (hb2.mono HB1.out.size))
 clear X Y KC hb2
 generalize cmp3 m.g g = ca at *
 generalize cmp3 m.p p = cb at *
 have HO2 := Lib.hid (HO.out w2.heap.size ca cb (w2.alloc (.cells #[.int .i64 ca, .int .i64 cb] 3)) (by rw [cell_of_row _ _ _ _ _ _ (heap_alloc_new w2 _)]; rfl) (by rw [cell_of_row _ _ _ _ _ _ (heap_alloc_new w2 _)]; rfl))
 obtain ⟨rr, hrr⟩ : ∃ rr, (if ca = 0 then cb else ca) = rr := ⟨_, rfl⟩
 rw [hrr] at HO2 HR
 clear hrr
 go_wp2_with fail
 refine HO2.out.mono ?_
 rintro r w3 ⟨rfl, rfl⟩
 go_wp2
 go_ret
 exact ⟨by rw [HR.out]; rfl, HB2.out.trans (below_laid.mono HB2.out.size)⟩
end Go.Proofs.YtopoefcklipaeaaGreatDoor
namespace Go.Proofs.YtopoefcklipaeaaGreatDoor
open Go.RowKit
def hasM (ms : List Mv) (g p : Int) : Bool := match ms[posM ms g p]? with | some x => decide (ordM g p x = 0) | none => false
theorem hasM_iff {ms : List Mv} {g p : Int} (h : ms.Pairwise ltM) : hasM ms g p = true ↔ ∃ x ∈ ms, x.g = g ∧ x.p = p := by
 rw [← pos_has h]
 unfold hasM
 rcases ms[posM ms g p]? with _ | x
 ·simp
 ·simp
theorem pos_lt {ms : List Mv} {g p : Int} (h : ms.Pairwise ltM) {k : Nat} {x : Mv} (hx : ms[k]? = some x) : ordM g p x < 0 ↔ k < posM ms g p := by
 obtain ⟨h1, h2⟩ := pos_split (g := g) (p := p) h
 obtain ⟨hk, rfl⟩ := List.getElem?_eq_some_iff.1 hx
 constructor
 ·intro ho
  by_cases hlt : k < posM ms g p
  ·exact hlt
  ·exact absurd ho (h2 _ (by rw [List.mem_drop_iff_getElem]; exact ⟨k - posM ms g p, by omega, by congr 1; omega⟩))
 ·intro hlt
  exact h1 _ (by rw [List.mem_take_iff_getElem]; exact ⟨k, by omega, rfl⟩)
set_option maxHeartbeats 4000000 in
set_option maxRecDepth 100000 in
theorem bsearch_any {Am : Option Addr} {B cm : Nat} {ms : List Mv} (g p : Int) (w : World) (hM : MvS w B Am ms) (hB : B ≤ w.heap.size) (hlen : ms.length ≤ 100000) (hs : ms.Pairwise ltM) :
  Calls Tryz.prog 158 #[.slice Am ms.length cm, memAgg g p, .func (.func 159) #[] #[]] w fun r w' => r = .returned (.tuple #[.int .i64 (posM ms g p : Nat), .bool (hasM ms g p)]) ∧ Below w.heap.size w w' := by
 have HM := Lib.hid hM
 have HPL := Lib.hid (fun k x (hx : ms[k]? = some x) => pos_lt (g := g) (p := p) hs hx)
 have HHA : Hid (hasM ms g p = match ms[posM ms g p]? with | some x => decide (ordM g p x = 0) | none => false) := rfl
 have HPB := Lib.hid (pos_le ms g p)
 have HO := Lib.hid (fun m W => order_any m g p W)
 unfold Mv.agg memAgg at HO
 unfold memAgg
 obtain ⟨pos, hpos⟩ : ∃ pos, posM ms g p = pos := ⟨_, rfl⟩
 rw [hpos] at HPL HHA HPB ⊢
 obtain ⟨res, hres⟩ : ∃ res, hasM ms g p = res := ⟨_, rfl⟩
 rw [hres] at HHA ⊢
 clear hM hs hpos hres
 go_enter Tryz.func158, Tryz.ntmps158
 go_wp2
 have hx0 := heap_alloc_new w (.cells #[.int .i64 g, .int .i64 p] 311)
 have hb0 : Below w.heap.size w (w.alloc (.cells #[.int .i64 g, .int .i64 p] 311)) := below_laid
 generalize w.alloc _ = w0 at *
 have HX0 := Lib.hid hx0
 have HB0 := Lib.hid hb0
 clear hx0 hb0
 go_loopw [9, 10, 11] (fun s9 s10 _ wr => ∃ lo hi : Nat, s9 = .int .i64 lo ∧ s10 = .int .i64 hi ∧ lo ≤ pos ∧ pos ≤ hi ∧ hi ≤ ms.length ∧ Below w.heap.size w wr ∧ wr.heap[w.heap.size]? = some (.cells #[.int .i64 g, .int .i64 p] 311)) (fun s9 s10 _ _ => (intOf s10).toNat - (intOf s9).toNat)
 case atStart => exact ⟨0, ms.length, rfl, rfl, by omega, HPB.out, by omega, HB0.out, HX0.out⟩
 case round =>
  clear HX0 HB0
  obtain ⟨lo, hi, rfl, rfl, h1, h2, h3, hb, hx⟩ := hrel
  have HB := Lib.hid hb
  have HX := Lib.hid hx
  have hxl : w.heap.size < wr.heap.size := blk_lt hx
  by_cases hlt : lo < hi
  ·have hltI : (lo : Int) < (hi : Int) := by omega
   obtain ⟨x, hxm⟩ := at_some (l := ms) (i := (lo + hi) / 2) (by omega)
   have hm1 := HM.out.below' hb hB
   obtain ⟨b, off, rfl, -, -, -, -, -⟩ := MvS.at_ hm1 hxm
   have Q : ∀ d xs, (Sort.grow (redrawn wr d) xs).cell? ⟨b, off + (lo + hi) / 2 * 4, none⟩ = some (.int .i64 x.g) ∧ (Sort.grow (redrawn wr d) xs).cell? ⟨b, off + (lo + hi) / 2 * 4 + 1, none⟩ = some (.int .i64 x.p) ∧ (Sort.grow (redrawn wr d) xs).cell? ⟨b, off + (lo + hi) / 2 * 4 + 2, none⟩ = some (.int .i64 x.to.disk) ∧ (Sort.grow (redrawn wr d) xs).cell? ⟨b, off + (lo + hi) / 2 * 4 + 3, none⟩ = some (.int .i64 x.to.block) := fun d xs => by
    obtain ⟨b', off', e, -, q0, q1, q2, q3⟩ := MvS.at_ (hm1.below' (below_regrown wr d xs) (Nat.le_trans hB hb.size)) hxm
    cases e
    exact ⟨q0, q1, q2, q3⟩
   have Y : ∀ d xs, (Sort.grow (redrawn wr d) xs).cell? ⟨w.heap.size, 0, none⟩ = some (.int .i64 g) ∧ (Sort.grow (redrawn wr d) xs).cell? ⟨w.heap.size, 1, none⟩ = some (.int .i64 p) := fun d xs => by
    have hq := ((below_regrown wr d xs).block _ hxl).trans hx
    exact ⟨by rw [cell_of_row _ _ _ _ _ _ hq]; rfl, by rw [cell_of_row _ _ _ _ _ _ hq]; rfl⟩
   have HP := Lib.hid (HPL.out _ x hxm)
   have KO := Lib.hid (fun d xs => HO.out x (Sort.grow (redrawn wr d) xs))
   clear hm1 hb hx hxm
   obtain ⟨md, hmd⟩ : ∃ md, (lo + hi) / 2 = md := ⟨_, rfl⟩
   have hmdI : ((lo : Int) + (hi : Int)) / 2 = (md : Int) := by omega
   have hmdl : md < ms.length := by omega
   have hmd1 : lo ≤ md := by omega
   have hmd2 : md < hi := by omega
   rw [hmd] at Q HP
   clear hmd
   obtain ⟨om, hom⟩ : ∃ om, ordM g p x = om := ⟨_, rfl⟩
   rw [hom] at KO HP
   clear hom
   by_cases hneg : om < 0
   ·have hmp : md < pos := HP.out.1 hneg
    have f1 : decide (om < 0) = true := by rw [decide_eq_true_iff]; exact hneg
    clear hneg
    go_upto_region 5 with (fail)
    refine quiet_below (by kernel_rfl) (by kernel_rfl) ?_
    repeat (go_big_quiet_step (first | (go_at_call 159; exact Calls.regrown_of (KO.out _ _))))
    refine wpQuiet_nil ?_
    intro w2 hb2
    have HB2 := Lib.hid (HB.out.trans (hb2.mono HB.out.size))
    have HX2 : Hid (w2.heap[w.heap.size]? = some (.cells #[.int .i64 g, .int .i64 p] 311)) := (hb2.block _ hxl).trans HX.out
    clear Q Y KO hb2
    go_wp2
    go_roundw
    case rel => exact ⟨md + 1, hi, by go_num, rfl, by omega, h2, h3, HB2.out, HX2.out⟩
    case measure => simp [intOf] <;> omega
   ·have hmp : ¬ md < pos := fun h => hneg (HP.out.2 h)
    have f1 : decide (om < 0) = false := by rw [decide_eq_false_iff_not]; exact hneg
    clear hneg
    go_upto_region 5 with (fail)
    refine quiet_below (by kernel_rfl) (by kernel_rfl) ?_
    repeat (go_big_quiet_step (first | (go_at_call 159; exact Calls.regrown_of (KO.out _ _))))
    refine wpQuiet_nil ?_
    intro w2 hb2
    have HB2 := Lib.hid (HB.out.trans (hb2.mono HB.out.size))
    have HX2 : Hid (w2.heap[w.heap.size]? = some (.cells #[.int .i64 g, .int .i64 p] 311)) := (hb2.block _ hxl).trans HX.out
    clear Q Y KO hb2
    go_wp2
    go_roundw
    case rel => exact ⟨lo, md, rfl, rfl, h1, by omega, by omega, HB2.out, HX2.out⟩
    case measure => simp [intOf] <;> omega
  ·have hltI : ¬ (lo : Int) < (hi : Int) := by omega
   have e1 : lo = pos := by omega
   have e2 : hi = pos := by omega
   subst e1
   subst e2
   by_cases hpn : hi < ms.length
   ·have hpI : (hi : Int) < (ms.length : Int) := by omega
    obtain ⟨x, hxm⟩ := at_some (l := ms) (i := hi) hpn
    have hm1 := HM.out.below' hb hB
    obtain ⟨b, off, rfl, -, -, -, -, -⟩ := MvS.at_ hm1 hxm
    have Q : ∀ d xs, (Sort.grow (redrawn wr d) xs).cell? ⟨b, off + hi * 4, none⟩ = some (.int .i64 x.g) ∧ (Sort.grow (redrawn wr d) xs).cell? ⟨b, off + hi * 4 + 1, none⟩ = some (.int .i64 x.p) ∧ (Sort.grow (redrawn wr d) xs).cell? ⟨b, off + hi * 4 + 2, none⟩ = some (.int .i64 x.to.disk) ∧ (Sort.grow (redrawn wr d) xs).cell? ⟨b, off + hi * 4 + 3, none⟩ = some (.int .i64 x.to.block) := fun d xs => by
     obtain ⟨b', off', e, -, q0, q1, q2, q3⟩ := MvS.at_ (hm1.below' (below_regrown wr d xs) (Nat.le_trans hB hb.size)) hxm
     cases e
     exact ⟨q0, q1, q2, q3⟩
    have Y : ∀ d xs, (Sort.grow (redrawn wr d) xs).cell? ⟨w.heap.size, 0, none⟩ = some (.int .i64 g) ∧ (Sort.grow (redrawn wr d) xs).cell? ⟨w.heap.size, 1, none⟩ = some (.int .i64 p) := fun d xs => by
     have hq := ((below_regrown wr d xs).block _ hxl).trans hx
     exact ⟨by rw [cell_of_row _ _ _ _ _ _ hq]; rfl, by rw [cell_of_row _ _ _ _ _ _ hq]; rfl⟩
    have KO := Lib.hid (fun d xs => HO.out x (Sort.grow (redrawn wr d) xs))
    have HR : Hid (res = decide (ordM g p x = 0)) := by rw [Hid, HHA.out, hxm]
    clear hm1 hb hx hxm
    obtain ⟨om, hom⟩ : ∃ om, ordM g p x = om := ⟨_, rfl⟩
    rw [hom] at KO HR
    clear hom
    have hpD : decide (hi < ms.length) = true := by rw [decide_eq_true_iff]; exact hpn
    have hpD2 : decide ((hi : Int) < (ms.length : Int)) = true := by rw [decide_eq_true_iff]; exact hpI
    obtain ⟨ob, hob⟩ : ∃ ob, (om == 0) = ob := ⟨_, rfl⟩
    have HR2 : Hid (res = ob) := by rw [Hid, HR.out, ← hob]; rfl
    go_upto_region 8 with (fail)
    refine quiet_below (by kernel_rfl) (by kernel_rfl) ?_
    repeat (go_big_quiet_step (first | (go_at_call 159; exact Calls.regrown_of (KO.out _ _))))
    refine wpQuiet_nil ?_
    intro w2 hb2
    go_wp2
    go_ret2
    exact ⟨by rw [HR2.out]; rfl, HB.out.trans (hb2.mono HB.out.size)⟩
   ·have hpI : ¬ (hi : Int) < (ms.length : Int) := by omega
    have hpD : decide (hi < ms.length) = false := by rw [decide_eq_false_iff_not]; exact hpn
    have hpD2 : decide ((hi : Int) < (ms.length : Int)) = false := by rw [decide_eq_false_iff_not]; exact hpI
    have HR : Hid (res = false) := by rw [Hid, HHA.out, List.getElem?_eq_none (by omega)]
    clear hb hx
    go_upto_region 8 with (fail)
    refine quiet_below (by kernel_rfl) (by kernel_rfl) ?_
    repeat (go_big_quiet_step (fail))
    refine wpQuiet_nil ?_
    intro w2 hb2
    go_wp2
    go_ret2
    exact ⟨by rw [HR.out]; rfl, HB.out.trans (hb2.mono HB.out.size)⟩
end Go.Proofs.YtopoefcklipaeaaGreatDoor
