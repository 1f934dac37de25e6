/- Walks of tegularef21: Width, Groups, Homes, Blocks, Is.
Walks of tegularef21: Is, Home, Valid.
Walks of tegularef21.Valid, tegularef22.Where. -/
import Derived.Test.YtjgjofepedcfnaaGreatSpU
namespace Go.Proofs.YtjgjofepedcfnaaGreat
open Go.RowKit
structure LayX (L : LayD) : Prop where
 ok : LayOk L
 des : ∃ lam, 1 ≤ lam ∧ desB L.disks L.w L.r lam L.gs = true
theorem small_layX (n : Nat) : LayX (smallL n) := by
 obtain ⟨w, r, lam, h, hw1, hw2, hr, hl1, hl2, hn, hd1, hd2⟩ := small_des n
 have := des_lay (t := 1 + n / 16 % 5) (s := n / 80 % 8) h ⟨by omega, by omega⟩ ⟨hw1, by omega⟩ (by omega) (by omega) ⟨by omega, by omega⟩ (by omega)
 refine ⟨small_ok n, lam, hl1, ?_⟩
 have e1 : (smallL n).w = w := this.2.1
 have e2 : (smallL n).r = r := this.2.2
 rw [e1, e2]
 exact h
def LayB (w : World) (X : Nat) (L : LayD) (A : Option Addr) (c : Nat) : Prop := w.heap[X]? = some (.cells #[.int .i64 L.disks, .slice A L.n c, .int .i64 L.tiles, .int .i64 L.spare] 36)
section
variable {w w' : World} {X B : Nat} {L : LayD} {A : Option Addr} {c : Nat}
theorem LayB.cells (h : LayB w X L A c) : w.cell? ⟨X, 0, none⟩ = some (.int .i64 (L.disks : Int)) ∧ w.cell? ⟨X, 1, none⟩ = some (.slice A L.n c) ∧ w.cell? ⟨X, 2, none⟩ = some (.int .i64 (L.tiles : Int)) ∧ w.cell? ⟨X, 3, none⟩ = some (.int .i64 (L.spare : Int)) :=
 ⟨by rw [cell_of_row _ _ _ _ _ _ h]; rfl, by rw [cell_of_row _ _ _ _ _ _ h]; rfl, by rw [cell_of_row _ _ _ _ _ _ h]; rfl, by rw [cell_of_row _ _ _ _ _ _ h]; rfl⟩
theorem LayB.lt (h : LayB w X L A c) : X < w.heap.size := (Array.getElem?_eq_some_iff.1 h).1
theorem LayB.below {C : Nat} (h : LayB w X L A c) (hb : Below C w w') (hC : X < C) : LayB w' X L A c := (hb.block _ hC).trans h
theorem LayB.made (w : World) (L : LayD) (A : Option Addr) (c : Nat) : LayB (w.alloc (.cells #[.int .i64 L.disks, .slice A L.n c, .int .i64 L.tiles, .int .i64 L.spare] 36)) w.heap.size L A c := heap_alloc_new w _
theorem lay_first (ok : LayOk L) (h : GsV w B A L.gs) : ∃ b off Ai ci, A = some ⟨b, off, none⟩ ∧ b < B ∧ ∀ W C, Below C w W → B ≤ C → W.cell? ⟨b, off, none⟩ = some (.slice Ai L.w ci) := by
 obtain ⟨g, hg⟩ := at_some (l := L.gs) (i := 0) (by have := ok.n.1; unfold LayD.n at this; omega)
 obtain ⟨b, off, Ai, ci, hA, hb, hat⟩ := h.at_ hg
 refine ⟨b, off, Ai, ci, hA, hb, fun W C h1 h2 => ?_⟩
 have := (hat W C h1 h2).1
 rw [ok.len g (List.mem_of_getElem? hg), Nat.add_zero] at this
 exact this
theorem lay_check (hx : LayX L) (W : World) (hv : GsV W B A L.gs) (hB : B ≤ W.heap.size) : Calls Tryz.prog 83 #[.agg #[.int .i64 (L.disks : Int), .slice A L.n c]] W fun e w' => (∃ lam : Nat, e = .returned (.tuple #[.int .i64 (L.r : Int), .int .i64 (lam : Int), .bool true])) ∧ Below W.heap.size W w' := by
 obtain ⟨lam, h1, h2⟩ := hx.des
 exact (check7_any W h2 hv hB hx.ok.disks ⟨by have := hx.ok.w.1; omega, hx.ok.w.2⟩ hx.ok.n.2 h1).mono fun e w' h => ⟨⟨lam, h.1⟩, h.2⟩
end
set_option maxHeartbeats 1000000 in
theorem r21width {L : LayD} {A : Option Addr} {B c : Nat} (w : World) (hx : LayX L) (hv : GsV w B A L.gs) (hB : B ≤ w.heap.size) :
  Calls Tryz.prog 41 #[layAgg L A c] w fun r w' => r = .returned (.int .i64 (L.w : Int)) ∧ Below w.heap.size w w' := by
 unfold layAgg
 obtain ⟨b, off, Ai, ci, rfl, hb, hc⟩ := lay_first hx.ok hv
 have hn : (0 : Int) < (L.n : Int) := by have := hx.ok.n.1; omega
 have c1 := hc _ w.heap.size (below_laid (w := w) (o := .cells #[.int .i64 L.disks, .slice (some ⟨b, off, none⟩) L.n c, .int .i64 L.tiles, .int .i64 L.spare] 36)) hB
 clear hc hv
 go_enter Tryz.func41, Tryz.ntmps41
 go_wp2
 go_ret
 exact ⟨rfl, below_laid⟩
set_option maxHeartbeats 1000000 in
theorem r21groups {L : LayD} {A : Option Addr} {c : Nat} (w : World) (hx : LayX L) :
  Calls Tryz.prog 39 #[layAgg L A c] w fun r w' => r = .returned (.int .i64 (L.G : Int)) ∧ Below w.heap.size w w' := by
 unfold layAgg
 have hm : (L.tiles : Int) * (L.n : Int) = (L.G : Int) := by unfold LayD.G; simp
 have hg := hx.ok.G
 go_enter Tryz.func39, Tryz.ntmps39
 go_wp2
 go_ret
 exact ⟨rfl, below_laid⟩
set_option maxHeartbeats 1000000 in
theorem r21homes {L : LayD} {A : Option Addr} {B c : Nat} (w : World) (hx : LayX L) (hv : GsV w B A L.gs) (hB : B ≤ w.heap.size) :
  Calls Tryz.prog 99 #[layAgg L A c] w fun r w' => r = .returned (.int .i64 (L.homes : Int)) ∧ Below w.heap.size w w' := by
 unfold layAgg
 have hm : (L.tiles : Int) * (L.r : Int) = (L.homes : Int) := by unfold LayD.homes; simp
 have hg : L.homes ≤ 65536 := by have := hx.ok.blocks; unfold LayD.blocks at this; omega
 have HV := Lib.hid hv
 clear hv
 go_enter Tryz.func99, Tryz.ntmps99
 go_wp2_with fail
 refine (lay_check hx _ (HV.out.below below_laid hB) (by simp; omega)).mono ?_
 rintro r w1 ⟨⟨lam, rfl⟩, hb⟩
 obtain ⟨-, -, c2, -⟩ := ((LayB.made w L A c).below hb (by simp)).cells
 go_wp2
 go_ret
 exact ⟨rfl, below_laid.trans (hb.mono (by simp))⟩
set_option maxHeartbeats 1000000 in
theorem r21blocks {L : LayD} {A : Option Addr} {B c : Nat} (w : World) (hx : LayX L) (hv : GsV w B A L.gs) (hB : B ≤ w.heap.size) :
  Calls Tryz.prog 100 #[layAgg L A c] w fun r w' => r = .returned (.int .i64 (L.blocks : Int)) ∧ Below w.heap.size w w' := by
 unfold layAgg
 have hm : (L.homes : Int) + (L.spare : Int) = (L.blocks : Int) := by unfold LayD.blocks; simp
 have hg := hx.ok.blocks
 have HV := Lib.hid hv
 clear hv
 go_enter Tryz.func100, Tryz.ntmps100
 go_wp2_with fail
 have hl := LayB.made w L A c
 have hb0 : Below w.heap.size w (w.alloc (.cells #[.int .i64 L.disks, .slice A L.n c, .int .i64 L.tiles, .int .i64 L.spare] 36)) := below_laid
 have HX := Lib.hid hl.lt
 generalize w.alloc _ = w0 at *
 have HB0 := Lib.hid hb0
 have X := fun d xs => (hl.below (below_regrown w0 d xs) HX.out).cells
 have HH := Lib.hid (fun d xs => r21homes (c := c) (Sort.grow (redrawn w0 d) xs) hx ((HV.out.below hb0 hB).below (below_regrown w0 d xs) (by have := hb0.size; omega)) (by have := hb0.size; have := (below_regrown w0 d xs).size; omega))
 clear hb0 hl
 refine quiet_below (by kernel_rfl) (by kernel_rfl) ?_
 repeat (go_big_quiet_step (first | (go_at_call 99; exact Calls.regrown_of (HH.out _ _))))
 refine wpQuiet_nil ?_
 intro w2 hb2
 go_wp2
 go_ret
 exact ⟨rfl, HB0.out.trans (hb2.mono HB0.out.size)⟩
end Go.Proofs.YtjgjofepedcfnaaGreat
namespace Go.Proofs.YtjgjofepedcfnaaGreat
open Go.RowKit
set_option maxHeartbeats 2000000 in
theorem r21is {L : LayD} {A : Option Addr} {B c : Nat} (g p : Int) (w : World) (hx : LayX L) (hv : GsV w B A L.gs) (hB : B ≤ w.heap.size) :
  Calls Tryz.prog 88 #[layAgg L A c, .int .i64 g, .int .i64 p] w fun r w' => r = .returned (.bool (isP L g p)) ∧ Below w.heap.size w w' := by
 unfold layAgg
 have HI : Hid (isP L g p = (decide (0 ≤ g) && decide (g < L.G) && decide (0 ≤ p) && decide (p < L.w))) := rfl
 have HV := Lib.hid hv
 have HW := Lib.hid (fun W hv hB => r21width (L := L) (A := A) (B := B) (c := c) W hx hv hB)
 have HG := Lib.hid (fun W => r21groups (L := L) (A := A) (c := c) W hx)
 clear hv
 generalize isP L g p = res at *
 by_cases h1 : 0 ≤ g
 ·have h1' : decide (g ≥ 0) = true := by rw [decide_eq_true_iff]; omega
  by_cases h2 : g < (L.G : Int)
  ·have h2' : decide (g < (L.G : Int)) = true := by rw [decide_eq_true_iff]; omega
   by_cases h3 : 0 ≤ p
   ·have h3' : decide (p ≥ 0) = true := by rw [decide_eq_true_iff]; omega
    have HR : Hid (res = decide (p < (L.w : Int))) := by unfold Hid; rw [HI.out]; simp [h1, h2, h3]
    clear h2 HI
    go_enter Tryz.func88, Tryz.ntmps88
    go_wp2_with fail
    have hl := LayB.made w L A c
    have hb0 : Below w.heap.size w (w.alloc (.cells #[.int .i64 L.disks, .slice A L.n c, .int .i64 L.tiles, .int .i64 L.spare] 36)) := below_laid
    have HX := Lib.hid hl.lt
    generalize w.alloc _ = w0 at *
    have HB0 := Lib.hid hb0
    refine (HG.out _).mono ?_
    rintro r w1 ⟨rfl, hb1⟩
    obtain ⟨c0, c1, c2, c3⟩ := (hl.below hb1 HX.out).cells
    have HB1 := Lib.hid (hb0.trans (hb1.mono hb0.size))
    have HV1 := HV.out.below HB1.out hB
    have hB1 : B ≤ w1.heap.size := Nat.le_trans hB HB1.out.size
    clear hl hb0 hb1
    go_wp2_with fail
    refine (HW.out _ HV1 hB1).mono ?_
    rintro r w2 ⟨rfl, hb2⟩
    go_wp2
    go_ret
    exact ⟨ret_bool (by rw [HR.out]), HB1.out.trans (hb2.mono HB1.out.size)⟩
   ·have h3' : decide (p ≥ 0) = false := by rw [decide_eq_false_iff_not]; omega
    have HR : Hid (res = false) := by unfold Hid; rw [HI.out]; simp [h3]
    clear h2 h3 HI
    go_enter Tryz.func88, Tryz.ntmps88
    go_wp2_with fail
    have hb0 : Below w.heap.size w (w.alloc (.cells #[.int .i64 L.disks, .slice A L.n c, .int .i64 L.tiles, .int .i64 L.spare] 36)) := below_laid
    generalize w.alloc _ = w0 at *
    have HB0 := Lib.hid hb0
    refine (HG.out _).mono ?_
    rintro r w1 ⟨rfl, hb1⟩
    have HB1 := Lib.hid (hb0.trans (hb1.mono hb0.size))
    clear hb0 hb1
    go_wp2
    go_ret
    exact ⟨ret_bool (by rw [HR.out]), HB1.out⟩
  ·have h2' : decide (g < (L.G : Int)) = false := by rw [decide_eq_false_iff_not]; omega
   have HR : Hid (res = false) := by unfold Hid; rw [HI.out]; simp [h2]
   clear h2 HI
   go_enter Tryz.func88, Tryz.ntmps88
   go_wp2_with fail
   have hb0 : Below w.heap.size w (w.alloc (.cells #[.int .i64 L.disks, .slice A L.n c, .int .i64 L.tiles, .int .i64 L.spare] 36)) := below_laid
   generalize w.alloc _ = w0 at *
   have HB0 := Lib.hid hb0
   refine (HG.out _).mono ?_
   rintro r w1 ⟨rfl, hb1⟩
   have HB1 := Lib.hid (hb0.trans (hb1.mono hb0.size))
   clear hb0 hb1
   go_wp2
   go_ret
   exact ⟨ret_bool (by rw [HR.out]), HB1.out⟩
 ·have h1' : decide (g ≥ 0) = false := by rw [decide_eq_false_iff_not]; omega
  have HR : Hid (res = false) := by unfold Hid; rw [HI.out]; simp [h1]
  clear h1 HI
  go_enter Tryz.func88, Tryz.ntmps88
  go_wp2
  go_ret
  exact ⟨ret_bool (by rw [HR.out]), below_laid⟩
theorem rankL_succ {L : LayD} {i d : Nat} {row : List Nat} (h : L.gs[i]? = some row) : rankL L (i + 1) d = rankL L i d + if row.contains d then 1 else 0 := by
 unfold rankL
 rw [List.take_add_one, h]
 simp only [Option.toList_some, List.countP_append, List.countP_cons, List.countP_nil, Nat.zero_add]
theorem rankL_all {L : LayD} (ok : LayOk L) {d : Nat} (hd : d < L.disks) : rankL L L.n d = L.r := by
 unfold rankL LayD.n
 rw [List.take_length]
 exact ok.cnt d hd
theorem rankL_le (L : LayD) (i d : Nat) : rankL L i d ≤ L.n := by
 unfold rankL LayD.n
 exact Nat.le_trans List.countP_le_length (by rw [List.length_take]; exact Nat.min_le_right _ _)
theorem tdiv_nat (a b : Nat) : Int.tdiv (a : Int) (b : Int) = ((a / b : Nat) : Int) := by
 rw [Int.tdiv_eq_ediv_of_nonneg (by omega)]; rfl
theorem tmod_nat (a b : Nat) : Int.tmod (a : Int) (b : Int) = ((a % b : Nat) : Int) := by
 rw [Int.tmod_eq_emod_of_nonneg (by omega)]; rfl
theorem r_le (L : LayD) : L.r ≤ L.n := List.countP_le_length
set_option maxHeartbeats 4000000 in
theorem r21home {L : LayD} {A : Option Addr} {B c : Nat} (g p : Nat) (w : World) (hx : LayX L) (hv : GsV w B A L.gs) (hB : B ≤ w.heap.size) (hg : g < L.G) (hp : p < L.w) :
  Calls Tryz.prog 133 #[layAgg L A c, .int .i64 (g : Int), .int .i64 (p : Int)] w fun r w' => r = .returned (homeL L g p).agg ∧ Below w.heap.size w w' := by
 unfold layAgg
 have HV := Lib.hid hv
 have HW := Lib.hid (fun W hv hB => r21width (L := L) (A := A) (B := B) (c := c) W hx hv hB)
 obtain ⟨row, hrow, hlw, -, hlt⟩ := row_of hx.ok g
 have hdk := hdisk_at (p := p) hrow hlw (by omega)
 have HDK := Lib.hid (hdisk_lt hx.ok g p)
 have HRA := Lib.hid (rankL_all hx.ok HDK.out)
 have hn0 : 1 ≤ L.n := hx.ok.n.1
 have hnb := hx.ok.n.2
 have hwb := hx.ok.w
 have htb : g / L.n < 256 := by
  have h1 : g < L.tiles * L.n := hg
  have h2 := Nat.div_lt_of_lt_mul (Nat.mul_comm L.tiles L.n ▸ h1)
  have := hx.ok.tiles.2
  omega
 have hrb : L.r ≤ 4096 := Nat.le_trans (r_le L) hnb
 have HRES : Hid (homeL L g p = ⟨hdisk L g p, ((g / L.n * L.r + rankL L (g % L.n) (hdisk L g p) : Nat) : Int)⟩) := rfl
 have hgn : g % L.n < L.n := Nat.mod_lt _ (by omega)
 have htr : g / L.n * L.r ≤ 256 * 4096 := Nat.mul_le_mul (by omega) hrb
 have hq1 := tdiv_nat g L.n
 have hq2 := tmod_nat g L.n
 have hq3 : Int.tmod ((p : Int) + ((g / L.n : Nat) : Int)) (L.w : Int) = (((p + g / L.n) % L.w : Nat) : Int) := tmod_nat (p + g / L.n) L.w
 have hat : (p + g / L.n) % L.w < L.w := Nat.mod_lt _ (by omega)
 have hq4 : ¬ (L.n : Int) = 0 := by omega
 have hq5 : ¬ (L.w : Int) = 0 := by omega
 have hgi : (g : Int) ≤ 5000 := by have := hx.ok.G; omega
 generalize hat0 : (p + g / L.n) % L.w = a at *
 generalize g / L.n = t at *
 generalize g % L.n = gg at *
 generalize hdisk L g p = dk at *
 have hw1 : IntKind.i64.wrap ((p : Int) + (t : Int)) = (p : Int) + (t : Int) := IntWalk.i64_in _ (by omega)
 have hw2 : IntKind.i64.wrap (t : Int) = (t : Int) := IntWalk.i64_in _ (by omega)
 have hw3 : IntKind.i64.wrap (gg : Int) = (gg : Int) := IntWalk.i64_in _ (by omega)
 clear hv hlt hat0
 have HRW := Lib.hid hrow
 have HDD := Lib.hid hdk
 have HLR := Lib.hid hlw
 clear hrow hdk hlw
 go_enter Tryz.func133, Tryz.ntmps133
 go_wp2_with fail
 have hl0 : LayB ((w.alloc (.cells #[.int .i64 L.disks, .slice A L.n c, .int .i64 L.tiles, .int .i64 L.spare] 36)).alloc (.cells #[.int .i64 0, .int .i64 0] 87)) w.heap.size L A c := (LayB.made w L A c).below (below_laid) (by simp)
 have hpl := heap_alloc_new (w.alloc (.cells #[.int .i64 L.disks, .slice A L.n c, .int .i64 L.tiles, .int .i64 L.spare] 36)) (.cells #[.int .i64 0, .int .i64 0] 87)
 have hb0 : Below w.heap.size w ((w.alloc (.cells #[.int .i64 L.disks, .slice A L.n c, .int .i64 L.tiles, .int .i64 L.spare] 36)).alloc (.cells #[.int .i64 0, .int .i64 0] 87)) := (below_laid (w := w)).trans ((below_laid (w := w.alloc _)).mono (by simp))
 have hz : (w.alloc (.cells #[.int .i64 L.disks, .slice A L.n c, .int .i64 L.tiles, .int .i64 L.spare] 36)).heap.size = w.heap.size + 1 := by simp
 rw [hz] at hpl
 generalize (w.alloc _).alloc _ = w0 at *
 clear hz
 go_quiet (fail)
 generalize hdr : w0.drewN _ = w1
 have hl1 : LayB w1 w.heap.size L A c := by rw [← hdr]; exact hl0
 have hp1 : w1.heap[w.heap.size + 1]? = some (.cells #[.int .i64 0, .int .i64 0] 87) := by rw [← hdr]; exact hpl
 have hb1 : Below w.heap.size w w1 := by rw [← hdr]; exact below_drewN hb0 _
 clear hdr hl0 hpl hb0
 have HL1 := Lib.hid hl1
 have HP1 := Lib.hid hp1
 have HB1 := Lib.hid hb1
 have HX : Hid (w.heap.size + 1 < w1.heap.size) := (Array.getElem?_eq_some_iff.1 hp1).1
 have X := fun d xs => (hl1.below (below_regrown w1 d xs) hl1.lt).cells
 have hv1 := HV.out.below hb1 hB
 have HV1 := Lib.hid hv1
 have HH := Lib.hid (fun d xs => HW.out (Sort.grow (redrawn w1 d) xs) (hv1.below (below_regrown w1 d xs) (by have := hb1.size; omega)) (by have := hb1.size; have := (below_regrown w1 d xs).size; omega))
 obtain ⟨b, off, Al, cl, rfl, hbB, hat1⟩ := hv1.at_ HRW.out
 obtain ⟨bl, ol, rfl, -, -⟩ := nints_at (hat1 w1 w1.heap.size (Below.refl _ _) (by have := hb1.size; omega)).2 HDD.out
 have Y := fun d xs => (hat1 (Sort.grow (redrawn w1 d) xs) w1.heap.size (below_regrown w1 d xs) (by have := hb1.size; omega)).1
 have Z : ∀ d xs, (Sort.grow (redrawn w1 d) xs).cell? ⟨bl, ol + a, none⟩ = some (.int .i64 (dk : Int)) := fun d xs => by
  obtain ⟨b2, o2, e, -, h2⟩ := nints_at (hat1 (Sort.grow (redrawn w1 d) xs) w1.heap.size (below_regrown w1 d xs) (by have := hb1.size; omega)).2 HDD.out
  cases e
  exact h2
 rw [HLR.out] at Y
 clear hl1 hp1 hv1 hat1 hq1 hq2
 go_wp2_with fail
 refine quiet_below (by kernel_rfl) (by kernel_rfl) ?_
 repeat (go_big_quiet_step (first | (go_at_call 41; exact Calls.regrown_of (HH.out _ _))))
 refine wpQuiet_nil ?_
 intro w2 hb2
 clear X Y Z HH HW
 have HB2 := Lib.hid (hb1.trans (hb2.mono hb1.size))
 have HL2 := Lib.hid (HL1.out.below hb2 HL1.out.lt)
 have HP2 : Hid (w2.heap[w.heap.size + 1]? = some (.cells #[.int .i64 0, .int .i64 0] 87)) := (hb2.block _ HX.out).trans HP1.out
 have HS2 : Hid (w.heap.size + 1 < w2.heap.size) := by unfold Hid; have := hb2.size; have := HX.out; omega
 clear hb1 hb2
 have hgs : ((L.gs.length : Nat) : Int) = (L.n : Int) := rfl
 clear hgs
 go_wp2
 go_loopw [11, 12, 13] (fun s11 s12 s13 wr => ∃ i : Nat, i ≤ L.n ∧ s13 = .int .i64 i ∧ s11 = .int .i64 (rankL L i dk : Nat) ∧ s12 = .int .i64 (rankL L (min i gg) dk : Nat) ∧ Below w.heap.size w wr ∧ LayB wr w.heap.size L (some ⟨b, off, none⟩) c ∧ wr.heap[w.heap.size + 1]? = some (.cells #[.int .i64 0, .int .i64 0] 87)) (fun _ _ s13 _ => L.n - (intOf s13).toNat)
 case atStart => exact ⟨0, by omega, rfl, rfl, by simp [rankL], HB2.out, HL2.out, HP2.out⟩
 case round =>
  clear HB2 HL2 HP2 HS2
  obtain ⟨i, hi, rfl, rfl, rfl, hb, hl, hp2⟩ := hrel
  by_cases hin : i < L.n
  ·have hiI : (i : Int) < (L.n : Int) := by omega
   obtain ⟨ri, hri⟩ := at_some (l := L.gs) (i := i) hin
   have hrs := rankL_succ (d := dk) hri
   have hv2 := HV.out.below hb hB
   obtain ⟨b', off', Ai, ci, hA, -, hat2⟩ := hv2.at_ hri
   cases hA
   obtain ⟨q1, q2⟩ := hat2 wr wr.heap.size (Below.refl _ _) (by have := hb.size; omega)
   obtain ⟨c0, c1, c2, c3⟩ := hl.cells
   have HHas := Lib.hid (has7_any (x := dk) (c := ci) wr q2 (by rw [hx.ok.len ri (List.mem_of_getElem? hri)]; omega))
   have HB := Lib.hid hb
   have HL := Lib.hid hl
   have HP2 := Lib.hid hp2
   have hbd := rankL_le L i dk
   have hbd2 := rankL_le L (min i gg) dk
   have HRS := Lib.hid hrs
   clear hb hl hp2 hv2 hat2 q2 hri hrs
   obtain ⟨hc, hhc⟩ : ∃ hc, ri.contains dk = hc := ⟨_, rfl⟩
   rw [hhc] at HHas HRS
   clear hhc
   cases hc
   ·have HE : Hid (rankL L (i + 1) dk = rankL L i dk) := HRS.out
    have HE2 : Hid (rankL L (min (i + 1) gg) dk = rankL L (min i gg) dk) := by
     unfold Hid
     rcases Nat.lt_or_ge i gg with h | h
     ·rw [Nat.min_eq_left (by omega), Nat.min_eq_left (by omega)]; exact HE.out
     ·rw [Nat.min_eq_right (by omega), Nat.min_eq_right (by omega)]
    go_wp2_with fail
    refine (HHas.out).mono ?_
    rintro r w3 ⟨rfl, rfl⟩
    go_wp2
    go_roundw
    case rel => exact ⟨i + 1, by omega, by go_num, by rw [HE.out], by rw [HE2.out], HB.out, HL.out, HP2.out⟩
    case measure => simp [intOf] <;> omega
   ·have HE : Hid (rankL L (i + 1) dk = rankL L i dk + 1) := HRS.out
    by_cases hig : i < gg
    ·have higI : (i : Int) < (gg : Int) := by omega
     have HE2 : Hid (rankL L (min (i + 1) gg) dk = rankL L (min i gg) dk + 1) := by
      unfold Hid
      rw [Nat.min_eq_left (by omega), Nat.min_eq_left (by omega)]; exact HE.out
     go_wp2_with fail
     refine (HHas.out).mono ?_
     rintro r w3 ⟨rfl, rfl⟩
     go_wp2
     go_roundw
     case rel => exact ⟨i + 1, by omega, by go_num, by rw [HE.out]; go_num, by rw [HE2.out]; go_num, HB.out, HL.out, HP2.out⟩
     case measure => simp [intOf] <;> omega
    ·have higI : ¬ (i : Int) < (gg : Int) := by omega
     have HE2 : Hid (rankL L (min (i + 1) gg) dk = rankL L (min i gg) dk) := by
      unfold Hid
      rw [Nat.min_eq_right (by omega), Nat.min_eq_right (by omega)]
     go_wp2_with fail
     refine (HHas.out).mono ?_
     rintro r w3 ⟨rfl, rfl⟩
     go_wp2
     go_roundw
     case rel => exact ⟨i + 1, by omega, by go_num, by rw [HE.out]; go_num, by rw [HE2.out], HB.out, HL.out, HP2.out⟩
     case measure => simp [intOf] <;> omega
  ·have hin2 : ¬ (i : Int) < (L.n : Int) := by omega
   have e1 : rankL L i dk = L.r := by rw [show i = L.n by omega]; exact HRA.out
   have e2 : min i gg = gg := by omega
   rw [e1, e2]
   have hbd := rankL_le L gg dk
   have HB := Lib.hid hb
   have HP2 := Lib.hid hp2
   have f0 := frozen_of_row wr _ 0 _ _ hp2
   have f1 := frozen_of_row wr _ 1 _ _ hp2
   have p0 := (cell_of_row wr _ 0 _ _ _ hp2).trans (show _ = some (.int .i64 0) from rfl)
   have p1 := (cell_of_row wr _ 1 _ _ _ hp2).trans (show _ = some (.int .i64 0) from rfl)
   have hmul : (t : Int) * (L.r : Int) = ((t * L.r : Nat) : Int) := by simp
   generalize t * L.r = tr at *
   generalize rankL L gg dk = rk at *
   have hb2 := heap_setCell_same wr (w.heap.size + 1) 0 _ _ (.int .i64 (dk : Int)) hp2
   have HBB := Lib.hid (heap_setCell_same (wr.setCell ⟨w.heap.size + 1, 0, none⟩ (.int .i64 (dk : Int))) (w.heap.size + 1) 1 _ _ (.int .i64 ((tr : Int) + (rk : Int))) hb2)
   clear hb hl hp2 e1 e2 hb2
   go_wp2
   (try simp only [Exit.inBlock, Exit.then])
   refine bodyPost_ret (v := .agg #[.int .i64 (dk : Int), .int .i64 ((tr : Int) + (rk : Int))]) ?_ rfl ⟨by rw [HRES.out]; simp [Plc.agg], (HB.out.setCell (by simp) _).setCell (by simp) _⟩
   exact results_cell_row rfl _ _ (w.heap.size + 1) 87 #[.int .i64 (dk : Int), .int .i64 ((tr : Int) + (rk : Int))] (0, 0) _ rfl (by simpa using HBB.out) Tryz.underlying87 rfl (by kernel_rfl)
end Go.Proofs.YtjgjofepedcfnaaGreat
namespace Go.Proofs.YtjgjofepedcfnaaGreat
open Go.RowKit
set_option maxHeartbeats 2000000 in
theorem r21valid {L : LayD} {A : Option Addr} {B c : Nat} (w : World) (hx : LayX L) (hv : GsV w B A L.gs) (hB : B ≤ w.heap.size) :
  Calls Tryz.prog 38 #[layAgg L A c] w fun r w' => r = .returned (.bool true) ∧ Below w.heap.size w w' := by
 unfold layAgg
 have hm1 : (L.tiles : Int) * (L.n : Int) = (L.G : Int) := by unfold LayD.G; simp
 have hm2 : (L.tiles : Int) * (L.r : Int) = (L.homes : Int) := by unfold LayD.homes; simp
 have hw := hx.ok.w
 have hm3 : (L.G : Int) * ((L.w : Int) - 3) = ((L.G * (L.w - 3) : Nat) : Int) := by
  have : ((L.w - 3 : Nat) : Int) = (L.w : Int) - 3 := by omega
  rw [Int.natCast_mul, this]
 have hs := hx.ok.slots
 generalize L.G * (L.w - 3) = sl at *
 have hG := hx.ok.G
 have hbk : L.homes + L.spare ≤ 65536 := hx.ok.blocks
 have ht := hx.ok.tiles
 have hn : (0 : Int) < (L.n : Int) := by have := hx.ok.n.1; omega
 have d1 : decide (L.tiles < 1) = false := by rw [decide_eq_false_iff_not]; omega
 have d2 : decide (256 < L.tiles) = false := by rw [decide_eq_false_iff_not]; omega
 have d3 : decide (65536 < L.spare) = false := by rw [decide_eq_false_iff_not]; omega
 have d1' : decide ((L.tiles : Int) < 1) = false := by rw [decide_eq_false_iff_not]; omega
 have d2' : decide (256 < (L.tiles : Int)) = false := by rw [decide_eq_false_iff_not]; omega
 have d3' : decide (65536 < (L.spare : Int)) = false := by rw [decide_eq_false_iff_not]; omega
 have d4 : decide ((L.spare : Int) < 0) = false := by rw [decide_eq_false_iff_not]; omega
 have e1 : decide (4 ≤ (L.w : Int)) = true := by rw [decide_eq_true_iff]; omega
 have e2 : decide ((L.w : Int) ≤ 16) = true := by rw [decide_eq_true_iff]; omega
 have e3 : decide ((L.G : Int) ≤ 4096) = true := by rw [decide_eq_true_iff]; omega
 have e4 : decide ((sl : Int) ≤ 65536) = true := by rw [decide_eq_true_iff]; omega
 have e5 : decide ((L.homes : Int) + (L.spare : Int) ≤ 65536) = true := by rw [decide_eq_true_iff]; omega
 have HV := Lib.hid hv
 clear hv
 go_enter Tryz.func38, Tryz.ntmps38
 go_wp2_with fail
 have hl := LayB.made w L A c
 have hb0 : Below w.heap.size w (w.alloc (.cells #[.int .i64 L.disks, .slice A L.n c, .int .i64 L.tiles, .int .i64 L.spare] 36)) := below_laid
 have HX := Lib.hid hl.lt
 generalize w.alloc _ = w0 at *
 have hB0 := hb0.size
 refine (lay_check hx w0 (HV.out.below hb0 hB) (by omega)).mono ?_
 rintro r w1 ⟨⟨lam, rfl⟩, hb⟩
 have HB1 := Lib.hid (hb0.trans (hb.mono hb0.size))
 obtain ⟨c0, c1, c2, c3⟩ := (hl.below hb HX.out).cells
 obtain ⟨bb, off, Ai, ci, rfl, -, hc⟩ := lay_first hx.ok (HV.out.below HB1.out hB)
 have c4 := hc w1 w1.heap.size (Below.refl _ _) (by have := hb.size; omega)
 clear hc hl hb hb0
 go_wp2
 go_ret
 exact ⟨ret_bool (by simp), HB1.out⟩
theorem find_first {ms : List Mv} {g p : Int} {k : Nat} {m : Mv} (hno : ∀ j x, j < k → ms[j]? = some x → atM g p x = false) (hm : ms[k]? = some m) (h : atM g p m = true) : ms.find? (atM g p) = some m := by
 rw [List.find?_eq_some_iff_getElem]
 obtain ⟨hk, rfl⟩ := List.getElem?_eq_some_iff.1 hm
 refine ⟨h, k, hk, rfl, fun j hj => ?_⟩
 rw [hno j _ hj (List.getElem?_eq_getElem (by omega))]
 rfl
theorem find_never {ms : List Mv} {g p : Int} (hno : ∀ j x, j < ms.length → ms[j]? = some x → atM g p x = false) : ms.find? (atM g p) = none := by
 rw [List.find?_eq_none]
 intro x hx
 obtain ⟨j, hj, rfl⟩ := List.mem_iff_getElem.1 hx
 rw [hno j _ hj (List.getElem?_eq_getElem hj)]
 simp
theorem where_at {L : LayD} {ms : List Mv} {g p : Int} {k : Nat} {m : Mv} (hno : ∀ j x, j < k → ms[j]? = some x → atM g p x = false) (hm : ms[k]? = some m) (h : atM g p m = true) : whereL L ms g p = m.to := by
 unfold whereL; rw [find_first hno hm h]
theorem where_never {L : LayD} {ms : List Mv} {g p : Nat} (hno : ∀ j x, j < ms.length → ms[j]? = some x → atM (g : Int) (p : Int) x = false) : whereL L ms g p = homeL L g p := by
 unfold whereL; rw [find_never hno]; rfl
set_option maxHeartbeats 4000000 in
theorem r22where {L : LayD} {A Am : Option Addr} {B c cm : Nat} {ms : List Mv} (g p : Nat) (w : World) (hx : LayX L) (hv : GsV w B A L.gs) (hM : MvS w B Am ms) (hB : B ≤ w.heap.size) (hg : g < L.G) (hp : p < L.w) (hlen : ms.length ≤ 1000000) :
  Calls Tryz.prog 101 #[layAgg L A c, .slice Am ms.length cm, .int .i64 (g : Int), .int .i64 (p : Int)] w fun r w' => r = .returned (whereL L ms g p).agg ∧ Below w.heap.size w w' := by
 have HH := Lib.hid (fun W hv hB => r21home (L := L) (A := A) (B := B) (c := c) g p W hx hv hB hg hp)
 have HWA := Lib.hid (fun k m hno hm h => where_at (L := L) (ms := ms) (g := g) (p := p) (k := k) (m := m) hno hm h)
 have HWN := Lib.hid (fun hno => where_never (L := L) (ms := ms) (g := g) (p := p) hno)
 have HV := Lib.hid hv
 have HM := Lib.hid hM
 unfold layAgg
 clear hv hM hg hp
 generalize whereL L ms g p = res at *
 go_enter Tryz.func101, Tryz.ntmps101
 go_wp2
 have hl0 : LayB ((w.alloc (.cells #[.int .i64 L.disks, .slice A L.n c, .int .i64 L.tiles, .int .i64 L.spare] 36)).alloc (.cells #[.int .i64 0, .int .i64 0] 87)) w.heap.size L A c := (LayB.made w L A c).below (below_laid) (by simp)
 have hpl := heap_alloc_new (w.alloc (.cells #[.int .i64 L.disks, .slice A L.n c, .int .i64 L.tiles, .int .i64 L.spare] 36)) (.cells #[.int .i64 0, .int .i64 0] 87)
 have hb0 : Below w.heap.size w ((w.alloc (.cells #[.int .i64 L.disks, .slice A L.n c, .int .i64 L.tiles, .int .i64 L.spare] 36)).alloc (.cells #[.int .i64 0, .int .i64 0] 87)) := (below_laid (w := w)).trans ((below_laid (w := w.alloc _)).mono (by simp))
 have hz : (w.alloc (.cells #[.int .i64 L.disks, .slice A L.n c, .int .i64 L.tiles, .int .i64 L.spare] 36)).heap.size = w.heap.size + 1 := by simp
 rw [hz] at hpl
 generalize (w.alloc _).alloc _ = w0 at *
 clear hz
 have HL := Lib.hid hl0
 have HP := Lib.hid hpl
 have HB := Lib.hid hb0
 clear hl0 hpl hb0
 go_loopw [9] (fun s9 wr => ∃ k : Nat, k ≤ ms.length ∧ s9 = .int .i64 k ∧ (∀ (j : Nat) x, j < k → ms[j]? = some x → atM (g : Int) (p : Int) x = false) ∧ wr = w0) (fun s9 _ => ms.length - (intOf s9).toNat)
 case atStart => exact ⟨0, by omega, rfl, fun j x hj => absurd hj (by omega), rfl⟩
 case round =>
  obtain ⟨k, hk, rfl, hno, rfl⟩ := hrel
  have HN := Lib.hid hno
  clear hno
  have f0 := frozen_of_row wr _ 0 _ _ HP.out
  have f1 := frozen_of_row wr _ 1 _ _ HP.out
  have p0 := (cell_of_row wr _ 0 _ _ _ HP.out).trans (show _ = some (.int .i64 0) from rfl)
  have p1 := (cell_of_row wr _ 1 _ _ _ HP.out).trans (show _ = some (.int .i64 0) from rfl)
  have hret : ∀ (wx : World) (t : Plc), Below w.heap.size w wx → wx.heap[w.heap.size + 1]? = some (.cells #[.int .i64 0, .int .i64 0] 87) → ((wx.setCell ⟨w.heap.size + 1, 0, none⟩ (.int .i64 t.disk)).setCell ⟨w.heap.size + 1, 1, none⟩ (.int .i64 t.block)).heap[w.heap.size + 1]? = some (.cells #[.int .i64 t.disk, .int .i64 t.block] 87) ∧ Below w.heap.size w ((wx.setCell ⟨w.heap.size + 1, 0, none⟩ (.int .i64 t.disk)).setCell ⟨w.heap.size + 1, 1, none⟩ (.int .i64 t.block)) := fun wx t hb hp2 => by
   have hb2 := heap_setCell_same wx (w.heap.size + 1) 0 _ _ (.int .i64 t.disk) hp2
   exact ⟨by rw [heap_setCell_same _ (w.heap.size + 1) 1 _ _ _ hb2]; rfl, (hb.setCell (by simp) _).setCell (by simp) _⟩
  have HRT := Lib.hid hret
  clear hret
  by_cases hkn : k < ms.length
  ·have hkI : (k : Int) < (ms.length : Int) := by omega
   obtain ⟨m, hm⟩ := at_some hkn
   obtain ⟨b, off, rfl, -, c0, c1, c2, c3⟩ := MvS.at_ (HM.out.below' HB.out hB) hm
   have HMM := Lib.hid hm
   have HAT : Hid (atM (g : Int) (p : Int) m = (m.g == (g : Int) && m.p == (p : Int))) := rfl
   have HNX : Hid (atM (g : Int) (p : Int) m = false → ∀ (j : Nat) x, j < k + 1 → ms[j]? = some x → atM (g : Int) (p : Int) x = false) := fun hf j x hj hx => by
    rcases Nat.lt_or_eq_of_le (Nat.le_of_lt_succ hj) with h | rfl
    ·exact HN.out j x h hx
    ·rw [hm] at hx; cases hx; exact hf
   clear hm
   by_cases h1 : m.g = (g : Int)
   ·by_cases h2 : m.p = (p : Int)
    ·have h1' : (m.g == (g : Int)) = true := by simpa using h1
     have h2' : (m.p == (p : Int)) = true := by simpa using h2
     have HR : Hid (res = m.to) := HWA.out k m HN.out HMM.out (by rw [HAT.out, h1', h2']; rfl)
     have HQ := Lib.hid (HRT.out wr m.to HB.out HP.out)
     clear h1 h2
     obtain ⟨mg, mp, td, tb⟩ := m
     simp only at *
     go_wp2
     (try simp only [Exit.inBlock, Exit.then])
     refine bodyPost_ret (v := .agg #[.int .i64 td, .int .i64 tb]) ?_ rfl ⟨by rw [HR.out]; rfl, HQ.out.2⟩
     exact results_cell_row rfl _ _ (w.heap.size + 1) 87 #[.int .i64 td, .int .i64 tb] (0, 0) _ rfl (by simpa using HQ.out.1) Tryz.underlying87 rfl (by kernel_rfl)
    ·have h1' : (m.g == (g : Int)) = true := by simpa using h1
     have h2' : (m.p == (p : Int)) = false := by simpa using h2
     have HF := Lib.hid (HNX.out (by rw [HAT.out, h1', h2']; rfl))
     clear h1 h2
     go_wp2
     go_roundw
     case rel => exact ⟨k + 1, by omega, by go_num, HF.out, trivial⟩
     case measure => simp [intOf] <;> omega
   ·have h1' : (m.g == (g : Int)) = false := by simpa using h1
    have HF := Lib.hid (HNX.out (by rw [HAT.out, h1']; rfl))
    clear h1
    go_wp2
    go_roundw
    case rel => exact ⟨k + 1, by omega, by go_num, HF.out, trivial⟩
    case measure => simp [intOf] <;> omega
  ·have hkI : ¬ (k : Int) < (ms.length : Int) := by omega
   have HR : Hid (res = homeL L g p) := HWN.out (fun j x hj => HN.out j x (by omega))
   obtain ⟨c0, c1, c2, c3⟩ := HL.out.cells
   have hB1 : B ≤ wr.heap.size := Nat.le_trans hB HB.out.size
   have HX : Hid (w.heap.size + 1 < wr.heap.size) := (Array.getElem?_eq_some_iff.1 HP.out).1
   clear f0 f1 p0 p1
   go_wp2_with fail
   refine (HH.out wr (HV.out.below HB.out hB) hB1).mono ?_
   rintro r w2 ⟨rfl, hb2⟩
   have hp2 := (hb2.block _ HX.out).trans HP.out
   have f0 := frozen_of_row w2 _ 0 _ _ hp2
   have f1 := frozen_of_row w2 _ 1 _ _ hp2
   have p0 := (cell_of_row w2 _ 0 _ _ _ hp2).trans (show _ = some (.int .i64 0) from rfl)
   have p1 := (cell_of_row w2 _ 1 _ _ _ hp2).trans (show _ = some (.int .i64 0) from rfl)
   have HQ := Lib.hid (HRT.out w2 (homeL L g p) (HB.out.trans (hb2.mono HB.out.size)) hp2)
   clear hp2 hb2 c0 c1 c2 c3 HWA HWN
   unfold Plc.agg
   generalize homeL L g p = hm at *
   go_wp2
   (try simp only [Exit.inBlock, Exit.then])
   refine bodyPost_ret (v := .agg #[.int .i64 hm.disk, .int .i64 hm.block]) ?_ rfl ⟨by rw [HR.out]; rfl, HQ.out.2⟩
   exact results_cell_row rfl _ _ (w.heap.size + 1) 87 #[.int .i64 hm.disk, .int .i64 hm.block] (0, 0) _ rfl (by simpa using HQ.out.1) Tryz.underlying87 rfl (by kernel_rfl)
end Go.Proofs.YtjgjofepedcfnaaGreat
