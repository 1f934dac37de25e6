/- Walk of planner.add. -/
import Derived.Test.YteglnekkkhpikaaGreatPwH
import Derived.Test.YteglnekkkhpikaaGreatTwX
import Derived.Test.YteglnekkkhpikaaGreatGSmm
namespace Go.Proofs.YteglnekkkhpikaaGreat
open Go.RowKit

/-- nothing below a bound has turned, but for one block -/
structure BelX (base rb : Nat) (w w' : World) : Prop where
  os : w'.os = w.os
  tape : w'.tape = w.tape
  output : w'.output = w.output
  size : w.heap.size ≤ w'.heap.size
  block : ∀ k, k < base → k ≠ rb → w'.heap[k]? = w.heap[k]?
section
variable {base rb : Nat} {a w w' : World}
theorem BelX.refl (base rb : Nat) (w : World) : BelX base rb w w := ⟨rfl, rfl, rfl, Nat.le_refl _, fun _ _ _ => rfl⟩
theorem BelX.of {B : Nat} (h : Below B w w') (hB : base ≤ B) : BelX base rb w w' := ⟨h.os, h.tape, h.output, h.size, fun k hk _ => h.block k (by omega)⟩
theorem BelX.below (h : BelX base rb w w') {B : Nat} (hr : B ≤ rb) (hB : B ≤ base) : Below B w w' := ⟨h.os, h.tape, h.output, h.size, fun k hk => h.block k (by omega) (by omega)⟩
theorem BelX.trans (h : BelX base rb a w) (h' : BelX base rb w w') : BelX base rb a w' :=
  ⟨h'.os.trans h.os, h'.tape.trans h.tape, h'.output.trans h.output, Nat.le_trans h.size h'.size, fun k hk hr => (h'.block k hk hr).trans (h.block k hk hr)⟩
theorem BelX.setCell (h : BelX base rb a w) {p : Addr} (hp : base ≤ p.block ∨ p.block = rb) (u : Value) : BelX base rb a (w.setCell p u) :=
  h.trans ⟨rfl, rfl, rfl, by simp [World.setCell], fun k hk hr => Below.heap_setCell _ _ _ _ (by omega)⟩
end
theorem tsk_cells {w : World} {T : Nat} {a b c d e : Value} {ty : TypeId} (h : w.heap[T]? = some (.cells #[a, b, c, d, e] ty)) : w.cell? ⟨T, 0, none⟩ = some a ∧ w.cell? ⟨T, 1, none⟩ = some b ∧ w.cell? ⟨T, 2, none⟩ = some c ∧ w.cell? ⟨T, 3, none⟩ = some d ∧ w.cell? ⟨T, 4, none⟩ = some e ∧
    w.frozen? ⟨T, 0, none⟩ = false ∧ w.frozen? ⟨T, 1, none⟩ = false ∧ w.frozen? ⟨T, 2, none⟩ = false ∧ w.frozen? ⟨T, 3, none⟩ = false ∧ w.frozen? ⟨T, 4, none⟩ = false := by
  refine ⟨?_, ?_, ?_, ?_, ?_, frozen_of_row _ _ _ _ _ h, frozen_of_row _ _ _ _ _ h, frozen_of_row _ _ _ _ _ h, frozen_of_row _ _ _ _ _ h, frozen_of_row _ _ _ _ _ h⟩ <;> (rw [cell_of_row _ _ _ _ _ _ h]; rfl)
theorem toOk_wf {L : LayD} (hx : LayX L) {t : Plc} (h : toOk L t = true) : PlWf t := by
  have h1 := hx.ok.disks
  have h2 := hx.ok.blocks
  unfold toOk at h
  simp only [Bool.and_eq_true, decide_eq_true_eq] at h
  constructor
  · rw [Lit.wf_int_iff, IntKind.min_i64, IntKind.max_i64]
    omega
  · rw [Lit.wf_int_iff, IntKind.min_i64, IntKind.max_i64]
    omega
theorem PlnB.now {w : World} {X : Nat} {L : LayD} {A An Ad : Option Addr} {c nn cn cd : Nat} (h : PlnB w X L A c An nn cn Ad cd) (An' : Option Addr) (nn' cn' : Nat) : PlnB (w.setCell ⟨X, 4, none⟩ (.slice An' nn' cn')) X L A c An' nn' cn' Ad cd := by
  unfold PlnB
  rw [heap_setCell_same w X 4 _ _ _ h]
  rfl
theorem PlnB.far {w : World} {X : Nat} {L : LayD} {A An Ad : Option Addr} {c nn cn cd : Nat} (h : PlnB w X L A c An nn cn Ad cd) {p : Addr} (hp : X ≠ p.block) (u : Value) : PlnB (w.setCell p u) X L A c An nn cn Ad cd := (heap_setCell_other w _ _ _ hp).trans h
theorem PlB.ne_pln {w : World} {S X : Nat} {t : Plc} {L : LayD} {A An Ad : Option Addr} {c nn cn cd : Nat} (h : PlB w S t) (h2 : PlnB w X L A c An nn cn Ad cd) : S ≠ X := by
  rintro rfl
  unfold PlB at h
  unfold PlnB at h2
  rw [h] at h2
  injection h2 with h2
  injection h2 with _ h2
  exact absurd h2 (by decide)
theorem own_ne {w : World} {base size X : Nat} {e : TypeId} {v : Value} {rows : List (List Value)} (h : OwS w base e size v rows) (hX : X < base) : v.ownBlock ≠ some X := fun he => by
  have := (h.lt he).1
  omega
/-- a task that is stored in its box keeps all else -/
structure AddE (w : World) (X : Nat) (L : LayD) (A : Option Addr) (c : Nat) (An : Option Addr) (ms : List Mv) (cn : Nat) (Ad : Option Addr) (cd : Nat) (a : Addr) (f : List Nat) (cf : Nat) (wr : World) : Prop where
  of_ : OwS wr (w.heap.size + 2) 3 1 (.slice (some a) f.length cf) (f.map natC)
  om : OwS wr (w.heap.size + 2) 62 4 (.slice An ms.length cn) (ms.map Mv.cells)
  pl : PlnB wr X L A c An ms.length cn Ad cd
  bel : BelX w.heap.size X w wr
theorem AddE.set {w : World} {X : Nat} {L : LayD} {A : Option Addr} {c : Nat} {An : Option Addr} {ms : List Mv} {cn : Nat} {Ad : Option Addr} {cd : Nat} {a : Addr} {f : List Nat} {cf : Nat} {wr : World} (h : AddE w X L A c An ms cn Ad cd a f cf wr) (hX : X < w.heap.size) (j : Nat) (u : Value) : AddE w X L A c An ms cn Ad cd a f cf (wr.setCell ⟨w.heap.size + 1, j, none⟩ u) :=
  ⟨h.of_.far (own_ne h.of_ (by simp)) u, h.om.far (own_ne h.om (by simp)) u, h.pl.far (by show X ≠ w.heap.size + 1; omega) u, h.bel.setCell (.inl (by simp)) u⟩
def tskZ : Value := .agg #[.int .i64 0, .int .i64 0, .slice none 0 0, .int .i64 0, .int .i64 0]
/-- what add answers -/
def AddP (L : LayD) (now : List Mv) (dead : List Bool) (g p : Nat) (X : Nat) (A : Option Addr) (c : Nat) (Ad : Option Addr) (cd : Nat) (w w' : World) (r : Ending) : Prop :=
  (fromL L (helpL L now g dead) g = none ∧ r = .returned (.tuple #[tskZ, .int .i64 12]) ∧ Below w.heap.size w w') ∨
  (∃ f, fromL L (helpL L now g dead) g = some f ∧ chooseL L now g dead = none ∧ r = .returned (.tuple #[tskZ, .int .i64 11]) ∧ Below w.heap.size w w') ∨
  (∃ f t a cf An' cn', fromL L (helpL L now g dead) g = some f ∧ chooseL L now g dead = some t ∧ r = .returned (.tuple #[.agg #[.int .i64 (g : Int), .int .i64 (p : Int), .slice (some a) f.length cf, .int .i64 t.disk, .int .i64 t.block], .int .i64 0]) ∧
    OwS w' w.heap.size 3 1 (.slice (some a) f.length cf) (f.map natC) ∧ OwS w' w.heap.size 62 4 (.slice An' (withM now ⟨g, p, t⟩).length cn') ((withM now ⟨g, p, t⟩).map Mv.cells) ∧
    PlnB w' X L A c An' (withM now ⟨g, p, t⟩).length cn' Ad cd ∧ BelX w.heap.size X w w')
theorem choR_no {L : LayD} {ms : List Mv} {g : Nat} {dead : List Bool} (hval : validM L ms = true) (hdl : dead.length = L.disks) (hg : g < L.G) (h : chooseL L ms g dead = none) : choR L ms g dead = (⟨0, 0⟩, 11) := by
  unfold choR
  rw [if_neg (by rw [hval, hdl]; simp), if_neg (by simp only [Bool.and_eq_false_iff, decide_eq_false_iff_not]; omega), h]
theorem choR_yes {L : LayD} {ms : List Mv} {g : Nat} {dead : List Bool} {t : Plc} (hval : validM L ms = true) (hdl : dead.length = L.disks) (hg : g < L.G) (h : chooseL L ms g dead = some t) : choR L ms g dead = (t, 0) := by
  unfold choR
  rw [if_neg (by rw [hval, hdl]; simp), if_neg (by simp only [Bool.and_eq_false_iff, decide_eq_false_iff_not]; omega), h]
set_option maxHeartbeats 8000000 in
set_option maxRecDepth 100000 in
theorem padd_any {L : LayD} {A An Ad : Option Addr} {X c cn cd : Nat} {now : List Mv} {dead : List Bool} (g p : Nat) (w : World) (hx : LayX L) (hok : MvOk L now) (hval : validM L now = true) (hwf : ∀ m ∈ now, PlWf m.to) (hv : GsV w w.heap.size A L.gs) (hM : MvS w w.heap.size An now) (hD : BoolS w w.heap.size Ad dead) (hdl : dead.length = L.disks) (hP : PlnB w X L A c An now.length cn Ad cd) (hip : isP L g p = true) (hlen : now.length ≤ 10000) :
    Calls Tryz.prog 33 #[.pointer (some ⟨X, 0, none⟩), .agg #[.int .i64 (g : Int), .int .i64 (p : Int)]] w fun r w' => AddP L now dead g p X A c Ad cd w w' r := by
  have HV := Lib.hid hv
  have HM := Lib.hid hM
  have HD := Lib.hid hD
  have HP := Lib.hid hP
  have HX := Lib.hid hx
  have HOK := Lib.hid hok
  have HDL := Lib.hid hdl
  have HIP := Lib.hid hip
  have hgG : g < L.G := by
    unfold isP at hip
    simp only [Bool.and_eq_true, decide_eq_true_eq] at hip
    omega
  have hd60 := hx.ok.disks
  have HHP := Lib.hid (fun (W : World) hv hM hD hP hB => phelp_any (L := L) (A := A) (An := An) (Ad := Ad) (B := w.heap.size) (X := X) (c := c) (cn := cn) (cd := cd) (now := now) (dead := dead) g W hx hok hval hwf hv hM hD hdl hP hB hgG (by omega))
  have HCH := Lib.hid (fun (W : World) hv hM hD hB => sChoose_any (L := L) (A := A) (Am := An) (Ad := Ad) (B := w.heap.size) (c := c) (cm := cn) (cd := cd) (ms := now) (dead := dead) (g : Int) W hx hv hM hwf hD (by omega) hB (by omega))
  have HAP := Lib.hid (fun (t : Plc) (W : World) hwm hv hM hB => sApply_any (L := L) (A := A) (Am := An) (B := w.heap.size) (c := c) (cm := cn) (ms := now) ⟨g, p, t⟩ W hx hv hM hwf hwm hB hlen)
  have HC1 := Lib.hid (fun h => choR_no (L := L) (ms := now) (g := g) (dead := dead) hval hdl hgG h)
  have HC2 := Lib.hid (fun t h => choR_yes (L := L) (ms := now) (g := g) (dead := dead) (t := t) hval hdl hgG h)
  obtain ⟨⟨⟨pd, pb⟩, ec⟩, hce⟩ : ∃ x, choR L now g dead = x := ⟨_, rfl⟩
  rw [hce] at HCH HC1 HC2
  rw [hdl] at HCH
  have HDEF : Hid (∀ w' r, AddP L now dead g p X A c Ad cd w w' r ↔ (fromL L (helpL L now g dead) g = none ∧ r = .returned (.tuple #[.agg #[.int .i64 0, .int .i64 0, .slice none 0 0, .int .i64 0, .int .i64 0], .int .i64 12]) ∧ Below w.heap.size w w') ∨
    (∃ f, fromL L (helpL L now g dead) g = some f ∧ chooseL L now g dead = none ∧ r = .returned (.tuple #[.agg #[.int .i64 0, .int .i64 0, .slice none 0 0, .int .i64 0, .int .i64 0], .int .i64 11]) ∧ Below w.heap.size w w') ∨
    (∃ f t a cf An' cn', fromL L (helpL L now g dead) g = some f ∧ chooseL L now g dead = some t ∧ r = .returned (.tuple #[.agg #[.int .i64 (g : Int), .int .i64 (p : Int), .slice (some a) f.length cf, .int .i64 t.disk, .int .i64 t.block], .int .i64 0]) ∧
      OwS w' w.heap.size 3 1 (.slice (some a) f.length cf) (f.map natC) ∧ OwS w' w.heap.size 62 4 (.slice An' (withM now ⟨g, p, t⟩).length cn') ((withM now ⟨g, p, t⟩).map Mv.cells) ∧
      PlnB w' X L A c An' (withM now ⟨g, p, t⟩).length cn' Ad cd ∧ BelX w.heap.size X w w')) := fun _ _ => Iff.rfl
  generalize AddP L now dead g p X A c Ad cd w = AP at *
  unfold HlpQ at HHP
  unfold layAgg Plc.agg at *
  simp only at HCH
  have htz : ∀ W : World, World.alloc W (.cells #[.int .i64 0, .int .i64 0, .slice none 0 0, .int .i64 0, .int .i64 0] 52) = World.alloc W (.cells #[.int .i64 0, .int .i64 0, .slice none 0 0, .int .i64 0, .int .i64 0] 52) := fun _ => rfl
  clear hv hM hD hip hce htz
  go_enter Tryz.func33, Tryz.ntmps33
  go_upto_region 1 with (fail)
  generalize hW0 : w.alloc _ = w0
  have hm0 : w0.heap[w.heap.size]? = some (.cells #[.int .i64 (g : Int), .int .i64 (p : Int)] 78) := by rw [← hW0]; exact heap_alloc_new w _
  have hb0 : Below w.heap.size w w0 := by rw [← hW0]; exact below_laid
  have hz0 : w0.heap.size = w.heap.size + 1 := by rw [← hW0]; simp
  generalize hW1 : w0.alloc _ = w1
  have hm1 : w1.heap[w.heap.size]? = some (.cells #[.int .i64 (g : Int), .int .i64 (p : Int)] 78) := by rw [← hW1, ← hm0]; exact (below_laid (w := w0)).block _ (by omega)
  have ht1 : w1.heap[w.heap.size + 1]? = some (.cells #[.int .i64 0, .int .i64 0, .slice none 0 0, .int .i64 0, .int .i64 0] 52) := by rw [← hW1, ← hz0]; exact heap_alloc_new w0 _
  have hb1 : Below w.heap.size w w1 := by rw [← hW1]; exact hb0.trans (below_laid.mono hb0.size)
  have hz1 : w1.heap.size = w.heap.size + 2 := by rw [← hW1]; simp [hz0]
  have HP1 := Lib.hid (HP.out.below hb1 HP.out.lt)
  have HB1 := Lib.hid hb1
  have HM1 := Lib.hid hm1
  have HT1 := Lib.hid ht1
  have m0 : w1.cell? ⟨w.heap.size, 0, none⟩ = some (.int .i64 (g : Int)) := by rw [cell_of_row _ _ _ _ _ _ hm1]; rfl
  have hXw := HP.out.lt
  clear hW0 hW1 hm0 hb0 hz0 hm1 ht1 hb1
  go_wp2_with fail
  refine (HHP.out w1 (HV.out.below HB1.out (Nat.le_refl _)) (HM.out.below' HB1.out (Nat.le_refl _)) (HD.out.below' HB1.out (Nat.le_refl _)) HP1.out HB1.out.size).mono ?_
  rintro r w2 ⟨hr, hb2⟩
  have HB2 := Lib.hid (HB1.out.trans (hb2.mono HB1.out.size))
  have HP2 := Lib.hid (HP1.out.below hb2 HP1.out.lt)
  have HM2 : Hid (w2.heap[w.heap.size]? = some (.cells #[.int .i64 (g : Int), .int .i64 (p : Int)] 78)) := (hb2.block _ (by omega)).trans HM1.out
  have HT2 : Hid (w2.heap[w.heap.size + 1]? = some (.cells #[.int .i64 0, .int .i64 0, .slice none 0 0, .int .i64 0, .int .i64 0] 52)) := (hb2.block _ (by omega)).trans HT1.out
  have hz2 : w.heap.size + 2 ≤ w2.heap.size := by have := hb2.size; omega
  rw [hz1] at hr
  clear hb2 HHP HP1 HB1 HM1 HT1 hz1 m0
  rcases hr with ⟨hfn, rfl⟩ | ⟨a, cf, hfs, rfl, hof⟩
  · obtain ⟨x0, x1, x2, x3, x4, f0, f1, f2, f3, f4⟩ := tsk_cells HT2.out
    have HRR := Lib.hid (fun W h => (HDEF.out W _).2 (.inl ⟨hfn, rfl, h⟩))
    clear hfn HDEF
    have HBE : Hid (∀ a b c d e : Value, Below w.heap.size w (((((w2.setCell ⟨w.heap.size + 1, 0, none⟩ a).setCell ⟨w.heap.size + 1, 1, none⟩ b).setCell ⟨w.heap.size + 1, 2, none⟩ c).setCell ⟨w.heap.size + 1, 3, none⟩ d).setCell ⟨w.heap.size + 1, 4, none⟩ e)) := fun a b c d e => ((((HB2.out.setCell (by simp) a).setCell (by simp) b).setCell (by simp) c).setCell (by simp) d).setCell (by simp) e
    go_wp2
    (try simp only [Exit.inBlock, Exit.then])
    refine bodyPost_ret (v := .tuple #[.agg #[.int .i64 0, .int .i64 0, .slice none 0 0, .int .i64 0, .int .i64 0], .int .i64 12]) ?_ rfl (HRR.out _ (HBE.out _ _ _ _ _))
    rw [results_cell_tmp rfl]
    go_simp
  · obtain ⟨f, hff⟩ : ∃ f, fromV L (helpL L now g dead) g = f := ⟨_, rfl⟩
    rw [hff] at hfs hof ⊢
    have HOF := Lib.hid hof
    have HFS := Lib.hid hfs
    have HKS : Hid (∀ W, Below w2.heap.size w2 W → (W.cell? ⟨X, 0, none⟩ = some (.int .i64 (L.disks : Int)) ∧ W.cell? ⟨X, 1, none⟩ = some (.slice A L.n c) ∧ W.cell? ⟨X, 2, none⟩ = some (.int .i64 (L.tiles : Int)) ∧ W.cell? ⟨X, 3, none⟩ = some (.int .i64 (L.spare : Int)) ∧ W.cell? ⟨X, 4, none⟩ = some (.slice An now.length cn) ∧ W.cell? ⟨X, 5, none⟩ = some (.slice Ad L.disks cd) ∧ W.cell? ⟨w.heap.size, 0, none⟩ = some (.int .i64 (g : Int)))) := fun W hW => by
      obtain ⟨a0, a1, a2, a3, a4, a5⟩ := (HP2.out.below hW HP2.out.lt).cells
      refine ⟨a0, a1, a2, a3, a4, a5, ?_⟩
      rw [cell_of_row _ _ _ _ _ _ ((hW.block _ (by omega)).trans HM2.out)]
      rfl
    have HCW : Hid (∀ W, Below w2.heap.size w2 W → Calls Tryz.prog 64 #[.agg #[.int .i64 (L.disks : Int), .slice A L.n c, .int .i64 (L.tiles : Int), .int .i64 (L.spare : Int)], .slice An now.length cn, .int .i64 (g : Int), .slice Ad L.disks cd] W fun r w' => r = .returned (.tuple #[.agg #[.int .i64 pd, .int .i64 pb], .int .i64 ec]) ∧ Below W.heap.size W w' ∧ Below w2.heap.size w2 w') := fun W hW => by
      have hwW := HB2.out.trans (hW.mono HB2.out.size)
      exact (HCH.out W (HV.out.below hwW (Nat.le_refl _)) (HM.out.below' hwW (Nat.le_refl _)) (HD.out.below' hwW (Nat.le_refl _)) hwW.size).mono fun r w' h => ⟨h.1, h.2, hW.trans (h.2.mono hW.size)⟩
    clear hff hof hfs HCH
    go_upto_region 4 with (fail)
    go_cut [7, 8] (fun s7 s8 wx => ∃ S, s8 = .pointer (some ⟨S, 0, none⟩) ∧ s7 = .int .i64 ec ∧ PlB wx S ⟨pd, pb⟩ ∧ Below w2.heap.size w2 wx)
    case first =>
      go_region_held3 (fun W => W.cell? ⟨X, 0, none⟩ = some (.int .i64 (L.disks : Int)) ∧ W.cell? ⟨X, 1, none⟩ = some (.slice A L.n c) ∧ W.cell? ⟨X, 2, none⟩ = some (.int .i64 (L.tiles : Int)) ∧ W.cell? ⟨X, 3, none⟩ = some (.int .i64 (L.spare : Int)) ∧ W.cell? ⟨X, 4, none⟩ = some (.slice An now.length cn) ∧ W.cell? ⟨X, 5, none⟩ = some (.slice Ad L.disks cd) ∧ W.cell? ⟨w.heap.size, 0, none⟩ = some (.int .i64 (g : Int)))
        (first | with_reducible exact HKS.out _ (Below.refl w2.heap.size w2) | with_reducible exact HKS.out _ (Below.refl w2.heap.size w2).drew | with_reducible exact HKS.out _ ((Below.refl w2.heap.size w2).alloc (Nat.le_refl _) _) | with_reducible exact HKS.out _ ((Below.refl w2.heap.size w2).alloc (Nat.le_refl _) _).drew | with_reducible exact HKS.out _ ((Below.refl w2.heap.size w2).drew.alloc (Nat.le_refl _) _) | with_reducible exact HKS.out _ hbB | with_reducible exact HKS.out _ hbB.drew | with_reducible exact HKS.out _ (hbB.alloc hbB.size _) | with_reducible exact HKS.out _ ((hbB.setCell (Nat.le_refl _) _).setCell (Nat.le_refl _) _) | (trace_state; fail))
        (first
          | (go_at_call 64; first
            | ((with_reducible refine (HCW.out _ (Below.refl w2.heap.size w2)).mono ?_); rintro r wB ⟨rfl, hbQ, hbB⟩)
            | ((with_reducible refine (HCW.out _ (Below.refl w2.heap.size w2).drew).mono ?_); rintro r wB ⟨rfl, hbQ, hbB⟩)
            | ((with_reducible refine (HCW.out _ ((Below.refl w2.heap.size w2).alloc (Nat.le_refl _) _)).mono ?_); rintro r wB ⟨rfl, hbQ, hbB⟩; have hz : PlB wB w2.heap.size ⟨0, 0⟩ := (hbQ.block _ (by simp)).trans (heap_alloc_new w2 _); obtain ⟨y0, y1, g0, g1⟩ := hz.cells)
            | ((with_reducible refine (HCW.out _ ((Below.refl w2.heap.size w2).alloc (Nat.le_refl _) _).drew).mono ?_); rintro r wB ⟨rfl, hbQ, hbB⟩; have hz : PlB wB w2.heap.size ⟨0, 0⟩ := (hbQ.block _ (by simp)).trans (heap_alloc_new w2 _); obtain ⟨y0, y1, g0, g1⟩ := hz.cells)
            | ((with_reducible refine (HCW.out _ ((Below.refl w2.heap.size w2).drew.alloc (Nat.le_refl _) _)).mono ?_); rintro r wB ⟨rfl, hbQ, hbB⟩; have hz : PlB wB w2.heap.size ⟨0, 0⟩ := (hbQ.block _ (by simp)).trans (heap_alloc_new w2.drew _); obtain ⟨y0, y1, g0, g1⟩ := hz.cells)
            | (trace_state; fail))
          | fail)
      all_goals
        go_wp2_with fail
        go_meet
        refine ⟨_, rfl, rfl, ?_, ?_⟩
        · first
            | exact hz.set ⟨pd, pb⟩
            | exact heap_alloc_new wB _
        · first
            | with_reducible exact hbB.alloc hbB.size _
            | with_reducible exact (hbB.setCell (Nat.le_refl _) _).setCell (Nat.le_refl _) _
    obtain ⟨S, rfl, rfl, hpl, hbc⟩ := hcut
    have HB3 := Lib.hid (HB2.out.trans (hbc.mono HB2.out.size))
    have HP3 := Lib.hid (HP2.out.below hbc HP2.out.lt)
    have HM3 : Hid (wc.heap[w.heap.size]? = some (.cells #[.int .i64 (g : Int), .int .i64 (p : Int)] 78)) := (hbc.block _ (by omega)).trans HM2.out
    have HT3 : Hid (wc.heap[w.heap.size + 1]? = some (.cells #[.int .i64 0, .int .i64 0, .slice none 0 0, .int .i64 0, .int .i64 0] 52)) := (hbc.block _ (by omega)).trans HT2.out
    have HO3 := Lib.hid (HOF.out.below hbc)
    have HPL := Lib.hid hpl
    have hz3 : w.heap.size + 2 ≤ wc.heap.size := by have := hbc.size; omega
    clear HKS HCW HB2 HP2 HM2 HT2 HOF hpl hbc hz2
    generalize wc = w3 at *
    rcases hch : chooseL L now (g : Int) dead with _ | t
    · have h := HC1.out hch
      injection h with h1 h2
      subst h2
      obtain ⟨x0, x1, x2, x3, x4, f0, f1, f2, f3, f4⟩ := tsk_cells HT3.out
      have HRR := Lib.hid (fun W h => (HDEF.out W _).2 (.inr (.inl ⟨f, HFS.out, hch, rfl, h⟩)))
      clear h1 hch HDEF HC1 HC2
      have HBE : Hid (∀ a b c d e : Value, Below w.heap.size w (((((w3.setCell ⟨w.heap.size + 1, 0, none⟩ a).setCell ⟨w.heap.size + 1, 1, none⟩ b).setCell ⟨w.heap.size + 1, 2, none⟩ c).setCell ⟨w.heap.size + 1, 3, none⟩ d).setCell ⟨w.heap.size + 1, 4, none⟩ e)) := fun a b c d e => ((((HB3.out.setCell (by simp) a).setCell (by simp) b).setCell (by simp) c).setCell (by simp) d).setCell (by simp) e
      go_wp2
      (try simp only [Exit.inBlock, Exit.then])
      refine bodyPost_ret (v := .tuple #[.agg #[.int .i64 0, .int .i64 0, .slice none 0 0, .int .i64 0, .int .i64 0], .int .i64 11]) ?_ rfl (HRR.out _ (HBE.out _ _ _ _ _))
      rw [results_cell_tmp rfl]
      go_simp
    · have h := HC2.out t hch
      injection h with h1 h2
      subst h2
      obtain ⟨td, tb⟩ := t
      injection h1 with h3 h4
      subst h3 h4
      go_upto_region 7 with (fail)
      obtain ⟨l0, l1, l2, l3, l4, l5⟩ := HP3.out.cells
      obtain ⟨p0, p1, -, -⟩ := HPL.out.cells
      have m0 : w3.cell? ⟨w.heap.size, 0, none⟩ = some (.int .i64 (g : Int)) := by rw [cell_of_row _ _ _ _ _ _ HM3.out]; rfl
      have m1 : w3.cell? ⟨w.heap.size, 1, none⟩ = some (.int .i64 (p : Int)) := by rw [cell_of_row _ _ _ _ _ _ HM3.out]; rfl
      have hcs := choose_spec hch
      have happ : appR L now ⟨g, p, ⟨pd, pb⟩⟩ = (withM now ⟨g, p, ⟨pd, pb⟩⟩, 0) := by
        unfold appR
        rw [if_neg (by rw [hval]; decide)]
        exact (fits_apply HX.out.ok HOK.out HIP.out hch).1
      have hwm : PlWf ⟨pd, pb⟩ := toOk_wf HX.out hcs.1
      have HAC : Hid (∀ W, Below w3.heap.size w3 W → Calls Tryz.prog 24 #[.agg #[.int .i64 (L.disks : Int), .slice A L.n c, .int .i64 (L.tiles : Int), .int .i64 (L.spare : Int)], .slice An now.length cn, .agg #[.int .i64 (g : Int), .int .i64 (p : Int), .int .i64 pd, .int .i64 pb]] W fun r w' => ∃ An' cn', r = .returned (.tuple #[.slice An' (withM now ⟨g, p, ⟨pd, pb⟩⟩).length cn', .int .i64 0]) ∧ OwS w' w3.heap.size 62 4 (.slice An' (withM now ⟨g, p, ⟨pd, pb⟩⟩).length cn') ((withM now ⟨g, p, ⟨pd, pb⟩⟩).map Mv.cells) ∧ Below w3.heap.size w3 w') := fun W hW => by
        have hwW := HB3.out.trans (hW.mono HB3.out.size)
        have h := HAP.out ⟨pd, pb⟩ W hwm (HV.out.below hwW (Nat.le_refl _)) (HM.out.below' hwW (Nat.le_refl _)) hwW.size
        rw [happ] at h
        unfold Mv.agg at h
        exact h.mono fun r w' h => by
          obtain ⟨⟨v, hr, ho⟩, hb⟩ := h
          obtain ⟨An', cn', e, -, -⟩ := ho.form
          subst e
          rw [List.length_map] at ho hr
          exact ⟨An', cn', hr, ho.mono hW.size, hW.trans (hb.mono hW.size)⟩
      have HX4 : Hid (∀ W, Below w3.heap.size w3 W → W.cell? ⟨X, 4, none⟩ = some (.slice An now.length cn) ∧ W.frozen? ⟨X, 4, none⟩ = false) := fun W hW => by
        have h := HP3.out.below hW HP3.out.lt
        exact ⟨h.cells.2.2.2.2.1, frozen_of_row _ _ _ _ _ h⟩
      have HBd : Hid (Below w3.heap.size w3 w3.drew) := (Below.refl _ _).drew
      clear hcs happ hwm HAP HC1 HC2
      have HCK := Lib.hid hch
      clear hch
      go_cut [7] (fun s7 wx => ∃ An' cn' wA, s7 = .int .i64 0 ∧ wx = wA.setCell ⟨X, 4, none⟩ (.slice An' (withM now ⟨g, p, ⟨pd, pb⟩⟩).length cn') ∧ OwS wA w3.heap.size 62 4 (.slice An' (withM now ⟨g, p, ⟨pd, pb⟩⟩).length cn') ((withM now ⟨g, p, ⟨pd, pb⟩⟩).map Mv.cells) ∧ Below w3.heap.size w3 wA)
      case first =>
        refine wp_region_any (by kernel_rfl) ?_
        (try change wpAny _ _ _ _ _ _ _ (World.drew _))
        refine wpAny_take (i := 0) (v := ?_) rfl (by kernel_rfl) (by kernel_rfl) (by kernel_rfl) (fun _ _ _ h => h) (Or.inl ⟨by rfl, ?_⟩) ?_
        rotate_left
        · (intro W; go_simp; try with_reducible rfl)
        simp only [List.getElem_toArray, List.getElem_cons_zero, List.getElem_cons_succ, Act.put, List.setIfInBounds_toArray, List.set_cons_zero, List.set_cons_succ]
        refine any_head 1 14 (fuel := 8) (by kernel_rfl) ?_
        simp only [List.take_succ_cons, List.take_zero, List.drop_succ_cons, List.drop_zero]
        repeat (go_big_quiet_step (fail))
        refine wpQuiet_nil ?_
        intro wq hwq
        have hbq : Below w3.heap.size w3 wq := by
          obtain ⟨nq, rfl⟩ := hwq
          exact below_drewN (Below.refl _ _).drew _
        clear hwq
        refine wpAny_ready (rs := [15]) (by kernel_rfl) (by simp) (AllReady.cons rfl (fun K hK => ?_) AllReady.nil)
        (go_simp; go_wp2_with (go_at_call 24; ((with_reducible refine (HAC.out _ hbq).mono ?_); rintro r wA ⟨An', cn', rfl, hownA, hbA⟩)))
        (try refine hK _ _ ?_)
        (try clear hK K)
        (try simp only [List.getElem_toArray, List.getElem_cons_zero, List.getElem_cons_succ, Act.put, List.setIfInBounds_toArray, List.set_cons_zero, List.set_cons_succ])
        obtain ⟨z4, zf⟩ := HX4.out wA hbA
        refine wpAny_take (i := 16) (v := ?_) rfl (by kernel_rfl) (by kernel_rfl) (by kernel_rfl) (fun _ _ _ h => h) (Or.inl ⟨by rfl, ?_⟩) ?_
        rotate_left
        · (intro W; go_simp; try with_reducible rfl)
        simp only [List.getElem_toArray, List.getElem_cons_zero, List.getElem_cons_succ, Act.put, List.setIfInBounds_toArray, List.set_cons_zero, List.set_cons_succ]
        refine wpAny_take (i := 17) (v := ?_) rfl (by kernel_rfl) (by kernel_rfl) (by kernel_rfl) (fun _ _ _ h => h) (Or.inl ⟨by rfl, ?_⟩) ?_
        rotate_left
        · (intro W; go_simp; try with_reducible rfl)
        simp only [List.getElem_toArray, List.getElem_cons_zero, List.getElem_cons_succ, Act.put, List.setIfInBounds_toArray, List.set_cons_zero, List.set_cons_succ]
        refine wpAny_take (i := 18) (v := ?_) rfl (by kernel_rfl) (by kernel_rfl) (by kernel_rfl) (fun _ _ _ h => h) (Or.inl ⟨by rfl, ?_⟩) ?_
        rotate_left
        · (intro W; go_simp; try with_reducible rfl)
        simp only [List.getElem_toArray, List.getElem_cons_zero, List.getElem_cons_succ, Act.put, List.setIfInBounds_toArray, List.set_cons_zero, List.set_cons_succ]
        refine wpAny_take (i := 19) (v := ?_) rfl (by kernel_rfl) (by kernel_rfl) (by kernel_rfl) (fun _ _ _ h => h) (Or.inl ⟨by rfl, ?_⟩) ?_
        rotate_left
        · (intro W; go_simp; try with_reducible rfl)
        simp only [List.getElem_toArray, List.getElem_cons_zero, List.getElem_cons_succ, Act.put, List.setIfInBounds_toArray, List.set_cons_zero, List.set_cons_succ]
        refine wpAny_take (i := 20) (v := ?_) rfl (by kernel_rfl) (by kernel_rfl) (by kernel_rfl) (fun _ _ _ h => h) (Or.inl ⟨by rfl, ?_⟩) ?_
        rotate_left
        · (intro W; go_simp; try with_reducible rfl)
        simp only [List.getElem_toArray, List.getElem_cons_zero, List.getElem_cons_succ, Act.put, List.setIfInBounds_toArray, List.set_cons_zero, List.set_cons_succ]
        refine wpAny_ready (rs := [21]) (by kernel_rfl) (by simp) (AllReady.cons rfl (fun K hK => ?_) AllReady.nil)
        go_simp
        (try refine hK _ _ ?_)
        (try clear hK K)
        (try simp only [List.getElem_toArray, List.getElem_cons_zero, List.getElem_cons_succ, Act.put, List.setIfInBounds_toArray, List.set_cons_zero, List.set_cons_succ])
        refine wpAny_ready (rs := [22]) (by kernel_rfl) (by simp) (AllReady.cons rfl (fun K hK => ?_) AllReady.nil)
        go_simp
        (try refine hK _ _ ?_)
        (try clear hK K)
        (try simp only [List.getElem_toArray, List.getElem_cons_zero, List.getElem_cons_succ, Act.put, List.setIfInBounds_toArray, List.set_cons_zero, List.set_cons_succ])
        refine wpAny_done (by kernel_rfl) ?_ _
        go_wp2_with fail
        go_meet
        exact ⟨An', cn', wA, rfl, rfl, hownA, hbA⟩
      obtain ⟨An', cn', wA, rfl, rfl, hoA, hbA⟩ := hcut
      have hSX := HPL.out.ne_pln HP3.out
      have hs3 := HB3.out.size
      have hE : AddE w X L A c An' (withM now ⟨g, p, ⟨pd, pb⟩⟩) cn' Ad cd a f cf (wA.setCell ⟨X, 4, none⟩ (.slice An' (withM now ⟨g, p, ⟨pd, pb⟩⟩).length cn')) :=
        ⟨(HO3.out.below hbA).far (own_ne (HO3.out.below hbA) (show X < w.heap.size + 2 by omega)) _, (hoA.mono hz3).far (own_ne hoA (show X < w3.heap.size by omega)) _, (HP3.out.below hbA HP3.out.lt).now _ _ _, (BelX.of (HB3.out.trans (hbA.mono hs3)) (Nat.le_refl _)).setCell (p := ⟨X, 4, none⟩) (.inr rfl) _⟩
      have HM4 : Hid ((wA.setCell ⟨X, 4, none⟩ (.slice An' (withM now ⟨g, p, ⟨pd, pb⟩⟩).length cn')).heap[w.heap.size]? = some (.cells #[.int .i64 (g : Int), .int .i64 (p : Int)] 78)) := (heap_setCell_other wA _ _ _ (by show w.heap.size ≠ X; omega)).trans ((hbA.block _ (by omega)).trans HM3.out)
      have HT4 : Hid ((wA.setCell ⟨X, 4, none⟩ (.slice An' (withM now ⟨g, p, ⟨pd, pb⟩⟩).length cn')).heap[w.heap.size + 1]? = some (.cells #[.int .i64 0, .int .i64 0, .slice none 0 0, .int .i64 0, .int .i64 0] 52)) := (heap_setCell_other wA _ _ _ (by show w.heap.size + 1 ≠ X; omega)).trans ((hbA.block _ (by omega)).trans HT3.out)
      have HPL4 : Hid (PlB (wA.setCell ⟨X, 4, none⟩ (.slice An' (withM now ⟨g, p, ⟨pd, pb⟩⟩).length cn')) S ⟨pd, pb⟩) := (HPL.out.below hbA HPL.out.lt).far hSX _
      have HE4 := Lib.hid hE
      clear hoA hbA hE hSX hs3 HB3 HP3 HM3 HT3 HO3 HPL hz3 l0 l1 l2 l3 l4 l5 p0 p1 m0 m1 HAC HX4 HBd
      generalize wA.setCell _ _ = w4 at *
      have HRR := Lib.hid (fun (W : World) (h : AddE w X L A c An' (withM now ⟨g, p, ⟨pd, pb⟩⟩) cn' Ad cd a f cf W) => (HDEF.out W _).2 (.inr (.inr ⟨f, ⟨pd, pb⟩, a, cf, An', cn', HFS.out, HCK.out, rfl, h.of_.mono (by omega), h.om.mono (by omega), h.pl, h.bel⟩)))
      have HSE : Hid (∀ y0 y1 y2 y3 y4 : Value, AddE w X L A c An' (withM now ⟨g, p, ⟨pd, pb⟩⟩) cn' Ad cd a f cf (((((w4.setCell ⟨w.heap.size + 1, 0, none⟩ y0).setCell ⟨w.heap.size + 1, 1, none⟩ y1).setCell ⟨w.heap.size + 1, 2, none⟩ y2).setCell ⟨w.heap.size + 1, 3, none⟩ y3).setCell ⟨w.heap.size + 1, 4, none⟩ y4)) := fun y0 y1 y2 y3 y4 => ((((HE4.out.set hXw 0 y0).set hXw 1 y1).set hXw 2 y2).set hXw 3 y3).set hXw 4 y4
      have m0 : w4.cell? ⟨w.heap.size, 0, none⟩ = some (.int .i64 (g : Int)) := by rw [cell_of_row _ _ _ _ _ _ HM4.out]; rfl
      have m1 : w4.cell? ⟨w.heap.size, 1, none⟩ = some (.int .i64 (p : Int)) := by rw [cell_of_row _ _ _ _ _ _ HM4.out]; rfl
      obtain ⟨x0, x1, x2, x3, x4, f0, f1, f2, f3, f4⟩ := tsk_cells HT4.out
      obtain ⟨p0, p1, -, -⟩ := HPL4.out.cells
      clear HDEF HFS HCK
      go_wp2
      (try simp only [Exit.inBlock, Exit.then])
      refine bodyPost_ret (v := .tuple #[.agg #[.int .i64 (g : Int), .int .i64 (p : Int), .slice (some a) f.length cf, .int .i64 pd, .int .i64 pb], .int .i64 0]) ?_ rfl (HRR.out _ (HSE.out _ _ _ _ _))
      rw [results_cell_tmp rfl]
      go_simp
end Go.Proofs.YteglnekkkhpikaaGreat
