/- Walk of replay.Decode. -/
import Derived.Test.YtjgjofepedcfnaaGreatRsJ
namespace Go.Proofs.YtjgjofepedcfnaaGreat
open Go.RowKit
theorem rdU_val (s : Rst) : (rdU s).2.1 = 0 ∨ rdU s = (0, 5, none) := by
 rcases s with _ | l
 ·exact .inr rfl
 ·rcases h : uvD 0 0 l with _ | ⟨m, l'⟩
  ·right; simp [rdU, rdG, h]
  ·left; simp [rdU, rdG, h]
theorem rdC_most (s : Rst) (most : Nat) : (rdC most s).1 ≤ most := by
 unfold rdC
 split
 ·exact Nat.zero_le _
 ·rename_i h
  rcases rdU_val s with h0 | h0
  ·exact Nat.le_of_not_lt fun e => h ⟨h0, e⟩
  ·rw [h0]; exact Nat.zero_le _
theorem rdC_le (s : Rst) (most : Nat) : (rdL (rdC most s).2.2).length ≤ (rdL s).length := by
 unfold rdC
 split
 ·simp [rdL]
 ·exact rdU_le s
theorem rdB_le (s : Rst) : (rdL (rdB s).2.2).length ≤ (rdL s).length := by
 rcases h : (rdB s).2.2 with _ | l
 ·simp [rdL]
 ·obtain ⟨-, l0, rfl, hl⟩ := rdB_some h
  simp only [rdL, Option.getD]
  omega
theorem mvC_sub {s : Rst} (hc : ∀ x ∈ rdL s, x < 256) : ∀ x ∈ rdL (mvC s).2, x < 256 := rdC_sub (rdC_sub (rdC_sub (rdC_sub hc)))
theorem mvC_le (s : Rst) : (rdL (mvC s).2).length ≤ (rdL s).length := Nat.le_trans (rdC_le _ _) (Nat.le_trans (rdC_le _ _) (Nat.le_trans (rdC_le _ _) (rdC_le _ _)))
theorem mvP_sub {b : Rst} (hc : ∀ x ∈ rdL b, x < 256) : ∀ k, ∀ x ∈ rdL (mvP b k).2, x < 256
 | 0 => hc
 | k + 1 => mvC_sub (mvP_sub hc k)
theorem mvP_le (b : Rst) : ∀ k, (rdL (mvP b k).2).length ≤ (rdL b).length
 | 0 => Nat.le_refl _
 | k + 1 => Nat.le_trans (mvC_le _) (mvP_le b k)
theorem mvP_len (b : Rst) : ∀ k, (mvP b k).1.length = k
 | 0 => rfl
 | k + 1 => by simp [mvP, mvP_len b k]
theorem mvP_wf (b : Rst) : ∀ k, ∀ m ∈ (mvP b k).1, PlWf m.to
 | 0, m, h => by simp [mvP] at h
 | k + 1, m, h => by
  simp only [mvP, List.mem_append, List.mem_singleton] at h
  rcases h with h | h
  ·exact mvP_wf b k m h
  ·rw [h]
   refine ⟨small_wf _ ?_, small_wf _ ?_⟩
   ·exact Nat.lt_of_le_of_lt (rdC_most _ _) (by decide)
   ·exact Nat.lt_of_le_of_lt (rdC_most _ _) (by decide)
theorem ntS_sub {b : Rst} (hc : ∀ x ∈ rdL b, x < 256) : ∀ k, ∀ x ∈ rdL (ntS b k).2, x < 256
 | 0 => hc
 | k + 1 => rdB_sub (ntS_sub hc k)
theorem ntS_le (b : Rst) : ∀ k, (rdL (ntS b k).2).length ≤ (rdL b).length
 | 0 => Nat.le_refl _
 | k + 1 => Nat.le_trans (rdB_le _) (ntS_le b k)
theorem ntS_pre {b : Rst} {k i : Nat} {l : List Nat} (h : (ntS b k).2 = some l) (hi : i ≤ k) : ∃ l', (ntS b i).2 = some l' := by
 induction k generalizing l with
 | zero =>
  obtain rfl : i = 0 := by omega
  exact ⟨l, h⟩
 | succ k ih =>
  by_cases hk : i = k + 1
  ·subst hk; exact ⟨l, h⟩
  ·obtain ⟨-, l1, h1, -⟩ := rdB_some h
   exact ih h1 (by omega)
theorem lsS_len (w : Nat) (b : Rst) : ∀ k, (lsS w b k).1.length = k
 | 0 => rfl
 | k + 1 => by simp [lsS, lsS_len w b k]
theorem prS_len (b : Rst) : ∀ k, (prS b k).1.length = k ∧ (prS b k).2.1.length = k
 | 0 => ⟨rfl, rfl⟩
 | k + 1 => by simp [prS, prS_len b k]
theorem decP_bad {L : LayD} {l : List Nat} {j : Nat} (hj : j < (dH L l).1) (h : (rdB (ntS (dH L l).2.2 j).2).2.1 ≠ 0) : decP L l = (St.zero, [], 5) := by
 refine if_neg fun hP => h ?_
 obtain ⟨-, lT, hT, -⟩ := rdB_some (rdD_zero hP.1)
 obtain ⟨l1, h1⟩ := ntS_pre hT (show j + 1 ≤ (dH L l).1 by omega)
 exact (rdB_some (s := (ntS (dH L l).2.2 j).2) h1).1
theorem decP_good {L : LayD} {l : List Nat} (h1 : rdD (dU L l).2.2 = 0) (h2 : stOk L ⟨(dA L l).1, (dM L l).1, (dT L l).1⟩ = true) : decP L l = (⟨(dA L l).1, (dM L l).1, (dT L l).1⟩, (dU L l).1, 0) := if_pos ⟨h1, h2⟩
theorem rdB_er (s : Rst) : (rdB s).2.1 = 0 ∨ (rdB s).2.1 = 5 := by
 unfold rdB
 rcases rdU_val s with h | h
 ·rw [if_pos h]
  rcases (rdU s).2.2 with _ | l
  ·exact .inr rfl
  ·simp only [rdT]
   split <;> simp
 ·rw [h]
  exact .inr rfl
theorem rdD_er (s : Rst) : rdD s = 0 ∨ rdD s = 5 := by
 unfold rdD
 split <;> simp
theorem DcI.fin {w1 W : World} {m S p q r n : Nat} {R T : TypeId} {lv mv nv : Value} {Z : St} {s : Rst} (h : DcI w1 m S p q R T lv mv nv Z s W) (hr : r < m) (hn : n ≤ m) :
  StE (fun k => k < n) (((W.setCell ⟨r, 0, none⟩ lv).setCell ⟨r, 1, none⟩ mv).setCell ⟨r, 2, none⟩ nv) (.agg #[lv, mv, nv]) Z := by
 have hS := (h.own S (.inl rfl)).1
 have hF : ¬ FS lv nv r := fun e => by have := (h.own r (.inr e)).1; omega
 have hE : EDc m p r := .inl hr
 have st := ((h.st.setR hE (by omega) hF 0 lv).setR hE (by omega) hF 1 mv).setR hE (by omega) hF 2 nv
 have sw := st.val (E0 := fun k => k < n) fun k hk => .inl (by omega)
 exact fun V hV => (sw.turn (hV.mono fun k _ e => .inl e) fun k hk => hV.block k (FS.lt sw.1 sw.2.2 hk) fun e => by have := (h.own k (.inr hk)).1; omega).reads
theorem DecR.zero {w w' : World} : DecR w (St.zero, [], 5) (.returned (.tuple #[.agg #[.slice none 0 0, .slice none 0 0, .slice none 0 0], .slice none 0 0, .int .i64 5])) w' :=
 ⟨_, none, 0, rfl, StE.zero _ _, fun _ _ => RdS.nil _ _ _ _⟩
set_option maxHeartbeats 8000000 in
set_option maxRecDepth 100000 in
theorem rDecode {L : LayD} {A Ab : Option Addr} {B c cb : Nat} {l : List Nat} (w : World) (hx : LayX L) (hv : GsV w B A L.gs) (hB : B ≤ w.heap.size) (hb : BytS w B Ab l) (hl : l.length ≤ 100000) (hc : ∀ x ∈ l, x < 256) (hG : L.G ≤ 100) :
  Calls Tryz.prog 29 #[layAgg L A c, .slice Ab l.length cb] w fun e w' => DecR w (decP L l) e w' ∧ Below w.heap.size w w' := by
 have HX := Lib.hid hx
 have HY := Lib.hid hb
 have HC := Lib.hid hc
 have HLL := Lib.hid hl
 obtain ⟨R, hR⟩ : ∃ R, decP L l = R := ⟨_, rfl⟩
 have HR := Lib.hid hR
 rw [hR]
 have hw16 := hx.ok.w.2
 have HLV : Hid (∀ W, Below w.heap.size w W → Calls Tryz.prog 34 #[.agg #[.int .i64 L.disks, .slice A L.n c, .int .i64 L.tiles, .int .i64 L.spare]] W fun r w' => r = .returned (.bool true) ∧ Below W.heap.size W w') := fun W hW => lvalid_any (A := A) (c := c) W hx (hv.below hW hB) (Nat.le_trans hB hW.size)
 have HLG : Hid (∀ W, Below w.heap.size w W → Calls Tryz.prog 35 #[.agg #[.int .i64 L.disks, .slice A L.n c, .int .i64 L.tiles, .int .i64 L.spare]] W fun r w' => r = .returned (.int .i64 (L.G : Int)) ∧ Below W.heap.size W w') := fun W hW => lgroups2_any (A := A) (c := c) W hx (hv.below hW hB) (Nat.le_trans hB hW.size)
 have HLW : Hid (∀ W, Below w.heap.size w W → Calls Tryz.prog 37 #[.agg #[.int .i64 L.disks, .slice A L.n c, .int .i64 L.tiles, .int .i64 L.spare]] W fun r w' => r = .returned (.int .i64 (L.w : Int)) ∧ Below W.heap.size W w') := fun W hW => lwidth_any (A := A) (c := c) W hx (hv.below hW hB) (Nat.le_trans hB hW.size)
 have HVD : Hid (∀ (W : World) (v : Value) (Z : St), Below w.heap.size w W → StV W W.heap.size v Z → (∀ m ∈ Z.ms, PlWf m.to) → Z.ls.length ≤ 100000 → Z.ms.length ≤ 10000 → Z.nt.length ≤ 1000000 → Calls Tryz.prog 21 #[.agg #[.int .i64 L.disks, .slice A L.n c, .int .i64 L.tiles, .int .i64 L.spare], v] W fun r w' => r = .returned (.bool (stOk L Z)) ∧ Below W.heap.size W w') := fun W v Z hW hs h1 h2 h3 h4 => rvalidS W hx ((hv.below hW hB).more (Nat.le_trans hB hW.size)) hs h1 (Nat.le_refl _) h2 h3 h4
 clear hx hv hb hc hR hl
 unfold layAgg
 go_enter Tryz.func29, Tryz.ntmps29
 go_upto_region 1 with (fail)
 obtain ⟨w1, hw1', ha, hc, hb, hz⟩ := two_laid w (.cells #[.int .i64 L.disks, .slice A L.n c, .int .i64 L.tiles, .int .i64 L.spare] 36) (.cells #[.slice none 0 0, .slice none 0 0, .slice none 0 0] 41)
 rw [hw1']
 have HLY : Hid (∀ W, Below w1.heap.size w1 W → (W.cell? ⟨w.heap.size, 0, none⟩ = some (.int .i64 L.disks) ∧ W.cell? ⟨w.heap.size, 1, none⟩ = some (.slice A L.n c) ∧ W.cell? ⟨w.heap.size, 2, none⟩ = some (.int .i64 L.tiles) ∧ W.cell? ⟨w.heap.size, 3, none⟩ = some (.int .i64 L.spare))) := fun W hW => by
  have h := (hW.block _ (by omega)).trans ha
  exact ⟨by rw [cell_of_row _ _ _ _ _ _ h]; rfl, by rw [cell_of_row _ _ _ _ _ _ h]; rfl, by rw [cell_of_row _ _ _ _ _ _ h]; rfl, by rw [cell_of_row _ _ _ _ _ _ h]; rfl⟩
 have HRS : Hid (∀ W, Below w1.heap.size w1 W → W.heap[w.heap.size + 1]? = some (.cells #[.slice none 0 0, .slice none 0 0, .slice none 0 0] 41 (0, 0))) := fun W hW => (hW.block _ (by omega)).trans hc
 have HBW : Hid (∀ W, Below w1.heap.size w1 W → Below w.heap.size w W) := fun W hW => hb.trans (hW.mono (by omega))
 have HZ := Lib.hid hz
 have HY1 := Lib.hid (HY.out.below' hb hB)
 obtain ⟨l0, l1, l2, l3⟩ := HLY.out w1 (Below.refl _ _)
 clear ha hc hb hw1' hz HY
 go_wp2_with fail
 refine (HLV.out w1 (HBW.out w1 (Below.refl _ _))).mono ?_
 rintro r w2 ⟨rfl, hb2⟩
 have HB2 := Lib.hid hb2
 have HNW := Lib.hid (cNew (c := cb) w2 (HY1.out.below' hb2 (by have := HZ.out; omega)) (Nat.le_trans hB (HBW.out w2 hb2).size) (by have := HLL.out; omega))
 clear l0 l1 l2 l3 hb2 HY1
 go_wp2_with fail
 refine HNW.out.mono ?_
 rintro r w3 ⟨p, rfl, hp2, hrd, hb3⟩
 have HRD := Lib.hid hrd
 have hpl := hrd.lt
 have HB3 := Lib.hid (HB2.out.trans (hb3.mono HB2.out.size))
 have HQ2 : Hid (w1.heap.size ≤ w2.heap.size) := HB2.out.size
 clear hrd hb3 HNW HB2
 go_upto_region 5 with (fail)
 have HD4 : Hid (DcI w1 w1.heap.size w3.heap.size p w2.heap.size 169 41 (.slice none 0 0) (.slice none 0 0) (.slice none 0 0) ⟨[], [], []⟩ (some l) (w3.alloc (.cells #[.slice none 0 0, .slice none 0 0, .slice none 0 0] 41))) := by
  refine ⟨HB3.out.alloc HB3.out.size _, HRD.out.call below_laid, ⟨heap_alloc_new w3 _, LvW.nil _ _, MvW.nil _ _, NtW.nil _ _, by decide, by decide⟩, fun k hk => ?_, HQ2.out⟩
  rcases hk with rfl | hk | hk
  ·exact ⟨HB3.out.size, .inr hpl⟩
  ·cases hk
  ·cases hk
 generalize w3.alloc _ = w4 at *
 obtain ⟨l0, l1, l2, l3⟩ := HLY.out w4 HD4.out.bel
 clear HB3 HRD
 go_wp2_with fail
 refine (HLG.out w4 (HBW.out w4 HD4.out.bel)).mono ?_
 rintro r w5 ⟨rfl, hb5⟩
 have HD5 := Lib.hid (HD4.out.call hb5)
 clear l0 l1 l2 l3 hb5 HD4 HQ2 hpl hp2
 generalize w3.heap.size = S at *
 generalize w2.heap.size = q at *
 go_wp2
 go_loopw [29] (fun s29 wr => ∃ k : Nat, k ≤ L.G ∧ s29 = .int .i64 k ∧ ∃ lv, DcI w1 w1.heap.size S p q 169 41 lv (.slice none 0 0) (.slice none 0 0) ⟨(lsS L.w (some l) k).1, [], []⟩ (lsS L.w (some l) k).2 wr) (fun s29 _ => L.G - (intOf s29).toNat)
 case atStart => exact ⟨0, by omega, rfl, _, HD5.out⟩
 case round =>
  obtain ⟨k, hk, rfl, lv, hD⟩ := hrel
  have HD := Lib.hid hD
  clear hD HD5
  by_cases hkG : k < L.G
  case neg =>
   have hkI : ¬ (k : Int) < (L.G : Int) := by omega
   obtain rfl : k = L.G := by omega
   clear hkG hk
   have HDA : Hid (DcI w1 w1.heap.size S p q 169 41 lv (.slice none 0 0) (.slice none 0 0) ⟨(dA L l).1, [], []⟩ (dA L l).2 wr) := HD.out
   have HCA : Hid (∀ x ∈ rdL (dA L l).2, x < 256) := lsS_sub (b := some l) HC.out L.G
   have HLA : Hid ((rdL (dA L l).2).length ≤ 100000) := Nat.le_trans (lsS_le L.w (some l) L.G) HLL.out
   clear HD
   have hmu : IntKind.i64.wrap ((L.G : Int) * (L.w : Int)) = ((L.G * L.w : Nat) : Int) := by
    have h1 : L.G * L.w ≤ 100 * 16 := Nat.mul_le_mul hG hw16
    rw [← Int.natCast_mul]
    exact wrap_nat _ (by omega)
   have HGW : Hid (L.G * L.w ≤ 1600) := Nat.mul_le_mul hG hw16
   have HCN : Hid (∀ W, Below wr.heap.size wr W → Calls Tryz.prog 66 #[.pointer (some ⟨p, 0, none⟩), .int .i64 ((L.G * L.w : Nat) : Int)] W fun e w' => e = .returned (.tuple #[.int .i64 ((dN L l).1 : Int), .int .i64 ((dN L l).2.1 : Int)]) ∧ DcI w1 w1.heap.size S p q 169 41 lv (.slice none 0 0) (.slice none 0 0) ⟨(dA L l).1, [], []⟩ (dN L l).2.2 w' ∧ (w'.cell? ⟨w.heap.size, 0, none⟩ = some (.int .i64 L.disks) ∧ w'.cell? ⟨w.heap.size, 1, none⟩ = some (.slice A L.n c) ∧ w'.cell? ⟨w.heap.size, 2, none⟩ = some (.int .i64 L.tiles) ∧ w'.cell? ⟨w.heap.size, 3, none⟩ = some (.int .i64 L.spare))) := fun W hW =>
    (cCount (L.G * L.w) W ((HDA.out.call hW).rd) (by have := HLA.out; omega) HCA.out (by have := HGW.out; omega)).mono fun e w' hh => ⟨hh.1, (HDA.out.call hW).turn hh.2.2 hh.2.1, HLY.out w' ((HDA.out.call hW).turn hh.2.2 hh.2.1).bel⟩
   have HNG : Hid ((dN L l).1 ≤ 1600) := Nat.le_trans (rdC_most _ _) HGW.out
   have HGA : Hid (∀ W, Below wr.heap.size wr W → Calls Tryz.prog 35 #[.agg #[.int .i64 L.disks, .slice A L.n c, .int .i64 L.tiles, .int .i64 L.spare]] W fun r w' => r = .returned (.int .i64 (L.G : Int)) ∧ Below wr.heap.size wr w') := fun W hW => (HLG.out W (HBW.out W (HDA.out.bel.trans (hW.mono HDA.out.sp.2.2.2.2.2)))).mono fun r w' hh => ⟨hh.1, hW.trans (hh.2.mono hW.size)⟩
   have HWA : Hid (∀ W, Below wr.heap.size wr W → Calls Tryz.prog 37 #[.agg #[.int .i64 L.disks, .slice A L.n c, .int .i64 L.tiles, .int .i64 L.spare]] W fun r w' => r = .returned (.int .i64 (L.w : Int)) ∧ Below wr.heap.size wr w') := fun W hW => (HLW.out W (HBW.out W (HDA.out.bel.trans (hW.mono HDA.out.sp.2.2.2.2.2)))).mono fun r w' hh => ⟨hh.1, hW.trans (hh.2.mono hW.size)⟩
   have HKS : Hid (∀ W, Below wr.heap.size wr W → (W.cell? ⟨w.heap.size, 0, none⟩ = some (.int .i64 L.disks) ∧ W.cell? ⟨w.heap.size, 1, none⟩ = some (.slice A L.n c) ∧ W.cell? ⟨w.heap.size, 2, none⟩ = some (.int .i64 L.tiles) ∧ W.cell? ⟨w.heap.size, 3, none⟩ = some (.int .i64 L.spare))) := fun W hW => HLY.out W (HDA.out.bel.trans (hW.mono HDA.out.sp.2.2.2.2.2))
   go_upto_region 16 with (fail)
   generalize L.G * L.w = gw at *
   go_cut [14] (fun s14 wx => s14 = .int .i64 ((dN L l).1 : Int) ∧ DcI w1 w1.heap.size S p q 169 41 lv (.slice none 0 0) (.slice none 0 0) ⟨(dA L l).1, [], []⟩ (dN L l).2.2 wx)
   case first =>
    go_region_held3 (fun W => W.cell? ⟨w.heap.size, 0, none⟩ = some (.int .i64 (L.disks : Int)) ∧ W.cell? ⟨w.heap.size, 1, none⟩ = some (.slice A L.n c) ∧ W.cell? ⟨w.heap.size, 2, none⟩ = some (.int .i64 (L.tiles : Int)) ∧ W.cell? ⟨w.heap.size, 3, none⟩ = some (.int .i64 (L.spare : Int)))
     (first | with_reducible exact HKS.out _ (Below.refl wr.heap.size wr) | with_reducible exact HKS.out _ (Below.refl wr.heap.size wr).drew | with_reducible exact HKS.out _ hGb | with_reducible exact HKS.out _ hWb | with_reducible exact HKS.out _ hFb | with_reducible exact hKC | (trace_state; fail))
     (first
      | (go_at_call 35; first
       | ((with_reducible refine (HGA.out _ (Below.refl wr.heap.size wr).drew).mono ?_); rintro r yG ⟨rfl, hGb⟩)
       | ((with_reducible refine (HGA.out _ (Below.refl wr.heap.size wr)).mono ?_); rintro r yG ⟨rfl, hGb⟩)
       | ((with_reducible refine (HGA.out _ hWb).mono ?_); rintro r yG ⟨rfl, hFb⟩)
       | (trace_state; fail))
      | (go_at_call 37; first
       | ((with_reducible refine (HWA.out _ (Below.refl wr.heap.size wr).drew).mono ?_); rintro r yW ⟨rfl, hWb⟩)
       | ((with_reducible refine (HWA.out _ (Below.refl wr.heap.size wr)).mono ?_); rintro r yW ⟨rfl, hWb⟩)
       | ((with_reducible refine (HWA.out _ hGb).mono ?_); rintro r yW ⟨rfl, hFb⟩)
       | (trace_state; fail))
      | (go_at_call 66; (with_reducible refine (HCN.out _ hFb).mono ?_); rintro r yC ⟨rfl, hDC, hKC⟩)
      | fail)
    all_goals
     go_wp2_with fail
     go_meet
     ·exact ⟨rfl, hDC⟩
   obtain ⟨rfl, hDN⟩ := hcut
   have HDN := Lib.hid hDN
   have HCB : Hid (∀ x ∈ rdL (dN L l).2.2, x < 256) := rdC_sub HCA.out
   have HLB : Hid ((rdL (dN L l).2.2).length ≤ 100000) := Nat.le_trans (rdC_le _ _) HLA.out
   clear hDN HCN HGA HWA HKS hmu HCA HLA HDA
   obtain ⟨n, en, sN, hdn⟩ : ∃ n en sN, dN L l = (n, en, sN) := ⟨_, _, _, rfl⟩
   have HDM : Hid (dM L l = mvP sN n) := by rw [Hid]; unfold dM; rw [hdn]
   simp only [hdn] at HDN HCB HLB HNG ⊢
   clear hdn
   generalize wc = wB at *
   have HMI := Lib.hid (HDN.out.moves rfl)
   go_wp2
   go_loopw [76] (fun s76 wr => ∃ j : Nat, j ≤ n ∧ s76 = .int .i64 j ∧ ∃ mv, MvI wB S p q 169 41 lv mv (.slice none 0 0) (mvP sN j).1 (mvP sN j).2 wr) (fun s76 _ => n - (intOf s76).toNat)
   case atStart => exact ⟨0, by omega, rfl, _, HMI.out⟩
   case round =>
    obtain ⟨j, hj, rfl, mv, hM⟩ := hrel
    have HM := Lib.hid hM
    clear hM HMI
    by_cases hjn : j < n
    case pos =>
     have hjI : (j : Int) < (n : Int) := by omega
     generalize wr = wo at *
     go_upto_region 20 with (fail)
     have HT0 : Hid (MvT wo p q 169 89 wo.heap.size #[.int .i64 0, .int .i64 0, .int .i64 0, .int .i64 0] (mvP sN j).2 (wo.alloc (.cells #[.int .i64 0, .int .i64 0, .int .i64 0, .int .i64 0] 89))) := MvT.start HM.out.rd.lt HM.out.rd _ _
     have HCJ0 : Hid (∀ x ∈ rdL (mvP sN j).2, x < 256) := mvP_sub HCB.out j
     have HLJ0 : Hid ((rdL (mvP sN j).2).length ≤ 100000) := Nat.le_trans (mvP_le sN j) HLB.out
     have HMC : Hid (mvP sN (j + 1) = ((mvP sN j).1 ++ [(mvC (mvP sN j).2).1], (mvC (mvP sN j).2).2)) := rfl
     have HML : Hid ((mvP sN j).1.length = j) := mvP_len _ _
     generalize mvP sN j = P at *
     obtain ⟨ms, s0⟩ := P
     simp only at HM HT0 HCJ0 HLJ0 HMC HML
     have HMV : Hid (mvC s0 = (⟨((rdC 4096 s0).1 : Int), ((rdC 16 (rdC 4096 s0).2.2).1 : Int), ⟨((rdC 60 (rdC 16 (rdC 4096 s0).2.2).2.2).1 : Int), ((rdC 65536 (rdC 60 (rdC 16 (rdC 4096 s0).2.2).2.2).2.2).1 : Int)⟩⟩, (rdC 65536 (rdC 60 (rdC 16 (rdC 4096 s0).2.2).2.2).2.2).2.2)) := rfl
     generalize wo.alloc _ = u0 at *
     generalize wo.heap.size = M at *
     have HK : Hid (Calls Tryz.prog 66 #[.pointer (some ⟨p, 0, none⟩), .int .i64 4096] u0 fun e w' => e = .returned (.tuple #[.int .i64 ((rdC 4096 s0).1 : Int), .int .i64 ((rdC 4096 s0).2.1 : Int)]) ∧ RdP p q 169 (rdC 4096 s0).2.2 u0 w') := cCount 4096 u0 HT0.out.rd (by have := HLJ0.out; omega) HCJ0.out (by decide)
     have HCJ1 : Hid (∀ x ∈ rdL (rdC 4096 s0).2.2, x < 256) := rdC_sub HCJ0.out
     have HLJ1 : Hid ((rdL (rdC 4096 s0).2.2).length ≤ 100000) := Nat.le_trans (rdC_le _ _) HLJ0.out
     generalize rdC 4096 s0 = r1 at *
     obtain ⟨n1, e1, s1⟩ := r1
     simp only at HK HCJ1 HLJ1 HMV
     go_wp2_with fail
     refine HK.out.mono ?_
     rintro r v1 ⟨rfl, hp⟩
     have HTA := Lib.hid (HT0.out.read hp)
     have fr := HTA.out.frozen 0
     have cz : v1.cell? ⟨M, 0, none⟩ = some (.int .i64 0) := by rw [cell_of_row _ _ _ _ _ _ HTA.out.blk]; rfl
     clear hp HK HT0 HCJ0 HLJ0
     go_upto_region 21 with (fail)
     have HT1 : Hid (MvT wo p q 169 89 M #[.int .i64 (n1 : Int), .int .i64 0, .int .i64 0, .int .i64 0] s1 (v1.setCell ⟨M, 0, none⟩ (.int .i64 (n1 : Int)))) := HTA.out.set 0 _
     generalize v1.setCell _ _ = u1 at *
     clear HTA fr cz
     have HK : Hid (Calls Tryz.prog 66 #[.pointer (some ⟨p, 0, none⟩), .int .i64 16] u1 fun e w' => e = .returned (.tuple #[.int .i64 ((rdC 16 s1).1 : Int), .int .i64 ((rdC 16 s1).2.1 : Int)]) ∧ RdP p q 169 (rdC 16 s1).2.2 u1 w') := cCount 16 u1 HT1.out.rd (by have := HLJ1.out; omega) HCJ1.out (by decide)
     have HCJ2 : Hid (∀ x ∈ rdL (rdC 16 s1).2.2, x < 256) := rdC_sub HCJ1.out
     have HLJ2 : Hid ((rdL (rdC 16 s1).2.2).length ≤ 100000) := Nat.le_trans (rdC_le _ _) HLJ1.out
     generalize rdC 16 s1 = r2 at *
     obtain ⟨n2, e2, s2⟩ := r2
     simp only at HK HCJ2 HLJ2 HMV
     go_wp2_with fail
     refine HK.out.mono ?_
     rintro r v2 ⟨rfl, hp⟩
     have HTA := Lib.hid (HT1.out.read hp)
     have fr := HTA.out.frozen 1
     have cz : v2.cell? ⟨M, 1, none⟩ = some (.int .i64 0) := by rw [cell_of_row _ _ _ _ _ _ HTA.out.blk]; rfl
     clear hp HK HT1 HCJ1 HLJ1
     go_upto_region 22 with (fail)
     have HT2 : Hid (MvT wo p q 169 89 M #[.int .i64 (n1 : Int), .int .i64 (n2 : Int), .int .i64 0, .int .i64 0] s2 (v2.setCell ⟨M, 1, none⟩ (.int .i64 (n2 : Int)))) := HTA.out.set 1 _
     generalize v2.setCell _ _ = u2 at *
     clear HTA fr cz
     have HK : Hid (Calls Tryz.prog 66 #[.pointer (some ⟨p, 0, none⟩), .int .i64 60] u2 fun e w' => e = .returned (.tuple #[.int .i64 ((rdC 60 s2).1 : Int), .int .i64 ((rdC 60 s2).2.1 : Int)]) ∧ RdP p q 169 (rdC 60 s2).2.2 u2 w') := cCount 60 u2 HT2.out.rd (by have := HLJ2.out; omega) HCJ2.out (by decide)
     have HCJ3 : Hid (∀ x ∈ rdL (rdC 60 s2).2.2, x < 256) := rdC_sub HCJ2.out
     have HLJ3 : Hid ((rdL (rdC 60 s2).2.2).length ≤ 100000) := Nat.le_trans (rdC_le _ _) HLJ2.out
     generalize rdC 60 s2 = r3 at *
     obtain ⟨n3, e3, s3⟩ := r3
     simp only at HK HCJ3 HLJ3 HMV
     go_wp2_with fail
     refine HK.out.mono ?_
     rintro r v3 ⟨rfl, hp⟩
     have HTA := Lib.hid (HT2.out.read hp)
     have fr := HTA.out.frozen 2
     have cz : v3.cell? ⟨M, 2, none⟩ = some (.int .i64 0) := by rw [cell_of_row _ _ _ _ _ _ HTA.out.blk]; rfl
     clear hp HK HT2 HCJ2 HLJ2
     go_upto_region 23 with (fail)
     have HT3 : Hid (MvT wo p q 169 89 M #[.int .i64 (n1 : Int), .int .i64 (n2 : Int), .int .i64 (n3 : Int), .int .i64 0] s3 (v3.setCell ⟨M, 2, none⟩ (.int .i64 (n3 : Int)))) := HTA.out.set 2 _
     generalize v3.setCell _ _ = u3 at *
     clear HTA fr cz
     have HK : Hid (Calls Tryz.prog 66 #[.pointer (some ⟨p, 0, none⟩), .int .i64 65536] u3 fun e w' => e = .returned (.tuple #[.int .i64 ((rdC 65536 s3).1 : Int), .int .i64 ((rdC 65536 s3).2.1 : Int)]) ∧ RdP p q 169 (rdC 65536 s3).2.2 u3 w') := cCount 65536 u3 HT3.out.rd (by have := HLJ3.out; omega) HCJ3.out (by decide)
     have HCJ4 : Hid (∀ x ∈ rdL (rdC 65536 s3).2.2, x < 256) := rdC_sub HCJ3.out
     have HLJ4 : Hid ((rdL (rdC 65536 s3).2.2).length ≤ 100000) := Nat.le_trans (rdC_le _ _) HLJ3.out
     generalize rdC 65536 s3 = r4 at *
     obtain ⟨n4, e4, s4⟩ := r4
     simp only at HK HCJ4 HLJ4 HMV
     go_wp2_with fail
     refine HK.out.mono ?_
     rintro r v4 ⟨rfl, hp⟩
     have HTA := Lib.hid (HT3.out.read hp)
     have fr := HTA.out.frozen 3
     have cz : v4.cell? ⟨M, 3, none⟩ = some (.int .i64 0) := by rw [cell_of_row _ _ _ _ _ _ HTA.out.blk]; rfl
     clear hp HK HT3 HCJ3 HLJ3
     go_upto_region 24 with (fail)
     have HT4 : Hid (MvT wo p q 169 89 M #[.int .i64 (n1 : Int), .int .i64 (n2 : Int), .int .i64 (n3 : Int), .int .i64 (n4 : Int)] s4 (v4.setCell ⟨M, 3, none⟩ (.int .i64 (n4 : Int)))) := HTA.out.set 3 _
     generalize v4.setCell _ _ = u4 at *
     clear HTA fr cz
     have HMD := Lib.hid (HT4.out.done HM.out)
     obtain ⟨-, sc1, -, sf⟩ := HMD.out.cells
     have sf1 := sf 1
     obtain ⟨Am, cm, rfl, -, -⟩ := HMD.out.own.form
     rw [List.length_map] at sc1 HMD
     have m0 : u4.cell? ⟨M, 0, none⟩ = some (.int .i64 (n1 : Int)) := by rw [cell_of_row _ _ _ _ _ _ HT4.out.blk]; rfl
     have m1 : u4.cell? ⟨M, 1, none⟩ = some (.int .i64 (n2 : Int)) := by rw [cell_of_row _ _ _ _ _ _ HT4.out.blk]; rfl
     have m2 : u4.cell? ⟨M, 2, none⟩ = some (.int .i64 (n3 : Int)) := by rw [cell_of_row _ _ _ _ _ _ HT4.out.blk]; rfl
     have m3 : u4.cell? ⟨M, 3, none⟩ = some (.int .i64 (n4 : Int)) := by rw [cell_of_row _ _ _ _ _ _ HT4.out.blk]; rfl
     have hzz := HMD.out.agr.size
     clear sf HM HT4 HCJ4 HLJ4
     go_wp2_with (at_builtin; refine wpList_ap1 rfl (.tmp 105) (.tmp 107) _ rfl elemMv rfl HMD.out.own [.int .i64 (n1 : Int), .int .i64 (n2 : Int), .int .i64 (n3 : Int), .int .i64 (n4 : Int)] _ (by rfl) u4.heap.size (by rfl) (by rfl) (by intro u hu; simp only [List.mem_cons, List.not_mem_nil, or_false] at hu; rcases hu with rfl | rfl | rfl | rfl <;> rfl) (by have := HML.out; have := HNG.out; simp [maxLen]; omega) (by have := HML.out; have := HNG.out; simp; omega) hzz ?_)
     rintro v7 w7 hown7 hg7 -
     obtain ⟨A7, n7, c7, rfl⟩ := hown7.sl
     obtain ⟨hm7, hb7⟩ := HMD.out.push (x := ⟨(n1 : Int), (n2 : Int), ⟨(n3 : Int), (n4 : Int)⟩⟩) hg7 (by rw [List.map_append]; exact hown7)
     have x7 : w7.cell? ⟨S, 1, none⟩ = some (.slice Am ms.length cm) := by rw [cell_of_row _ _ _ _ _ _ hb7]; rfl
     have y7 := frozen_blk hb7 1
     have HM7 := Lib.hid hm7
     clear hm7 hb7 hown7 hg7 HMD sc1 sf1 m0 m1 m2 m3 hzz
     have hng := HNG.out
     go_wp2
     go_roundw
     case rel => exact ⟨j + 1, by omega, by have := HNG.out; go_num, _, by rw [HMC.out, HMV.out]; exact HM7.out⟩
     case measure => have := HNG.out; simp [intOf] <;> omega
    case neg =>
     have hjI : ¬ (j : Int) < (n : Int) := by omega
     obtain rfl : j = n := by omega
     clear hjn hj
     have HD26 : Hid (DcI w1 w1.heap.size S p q 169 41 lv mv (.slice none 0 0) ⟨(dA L l).1, (dM L l).1, []⟩ (dM L l).2 wr) := by rw [HDM.out]; exact HM.out.done HDN.out
     have HC26 : Hid (∀ x ∈ rdL (dM L l).2, x < 256) := by rw [HDM.out]; exact mvP_sub HCB.out j
     have HL26 : Hid ((rdL (dM L l).2).length ≤ 100000) := by rw [HDM.out]; exact Nat.le_trans (mvP_le sN j) HLB.out
     have HN26 : Hid ((dM L l).1.length ≤ 1600) := by rw [HDM.out, Hid, mvP_len]; exact HNG.out
     have HW26 : Hid (∀ m ∈ (dM L l).1, PlWf m.to) := by rw [HDM.out]; exact mvP_wf sN j
     have HF26 := Lib.hid (cLeft wr HD26.out.rd)
     have HK26 : Hid (Calls Tryz.prog 66 #[.pointer (some ⟨p, 0, none⟩), .int .i64 ((rdL (dM L l).2).length : Int)] wr fun e w' => e = .returned (.tuple #[.int .i64 ((dH L l).1 : Int), .int .i64 ((dH L l).2.1 : Int)]) ∧ RdP p q 169 (dH L l).2.2 wr w') := cCount _ wr HD26.out.rd (by have := HL26.out; omega) HC26.out (by have := HL26.out; omega)
     have HNH : Hid ((dH L l).1 ≤ 100000) := Nat.le_trans (rdC_most _ _) HL26.out
     have HCH : Hid (∀ x ∈ rdL (dH L l).2.2, x < 256) := rdC_sub HC26.out
     have HLH : Hid ((rdL (dH L l).2.2).length ≤ 100000) := Nat.le_trans (rdC_le _ _) HL26.out
     have HBAD : Hid (∀ i, i < (dH L l).1 → (rdB (ntS (dH L l).2.2 i).2).2.1 ≠ 0 → decP L l = (St.zero, [], 5)) := fun i hi h => decP_bad hi h
     have HDT : Hid (dT L l = ntS (dH L l).2.2 (dH L l).1) := rfl
     clear HM HDM HDN HCB HLB HNG HC26 HL26
     obtain ⟨n2, e2, sH, hdh⟩ : ∃ n e s, dH L l = (n, e, s) := ⟨_, _, _, rfl⟩
     simp only [hdh] at HK26 HNH HCH HLH HBAD HDT
     clear hdh
     go_wp2_with fail
     refine HF26.out.mono ?_
     rintro r w26 ⟨rfl, rfl⟩
     clear HF26
     go_wp2_with fail
     refine HK26.out.mono ?_
     rintro r w27 ⟨rfl, hp⟩
     have HD27 := Lib.hid (HD26.out.turn hp.2 hp.1)
     clear hp HK26 HD26
     go_wp2
     go_loopw [119] (fun s119 wr => ∃ j : Nat, j ≤ n2 ∧ s119 = .int .i64 j ∧ ∃ nv, DcI w1 w1.heap.size S p q 169 41 lv mv nv ⟨(dA L l).1, (dM L l).1, (ntS sH j).1⟩ (ntS sH j).2 wr) (fun s119 _ => n2 - (intOf s119).toNat)
     case atStart => exact ⟨0, by omega, rfl, _, HD27.out⟩
     case round =>
      obtain ⟨i, hi, rfl, nv, hD⟩ := hrel
      have HD := Lib.hid hD
      clear hD HD27
      by_cases hin : i < n2
      case pos =>
       have hiI : (i : Int) < (n2 : Int) := by omega
       have HCI : Hid (∀ x ∈ rdL (ntS sH i).2, x < 256) := ntS_sub HCH.out i
       have HLI : Hid ((rdL (ntS sH i).2).length ≤ 100000) := Nat.le_trans (ntS_le sH i) HLH.out
       have HNI : Hid (ntS sH (i + 1) = ((ntS sH i).1 ++ [(rdB (ntS sH i).2).1], (rdB (ntS sH i).2).2.2)) := rfl
       have HLT : Hid ((ntS sH i).1.length = i) := ntS_len _
       have HBI := Lib.hid (HBAD.out i hin)
       have HER := rdB_er (ntS sH i).2
       have HK := Lib.hid (cBytes wr HD.out.rd (by have := HLI.out; omega) HCI.out)
       generalize ntS sH i = P at *
       obtain ⟨nt, s0⟩ := P
       simp only at HD HCI HLI HNI HLT HBI HER HK
       generalize rdB s0 = r1 at *
       obtain ⟨xb, eb, s1⟩ := r1
       simp only at HNI HBI HER HK
       clear HCI HLI
       rcases HER with rfl | rfl
       ·have HQ := HK
        clear HBI
        go_wp2_with fail
        refine HK.out.mono ?_
        rintro r w29 ⟨⟨Ax, cx, rfl, hbx, hqx, hcx⟩, hp⟩
        have HD29 := Lib.hid (HD.out.turn hp.2 hp.1)
        clear HK HQ hp HD hcx
        have hx : Stb (FX S (EDc w1.heap.size p) lv nv) w29 fun W => BytS W W.heap.size Ax xb := RdS.stb hbx fun a ha hf => by
         have h1 := hqx.2 a ha
         have h2 := HD29.out.mq
         rcases hf with hf | (hf | hf) | hf
         ·have := (HD29.out.own _ (.inl hf)).2; omega
         ·omega
         ·omega
         ·have := (HD29.out.own _ (.inr hf)).2; omega
        have HSX := Lib.hid hx
        obtain ⟨-, -, sc2, sf⟩ := HD29.out.cells
        have sf2 := sf 2
        obtain ⟨vs, hn, ho, -, hlv⟩ := HD29.out.st.nt
        obtain ⟨An, cn, rfl, -, -⟩ := ho.form
        have hvl : ((vs.zip nt).map ntRow).length = nt.length := by simp [hn]
        rw [hvl] at sc2 ho HD29 HSX
        simp only [hvl] at hlv
        have HVN : Hid (vs.length = i) := hn.trans HLT.out
        have HHN := Lib.hid hn
        have HHL := Lib.hid hlv
        clear hn hlv sf hx hbx hqx hvl
        go_wp2_with (at_builtin; refine wpList_ap1 rfl (.tmp 130) (.tmp 132) _ rfl elemNt rfl ho [.slice Ax xb.length cx] _ (by rfl) w29.heap.size (by rfl) (by rfl) (by simp [Value.oneCell']) (by have := HVN.out; have := HLT.out; have := HNH.out; simp [maxLen]; omega) (by have := HVN.out; have := HLT.out; have := HNH.out; simp; omega) (Nat.zero_le _) ?_)
        rintro v7 w7 hown7 hg7 hv7
        obtain ⟨A7, n7, c7, rfl⟩ := hown7.sl
        obtain ⟨hd7, hb7⟩ := HD29.out.pushN HHN.out ho HHL.out HSX.out hg7 hown7 hv7
        have x7 : w7.cell? ⟨S, 2, none⟩ = some (.slice An nt.length cn) := by rw [cell_of_row _ _ _ _ _ _ hb7]; rfl
        have y7 := frozen_blk hb7 2
        have HD7 := Lib.hid hd7
        clear hd7 hb7 hown7 hg7 hv7 ho HHL HHN HSX HD29 sc2 sf2 HVN
        have hnh := HNH.out
        go_wp2
        go_roundw
        case rel => exact ⟨i + 1, by omega, by have := HNH.out; go_num, _, by rw [HNI.out]; exact HD7.out⟩
        case measure => have := HNH.out; simp [intOf] <;> omega
       ·have HRZ : Hid (R = (St.zero, [], 5)) := by rw [Hid, ← HR.out]; exact HBI.out (by decide)
        clear HBI
        go_wp2_with fail
        refine HK.out.mono ?_
        rintro r w29 ⟨⟨Ax, cx, rfl, hbx, hqx, hcx⟩, hp⟩
        have HD29 := Lib.hid (HD.out.turn hp.2 hp.1)
        clear HK hp HD hcx hqx hbx
        have HRB := Lib.hid (HRS.out w29 HD29.out.bel)
        have r0 : w29.cell? ⟨w.heap.size + 1, 0, none⟩ = some (.slice none 0 0) := by rw [cell_of_row _ _ _ _ _ _ HRB.out]; rfl
        have r1 : w29.cell? ⟨w.heap.size + 1, 1, none⟩ = some (.slice none 0 0) := by rw [cell_of_row _ _ _ _ _ _ HRB.out]; rfl
        have r2 : w29.cell? ⟨w.heap.size + 1, 2, none⟩ = some (.slice none 0 0) := by rw [cell_of_row _ _ _ _ _ _ HRB.out]; rfl
        have f0 := frozen_blk HRB.out 0
        have f1 := frozen_blk HRB.out 1
        have f2 := frozen_blk HRB.out 2
        have HBF : Hid (Below w.heap.size w (((w29.setCell ⟨w.heap.size + 1, 0, none⟩ (.slice none 0 0)).setCell ⟨w.heap.size + 1, 1, none⟩ (.slice none 0 0)).setCell ⟨w.heap.size + 1, 2, none⟩ (.slice none 0 0))) := (((HBW.out w29 HD29.out.bel).setCell (by simp) _).setCell (by simp) _).setCell (by simp) _
        clear HD29 HRB
        go_wp2
        (try simp only [Exit.inBlock, Exit.then])
        refine bodyPost_ret (v := .tuple #[.agg #[.slice none 0 0, .slice none 0 0, .slice none 0 0], .slice none 0 0, .int .i64 5]) ?_ rfl ⟨by rw [HRZ.out]; exact DecR.zero, HBF.out⟩
        rw [results_cell_tmp2 rfl]
        go_simp
      case neg =>
       have hiI : ¬ (i : Int) < (n2 : Int) := by omega
       obtain rfl : i = n2 := by omega
       clear hin hi HBAD
       have HD34 : Hid (DcI w1 w1.heap.size S p q 169 41 lv mv nv ⟨(dA L l).1, (dM L l).1, (dT L l).1⟩ (dT L l).2 wr) := by rw [HDT.out]; exact HD.out
       have HLT : Hid ((dT L l).1.length ≤ 100000) := by rw [HDT.out, Hid, ntS_len]; exact HNH.out
       have HLA : Hid ((dA L l).1.length ≤ 100) := by rw [Hid, dA, lsS_len]; exact hG
       have HK : Hid (Calls Tryz.prog 68 #[.pointer (some ⟨p, 0, none⟩)] wr fun e w' => (∃ A c, e = .returned (.tuple #[.slice A (dU L l).1.length c, .int .i64 ((dU L l).2.1 : Int)]) ∧ BytS w' w'.heap.size A (dU L l).1 ∧ (q ≤ p ∧ ∀ a, A = some a → q ≤ a.block ∧ a.block < p) ∧ (dU L l).1.length ≤ c) ∧ RdP p q 169 (dU L l).2.2 wr w') := cBytes wr HD34.out.rd (by rw [HDT.out]; have := Nat.le_trans (ntS_le sH i) HLH.out; omega) (by rw [HDT.out]; exact ntS_sub HCH.out i)
       have HGD : Hid (rdD (dU L l).2.2 = 0 → stOk L ⟨(dA L l).1, (dM L l).1, (dT L l).1⟩ = true → decP L l = (⟨(dA L l).1, (dM L l).1, (dT L l).1⟩, (dU L l).1, 0)) := decP_good
       have HNP : Hid (¬ (rdD (dU L l).2.2 = 0 ∧ stOk L ⟨(dA L l).1, (dM L l).1, (dT L l).1⟩ = true) → decP L l = (St.zero, [], 5)) := fun h => if_neg h
       have HDE := Lib.hid (rdD_er (dU L l).2.2)
       clear HD HDT HCH HLH HNH
       generalize (dA L l).1 = za at *
       generalize (dM L l).1 = zm at *
       generalize (dT L l).1 = zt at *
       generalize (dT L l).2 = st at *
       generalize dU L l = du at *
       obtain ⟨ub, ue, su⟩ := du
       simp only at HK HGD HNP HDE
       go_wp2_with fail
       refine HK.out.mono ?_
       rintro r w34 ⟨⟨Au, cu, rfl, hbu, hqu, hcu⟩, hp⟩
       have HD35 := Lib.hid (HD34.out.turn hp.2 hp.1)
       have HBU := Lib.hid hbu
       have HQU := Lib.hid hqu
       have HDN := Lib.hid (cDone w34 hp.1)
       clear hp HK HD34 hbu hqu hcu
       obtain ⟨l0, l1, l2, l3⟩ := HLY.out w34 HD35.out.bel
       obtain ⟨s0, s1, s2, -⟩ := HD35.out.cells
       obtain ⟨B1, b1, rfl, -⟩ := HD35.out.st.ls.form
       obtain ⟨B2, b2, rfl, -⟩ := HD35.out.st.ms
       obtain ⟨B3, b3, rfl, -⟩ := HD35.out.st.nt.form
       have HVA : Hid (Calls Tryz.prog 21 #[.agg #[.int .i64 L.disks, .slice A L.n c, .int .i64 L.tiles, .int .i64 L.spare], .agg #[.slice B1 za.length b1, .slice B2 zm.length b2, .slice B3 zt.length b3]] w34 fun r w' => r = .returned (.bool (stOk L ⟨za, zm, zt⟩)) ∧ Below w34.heap.size w34 w') := HVD.out w34 _ ⟨za, zm, zt⟩ (HBW.out w34 HD35.out.bel) (HD35.out.st.val (E0 := fun _ => False) (fun k hk => hk.elim)).reads HW26.out (Nat.le_trans HLA.out (by decide)) (Nat.le_trans HN26.out (by decide)) (Nat.le_trans HLT.out (by decide))
       rcases HDE.out with h0 | h0
       case inr =>
        have HRZ : Hid (R = (St.zero, [], 5)) := by rw [Hid, ← HR.out]; exact HNP.out (fun h => by rw [h0] at h; exact absurd h.1 (by decide))
        rw [h0] at HDN
        clear h0 HVA HGD HNP HDE
        go_wp2_with fail
        refine HDN.out.mono ?_
        rintro r w35 ⟨rfl, rfl⟩
        clear HDN l0 l1 l2 l3 s0 s1 s2
        have HRB := Lib.hid (HRS.out w35 HD35.out.bel)
        have r0 : w35.cell? ⟨w.heap.size + 1, 0, none⟩ = some (.slice none 0 0) := by rw [cell_of_row _ _ _ _ _ _ HRB.out]; rfl
        have r1 : w35.cell? ⟨w.heap.size + 1, 1, none⟩ = some (.slice none 0 0) := by rw [cell_of_row _ _ _ _ _ _ HRB.out]; rfl
        have r2 : w35.cell? ⟨w.heap.size + 1, 2, none⟩ = some (.slice none 0 0) := by rw [cell_of_row _ _ _ _ _ _ HRB.out]; rfl
        have f0 := frozen_blk HRB.out 0
        have f1 := frozen_blk HRB.out 1
        have f2 := frozen_blk HRB.out 2
        have HBF : Hid (Below w.heap.size w (((w35.setCell ⟨w.heap.size + 1, 0, none⟩ (.slice none 0 0)).setCell ⟨w.heap.size + 1, 1, none⟩ (.slice none 0 0)).setCell ⟨w.heap.size + 1, 2, none⟩ (.slice none 0 0))) := (((HBW.out w35 HD35.out.bel).setCell (by simp) _).setCell (by simp) _).setCell (by simp) _
        clear HD35 HRB
        go_wp2
        (try simp only [Exit.inBlock, Exit.then])
        refine bodyPost_ret (v := .tuple #[.agg #[.slice none 0 0, .slice none 0 0, .slice none 0 0], .slice none 0 0, .int .i64 5]) ?_ rfl ⟨by rw [HRZ.out]; exact DecR.zero, HBF.out⟩
        rw [results_cell_tmp2 rfl]
        go_simp
       case inl =>
        rw [h0] at HDN
        clear HDE
        go_wp2_with fail
        refine HDN.out.mono ?_
        rintro r w35 ⟨rfl, rfl⟩
        clear HDN
        go_wp2_with fail
        refine HVA.out.mono ?_
        rintro r w36 ⟨rfl, hb36⟩
        have HD36 := Lib.hid (HD35.out.call hb36)
        have HBU6 := Lib.hid (byt_keep HBU.out hb36)
        clear hb36 HBU HD35 HVA l0 l1 l2 l3 s0 s1 s2
        cases hst : stOk L ⟨za, zm, zt⟩
        case false =>
         have HRZ : Hid (R = (St.zero, [], 5)) := by rw [Hid, ← HR.out]; exact HNP.out (fun h => by rw [hst] at h; exact absurd h.2 (by decide))
         clear hst h0 HGD HNP HBU6
         have HRB := Lib.hid (HRS.out w36 HD36.out.bel)
         have r0 : w36.cell? ⟨w.heap.size + 1, 0, none⟩ = some (.slice none 0 0) := by rw [cell_of_row _ _ _ _ _ _ HRB.out]; rfl
         have r1 : w36.cell? ⟨w.heap.size + 1, 1, none⟩ = some (.slice none 0 0) := by rw [cell_of_row _ _ _ _ _ _ HRB.out]; rfl
         have r2 : w36.cell? ⟨w.heap.size + 1, 2, none⟩ = some (.slice none 0 0) := by rw [cell_of_row _ _ _ _ _ _ HRB.out]; rfl
         have f0 := frozen_blk HRB.out 0
         have f1 := frozen_blk HRB.out 1
         have f2 := frozen_blk HRB.out 2
         have HBF : Hid (Below w.heap.size w (((w36.setCell ⟨w.heap.size + 1, 0, none⟩ (.slice none 0 0)).setCell ⟨w.heap.size + 1, 1, none⟩ (.slice none 0 0)).setCell ⟨w.heap.size + 1, 2, none⟩ (.slice none 0 0))) := (((HBW.out w36 HD36.out.bel).setCell (by simp) _).setCell (by simp) _).setCell (by simp) _
         clear HD36 HRB
         go_wp2
         (try simp only [Exit.inBlock, Exit.then])
         refine bodyPost_ret (v := .tuple #[.agg #[.slice none 0 0, .slice none 0 0, .slice none 0 0], .slice none 0 0, .int .i64 5]) ?_ rfl ⟨by rw [HRZ.out]; exact DecR.zero, HBF.out⟩
         rw [results_cell_tmp2 rfl]
         go_simp
        case true =>
         have HRG : Hid (R = (⟨za, zm, zt⟩, ub, 0)) := by rw [Hid, ← HR.out]; exact HGD.out h0 hst
         clear hst h0 HGD HNP
         obtain ⟨s0, s1, s2, -⟩ := HD36.out.cells
         have HRB := Lib.hid (HRS.out w36 HD36.out.bel)
         have r0 : w36.cell? ⟨w.heap.size + 1, 0, none⟩ = some (.slice none 0 0) := by rw [cell_of_row _ _ _ _ _ _ HRB.out]; rfl
         have r1 : w36.cell? ⟨w.heap.size + 1, 1, none⟩ = some (.slice none 0 0) := by rw [cell_of_row _ _ _ _ _ _ HRB.out]; rfl
         have r2 : w36.cell? ⟨w.heap.size + 1, 2, none⟩ = some (.slice none 0 0) := by rw [cell_of_row _ _ _ _ _ _ HRB.out]; rfl
         have f0 := frozen_blk HRB.out 0
         have f1 := frozen_blk HRB.out 1
         have f2 := frozen_blk HRB.out 2
         have hrm : w.heap.size + 1 < w1.heap.size := by have := HZ.out; omega
         have HFN := Lib.hid (HD36.out.fin (r := w.heap.size + 1) (n := w.heap.size) hrm (by omega))
         have HBY : Hid (Stb (fun k => k < w.heap.size) (((w36.setCell ⟨w.heap.size + 1, 0, none⟩ (.slice B1 za.length b1)).setCell ⟨w.heap.size + 1, 1, none⟩ (.slice B2 zm.length b2)).setCell ⟨w.heap.size + 1, 2, none⟩ (.slice B3 zt.length b3)) fun V => BytS V V.heap.size Au ub) := ((RdS.stb (F := fun k => k < w1.heap.size) HBU6.out fun a ha hf => by have h1 := (HQU.out.2 a ha).1; have h2 := HD36.out.mq; omega).step (agr_three (E := fun k => k < w1.heap.size) hrm _ _ _)).mono fun k _ e => by omega
         have HBF : Hid (Below w.heap.size w (((w36.setCell ⟨w.heap.size + 1, 0, none⟩ (.slice B1 za.length b1)).setCell ⟨w.heap.size + 1, 1, none⟩ (.slice B2 zm.length b2)).setCell ⟨w.heap.size + 1, 2, none⟩ (.slice B3 zt.length b3))) := (((HBW.out w36 HD36.out.bel).setCell (by simp) _).setCell (by simp) _).setCell (by simp) _
         clear HD36 HRB HBU6 hrm
         go_wp2
         (try simp only [Exit.inBlock, Exit.then])
         refine bodyPost_ret (v := .tuple #[.agg #[.slice B1 za.length b1, .slice B2 zm.length b2, .slice B3 zt.length b3], .slice Au ub.length cu, .int .i64 0]) ?_ rfl ⟨by rw [HRG.out]; exact ⟨_, Au, cu, rfl, HFN.out, HBY.out⟩, HBF.out⟩
         rw [results_cell_tmp2 rfl]
         go_simp
  case pos =>
   have hkI : (k : Int) < (L.G : Int) := by omega
   have HKG := Lib.hid hkG
   generalize wr = wo at *
   go_upto_region 8 with (fail)
   have HI6 : Hid (LfI wo p q 169 wo.heap.size (.slice none 0 0) (.slice none 0 0) [] [] (lsS L.w (some l) k).2 (wo.alloc (.cells #[.slice none 0 0, .slice none 0 0] 80))) := ⟨(Agr.refl _ _).alloc _, HD.out.rd.call below_laid, ⟨heap_alloc_new wo _, OwS.nil _ _ _ _, OwS.nil _ _ _ _, .inl rfl⟩, HD.out.rd.lt, Nat.le_refl _⟩
   generalize wo.alloc _ = w6 at *
   obtain ⟨l0, l1, l2, l3⟩ := HLY.out w6 (HI6.out.bel HD.out)
   go_wp2_with fail
   refine (HLW.out w6 (HBW.out w6 (HI6.out.bel HD.out))).mono ?_
   rintro r w7 ⟨rfl, hb7⟩
   have HI7 := Lib.hid (HI6.out.call hb7)
   clear l0 l1 l2 l3 hb7 HI6
   obtain ⟨sk, hsk⟩ : ∃ sk, (lsS L.w (some l) k).2 = sk := ⟨_, rfl⟩
   have HCK : Hid (∀ x ∈ rdL sk, x < 256) := by rw [← hsk]; exact lsS_sub (b := some l) HC.out k
   have HLK : Hid ((rdL sk).length ≤ 100000) := by rw [← hsk]; exact Nat.le_trans (lsS_le L.w (some l) k) HLL.out
   have HNX : Hid (lsS L.w (some l) (k + 1) = ((lsS L.w (some l) k).1 ++ [⟨(prS sk L.w).1, (prS sk L.w).2.1⟩], (prS sk L.w).2.2)) := by rw [← hsk]; rfl
   have HLN : Hid ((lsS L.w (some l) k).1.length = k) := lsS_len _ _ _
   rw [hsk] at HI7 HD
   clear hsk
   generalize (lsS L.w (some l) k).1 = lsk at *
   generalize wo.heap.size = X at *
   go_wp2
   go_loopw [33] (fun s33 wr => ∃ j : Nat, j ≤ L.w ∧ s33 = .int .i64 j ∧ ∃ va vb, LfI wo p q 169 X va vb (prS sk j).1 (prS sk j).2.1 (prS sk j).2.2 wr) (fun s33 _ => L.w - (intOf s33).toNat)
   case atStart => exact ⟨0, by omega, rfl, _, _, HI7.out⟩
   case round =>
    obtain ⟨j, hj, rfl, va, vb, hI⟩ := hrel
    have HI := Lib.hid hI
    clear hI HI7
    by_cases hjw : j < L.w
    case neg =>
     have hjI : ¬ (j : Int) < (L.w : Int) := by omega
     obtain rfl : j = L.w := by omega
     clear hjw hj
     obtain ⟨Aa, ca, rfl, -, -⟩ := HI.out.lf.a.form
     obtain ⟨Ab2, cb2, rfl, -, -⟩ := HI.out.lf.b.form
     rw [List.length_map, List.length_map] at HI
     have HDW := Lib.hid (HI.out.done HD.out)
     have HST := Lib.hid (HI.out.stb HD.out)
     obtain ⟨x0, x1, xf⟩ := HI.out.cells
     obtain ⟨s0, -, -, sf⟩ := HDW.out.cells
     obtain ⟨rows, hn, ho, -, hlv⟩ := HDW.out.st.ls
     obtain ⟨Al, cl, rfl, -, -⟩ := ho.form
     rw [List.length_map] at s0 ho HDW HST
     simp only [List.length_map] at hlv
     have HNK : Hid (rows.length = k) := hn.trans HLN.out
     have HHN := Lib.hid hn
     have HHL := Lib.hid hlv
     have hzz := HDW.out.sp.2.2.2.2.2
     have sf0 := sf 0
     have hkg := HKG.out
     clear hn hlv sf xf HI HD
     go_wp2_with (at_builtin; refine wpList_ap1 rfl (.tmp 59) (.tmp 61) _ rfl elemLeaf rfl ho [.slice Aa (prS sk L.w).1.length ca, .slice Ab2 (prS sk L.w).2.1.length cb2] _ (by rfl) wr.heap.size (by rfl) (by rfl) (by intro u hu; simp only [List.mem_cons, List.not_mem_nil, or_false] at hu; rcases hu with rfl | rfl <;> rfl) (by have := HNK.out; simp [maxLen]; omega) (by have := HNK.out; simp; omega) (Nat.zero_le _) ?_)
     rintro v7 w7 hown7 hg7 hv7
     obtain ⟨A7, n7, c7, rfl⟩ := hown7.sl
     obtain ⟨hd7, hb7⟩ := HDW.out.pushL HHN.out ho HHL.out (L := ⟨(prS sk L.w).1, (prS sk L.w).2.1⟩) HST.out hg7 hown7 hv7
     have x7 : w7.cell? ⟨S, 0, none⟩ = some (.slice Al rows.length cl) := by rw [cell_of_row _ _ _ _ _ _ hb7]; rfl
     have y7 := frozen_blk hb7 0
     have HD7 := Lib.hid hd7
     clear hd7 hb7 hown7 hg7 hv7 ho HHL HHN HST HDW s0 sf0 x0 x1 hkg
     go_wp2
     go_roundw
     case rel => exact ⟨k + 1, by omega, by go_num, _, by rw [HNX.out]; exact HD7.out⟩
     case measure => simp [intOf] <;> omega
    case pos =>
     have hjI : (j : Int) < (L.w : Int) := by omega
     have HP : Hid (prS sk (j + 1) = ((prS sk j).1 ++ [(rdU (prS sk j).2.2).1], (prS sk j).2.1 ++ [(rdU (rdU (prS sk j).2.2).2.2).1], (rdU (rdU (prS sk j).2.2).2.2).2.2)) := rfl
     have hsb : ∀ x ∈ rdL (prS sk j).2.2, x < 256 := prS_sub HCK.out j
     have hle : (rdL (prS sk j).2.2).length ≤ 100000 := Nat.le_trans (prS_le sk j) HLK.out
     have hpn := prS_len sk j
     have HU1 := Lib.hid (cUint wr HI.out.rd (by omega) hsb)
     have hsb2 := rdU_sub hsb
     have hle2 := rdU_le (prS sk j).2.2
     generalize prS sk j = P at *
     obtain ⟨vs, ss, s0⟩ := P
     simp only at HI HU1 HP hsb2 hle2 hle hpn
     generalize hr1 : rdU s0 = r1 at *
     obtain ⟨xv, e1, s1⟩ := r1
     simp only at HU1 HP hsb2 hle2
     clear hsb hr1
     go_wp2_with fail
     refine HU1.out.mono ?_
     rintro r w8 ⟨rfl, hp1⟩
     have HI8 := Lib.hid (HI.out.read hp1)
     have HU2 := Lib.hid (cUint w8 hp1.1 (by omega) hsb2)
     generalize hr2 : rdU s1 = r2 at *
     obtain ⟨xs, e2, s2⟩ := r2
     simp only at HU2 HP
     clear hp1 hr2 HI HU1 hsb2
     go_wp2_with fail
     refine HU2.out.mono ?_
     rintro r w9 ⟨rfl, hp2⟩
     have HI9 := Lib.hid (HI8.out.read hp2)
     clear hp2 HI8 HU2
     go_upto_region 12 with (fail)
     obtain ⟨Aa, ca, rfl, -, -⟩ := HI9.out.lf.a.form
     obtain ⟨Ab2, cb2, rfl, -, -⟩ := HI9.out.lf.b.form
     rw [List.length_map, List.length_map] at HI9
     have HPV := Lib.hid hpn.1
     have HPS := Lib.hid hpn.2
     clear hpn
     have HT0 : Hid (TwW w9 X (.slice Aa vs.length ca) (.slice Ab2 ss.length cb2) (.slice Aa vs.length ca) (.slice Ab2 ss.length cb2) vs ss [] w9.drew) := ⟨(Below.refl _ _).drew, HI9.out.lf.blk, HI9.out.lf.a, HI9.out.lf.b, HI9.out.lf.ne, fun g hg => by cases hg⟩
     have hS0 := HT0.out.cells
     clear HNX HLN HC HR HLL HCK HLK
     go_wp2_with fail
     refine wp_regionT (T := 11) (S := fun W : World => W.cell? ⟨X, 0, none⟩ = some (.slice Aa vs.length ca) ∧ W.cell? ⟨X, 1, none⟩ = some (.slice Ab2 ss.length cb2)) (by kernel_rfl) ?_
     (try change wpAnyT _ _ _ _ _ _ _ _ _ (World.drew _))
     generalize w9.drew = w10 at *
     refine wpAnyT_take (i := 0) (v := ?_) 60 rfl (by kernel_rfl) (by kernel_rfl) (by kernel_rfl) (by kernel_rfl) (by kernel_rfl) (fun _ _ _ h => h) (Or.inl ⟨by rfl, ?_⟩) hS0 ?_
     rotate_left
     ·(intro W hW; (try dsimp only at hW); obtain ⟨hW0, hW1⟩ := hW; go_simp; try with_reducible rfl)
     (simp only [List.getElem_toArray, List.getElem_cons_zero, Act.put, List.setIfInBounds_toArray, List.set_cons_zero, List.set_cons_succ])
     refine wpAnyT_take (i := 1) (v := ?_) 60 rfl (by kernel_rfl) (by kernel_rfl) (by kernel_rfl) (by kernel_rfl) (by kernel_rfl) (fun _ _ _ h => h) (Or.inl ⟨by rfl, ?_⟩) hS0 ?_
     rotate_left
     ·(intro W hW; (try dsimp only at hW); obtain ⟨hW0, hW1⟩ := hW; go_simp; try with_reducible rfl)
     (simp only [List.getElem_toArray, List.getElem_cons_zero, List.getElem_cons_succ, Act.put, List.setIfInBounds_toArray, List.set_cons_zero, List.set_cons_succ])
     refine wpAnyT_take (i := 2) (v := ?_) 60 rfl (by kernel_rfl) (by kernel_rfl) (by kernel_rfl) (by kernel_rfl) (by kernel_rfl) (fun _ _ _ h => h) (Or.inl ⟨by rfl, ?_⟩) hS0 ?_
     rotate_left
     ·(intro W hW; (try dsimp only at hW); obtain ⟨hW0, hW1⟩ := hW; go_simp; try with_reducible rfl)
     (simp only [List.getElem_toArray, List.getElem_cons_zero, List.getElem_cons_succ, Act.put, List.setIfInBounds_toArray, List.set_cons_zero, List.set_cons_succ])
     refine wpAnyT_take (i := 5) (v := ?_) 60 rfl (by kernel_rfl) (by kernel_rfl) (by kernel_rfl) (by kernel_rfl) (by kernel_rfl) (fun _ _ _ h => h) (Or.inl ⟨by rfl, ?_⟩) hS0 ?_
     rotate_left
     ·(intro W hW; (try dsimp only at hW); obtain ⟨hW0, hW1⟩ := hW; go_simp; try with_reducible rfl)
     (simp only [List.getElem_toArray, List.getElem_cons_zero, List.getElem_cons_succ, Act.put, List.setIfInBounds_toArray, List.set_cons_zero, List.set_cons_succ])
     refine wpAnyT_take (i := 6) (v := ?_) 60 rfl (by kernel_rfl) (by kernel_rfl) (by kernel_rfl) (by kernel_rfl) (by kernel_rfl) (fun _ _ _ h => h) (Or.inl ⟨by rfl, ?_⟩) hS0 ?_
     rotate_left
     ·(intro W hW; (try dsimp only at hW); obtain ⟨hW0, hW1⟩ := hW; go_simp; try with_reducible rfl)
     (simp only [List.getElem_toArray, List.getElem_cons_zero, List.getElem_cons_succ, Act.put, List.setIfInBounds_toArray, List.set_cons_zero, List.set_cons_succ])
     refine wpAnyT_take (i := 7) (v := ?_) 60 rfl (by kernel_rfl) (by kernel_rfl) (by kernel_rfl) (by kernel_rfl) (by kernel_rfl) (fun _ _ _ h => h) (Or.inl ⟨by rfl, ?_⟩) hS0 ?_
     rotate_left
     ·(intro W hW; (try dsimp only at hW); obtain ⟨hW0, hW1⟩ := hW; go_simp; try with_reducible rfl)
     (simp only [List.getElem_toArray, List.getElem_cons_zero, List.getElem_cons_succ, Act.put, List.setIfInBounds_toArray, List.set_cons_zero, List.set_cons_succ])
     refine wpAnyT_two (i := 3) (k := 8) (by kernel_rfl) rfl rfl rfl rfl (fun K hK => ?_) (fun K hK => ?_)
     ·go_simp
      have HT1 := Lib.hid (HT0.out.lay xv)
      refine hK _ _ (.inr HT1.out.cells) ?_
      clear hK K
      (try simp only [List.getElem_toArray, List.getElem_cons_zero, List.getElem_cons_succ, Act.put, List.setIfInBounds_toArray, List.set_cons_zero, List.set_cons_succ])
      refine wpAnyT_two (i := 4) (k := 8) (by kernel_rfl) rfl rfl rfl rfl (fun K hK => ?_) (fun K hK => ?_)
      ·refine oper_apS (.tmp 46) (.tmp 48) _ rfl elemU64 rfl HT1.out.a _ _ 1 1 [u64C xv] rfl (HT1.out.one (g := (_, xv)) (by simp)) rfl (by simp [u64C, Value.oneCell']) (by have := HPV.out; have := HPS.out; simp [maxLen]; omega) (by have := HPV.out; have := HPS.out; simp; omega) HT1.out.sz (fun v' w' ho hg hv => ?_)
       obtain ⟨A2, n2, c2, rfl⟩ := ho.sl
       have HT2 := Lib.hid ((HT1.out.appA (x := xv) (by rw [List.map_append]; exact ho) hg hv))
       clear ho hg hv
       refine hK _ _ (.inr HT2.out.cells) ?_
       clear hK K
       (try simp only [List.getElem_toArray, List.getElem_cons_zero, List.getElem_cons_succ, Act.put, List.setIfInBounds_toArray, List.set_cons_zero, List.set_cons_succ])
       refine wpAnyT_free (i := 10) (v := ?_) rfl (by kernel_rfl) (by kernel_rfl) (by kernel_rfl) (fun _ _ _ h => h) (Or.inl ⟨by rfl, ?_⟩) HT2.out.cells ?_
       rotate_left
       ·(intro W hW; clear hW; go_simp; try with_reducible rfl)
       (simp only [List.getElem_toArray, List.getElem_cons_zero, List.getElem_cons_succ, Act.put, List.setIfInBounds_toArray, List.set_cons_zero, List.set_cons_succ])
       refine wpAnyT_one (i := 8) (by kernel_rfl) rfl rfl (fun K hK => ?_)
       go_simp
       have HT3 := Lib.hid (HT2.out.lay xs)
       refine hK _ _ (.inr HT3.out.cells) ?_
       clear hK K
       (try simp only [List.getElem_toArray, List.getElem_cons_zero, List.getElem_cons_succ, Act.put, List.setIfInBounds_toArray, List.set_cons_zero, List.set_cons_succ])
       refine wpAnyT_one (i := 9) (by kernel_rfl) rfl rfl (fun K hK => ?_)
       refine oper_apS (.tmp 51) (.tmp 53) _ rfl elemU64 rfl HT3.out.b _ _ 1 1 [u64C xs] rfl (HT3.out.one (g := (_, xs)) (by simp)) rfl (by simp [u64C, Value.oneCell']) (by have := HPV.out; have := HPS.out; simp [maxLen]; omega) (by have := HPV.out; have := HPS.out; simp; omega) HT3.out.sz (fun v' w' ho hg hv => ?_)
       obtain ⟨A4, n4, c4, rfl⟩ := ho.sl
       have HT4 := Lib.hid ((HT3.out.swap.appA (x := xs) (by rw [List.map_append]; exact ho) hg hv).swap)
       clear ho hg hv
       refine hK _ _ (.inr HT4.out.cells) ?_
       clear hK K
       (try simp only [List.getElem_toArray, List.getElem_cons_zero, List.getElem_cons_succ, Act.put, List.setIfInBounds_toArray, List.set_cons_zero, List.set_cons_succ])
       refine wpAnyT_one (i := 11) (by kernel_rfl) rfl rfl (fun K hK => ?_)
       have fz := frozen_blk HT4.out.blk 0
       have cz := HT4.out.cells.1
       go_simp
       have HT5 := Lib.hid (HT4.out.put 0 (.slice A2 n2 c2) rfl)
       clear fz cz
       refine hK _ _ (.inl (by kernel_rfl)) ?_
       clear hK K
       (try simp only [List.getElem_toArray, List.getElem_cons_zero, List.getElem_cons_succ, Act.put, List.setIfInBounds_toArray, List.set_cons_zero, List.set_cons_succ])
       refine wpAnyT_freeT (i := 12) (v := ?_) rfl (by kernel_rfl) (by kernel_rfl) (by kernel_rfl) (fun _ _ _ h => h) (Or.inl ⟨by rfl, ?_⟩) (by kernel_rfl) ?_
       rotate_left
       ·(intro W hW; clear hW; go_simp; try with_reducible rfl)
       (simp only [List.getElem_toArray, List.getElem_cons_zero, List.getElem_cons_succ, Act.put, List.setIfInBounds_toArray, List.set_cons_zero, List.set_cons_succ])
       refine wpAnyT_one (i := 13) (by kernel_rfl) rfl rfl (fun K hK => ?_)
       have fz := frozen_blk HT5.out.blk 1
       have cz := HT5.out.cells.2
       go_simp
       have HT6 := Lib.hid (HT5.out.put 1 (.slice A4 n4 c4) rfl)
       clear fz cz
       refine hK _ _ (.inl (by kernel_rfl)) ?_
       clear hK K
       (try simp only [List.getElem_toArray, List.getElem_cons_zero, List.getElem_cons_succ, Act.put, List.setIfInBounds_toArray, List.set_cons_zero, List.set_cons_succ])
       refine wpAnyT_done (by kernel_rfl) ?_ _
       have HFN := Lib.hid (HT6.out.fin HI9.out)
       clear hS0 HT0 HT6 HI9
       go_wp2
       go_roundw
       case rel => exact ⟨j + 1, by omega, by go_num, _, _, by rw [HP.out]; exact HFN.out⟩
       case measure => simp [intOf] <;> omega
      ·go_simp
       have HT7 := Lib.hid (HT1.out.lay xs)
       refine hK _ _ (.inr HT7.out.cells) ?_
       clear hK K
       (try simp only [List.getElem_toArray, List.getElem_cons_zero, List.getElem_cons_succ, Act.put, List.setIfInBounds_toArray, List.set_cons_zero, List.set_cons_succ])
       refine wpAnyT_one (i := 4) (by kernel_rfl) rfl rfl (fun K hK => ?_)
       refine oper_apS (.tmp 46) (.tmp 48) _ rfl elemU64 rfl HT7.out.a _ _ 1 1 [u64C xv] rfl (HT7.out.one (g := (_, xv)) (by simp)) rfl (by simp [u64C, Value.oneCell']) (by have := HPV.out; have := HPS.out; simp [maxLen]; omega) (by have := HPV.out; have := HPS.out; simp; omega) HT7.out.sz (fun v' w' ho hg hv => ?_)
       obtain ⟨A8, n8, c8, rfl⟩ := ho.sl
       have HT8 := Lib.hid ((HT7.out.appA (x := xv) (by rw [List.map_append]; exact ho) hg hv))
       clear ho hg hv
       refine hK _ _ (.inr HT8.out.cells) ?_
       clear hK K
       (try simp only [List.getElem_toArray, List.getElem_cons_zero, List.getElem_cons_succ, Act.put, List.setIfInBounds_toArray, List.set_cons_zero, List.set_cons_succ])
       refine wpAnyT_free (i := 10) (v := ?_) rfl (by kernel_rfl) (by kernel_rfl) (by kernel_rfl) (fun _ _ _ h => h) (Or.inl ⟨by rfl, ?_⟩) HT8.out.cells ?_
       rotate_left
       ·(intro W hW; clear hW; go_simp; try with_reducible rfl)
       (simp only [List.getElem_toArray, List.getElem_cons_zero, List.getElem_cons_succ, Act.put, List.setIfInBounds_toArray, List.set_cons_zero, List.set_cons_succ])
       refine wpAnyT_one (i := 9) (by kernel_rfl) rfl rfl (fun K hK => ?_)
       refine oper_apS (.tmp 51) (.tmp 53) _ rfl elemU64 rfl HT8.out.b _ _ 1 1 [u64C xs] rfl (HT8.out.one (g := (_, xs)) (by simp)) rfl (by simp [u64C, Value.oneCell']) (by have := HPV.out; have := HPS.out; simp [maxLen]; omega) (by have := HPV.out; have := HPS.out; simp; omega) HT8.out.sz (fun v' w' ho hg hv => ?_)
       obtain ⟨A9, n9, c9, rfl⟩ := ho.sl
       have HT9 := Lib.hid ((HT8.out.swap.appA (x := xs) (by rw [List.map_append]; exact ho) hg hv).swap)
       clear ho hg hv
       refine hK _ _ (.inr HT9.out.cells) ?_
       clear hK K
       (try simp only [List.getElem_toArray, List.getElem_cons_zero, List.getElem_cons_succ, Act.put, List.setIfInBounds_toArray, List.set_cons_zero, List.set_cons_succ])
       refine wpAnyT_one (i := 11) (by kernel_rfl) rfl rfl (fun K hK => ?_)
       have fz := frozen_blk HT9.out.blk 0
       have cz := HT9.out.cells.1
       go_simp
       have HT10 := Lib.hid (HT9.out.put 0 (.slice A8 n8 c8) rfl)
       clear fz cz
       refine hK _ _ (.inl (by kernel_rfl)) ?_
       clear hK K
       (try simp only [List.getElem_toArray, List.getElem_cons_zero, List.getElem_cons_succ, Act.put, List.setIfInBounds_toArray, List.set_cons_zero, List.set_cons_succ])
       refine wpAnyT_freeT (i := 12) (v := ?_) rfl (by kernel_rfl) (by kernel_rfl) (by kernel_rfl) (fun _ _ _ h => h) (Or.inl ⟨by rfl, ?_⟩) (by kernel_rfl) ?_
       rotate_left
       ·(intro W hW; clear hW; go_simp; try with_reducible rfl)
       (simp only [List.getElem_toArray, List.getElem_cons_zero, List.getElem_cons_succ, Act.put, List.setIfInBounds_toArray, List.set_cons_zero, List.set_cons_succ])
       refine wpAnyT_one (i := 13) (by kernel_rfl) rfl rfl (fun K hK => ?_)
       have fz := frozen_blk HT10.out.blk 1
       have cz := HT10.out.cells.2
       go_simp
       have HT11 := Lib.hid (HT10.out.put 1 (.slice A9 n9 c9) rfl)
       clear fz cz
       refine hK _ _ (.inl (by kernel_rfl)) ?_
       clear hK K
       (try simp only [List.getElem_toArray, List.getElem_cons_zero, List.getElem_cons_succ, Act.put, List.setIfInBounds_toArray, List.set_cons_zero, List.set_cons_succ])
       refine wpAnyT_done (by kernel_rfl) ?_ _
       have HFN := Lib.hid (HT11.out.fin HI9.out)
       clear hS0 HT0 HT11 HI9
       go_wp2
       go_roundw
       case rel => exact ⟨j + 1, by omega, by go_num, _, _, by rw [HP.out]; exact HFN.out⟩
       case measure => simp [intOf] <;> omega
     ·go_simp
      have HT12 := Lib.hid (HT0.out.lay xs)
      refine hK _ _ (.inr HT12.out.cells) ?_
      clear hK K
      (try simp only [List.getElem_toArray, List.getElem_cons_zero, List.getElem_cons_succ, Act.put, List.setIfInBounds_toArray, List.set_cons_zero, List.set_cons_succ])
      refine wpAnyT_one (i := 3) (by kernel_rfl) rfl rfl (fun K hK => ?_)
      go_simp
      have HT13 := Lib.hid (HT12.out.lay xv)
      refine hK _ _ (.inr HT13.out.cells) ?_
      clear hK K
      (try simp only [List.getElem_toArray, List.getElem_cons_zero, List.getElem_cons_succ, Act.put, List.setIfInBounds_toArray, List.set_cons_zero, List.set_cons_succ])
      refine wpAnyT_one (i := 4) (by kernel_rfl) rfl rfl (fun K hK => ?_)
      refine oper_apS (.tmp 46) (.tmp 48) _ rfl elemU64 rfl HT13.out.a _ _ 1 1 [u64C xv] rfl (HT13.out.one (g := (_, xv)) (by simp)) rfl (by simp [u64C, Value.oneCell']) (by have := HPV.out; have := HPS.out; simp [maxLen]; omega) (by have := HPV.out; have := HPS.out; simp; omega) HT13.out.sz (fun v' w' ho hg hv => ?_)
      obtain ⟨A14, n14, c14, rfl⟩ := ho.sl
      have HT14 := Lib.hid ((HT13.out.appA (x := xv) (by rw [List.map_append]; exact ho) hg hv))
      clear ho hg hv
      refine hK _ _ (.inr HT14.out.cells) ?_
      clear hK K
      (try simp only [List.getElem_toArray, List.getElem_cons_zero, List.getElem_cons_succ, Act.put, List.setIfInBounds_toArray, List.set_cons_zero, List.set_cons_succ])
      refine wpAnyT_free (i := 10) (v := ?_) rfl (by kernel_rfl) (by kernel_rfl) (by kernel_rfl) (fun _ _ _ h => h) (Or.inl ⟨by rfl, ?_⟩) HT14.out.cells ?_
      rotate_left
      ·(intro W hW; clear hW; go_simp; try with_reducible rfl)
      (simp only [List.getElem_toArray, List.getElem_cons_zero, List.getElem_cons_succ, Act.put, List.setIfInBounds_toArray, List.set_cons_zero, List.set_cons_succ])
      refine wpAnyT_one (i := 9) (by kernel_rfl) rfl rfl (fun K hK => ?_)
      refine oper_apS (.tmp 51) (.tmp 53) _ rfl elemU64 rfl HT14.out.b _ _ 1 1 [u64C xs] rfl (HT14.out.one (g := (_, xs)) (by simp)) rfl (by simp [u64C, Value.oneCell']) (by have := HPV.out; have := HPS.out; simp [maxLen]; omega) (by have := HPV.out; have := HPS.out; simp; omega) HT14.out.sz (fun v' w' ho hg hv => ?_)
      obtain ⟨A15, n15, c15, rfl⟩ := ho.sl
      have HT15 := Lib.hid ((HT14.out.swap.appA (x := xs) (by rw [List.map_append]; exact ho) hg hv).swap)
      clear ho hg hv
      refine hK _ _ (.inr HT15.out.cells) ?_
      clear hK K
      (try simp only [List.getElem_toArray, List.getElem_cons_zero, List.getElem_cons_succ, Act.put, List.setIfInBounds_toArray, List.set_cons_zero, List.set_cons_succ])
      refine wpAnyT_one (i := 11) (by kernel_rfl) rfl rfl (fun K hK => ?_)
      have fz := frozen_blk HT15.out.blk 0
      have cz := HT15.out.cells.1
      go_simp
      have HT16 := Lib.hid (HT15.out.put 0 (.slice A14 n14 c14) rfl)
      clear fz cz
      refine hK _ _ (.inl (by kernel_rfl)) ?_
      clear hK K
      (try simp only [List.getElem_toArray, List.getElem_cons_zero, List.getElem_cons_succ, Act.put, List.setIfInBounds_toArray, List.set_cons_zero, List.set_cons_succ])
      refine wpAnyT_freeT (i := 12) (v := ?_) rfl (by kernel_rfl) (by kernel_rfl) (by kernel_rfl) (fun _ _ _ h => h) (Or.inl ⟨by rfl, ?_⟩) (by kernel_rfl) ?_
      rotate_left
      ·(intro W hW; clear hW; go_simp; try with_reducible rfl)
      (simp only [List.getElem_toArray, List.getElem_cons_zero, List.getElem_cons_succ, Act.put, List.setIfInBounds_toArray, List.set_cons_zero, List.set_cons_succ])
      refine wpAnyT_one (i := 13) (by kernel_rfl) rfl rfl (fun K hK => ?_)
      have fz := frozen_blk HT16.out.blk 1
      have cz := HT16.out.cells.2
      go_simp
      have HT17 := Lib.hid (HT16.out.put 1 (.slice A15 n15 c15) rfl)
      clear fz cz
      refine hK _ _ (.inl (by kernel_rfl)) ?_
      clear hK K
      (try simp only [List.getElem_toArray, List.getElem_cons_zero, List.getElem_cons_succ, Act.put, List.setIfInBounds_toArray, List.set_cons_zero, List.set_cons_succ])
      refine wpAnyT_done (by kernel_rfl) ?_ _
      have HFN := Lib.hid (HT17.out.fin HI9.out)
      clear hS0 HT0 HT17 HI9
      go_wp2
      go_roundw
      case rel => exact ⟨j + 1, by omega, by go_num, _, _, by rw [HP.out]; exact HFN.out⟩
      case measure => simp [intOf] <;> omega
end Go.Proofs.YtjgjofepedcfnaaGreat
