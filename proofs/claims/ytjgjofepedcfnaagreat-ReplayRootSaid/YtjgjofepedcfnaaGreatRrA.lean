/- Walk of tegularef25.LeafSum. -/
import Derived.Test.YtjgjofepedcfnaaGreatRpG
import Derived.Test.YtjgjofepedcfnaaGreatGRo
namespace Go.Proofs.YtjgjofepedcfnaaGreat
open Go.RowKit
def prL (vs ss : List Nat) : List Nat := (vs.zip ss).flatMap fun p => leB p.1 8 ++ leB p.2 8
def lfL (g : Nat) (vs ss : List Nat) : List Nat := leB g 4 ++ leB vs.length 4 ++ prL vs ss
def lfN (g : Nat) (x : Leaf) : Nat := crcN (lfL g x.vs x.ss)
theorem prL_lt (vs ss : List Nat) : ∀ x ∈ prL vs ss, x < 256 := by
 intro x hx
 unfold prL at hx
 obtain ⟨p, -, hx⟩ := List.mem_flatMap.1 hx
 rcases List.mem_append.1 hx with hx | hx <;> exact leB_lt x hx
theorem lfL_lt (g : Nat) (vs ss : List Nat) : ∀ x ∈ lfL g vs ss, x < 256 := by
 intro x hx
 unfold lfL at hx
 rcases List.mem_append.1 hx with hx | hx
 ·rcases List.mem_append.1 hx with hx | hx <;> exact leB_lt x hx
 ·exact prL_lt vs ss x hx
theorem prL_len (vs ss : List Nat) (h : vs.length = ss.length) : (prL vs ss).length = 16 * vs.length := by
 unfold prL
 induction vs generalizing ss with
 | nil => simp
 | cons a vs ih =>
  cases ss with
  | nil => simp at h
  | cons b ss =>
   simp only [List.zip_cons_cons, List.flatMap_cons, List.length_append, List.length_cons]
   rw [ih ss (by simpa using h)]
   simp
   omega
theorem prL_snoc {vs ss : List Nat} {k v s : Nat} (hv : vs[k]? = some v) (hs : ss[k]? = some s) : prL (vs.take (k + 1)) (ss.take (k + 1)) = prL (vs.take k) (ss.take k) ++ leB v 8 ++ leB s 8 := by
 have hk := (List.getElem?_eq_some_iff.1 hv).1
 have hk2 := (List.getElem?_eq_some_iff.1 hs).1
 unfold prL
 rw [List.take_add_one, List.take_add_one, hv, hs, show (some v).toList = [v] from rfl, show (some s).toList = [s] from rfl, List.zip_append (by simp; omega), List.flatMap_append]
 simp
theorem put15v {A : Option Addr} {c : Nat} {l : List Nat} (n k : Nat) (w : World) (h : BytS w w.heap.size A l) (hlen : l.length ≤ 1000000) (hk : k ≤ 8) :
  Calls Tryz.prog 111 #[.slice A l.length c, .int .u64 (n : Int), .int .i64 (k : Int)] w fun r w' => (∃ A' c', r = .returned (.slice A' (l ++ leB n k).length c') ∧ BytS w' w'.heap.size A' (l ++ leB n k)) ∧ Below w.heap.size w w' :=
 (put15 n k w h (Nat.le_refl _) hlen hk).mono fun r w' hh => by
  obtain ⟨⟨v, rfl, ho⟩, hb⟩ := hh
  obtain ⟨A', c', rfl, hr⟩ := ho.bytes
  exact ⟨⟨A', c', rfl, hr⟩, hb⟩
set_option maxHeartbeats 2000000 in
set_option maxRecDepth 100000 in
theorem leaf25 (g : Nat) {B : Nat} {v : Value} {x : Leaf} (w : World) (h : LfV w B v x) (hB : B ≤ w.heap.size) (hn : x.vs.length = x.ss.length) (hg : g < 1000000) (hl : x.vs.length ≤ 1000) :
  Calls Tryz.prog 62 #[.int .i64 (g : Int), v] w fun r w' => r = .returned (.int .u64 (lfN g x : Int)) ∧ Below w.heap.size w w' := by
 obtain ⟨vs, ss⟩ := x
 obtain ⟨Av, cv, As, cs, rfl, h1, h2, -, -⟩ := h
 simp only at h1 h2 hn hl ⊢
 rw [← hn]
 have hc1 := fun W => conv_iu64 (g : Int) (by omega) (by omega) W
 have hc2 := fun W => conv_iu64 (vs.length : Int) (by omega) (by omega) W
 obtain ⟨n, hnn⟩ : ∃ n, vs.length = n := ⟨_, rfl⟩
 obtain ⟨l1, hl1⟩ : ∃ l1, leB g 4 = l1 := ⟨_, rfl⟩
 obtain ⟨l2, hl2⟩ : ∃ l2, l1 ++ leB n 4 = l2 := ⟨_, rfl⟩
 have n1 : l1.length = 4 := by rw [← hl1]; simp
 have n2 : l2.length = 8 := by rw [← hl2]; simp [n1]
 have HE : Hid (l2 ++ prL vs ss = lfL g vs ss) := by rw [Hid, ← hl2, ← hl1, ← hnn]; rfl
 have HLT : Hid (∀ x ∈ l2 ++ prL vs ss, x < 256) := by rw [Hid, HE.out]; exact lfL_lt g vs ss
 have HN : Hid (lfN g ⟨vs, ss⟩ = crcN (l2 ++ prL vs ss)) := by rw [Hid, HE.out]; rfl
 have HLL : Hid (∀ k, k ≤ n → (l2 ++ prL (vs.take k) (ss.take k)).length ≤ 100000) := fun k hk => by
  rw [List.length_append, prL_len _ _ (by simp [hn]), List.length_take, n2]
  omega
 have HH1 := Lib.hid (RdS.more (RdS.below' h1 (Below.refl _ _) hB) hB)
 have HH2 := Lib.hid (RdS.more (RdS.below' h2 (Below.refl _ _) hB) hB)
 have HNS : Hid (ss.length = n) := by rw [Hid, ← hn, hnn]
 have HNV : Hid (vs.length = n) := hnn
 rw [hnn] at hc2 hl ⊢
 generalize lfN g ⟨vs, ss⟩ = S at *
 have HP1 : Hid (∀ W : World, Calls Tryz.prog 111 #[.slice none 0 0, .int .u64 (g : Int), .int .i64 4] W fun r w' => (∃ A' c', r = .returned (.slice A' l1.length c') ∧ BytS w' w'.heap.size A' l1) ∧ Below W.heap.size W w') := fun W => by
  have := put15v (A := none) (c := 0) (l := []) g 4 W (RdS.nil _ _ _ _) (by simp) (by omega)
  rw [List.nil_append, hl1] at this
  exact this
 clear h1 h2 hn hnn HE hl1
 have HP2 : Hid (∀ (A : Option Addr) (c : Nat) (W : World), BytS W W.heap.size A l1 → Calls Tryz.prog 111 #[.slice A l1.length c, .int .u64 (n : Int), .int .i64 4] W fun r w' => (∃ A' c', r = .returned (.slice A' l2.length c') ∧ BytS w' w'.heap.size A' l2) ∧ Below W.heap.size W w') := fun A c W h => by
  have := put15v (c := c) n 4 W h (by omega) (by omega)
  rw [hl2] at this
  exact this
 have N2 : Hid (l2.length = 8) := n2
 clear hl2 n1 n2
 go_enter Tryz.func62, Tryz.ntmps62
 go_upto_region 1 with (fail)
 generalize hW0 : w.alloc _ = w0
 have HBX : Hid (∀ W, Below w0.heap.size w0 W → (W.cell? ⟨w.heap.size, 0, none⟩ = some (.slice Av n cv) ∧ W.cell? ⟨w.heap.size, 1, none⟩ = some (.slice As n cs))) := fun W hW => by
  have hh := heap_alloc_new w (.cells #[.slice Av n cv, .slice As n cs] 80)
  have hs : w.heap.size < w0.heap.size := by rw [← hW0]; simp
  rw [hW0] at hh
  have hq := (hW.block _ hs).trans hh
  exact ⟨by rw [cell_of_row _ _ _ _ _ _ hq]; rfl, by rw [cell_of_row _ _ _ _ _ _ hq]; rfl⟩
 have HB0 : Hid (Below w.heap.size w w0) := by rw [← hW0]; exact below_laid
 have HW2 : Hid (∀ W, Below w0.heap.size w0 W → Calls Tryz.prog 87 #[.agg #[.slice Av n cv, .slice As n cs]] W fun r w' => r = .returned (.int .i64 (n : Int)) ∧ Below W.heap.size W w' ∧ Below w0.heap.size w0 w') := fun W hW => (width25 W).mono fun r w' hh => ⟨hh.1, hh.2, hW.trans (hh.2.mono hW.size)⟩
 have HQ1 : Hid (∀ W : World, Below w0.heap.size w0 W → Calls Tryz.prog 111 #[.slice none 0 0, .int .u64 (g : Int), .int .i64 4] W fun r w' => (∃ A' c', r = .returned (.slice A' l1.length c') ∧ BytS w' w'.heap.size A' l1) ∧ Below W.heap.size W w' ∧ Below w0.heap.size w0 w') := fun W hW => (HP1.out W).mono fun r w' hh => ⟨hh.1, hh.2, hW.trans (hh.2.mono hW.size)⟩
 have HQ2 : Hid (∀ (A : Option Addr) (c : Nat) (W : World), BytS W W.heap.size A l1 → Below w0.heap.size w0 W → Calls Tryz.prog 111 #[.slice A l1.length c, .int .u64 (n : Int), .int .i64 4] W fun r w' => (∃ A' c', r = .returned (.slice A' l2.length c') ∧ BytS w' w'.heap.size A' l2) ∧ Below W.heap.size W w' ∧ Below w0.heap.size w0 w') := fun A c W h hW => (HP2.out A c W h).mono fun r w' hh => ⟨hh.1, hh.2, hW.trans (hh.2.mono hW.size)⟩
 clear hW0 HP1 HP2
 go_cut [5] (fun s5 wx => ∃ A' c', s5 = .slice A' l2.length c' ∧ BytS wx wx.heap.size A' l2 ∧ Below w0.heap.size w0 wx)
 case first =>
  clear HLT HLL HH1 HH2 HNS HNV HN
  go_region_held3 (fun W => W.cell? ⟨w.heap.size, 0, none⟩ = some (.slice Av n cv) ∧ W.cell? ⟨w.heap.size, 1, none⟩ = some (.slice As n cs))
   (first | with_reducible exact HBX.out _ (Below.refl w0.heap.size w0) | with_reducible exact HBX.out _ (Below.refl w0.heap.size w0).drew | with_reducible exact HBX.out _ hPb | with_reducible exact HBX.out _ hPb.drew | with_reducible exact HBX.out _ hWb | with_reducible exact HBX.out _ hWb.drew | with_reducible exact HBX.out _ hZb | (trace_state; fail))
   (first
    | (go_at_call 111; first
     | ((with_reducible refine (HQ1.out _ hWb.drew).mono ?_); rintro r y1 ⟨⟨A1, c1, rfl, hR1⟩, hP, hPb⟩)
     | ((with_reducible refine (HQ1.out _ hWb).mono ?_); rintro r y1 ⟨⟨A1, c1, rfl, hR1⟩, hP, hPb⟩)
     | ((with_reducible refine (HQ1.out _ (Below.refl w0.heap.size w0).drew).mono ?_); rintro r y1 ⟨⟨A1, c1, rfl, hR1⟩, hP, hPb⟩)
     | ((with_reducible refine (HQ2.out A1 c1 _ hRW hWb).mono ?_); rintro r y2 ⟨⟨A2, c2, rfl, hR2⟩, -, hZb⟩)
     | ((with_reducible refine (HQ2.out A1 c1 _ hR1 hPb).mono ?_); rintro r y2 ⟨⟨A2, c2, rfl, hR2⟩, -, hZb⟩)
     | ((with_reducible refine (HQ2.out A1 c1 _ (byt_keep hRW (Below.refl _ _).drew) hWb.drew).mono ?_); rintro r y2 ⟨⟨A2, c2, rfl, hR2⟩, -, hZb⟩)
     | ((with_reducible refine (HQ2.out A1 c1 _ (byt_keep hR1 (Below.refl _ _).drew) hPb.drew).mono ?_); rintro r y2 ⟨⟨A2, c2, rfl, hR2⟩, -, hZb⟩)
     | (trace_state; fail))
    | (go_at_call 87; first
     | ((with_reducible refine (HW2.out _ hPb).mono ?_); rintro r yW ⟨rfl, hWs, hWb⟩; have hRW := byt_keep hR1 hWs)
     | ((with_reducible refine (HW2.out _ hPb.drew).mono ?_); rintro r yW ⟨rfl, hWs, hWb⟩; have hRW := byt_keep hR1 ((Below.refl _ _).drew.trans hWs))
     | ((with_reducible refine (HW2.out _ (Below.refl w0.heap.size w0).drew).mono ?_); rintro r yW ⟨rfl, hWs, hWb⟩)
     | (trace_state; fail))
    | fail)
  all_goals
   go_wp2_with fail
   go_meet
   ·exact ⟨A2, c2, rfl, hR2, hZb⟩
 obtain ⟨A2, c2, rfl, hR2, hbC⟩ := hcut
 have HR0 := Lib.hid hR2
 have HBC := Lib.hid hbC
 clear hR2 hbC HQ1 HQ2
 generalize wc = w1 at *
 go_wp2
 go_loopw [5, 6] (fun s5 s6 wr => ∃ k : Nat, k ≤ n ∧ s6 = .int .i64 k ∧ ∃ A c, s5 = .slice A (l2 ++ prL (vs.take k) (ss.take k)).length c ∧ BytS wr wr.heap.size A (l2 ++ prL (vs.take k) (ss.take k)) ∧ Below w0.heap.size w0 wr) (fun _ s6 _ => n - (intOf s6).toNat)
 case atStart => exact ⟨0, by omega, rfl, A2, c2, by simp [prL], by simpa [prL] using HR0.out, HBC.out⟩
 case round =>
  obtain ⟨k, hk, rfl, A3, c3, rfl, hR3, hb⟩ := hrel
  have HLK := Lib.hid (HLL.out k hk)
  have HR3 := Lib.hid hR3
  have HB := Lib.hid hb
  obtain ⟨b0, b1⟩ := HBX.out wr hb
  have HWC := Lib.hid (HW2.out wr hb)
  clear hR3 hb HR0 HBC
  go_wp2_with fail
  refine HWC.out.mono ?_
  rintro r w2 ⟨rfl, hb2, hb2'⟩
  have HR4 := Lib.hid (byt_keep HR3.out hb2)
  have HB2 := Lib.hid hb2'
  clear hb2 hb2' HWC HR3 HB b0 b1
  by_cases hkn : k < n
  case neg =>
   have hkI : ¬ (k : Int) < (n : Int) := by omega
   obtain rfl : k = n := by omega
   have HEE : Hid (l2 ++ prL (vs.take k) (ss.take k) = l2 ++ prL vs ss) := by rw [Hid, List.take_of_length_le (Nat.le_of_eq HNV.out), List.take_of_length_le (Nat.le_of_eq HNS.out)]
   rw [HEE.out] at HR4 HLK ⊢
   have HSM := Lib.hid (sum08 (c := c3) w2 HR4.out HLT.out (by have := HLK.out; omega))
   rw [← HN.out] at HSM
   generalize l2 ++ prL vs ss = lf at *
   go_wp2_with fail
   refine HSM.out.mono ?_
   rintro r w3 ⟨rfl, rfl⟩
   have hbe := HB0.out.trans (HB2.out.mono HB0.out.size)
   have HBE := Lib.hid hbe
   clear hbe
   go_wp2
   go_ret
   exact ⟨rfl, HBE.out⟩
  case pos =>
   have hkI : (k : Int) < (n : Int) := by omega
   have hk0 : ¬ (k : Int) < 0 := by omega
   obtain ⟨xv, hxv⟩ : ∃ x, vs[k]? = some x := ⟨_, List.getElem?_eq_getElem (by have := HNV.out; omega)⟩
   obtain ⟨xs, hxs⟩ : ∃ x, ss[k]? = some x := ⟨_, List.getElem?_eq_getElem (by have := HNS.out; omega)⟩
   obtain ⟨bv, ov, rfl, hbv, hcv⟩ := U64S.at_ HH1.out hxv
   obtain ⟨bs, os, rfl, hbs, hcs⟩ := U64S.at_ HH2.out hxs
   have HSN := Lib.hid (prL_snoc hxv hxs)
   have HKS : Hid (∀ W, Below w2.heap.size w2 W → (W.cell? ⟨w.heap.size, 0, none⟩ = some (.slice (some ⟨bv, ov, none⟩) n cv) ∧ W.cell? ⟨w.heap.size, 1, none⟩ = some (.slice (some ⟨bs, os, none⟩) n cs) ∧ W.cell? ⟨bv, ov + k, none⟩ = some (.int .u64 (xv : Int)) ∧ W.cell? ⟨bs, os + k, none⟩ = some (.int .u64 (xs : Int)))) := fun W hW => by
    have hW0 : Below w0.heap.size w0 W := HB2.out.trans (hW.mono HB2.out.size)
    have hWw : Below w.heap.size w W := HB0.out.trans (hW0.mono HB0.out.size)
    obtain ⟨g0, g1⟩ := HBX.out W hW0
    exact ⟨g0, g1, (hWw.cell (p := ⟨bv, ov + k, none⟩) hbv).trans hcv, (hWw.cell (p := ⟨bs, os + k, none⟩) hbs).trans hcs⟩
   have HLM : Hid ((l2 ++ prL (vs.take k) (ss.take k) ++ leB xv 8).length ≤ 200000) := by
    have := HLK.out
    rw [Hid, List.length_append]
    simp only [leB_len]
    omega
   have HSE : Hid (l2 ++ prL (vs.take (k + 1)) (ss.take (k + 1)) = l2 ++ prL (vs.take k) (ss.take k) ++ leB xv 8 ++ leB xs 8) := by
    rw [Hid, HSN.out]
    simp only [List.append_assoc]
   have HE2 := Lib.hid (HLL.out (k + 1) (by omega))
   rw [HSE.out] at HE2
   generalize l2 ++ prL (vs.take k) (ss.take k) = lk at *
   obtain ⟨lm, hlm⟩ : ∃ lm, lk ++ leB xv 8 = lm := ⟨_, rfl⟩
   obtain ⟨ln, hln⟩ : ∃ ln, lm ++ leB xs 8 = ln := ⟨_, rfl⟩
   have HQ1 : Hid (∀ (W : World), BytS W W.heap.size A3 lk → Below w2.heap.size w2 W → Calls Tryz.prog 111 #[.slice A3 lk.length c3, .int .u64 (xv : Int), .int .i64 8] W fun r w' => (∃ A' c', r = .returned (.slice A' lm.length c') ∧ BytS w' w'.heap.size A' lm) ∧ Below w2.heap.size w2 w') := fun W h hW => by
    have := put15v (c := c3) xv 8 W h (by have := HLK.out; omega) (by omega)
    rw [hlm] at this
    exact this.mono fun r w' hh => ⟨hh.1, hW.trans (hh.2.mono hW.size)⟩
   have HQ2 : Hid (∀ (A : Option Addr) (c : Nat) (W : World), BytS W W.heap.size A lm → Below w2.heap.size w2 W → Calls Tryz.prog 111 #[.slice A lm.length c, .int .u64 (xs : Int), .int .i64 8] W fun r w' => (∃ A' c', r = .returned (.slice A' ln.length c') ∧ BytS w' w'.heap.size A' ln) ∧ Below w2.heap.size w2 w') := fun A c W h hW => by
    have := put15v (c := c) xs 8 W h (by rw [← hlm]; have := HLM.out; omega) (by omega)
    rw [hln] at this
    exact this.mono fun r w' hh => ⟨hh.1, hW.trans (hh.2.mono hW.size)⟩
   rw [hlm, hln] at HSE
   clear hcv hcs hxv hxs HSN HLM HE2 hlm hln
   go_upto_region 5 with (fail)
   go_region_held3 (fun W => W.cell? ⟨w.heap.size, 0, none⟩ = some (.slice (some ⟨bv, ov, none⟩) n cv) ∧ W.cell? ⟨w.heap.size, 1, none⟩ = some (.slice (some ⟨bs, os, none⟩) n cs) ∧ W.cell? ⟨bv, ov + k, none⟩ = some (.int .u64 (xv : Int)) ∧ W.cell? ⟨bs, os + k, none⟩ = some (.int .u64 (xs : Int)))
    (first | with_reducible exact HKS.out _ (Below.refl w2.heap.size w2) | with_reducible exact HKS.out _ (Below.refl w2.heap.size w2).drew | with_reducible exact HKS.out _ hPb | with_reducible exact HKS.out _ hPb.drew | with_reducible exact HKS.out _ hZb | (trace_state; fail))
    (first
     | (go_at_call 111; first
      | ((with_reducible refine (HQ1.out _ (byt_keep HR4.out (Below.refl _ _).drew) (Below.refl w2.heap.size w2).drew).mono ?_); rintro r y1 ⟨⟨A1, c1, rfl, hR1⟩, hPb⟩)
      | ((with_reducible refine (HQ1.out _ HR4.out (Below.refl w2.heap.size w2)).mono ?_); rintro r y1 ⟨⟨A1, c1, rfl, hR1⟩, hPb⟩)
      | ((with_reducible refine (HQ2.out A1 c1 _ hR1 hPb).mono ?_); rintro r y2 ⟨⟨A5, c5, rfl, hR5⟩, hZb⟩)
      | ((with_reducible refine (HQ2.out A1 c1 _ (byt_keep hR1 (Below.refl _ _).drew) hPb.drew).mono ?_); rintro r y2 ⟨⟨A5, c5, rfl, hR5⟩, hZb⟩)
      | (trace_state; fail))
     | fail)
   all_goals
    have HR5 : Hid (BytS y2 y2.heap.size A5 (l2 ++ prL (vs.take (k + 1)) (ss.take (k + 1)))) := by rw [Hid, HSE.out]; exact hR5
    have HB5 := Lib.hid (HB2.out.trans (hZb.mono HB2.out.size))
    clear hR5 hZb hR1 hPb HQ1 HQ2 HKS HR4 HB2
    go_wp2
    go_roundw
    case rel => exact ⟨k + 1, by omega, by go_num, A5, c5, by rw [HSE.out], HR5.out, HB5.out⟩
    case measure => simp [intOf] <;> omega
end Go.Proofs.YtjgjofepedcfnaaGreat
