/- Walk of tegulalaw50.ReplayParts. -/
import Derived.Test.YtjgjofepedcfnaaGreatRrD
import Derived.Test.YtjgjofepedcfnaaGreatOpnR
namespace Go.Proofs.YtjgjofepedcfnaaGreat
open Go.RowKit
set_option maxHeartbeats 16000000 in
set_option maxRecDepth 100000 in
theorem lreplayParts (n0 n2 : Nat) (hn0 : n0 < 256) (hn2 : n2 < 256) (rs : List Rcd) (Ar : Option Addr) (cr : Nat) (w : World) (hrs : RcsS w w.heap.size Ar rs) (hin : ∀ r ∈ rs, r.seq < 18446744073709551616 ∧ ∀ x ∈ r.ws, x.d.ok) (hlen : rs.length ≤ 9223372036854775807) (hcap : rs.length ≤ cr) :
  Calls Tryz.prog 6 #[.int .u8 (n0 : Int), .slice Ar rs.length cr, .int .u8 (n2 : Int)] w fun r w' => r = .returned (.bool true) ∧ Below w.heap.size w w' := by
 have HX := Lib.hid (small_layX (kL n0))
 have HSM : Hid (∀ W, Calls Tryz.prog 13 #[.int .u8 (n0 : Int)] W fun r w' => SmkP n0 W r w') := fun W => r50small n0 hn0 W
 unfold SmkP at HSM
 generalize smallL (kL n0) = L at *
 have HAW : Hid (∀ W, Calls Tryz.prog 10 #[] W fun r w' => r = .returned (.bool true) ∧ Below W.heap.size W w') := fun W => lawake W
 have HFW : Hid (∀ W, Below w.heap.size w W → Calls Tryz.prog 11 #[.slice Ar rs.length cr] W fun e w' => e = .returned (.bool (fewB rs)) ∧ Below W.heap.size W w') := fun W hW => lfew W (hrs.below hW (Nat.le_refl _)) hW.size hlen
 have HFT := Lib.hid (fun h => few_ok (rs := rs) h hin)
 have HRS := Lib.hid hrs
 have HCAP : Hid (rs.length ≤ cr) := hcap
 have hcv := fun W => conv_u8 (n2 : Int) (by omega) (by omega) W
 obtain ⟨fb, hfb⟩ : ∃ q, fewB rs = q := ⟨_, rfl⟩
 rw [hfb] at HFW HFT
 clear hrs hin hfb hlen hcap
 go_enter Tryz.func6, Tryz.ntmps6
 go_wp2_with fail
 refine (HAW.out w).mono ?_
 rintro r w1 ⟨rfl, hb1⟩
 have HB1 := Lib.hid hb1
 clear hb1 HAW
 go_wp2_with fail
 refine (HFW.out w1 HB1.out).mono ?_
 rintro r w2 ⟨rfl, hb2⟩
 have HB2 := Lib.hid (HB1.out.trans (hb2.mono HB1.out.size))
 clear hb2 HFW HB1
 cases fb with
 | false =>
  go_wp2
  go_ret
  exact ⟨rfl, HB2.out⟩
 | true =>
  obtain ⟨hlen, hrok⟩ := HFT.out rfl
  have HROK := Lib.hid hrok
  have hlay := HX.out.ok
  have hw16 := hlay.w
  have hG := hlay.G
  clear HFT hrok
  go_wp2_with fail
  refine (HSM.out w2).mono ?_
  rintro r w3 ⟨A, c, rfl, hgs, hb3⟩
  unfold layAgg
  have HB3 := Lib.hid (HB2.out.trans (hb3.mono HB2.out.size))
  have HGS := Lib.hid hgs
  clear hgs hb3 HSM HB2
  go_upto_region 6 with (fail)
  generalize hW4 : w3.alloc _ = w4
  have HI4 : Hid (LxI w w3.heap.size L A c w4) := by
   refine ⟨?_, ?_, ?_⟩
   ·rw [← hW4]; exact HB3.out.trans (below_laid.mono HB3.out.size)
   ·rw [← hW4]; exact heap_alloc_new w3 _
   ·rw [← hW4]; exact HGS.out.below below_laid (Nat.le_refl _)
  clear hW4 HGS HB3
  generalize w3.heap.size = X at *
  have HNW := Lib.hid (fun (W : World) (h : LxI w X L A c W) => rnew (c := c) W HX.out h.gs (Nat.le_refl _) (by omega) (by omega) (by omega))
  unfold layAgg at HNW
  obtain ⟨l0, l1, l2, l3⟩ := HI4.out.lay.cells
  go_wp2_with fail
  refine (HNW.out w4 HI4.out).mono ?_
  rintro r w5 ⟨⟨A', c', rfl, hls⟩, hb5⟩
  have HI5 := Lib.hid (HI4.out.below hb5)
  have HLS := Lib.hid (LvS.stv (c := c') hls)
  clear hls hb5 HNW HI4 l0 l1 l2 l3
  go_upto_region 7 with (fail)
  have HZB6 : Hid (Bx (w5.alloc (.cells #[.slice A' L.G c', .slice none 0 0, .slice none 0 0] 41)) w5.heap.size 41 (.slice A' L.G c') (.slice none 0 0) (.slice none 0 0) (newS L)) := Bx.made HLS.out _
  have HI6 : Hid (LxI w X L A c (w5.alloc (.cells #[.slice A' L.G c', .slice none 0 0, .slice none 0 0] 41))) := HI5.out.below below_laid
  generalize w5.alloc _ = w6 at *
  generalize w5.heap.size = Z at *
  clear HLS HI5
  have HNF := Lib.hid (newS_f (L := L) (by omega) (by omega))
  have HNM : Hid (∀ m ∈ (newS L).ms, PlWf m.to) := fun m hm => by cases hm
  have HRW : Hid (∀ W, LxI w X L A c W → RcsS W W.heap.size Ar rs) := fun W hI => (HRS.out.below hI.bel (Nat.le_refl _)).more hI.bel.size
  have HTP := fun k => two_parts (L := L) rs k
  have HFS := fun k => allR_few (L := L) (S := newS L) (rs := rs.take k) (by omega) (by omega) (by rw [List.length_take]; omega) (by simp [newS]) (by simp [newS])
  have HFA := Lib.hid (allR_few (L := L) (S := newS L) (rs := rs) (by omega) (by omega) hlen (by simp [newS]) (by simp [newS]))
  have HOKT : Hid (∀ k, (allR L (newS L) (rs.take k)).2 = 0 → stOk L (allR L (newS L) (rs.take k)).1 = true ∧ (allR L (newS L) (rs.take k)).1.ms.length ≤ 640 ∧ (allR L (newS L) (rs.take k)).1.nt.length ≤ 10) := fun k h => by
   rw [allR_new] at h ⊢
   obtain ⟨g1, g2, g3⟩ := allF_ok _ _ (newS_ok L) h
   have h4 : (rs.take k).length ≤ rs.length := by rw [List.length_take]; omega
   have h5 : (newS L).ms.length = 0 := rfl
   have h6 : (newS L).nt.length = 0 := rfl
   exact ⟨g1, by omega, by omega⟩
  have HOR : Hid ((allR L (newS L) rs).2 = 0 → (∀ r ∈ rs, rcdB r = true) ∧ ∀ ts, SrtW (allW rs) ts → ts.length ≤ 64 → ∃ T, allR L (newS L) [oneR ts] = (T, 0) ∧ T.ls = (allR L (newS L) rs).1.ls) := fun h => by
   rw [allR_new rs] at h ⊢
   exact ⟨allF_rcd _ _ h, fun ts hs hn => one_rcd h hs hn⟩
  have HAA := Lib.hid (HI6.out.all (cq := cr) HX.out HZB6.out HNM.out (HRW.out w6 HI6.out) HROK.out hlen HNF.out)
  obtain ⟨kk, hkk⟩ : ∃ k, n2 % (rs.length + 1) = k := ⟨_, rfl⟩
  have hkl : kk ≤ rs.length := by have := Nat.mod_lt n2 (y := rs.length + 1) (by omega); omega
  have hmod : Int.tmod (n2 : Int) ((rs.length : Int) + 1) = (kk : Int) := by
   rw [← hkk]
   exact Int.ofNat_tmod n2 (rs.length + 1)
  have HTK := Lib.hid (HTP kk)
  have HFK := Lib.hid (HFS kk)
  have HOK := Lib.hid (HOKT.out kk)
  clear HTP HFS HOKT hkk
  have HRT : Hid (∀ (W : World) (Aq : Option Addr), LxI w X L A c W → (kk = 0 ∨ Aq = Ar) → RcsS W W.heap.size Aq (rs.take kk)) := fun W Aq hI h => by
   rcases h with h | h
   ·rw [h]; exact RcsS.nil
   ·rw [h]; exact (HRW.out W hI).take kk
  have HRD : Hid (∀ (W : World) (Aq : Option Addr), LxI w X L A c W → (kk = rs.length ∨ ∃ b off, Ar = some ⟨b, off, none⟩ ∧ Aq = some ⟨b, off + kk * 5, none⟩) → RcsS W W.heap.size Aq (rs.drop kk)) := fun W Aq hI h => by
   rcases h with h | ⟨b, off, h1, h2⟩
   ·rw [h, List.drop_length]; exact RcsS.nil
   ·have := HRW.out W hI
    rw [h1] at this
    rw [h2]; exact this.drop kk
  have HRKT : Hid (∀ r ∈ rs.take kk, RcdOk r) := fun r hr => HROK.out r (List.mem_of_mem_take hr)
  have HRKD : Hid (∀ r ∈ rs.drop kk, RcdOk r) := fun r hr => HROK.out r (List.mem_of_mem_drop hr)
  have HTL : Hid ((rs.take kk).length = kk) := by rw [Hid, List.length_take]; omega
  have HDL : Hid ((rs.drop kk).length = rs.length - kk) := by rw [Hid, List.length_drop]
  have HPL := Lib.hid (fun (t1 t2 t : List Pw) (h : SrtW (allW rs) t) => parts_len (k := kk) (t1 := t1) (t2 := t2) h)
  generalize hTK : rs.take kk = rT at *
  generalize hDK : rs.drop kk = rD at *
  obtain ⟨Sa, ea, hap⟩ : ∃ Sa ea, allR L (newS L) rs = (Sa, ea) := ⟨_, _, rfl⟩
  obtain ⟨S1, e1, hap1⟩ : ∃ S1 e1, allR L (newS L) rT = (S1, e1) := ⟨_, _, rfl⟩
  rw [hap] at HAA HFA HTK HOR
  rw [hap1] at HFK HOK HTK
  simp only at HAA HFA HTK HFK HOK HOR
  have HE1 : Hid (allR L (newS L) rT = (S1, e1)) := hap1
  have HOA : Hid (ea = 0 → stOk L Sa = true) := fun h => by
   have h1 : (allR L (newS L) rs).2 = 0 := by rw [hap]; exact h
   rw [allR_new] at h1
   have := (allF_ok _ _ (newS_ok L) h1).1
   rw [← allR_new, hap] at this
   exact this
  clear hTK hDK hap hap1
  obtain ⟨l0, l1, l2, l3⟩ := HI6.out.lay.cells
  obtain ⟨y0, y1, y2⟩ := HZB6.out.cells
  go_wp2_with fail
  refine HAA.out.mono ?_
  rintro r w7 ⟨⟨v7, At, ts, ct, rfl, hse, hpw, hs1, hs0⟩, hb7⟩
  obtain ⟨D1, d1, D2, d2, D3, d3, rfl, hsv⟩ := hse.now.form
  have HSV := Lib.hid hsv
  have HPW7 := Lib.hid hpw.now
  have hwl := ts_big HROK.out hlen hs1 hs0
  have HS1 := Lib.hid hs1
  have HI7 := Lib.hid (HI6.out.below hb7)
  have HZB7 := Lib.hid (HZB6.out.below hb7)
  clear hse hsv hpw hs1 hs0 hb7 HAA HI6 HZB6 l0 l1 l2 l3 y0 y1 y2
  go_upto_region 10 with (fail)
  have HBA8 : Hid (Bx (w7.alloc (.cells #[.slice D1 Sa.ls.length d1, .slice D2 Sa.ms.length d2, .slice D3 Sa.nt.length d3] 41)) w7.heap.size 41 (.slice D1 Sa.ls.length d1) (.slice D2 Sa.ms.length d2) (.slice D3 Sa.nt.length d3) Sa) := Bx.made HSV.out _
  have HI8 : Hid (LxI w X L A c (w7.alloc (.cells #[.slice D1 Sa.ls.length d1, .slice D2 Sa.ms.length d2, .slice D3 Sa.nt.length d3] 41))) := HI7.out.below below_laid
  have HZB8 : Hid (Bx (w7.alloc (.cells #[.slice D1 Sa.ls.length d1, .slice D2 Sa.ms.length d2, .slice D3 Sa.nt.length d3] 41)) Z 41 (.slice A' L.G c') (.slice none 0 0) (.slice none 0 0) (newS L)) := HZB7.out.below below_laid
  have HPW8 : Hid (PwS (w7.alloc (.cells #[.slice D1 Sa.ls.length d1, .slice D2 Sa.ms.length d2, .slice D3 Sa.nt.length d3] 41)) (w7.alloc (.cells #[.slice D1 Sa.ls.length d1, .slice D2 Sa.ms.length d2, .slice D3 Sa.nt.length d3] 41)).heap.size At ts) := pws_keep HPW7.out below_laid
  generalize w7.alloc _ = w8 at *
  generalize w7.heap.size = E at *
  clear HSV HI7 HZB7 HPW7
  have q1 : IntKind.i64.wrap ((rs.length : Int) + 1) = (rs.length : Int) + 1 := IntWalk.i64_in _ (by omega)
  have q2 : ¬ (rs.length : Int) + 1 = 0 := by omega
  have q3 : (kk : Int) ≤ (cr : Int) := by have := HCAP.out; omega
  have q4 : (kk : Int) ≤ (rs.length : Int) := by omega
  have HKS : Hid (∀ W, Below w8.heap.size w8 W → (W.cell? ⟨X, 0, none⟩ = some (.int .i64 (L.disks : Int)) ∧ W.cell? ⟨X, 1, none⟩ = some (.slice A L.n c) ∧ W.cell? ⟨X, 2, none⟩ = some (.int .i64 (L.tiles : Int)) ∧ W.cell? ⟨X, 3, none⟩ = some (.int .i64 (L.spare : Int)) ∧ W.cell? ⟨Z, 0, none⟩ = some (.slice A' L.G c') ∧ W.cell? ⟨Z, 1, none⟩ = some (.slice none 0 0) ∧ W.cell? ⟨Z, 2, none⟩ = some (.slice none 0 0))) := fun W hW => by
   obtain ⟨l0, l1, l2, l3⟩ := (HI8.out.below hW).lay.cells
   obtain ⟨y0, y1, y2⟩ := (HZB8.out.below hW).cells
   exact ⟨l0, l1, l2, l3, y0, y1, y2⟩
  have HALQ : Hid (∀ (Aq : Option Addr) (Cq : Nat) (W : World), Below w8.heap.size w8 W → (kk = 0 ∨ Aq = Ar) → Calls Tryz.prog 24 #[.agg #[.int .i64 L.disks, .slice A L.n c, .int .i64 L.tiles, .int .i64 L.spare], .agg #[.slice A' L.G c', .slice none 0 0, .slice none 0 0], .slice Aq kk Cq] W fun e w' => AllV (fun k => k < W.heap.size) S1 e1 (allW rT) w' e ∧ Below W.heap.size W w' ∧ Below w8.heap.size w8 w') := fun Aq Cq W hW hp => by
   have h := (HI8.out.below hW).all (cq := Cq) HX.out (HZB8.out.below hW) HNM.out (HRT.out W Aq (HI8.out.below hW) hp) HRKT.out (by rw [HTL.out]; omega) HNF.out
   rw [HTL.out, HE1.out] at h
   exact h.mono fun e w' hh => ⟨hh.1, hh.2, hW.trans (hh.2.mono hW.size)⟩
  have HADR : Hid (0 < rs.length → ∃ b off, Ar = some ⟨b, off, none⟩) := fun h => HRS.out.addr h
  have hwlk := HTL.out
  clear HRT hwlk
  go_upto_region 11 with (fail)
  go_cut [14, 15, 16] (fun s14 s15 s16 wx => AlQ w8 41 S1 e1 (allW rT) s14 s15 s16 wx)
  case first =>
   clear HRD HRKD HOR HOK HOA HTK HFK HFA HPL HBA8 HPW8 HS1 HI8 hcv q1 q2 hmod
   by_cases hk0 : kk = 0
   ·subst hk0
    by_cases hcr : cr = 0
    ·subst hcr
     go_region_held3 (fun W => W.cell? ⟨X, 0, none⟩ = some (.int .i64 (L.disks : Int)) ∧ W.cell? ⟨X, 1, none⟩ = some (.slice A L.n c) ∧ W.cell? ⟨X, 2, none⟩ = some (.int .i64 (L.tiles : Int)) ∧ W.cell? ⟨X, 3, none⟩ = some (.int .i64 (L.spare : Int)) ∧ W.cell? ⟨Z, 0, none⟩ = some (.slice A' L.G c') ∧ W.cell? ⟨Z, 1, none⟩ = some (.slice none 0 0) ∧ W.cell? ⟨Z, 2, none⟩ = some (.slice none 0 0))
      (first | with_reducible exact HKS.out _ (Below.refl w8.heap.size w8) | with_reducible exact HKS.out _ (Below.refl w8.heap.size w8).drew | with_reducible exact HKS.out _ ((Below.refl w8.heap.size w8).alloc (Nat.le_refl _) _) | with_reducible exact HKS.out _ ((Below.refl w8.heap.size w8).alloc (Nat.le_refl _) _).drew | with_reducible exact HKS.out _ hbB | with_reducible exact HKS.out _ (hbB.alloc hbB.size _) | with_reducible exact HKS.out _ (((hbB.setCell (Nat.le_refl _) _).setCell (Nat.le_refl _) _).setCell (Nat.le_refl _) _) | with_reducible exact HKS.out _ ((((hbB.alloc hbB.size _).setCell hbB.size _).setCell hbB.size _).setCell hbB.size _) | (trace_state; fail))
      (first
       | (go_at_call 24; first
        | ((first | with_reducible refine (HALQ.out _ _ _ (Below.refl w8.heap.size w8).drew (by first | exact .inl rfl | exact .inr rfl | (trace_state; fail))).mono ?_ | with_reducible refine (HALQ.out _ _ _ (Below.refl w8.heap.size w8) (by first | exact .inl rfl | exact .inr rfl | (trace_state; fail))).mono ?_); rintro e wB ⟨⟨vB, At1, ts1, ct1, rfl, hse, hpw, hs1, hs0⟩, hbQ, hbB⟩; obtain ⟨F1, f1, F2, f2, F3, f3, rfl, -⟩ := hse.now.form)
        | ((first | with_reducible refine (HALQ.out _ _ _ ((Below.refl w8.heap.size w8).alloc (Nat.le_refl _) _).drew (by first | exact .inl rfl | exact .inr rfl | (trace_state; fail))).mono ?_ | with_reducible refine (HALQ.out _ _ _ ((Below.refl w8.heap.size w8).alloc (Nat.le_refl _) _) (by first | exact .inl rfl | exact .inr rfl | (trace_state; fail))).mono ?_); rintro e wB ⟨⟨vB, At1, ts1, ct1, rfl, hse, hpw, hs1, hs0⟩, hbQ, hbB⟩; obtain ⟨F1, f1, F2, f2, F3, f3, rfl, -⟩ := hse.now.form; have hzB : wB.heap[w8.heap.size]? = some (.cells #[.slice none 0 0, .slice none 0 0, .slice none 0 0] 41 (0, 0)) := (hbQ.block _ (by simp)).trans (heap_alloc_new w8 _); obtain ⟨z0, z1, z2⟩ := zero3 hzB; have o0 := frozen_blk hzB 0; have o1 := frozen_blk hzB 1; have o2 := frozen_blk hzB 2)
        | (trace_state; fail))
       | fail)
     all_goals
      go_wp2_with fail
      go_meet
      ·first
        | exact AlQ.early hse hpw hs1 hs0 hbB hzB (by simp) (Nat.le_refl _)
        | exact AlQ.late hse hpw hs1 hs0 hbB
        | exact AlQ.early hse hpw (fun _ => hs1 trivial) (fun e => absurd rfl e) hbB hzB (by simp) (Nat.le_refl _)
        | exact AlQ.late hse hpw (fun _ => hs1 trivial) (fun e => absurd rfl e) hbB
        | (trace_state; fail)
    ·skip
     go_region_held3 (fun W => W.cell? ⟨X, 0, none⟩ = some (.int .i64 (L.disks : Int)) ∧ W.cell? ⟨X, 1, none⟩ = some (.slice A L.n c) ∧ W.cell? ⟨X, 2, none⟩ = some (.int .i64 (L.tiles : Int)) ∧ W.cell? ⟨X, 3, none⟩ = some (.int .i64 (L.spare : Int)) ∧ W.cell? ⟨Z, 0, none⟩ = some (.slice A' L.G c') ∧ W.cell? ⟨Z, 1, none⟩ = some (.slice none 0 0) ∧ W.cell? ⟨Z, 2, none⟩ = some (.slice none 0 0))
      (first | with_reducible exact HKS.out _ (Below.refl w8.heap.size w8) | with_reducible exact HKS.out _ (Below.refl w8.heap.size w8).drew | with_reducible exact HKS.out _ ((Below.refl w8.heap.size w8).alloc (Nat.le_refl _) _) | with_reducible exact HKS.out _ ((Below.refl w8.heap.size w8).alloc (Nat.le_refl _) _).drew | with_reducible exact HKS.out _ hbB | with_reducible exact HKS.out _ (hbB.alloc hbB.size _) | with_reducible exact HKS.out _ (((hbB.setCell (Nat.le_refl _) _).setCell (Nat.le_refl _) _).setCell (Nat.le_refl _) _) | with_reducible exact HKS.out _ ((((hbB.alloc hbB.size _).setCell hbB.size _).setCell hbB.size _).setCell hbB.size _) | (trace_state; fail))
      (first
       | (go_at_call 24; first
        | ((first | with_reducible refine (HALQ.out _ _ _ (Below.refl w8.heap.size w8).drew (by first | exact .inl rfl | exact .inr rfl | (trace_state; fail))).mono ?_ | with_reducible refine (HALQ.out _ _ _ (Below.refl w8.heap.size w8) (by first | exact .inl rfl | exact .inr rfl | (trace_state; fail))).mono ?_); rintro e wB ⟨⟨vB, At1, ts1, ct1, rfl, hse, hpw, hs1, hs0⟩, hbQ, hbB⟩; obtain ⟨F1, f1, F2, f2, F3, f3, rfl, -⟩ := hse.now.form)
        | ((first | with_reducible refine (HALQ.out _ _ _ ((Below.refl w8.heap.size w8).alloc (Nat.le_refl _) _).drew (by first | exact .inl rfl | exact .inr rfl | (trace_state; fail))).mono ?_ | with_reducible refine (HALQ.out _ _ _ ((Below.refl w8.heap.size w8).alloc (Nat.le_refl _) _) (by first | exact .inl rfl | exact .inr rfl | (trace_state; fail))).mono ?_); rintro e wB ⟨⟨vB, At1, ts1, ct1, rfl, hse, hpw, hs1, hs0⟩, hbQ, hbB⟩; obtain ⟨F1, f1, F2, f2, F3, f3, rfl, -⟩ := hse.now.form; have hzB : wB.heap[w8.heap.size]? = some (.cells #[.slice none 0 0, .slice none 0 0, .slice none 0 0] 41 (0, 0)) := (hbQ.block _ (by simp)).trans (heap_alloc_new w8 _); obtain ⟨z0, z1, z2⟩ := zero3 hzB; have o0 := frozen_blk hzB 0; have o1 := frozen_blk hzB 1; have o2 := frozen_blk hzB 2)
        | (trace_state; fail))
       | fail)
     all_goals
      go_wp2_with fail
      go_meet
      ·first
        | exact AlQ.early hse hpw hs1 hs0 hbB hzB (by simp) (Nat.le_refl _)
        | exact AlQ.late hse hpw hs1 hs0 hbB
        | exact AlQ.early hse hpw (fun _ => hs1 trivial) (fun e => absurd rfl e) hbB hzB (by simp) (Nat.le_refl _)
        | exact AlQ.late hse hpw (fun _ => hs1 trivial) (fun e => absurd rfl e) hbB
        | (trace_state; fail)
   ·obtain ⟨b, off, rfl⟩ := HADR.out (by omega)
    have hcr : ¬ cr = 0 := by have := HCAP.out; omega
    have HK0 : Hid (¬ kk = 0) := hk0
    clear hk0
    go_region_held3 (fun W => W.cell? ⟨X, 0, none⟩ = some (.int .i64 (L.disks : Int)) ∧ W.cell? ⟨X, 1, none⟩ = some (.slice A L.n c) ∧ W.cell? ⟨X, 2, none⟩ = some (.int .i64 (L.tiles : Int)) ∧ W.cell? ⟨X, 3, none⟩ = some (.int .i64 (L.spare : Int)) ∧ W.cell? ⟨Z, 0, none⟩ = some (.slice A' L.G c') ∧ W.cell? ⟨Z, 1, none⟩ = some (.slice none 0 0) ∧ W.cell? ⟨Z, 2, none⟩ = some (.slice none 0 0))
     (first | with_reducible exact HKS.out _ (Below.refl w8.heap.size w8) | with_reducible exact HKS.out _ (Below.refl w8.heap.size w8).drew | with_reducible exact HKS.out _ ((Below.refl w8.heap.size w8).alloc (Nat.le_refl _) _) | with_reducible exact HKS.out _ ((Below.refl w8.heap.size w8).alloc (Nat.le_refl _) _).drew | with_reducible exact HKS.out _ hbB | with_reducible exact HKS.out _ (hbB.alloc hbB.size _) | with_reducible exact HKS.out _ (((hbB.setCell (Nat.le_refl _) _).setCell (Nat.le_refl _) _).setCell (Nat.le_refl _) _) | with_reducible exact HKS.out _ ((((hbB.alloc hbB.size _).setCell hbB.size _).setCell hbB.size _).setCell hbB.size _) | (trace_state; fail))
     (first
      | (go_at_call 24; first
       | ((first | with_reducible refine (HALQ.out _ _ _ (Below.refl w8.heap.size w8).drew (by first | exact .inl rfl | exact .inr rfl | (trace_state; fail))).mono ?_ | with_reducible refine (HALQ.out _ _ _ (Below.refl w8.heap.size w8) (by first | exact .inl rfl | exact .inr rfl | (trace_state; fail))).mono ?_); rintro e wB ⟨⟨vB, At1, ts1, ct1, rfl, hse, hpw, hs1, hs0⟩, hbQ, hbB⟩; obtain ⟨F1, f1, F2, f2, F3, f3, rfl, -⟩ := hse.now.form)
       | ((first | with_reducible refine (HALQ.out _ _ _ ((Below.refl w8.heap.size w8).alloc (Nat.le_refl _) _).drew (by first | exact .inl rfl | exact .inr rfl | (trace_state; fail))).mono ?_ | with_reducible refine (HALQ.out _ _ _ ((Below.refl w8.heap.size w8).alloc (Nat.le_refl _) _) (by first | exact .inl rfl | exact .inr rfl | (trace_state; fail))).mono ?_); rintro e wB ⟨⟨vB, At1, ts1, ct1, rfl, hse, hpw, hs1, hs0⟩, hbQ, hbB⟩; obtain ⟨F1, f1, F2, f2, F3, f3, rfl, -⟩ := hse.now.form; have hzB : wB.heap[w8.heap.size]? = some (.cells #[.slice none 0 0, .slice none 0 0, .slice none 0 0] 41 (0, 0)) := (hbQ.block _ (by simp)).trans (heap_alloc_new w8 _); obtain ⟨z0, z1, z2⟩ := zero3 hzB; have o0 := frozen_blk hzB 0; have o1 := frozen_blk hzB 1; have o2 := frozen_blk hzB 2)
       | (trace_state; fail))
      | fail)
    all_goals
     go_wp2_with fail
     go_meet
     ·first
       | exact AlQ.early hse hpw hs1 hs0 hbB hzB (by simp) (Nat.le_refl _)
       | exact AlQ.late hse hpw hs1 hs0 hbB
       | exact AlQ.early hse hpw (fun _ => hs1 trivial) (fun e => absurd rfl e) hbB hzB (by simp) (Nat.le_refl _)
       | exact AlQ.late hse hpw (fun _ => hs1 trivial) (fun e => absurd rfl e) hbB
       | (trace_state; fail)
  obtain ⟨DB, B1, b1, B2, b2, B3, b3, At1, ts1, ct1, rfl, rfl, rfl, hbx, hpw, hs1, hs0, hbC⟩ := hcut
  have hwl1 := ts_big HRKT.out (by rw [HTL.out]; omega) hs1 hs0
  have HBB9 := Lib.hid hbx
  have HS11 := Lib.hid hs1
  have HBA9 := Lib.hid (HBA8.out.below hbC)
  have HZB9 := Lib.hid (HZB8.out.below hbC)
  have HPW9 := Lib.hid (pws_keep HPW8.out hbC)
  have HI9 := Lib.hid (HI8.out.below hbC)
  clear hbx hpw hs1 hs0 hbC HALQ HKS HBA8 HZB8 HPW8 HI8 hcv q1 q2 hmod
  generalize wc = w9 at *
  have HDRP : Hid (e1 = 0 → ∀ (Aq : Option Addr) (Cq : Nat) (W : World), Below w9.heap.size w9 W → (kk = rs.length ∨ ∃ b off, Ar = some ⟨b, off, none⟩ ∧ Aq = some ⟨b, off + kk * 5, none⟩) → Calls Tryz.prog 24 #[.agg #[.int .i64 L.disks, .slice A L.n c, .int .i64 L.tiles, .int .i64 L.spare], .agg #[.slice B1 S1.ls.length b1, .slice B2 S1.ms.length b2, .slice B3 S1.nt.length b3], .slice Aq (rs.length - kk) Cq] W fun e w' => AllV (fun k => k < W.heap.size) Sa ea (allW rD) w' e ∧ Below W.heap.size W w' ∧ Below w9.heap.size w9 w') := fun he Aq Cq W hW hp => by
   obtain ⟨g1, g2, g3⟩ := HOK.out he
   have h := (HI9.out.below hW).all (cq := Cq) HX.out (HBB9.out.below hW) (rp_wf HX.out.ok (stOk_ms g1)) (HRD.out W Aq (HI9.out.below hW) hp) HRKD.out (by rw [HDL.out]; omega) (ok_f g1 (by omega) (by omega) (by omega) (by omega))
   rw [HDL.out, HTK.out.2 he] at h
   exact h.mono fun e w' hh => ⟨hh.1, hh.2, hW.trans (hh.2.mono hW.size)⟩
  have HKS : Hid (∀ W, Below w9.heap.size w9 W → (W.cell? ⟨X, 0, none⟩ = some (.int .i64 (L.disks : Int)) ∧ W.cell? ⟨X, 1, none⟩ = some (.slice A L.n c) ∧ W.cell? ⟨X, 2, none⟩ = some (.int .i64 (L.tiles : Int)) ∧ W.cell? ⟨X, 3, none⟩ = some (.int .i64 (L.spare : Int)) ∧ W.cell? ⟨DB, 0, none⟩ = some (.slice B1 S1.ls.length b1) ∧ W.cell? ⟨DB, 1, none⟩ = some (.slice B2 S1.ms.length b2) ∧ W.cell? ⟨DB, 2, none⟩ = some (.slice B3 S1.nt.length b3))) := fun W hW => by
   obtain ⟨l0, l1, l2, l3⟩ := (HI9.out.below hW).lay.cells
   obtain ⟨y0, y1, y2⟩ := (HBB9.out.below hW).cells
   exact ⟨l0, l1, l2, l3, y0, y1, y2⟩
  have r1 : ¬ (kk : Int) < 0 := by omega
  by_cases hea : ea = 0
  case neg =>
   have g1 : (ea != 0) = true := by simpa using hea
   have g2 : (ea == 0) = false := by simpa using hea
   have HEA : Hid (ea ≠ 0) := hea
   clear hea
   by_cases he1 : e1 = 0
   case neg =>
    have k1 : (e1 != 0) = true := by simpa using he1
    have k2 : (e1 == 0) = false := by simpa using he1
    have hee := HTK.out.1 he1
    subst hee
    have HF := Lib.hid HI9.out.bel
    clear he1
    go_wp2
    go_ret
    exact ⟨rfl, HF.out⟩
   case pos =>
    subst he1
    have HALQ := Lib.hid (HDRP.out rfl)
    clear HDRP
    go_upto_region 15 with (fail)
    go_cut [17, 18, 19] (fun s17 s18 s19 wx => AlQ w9 41 Sa ea (allW rD) s17 s18 s19 wx)
    case first =>
     clear HOR HOK HOA HTK HFK HFA HPL HBA9 HPW9 HS1 HS11
     by_cases hkz : kk < rs.length
     ·obtain ⟨b, off, rfl⟩ := HADR.out (by omega)
      have hck : ¬ cr = kk := by have := HCAP.out; omega
      go_region_held3 (fun W => W.cell? ⟨X, 0, none⟩ = some (.int .i64 (L.disks : Int)) ∧ W.cell? ⟨X, 1, none⟩ = some (.slice A L.n c) ∧ W.cell? ⟨X, 2, none⟩ = some (.int .i64 (L.tiles : Int)) ∧ W.cell? ⟨X, 3, none⟩ = some (.int .i64 (L.spare : Int)) ∧ W.cell? ⟨DB, 0, none⟩ = some (.slice B1 S1.ls.length b1) ∧ W.cell? ⟨DB, 1, none⟩ = some (.slice B2 S1.ms.length b2) ∧ W.cell? ⟨DB, 2, none⟩ = some (.slice B3 S1.nt.length b3))
       (first | with_reducible exact HKS.out _ (Below.refl w9.heap.size w9) | with_reducible exact HKS.out _ (Below.refl w9.heap.size w9).drew | with_reducible exact HKS.out _ ((Below.refl w9.heap.size w9).alloc (Nat.le_refl _) _) | with_reducible exact HKS.out _ ((Below.refl w9.heap.size w9).alloc (Nat.le_refl _) _).drew | with_reducible exact HKS.out _ hbB | with_reducible exact HKS.out _ (hbB.alloc hbB.size _) | with_reducible exact HKS.out _ (((hbB.setCell (Nat.le_refl _) _).setCell (Nat.le_refl _) _).setCell (Nat.le_refl _) _) | with_reducible exact HKS.out _ ((((hbB.alloc hbB.size _).setCell hbB.size _).setCell hbB.size _).setCell hbB.size _) | (trace_state; fail))
       (first
        | (go_at_call 24; first
         | ((first | with_reducible refine (HALQ.out _ _ _ (Below.refl w9.heap.size w9).drew (by first | exact .inl rfl | exact .inr ⟨_, _, rfl, rfl⟩ | exact .inr ⟨_, _, rfl, by simp⟩ | (trace_state; fail))).mono ?_ | with_reducible refine (HALQ.out _ _ _ (Below.refl w9.heap.size w9) (by first | exact .inl rfl | exact .inr ⟨_, _, rfl, rfl⟩ | exact .inr ⟨_, _, rfl, by simp⟩ | (trace_state; fail))).mono ?_); rintro e wB ⟨⟨vB, At1, ts1, ct1, rfl, hse, hpw, hs1, hs0⟩, hbQ, hbB⟩; obtain ⟨F1, f1, F2, f2, F3, f3, rfl, -⟩ := hse.now.form)
         | ((first | with_reducible refine (HALQ.out _ _ _ ((Below.refl w9.heap.size w9).alloc (Nat.le_refl _) _).drew (by first | exact .inl rfl | exact .inr ⟨_, _, rfl, rfl⟩ | exact .inr ⟨_, _, rfl, by simp⟩ | (trace_state; fail))).mono ?_ | with_reducible refine (HALQ.out _ _ _ ((Below.refl w9.heap.size w9).alloc (Nat.le_refl _) _) (by first | exact .inl rfl | exact .inr ⟨_, _, rfl, rfl⟩ | exact .inr ⟨_, _, rfl, by simp⟩ | (trace_state; fail))).mono ?_); rintro e wB ⟨⟨vB, At1, ts1, ct1, rfl, hse, hpw, hs1, hs0⟩, hbQ, hbB⟩; obtain ⟨F1, f1, F2, f2, F3, f3, rfl, -⟩ := hse.now.form; have hzB : wB.heap[w9.heap.size]? = some (.cells #[.slice none 0 0, .slice none 0 0, .slice none 0 0] 41 (0, 0)) := (hbQ.block _ (by simp)).trans (heap_alloc_new w9 _); obtain ⟨z0, z1, z2⟩ := zero3 hzB; have o0 := frozen_blk hzB 0; have o1 := frozen_blk hzB 1; have o2 := frozen_blk hzB 2)
         | (trace_state; fail))
        | fail)
      all_goals
       go_wp2_with fail
       go_meet
       ·first
         | exact AlQ.early hse hpw hs1 hs0 hbB hzB (by simp) (Nat.le_refl _)
         | exact AlQ.late hse hpw hs1 hs0 hbB
         | exact AlQ.early hse hpw (fun _ => hs1 trivial) (fun e => absurd rfl e) hbB hzB (by simp) (Nat.le_refl _)
         | exact AlQ.late hse hpw (fun _ => hs1 trivial) (fun e => absurd rfl e) hbB
         | (trace_state; fail)
     ·obtain rfl : kk = rs.length := by omega
      rw [Nat.sub_self] at HALQ
      clear hkz
      by_cases hck : cr = rs.length
      ·subst hck
       go_region_held3 (fun W => W.cell? ⟨X, 0, none⟩ = some (.int .i64 (L.disks : Int)) ∧ W.cell? ⟨X, 1, none⟩ = some (.slice A L.n c) ∧ W.cell? ⟨X, 2, none⟩ = some (.int .i64 (L.tiles : Int)) ∧ W.cell? ⟨X, 3, none⟩ = some (.int .i64 (L.spare : Int)) ∧ W.cell? ⟨DB, 0, none⟩ = some (.slice B1 S1.ls.length b1) ∧ W.cell? ⟨DB, 1, none⟩ = some (.slice B2 S1.ms.length b2) ∧ W.cell? ⟨DB, 2, none⟩ = some (.slice B3 S1.nt.length b3))
        (first | with_reducible exact HKS.out _ (Below.refl w9.heap.size w9) | with_reducible exact HKS.out _ (Below.refl w9.heap.size w9).drew | with_reducible exact HKS.out _ ((Below.refl w9.heap.size w9).alloc (Nat.le_refl _) _) | with_reducible exact HKS.out _ ((Below.refl w9.heap.size w9).alloc (Nat.le_refl _) _).drew | with_reducible exact HKS.out _ hbB | with_reducible exact HKS.out _ (hbB.alloc hbB.size _) | with_reducible exact HKS.out _ (((hbB.setCell (Nat.le_refl _) _).setCell (Nat.le_refl _) _).setCell (Nat.le_refl _) _) | with_reducible exact HKS.out _ ((((hbB.alloc hbB.size _).setCell hbB.size _).setCell hbB.size _).setCell hbB.size _) | (trace_state; fail))
        (first
         | (go_at_call 24; first
          | ((first | with_reducible refine (HALQ.out _ _ _ (Below.refl w9.heap.size w9).drew (by first | exact .inl rfl | exact .inr ⟨_, _, rfl, rfl⟩ | exact .inr ⟨_, _, rfl, by simp⟩ | (trace_state; fail))).mono ?_ | with_reducible refine (HALQ.out _ _ _ (Below.refl w9.heap.size w9) (by first | exact .inl rfl | exact .inr ⟨_, _, rfl, rfl⟩ | exact .inr ⟨_, _, rfl, by simp⟩ | (trace_state; fail))).mono ?_); rintro e wB ⟨⟨vB, At1, ts1, ct1, rfl, hse, hpw, hs1, hs0⟩, hbQ, hbB⟩; obtain ⟨F1, f1, F2, f2, F3, f3, rfl, -⟩ := hse.now.form)
          | ((first | with_reducible refine (HALQ.out _ _ _ ((Below.refl w9.heap.size w9).alloc (Nat.le_refl _) _).drew (by first | exact .inl rfl | exact .inr ⟨_, _, rfl, rfl⟩ | exact .inr ⟨_, _, rfl, by simp⟩ | (trace_state; fail))).mono ?_ | with_reducible refine (HALQ.out _ _ _ ((Below.refl w9.heap.size w9).alloc (Nat.le_refl _) _) (by first | exact .inl rfl | exact .inr ⟨_, _, rfl, rfl⟩ | exact .inr ⟨_, _, rfl, by simp⟩ | (trace_state; fail))).mono ?_); rintro e wB ⟨⟨vB, At1, ts1, ct1, rfl, hse, hpw, hs1, hs0⟩, hbQ, hbB⟩; obtain ⟨F1, f1, F2, f2, F3, f3, rfl, -⟩ := hse.now.form; have hzB : wB.heap[w9.heap.size]? = some (.cells #[.slice none 0 0, .slice none 0 0, .slice none 0 0] 41 (0, 0)) := (hbQ.block _ (by simp)).trans (heap_alloc_new w9 _); obtain ⟨z0, z1, z2⟩ := zero3 hzB; have o0 := frozen_blk hzB 0; have o1 := frozen_blk hzB 1; have o2 := frozen_blk hzB 2)
          | (trace_state; fail))
         | fail)
       all_goals
        go_wp2_with fail
        go_meet
        ·first
          | exact AlQ.early hse hpw hs1 hs0 hbB hzB (by simp) (Nat.le_refl _)
          | exact AlQ.late hse hpw hs1 hs0 hbB
          | exact AlQ.early hse hpw (fun _ => hs1 trivial) (fun e => absurd rfl e) hbB hzB (by simp) (Nat.le_refl _)
          | exact AlQ.late hse hpw (fun _ => hs1 trivial) (fun e => absurd rfl e) hbB
          | (trace_state; fail)
      ·skip
       go_region_held3 (fun W => W.cell? ⟨X, 0, none⟩ = some (.int .i64 (L.disks : Int)) ∧ W.cell? ⟨X, 1, none⟩ = some (.slice A L.n c) ∧ W.cell? ⟨X, 2, none⟩ = some (.int .i64 (L.tiles : Int)) ∧ W.cell? ⟨X, 3, none⟩ = some (.int .i64 (L.spare : Int)) ∧ W.cell? ⟨DB, 0, none⟩ = some (.slice B1 S1.ls.length b1) ∧ W.cell? ⟨DB, 1, none⟩ = some (.slice B2 S1.ms.length b2) ∧ W.cell? ⟨DB, 2, none⟩ = some (.slice B3 S1.nt.length b3))
        (first | with_reducible exact HKS.out _ (Below.refl w9.heap.size w9) | with_reducible exact HKS.out _ (Below.refl w9.heap.size w9).drew | with_reducible exact HKS.out _ ((Below.refl w9.heap.size w9).alloc (Nat.le_refl _) _) | with_reducible exact HKS.out _ ((Below.refl w9.heap.size w9).alloc (Nat.le_refl _) _).drew | with_reducible exact HKS.out _ hbB | with_reducible exact HKS.out _ (hbB.alloc hbB.size _) | with_reducible exact HKS.out _ (((hbB.setCell (Nat.le_refl _) _).setCell (Nat.le_refl _) _).setCell (Nat.le_refl _) _) | with_reducible exact HKS.out _ ((((hbB.alloc hbB.size _).setCell hbB.size _).setCell hbB.size _).setCell hbB.size _) | (trace_state; fail))
        (first
         | (go_at_call 24; first
          | ((first | with_reducible refine (HALQ.out _ _ _ (Below.refl w9.heap.size w9).drew (by first | exact .inl rfl | exact .inr ⟨_, _, rfl, rfl⟩ | exact .inr ⟨_, _, rfl, by simp⟩ | (trace_state; fail))).mono ?_ | with_reducible refine (HALQ.out _ _ _ (Below.refl w9.heap.size w9) (by first | exact .inl rfl | exact .inr ⟨_, _, rfl, rfl⟩ | exact .inr ⟨_, _, rfl, by simp⟩ | (trace_state; fail))).mono ?_); rintro e wB ⟨⟨vB, At1, ts1, ct1, rfl, hse, hpw, hs1, hs0⟩, hbQ, hbB⟩; obtain ⟨F1, f1, F2, f2, F3, f3, rfl, -⟩ := hse.now.form)
          | ((first | with_reducible refine (HALQ.out _ _ _ ((Below.refl w9.heap.size w9).alloc (Nat.le_refl _) _).drew (by first | exact .inl rfl | exact .inr ⟨_, _, rfl, rfl⟩ | exact .inr ⟨_, _, rfl, by simp⟩ | (trace_state; fail))).mono ?_ | with_reducible refine (HALQ.out _ _ _ ((Below.refl w9.heap.size w9).alloc (Nat.le_refl _) _) (by first | exact .inl rfl | exact .inr ⟨_, _, rfl, rfl⟩ | exact .inr ⟨_, _, rfl, by simp⟩ | (trace_state; fail))).mono ?_); rintro e wB ⟨⟨vB, At1, ts1, ct1, rfl, hse, hpw, hs1, hs0⟩, hbQ, hbB⟩; obtain ⟨F1, f1, F2, f2, F3, f3, rfl, -⟩ := hse.now.form; have hzB : wB.heap[w9.heap.size]? = some (.cells #[.slice none 0 0, .slice none 0 0, .slice none 0 0] 41 (0, 0)) := (hbQ.block _ (by simp)).trans (heap_alloc_new w9 _); obtain ⟨z0, z1, z2⟩ := zero3 hzB; have o0 := frozen_blk hzB 0; have o1 := frozen_blk hzB 1; have o2 := frozen_blk hzB 2)
          | (trace_state; fail))
         | fail)
       all_goals
        go_wp2_with fail
        go_meet
        ·first
          | exact AlQ.early hse hpw hs1 hs0 hbB hzB (by simp) (Nat.le_refl _)
          | exact AlQ.late hse hpw hs1 hs0 hbB
          | exact AlQ.early hse hpw (fun _ => hs1 trivial) (fun e => absurd rfl e) hbB hzB (by simp) (Nat.le_refl _)
          | exact AlQ.late hse hpw (fun _ => hs1 trivial) (fun e => absurd rfl e) hbB
          | (trace_state; fail)
    obtain ⟨DC, C1, c1, C2, c2, C3, c3, At2, ts2, ct2, rfl, rfl, rfl, hbx, hpw, hs1, hs0, hbC⟩ := hcut
    have HF := Lib.hid (HI9.out.below hbC).bel
    clear hbx hpw hs1 hs0 hbC HALQ HKS
    go_wp2
    go_ret
    exact ⟨rfl, HF.out⟩
  case pos =>
   subst hea
   have he1 : e1 = 0 := by
    by_cases h : e1 = 0
    ·exact h
    ·exact absurd (HTK.out.1 h).symm h
   subst he1
   have HALQ := Lib.hid (HDRP.out rfl)
   clear HDRP
   go_upto_region 17 with (fail)
   go_cut [20, 21, 22] (fun s20 s21 s22 wx => AlQ w9 41 Sa 0 (allW rD) s20 s21 s22 wx)
   case first =>
    clear HOR HOK HOA HTK HFK HFA HPL HBA9 HPW9 HS1 HS11
    by_cases hkz : kk < rs.length
    ·obtain ⟨b, off, rfl⟩ := HADR.out (by omega)
     have hck : ¬ cr = kk := by have := HCAP.out; omega
     go_region_held3 (fun W => W.cell? ⟨X, 0, none⟩ = some (.int .i64 (L.disks : Int)) ∧ W.cell? ⟨X, 1, none⟩ = some (.slice A L.n c) ∧ W.cell? ⟨X, 2, none⟩ = some (.int .i64 (L.tiles : Int)) ∧ W.cell? ⟨X, 3, none⟩ = some (.int .i64 (L.spare : Int)) ∧ W.cell? ⟨DB, 0, none⟩ = some (.slice B1 S1.ls.length b1) ∧ W.cell? ⟨DB, 1, none⟩ = some (.slice B2 S1.ms.length b2) ∧ W.cell? ⟨DB, 2, none⟩ = some (.slice B3 S1.nt.length b3))
      (first | with_reducible exact HKS.out _ (Below.refl w9.heap.size w9) | with_reducible exact HKS.out _ (Below.refl w9.heap.size w9).drew | with_reducible exact HKS.out _ ((Below.refl w9.heap.size w9).alloc (Nat.le_refl _) _) | with_reducible exact HKS.out _ ((Below.refl w9.heap.size w9).alloc (Nat.le_refl _) _).drew | with_reducible exact HKS.out _ hbB | with_reducible exact HKS.out _ (hbB.alloc hbB.size _) | with_reducible exact HKS.out _ (((hbB.setCell (Nat.le_refl _) _).setCell (Nat.le_refl _) _).setCell (Nat.le_refl _) _) | with_reducible exact HKS.out _ ((((hbB.alloc hbB.size _).setCell hbB.size _).setCell hbB.size _).setCell hbB.size _) | (trace_state; fail))
      (first
       | (go_at_call 24; first
        | ((first | with_reducible refine (HALQ.out _ _ _ (Below.refl w9.heap.size w9).drew (by first | exact .inl rfl | exact .inr ⟨_, _, rfl, rfl⟩ | exact .inr ⟨_, _, rfl, by simp⟩ | (trace_state; fail))).mono ?_ | with_reducible refine (HALQ.out _ _ _ (Below.refl w9.heap.size w9) (by first | exact .inl rfl | exact .inr ⟨_, _, rfl, rfl⟩ | exact .inr ⟨_, _, rfl, by simp⟩ | (trace_state; fail))).mono ?_); rintro e wB ⟨⟨vB, At1, ts1, ct1, rfl, hse, hpw, hs1, hs0⟩, hbQ, hbB⟩; obtain ⟨F1, f1, F2, f2, F3, f3, rfl, -⟩ := hse.now.form)
        | ((first | with_reducible refine (HALQ.out _ _ _ ((Below.refl w9.heap.size w9).alloc (Nat.le_refl _) _).drew (by first | exact .inl rfl | exact .inr ⟨_, _, rfl, rfl⟩ | exact .inr ⟨_, _, rfl, by simp⟩ | (trace_state; fail))).mono ?_ | with_reducible refine (HALQ.out _ _ _ ((Below.refl w9.heap.size w9).alloc (Nat.le_refl _) _) (by first | exact .inl rfl | exact .inr ⟨_, _, rfl, rfl⟩ | exact .inr ⟨_, _, rfl, by simp⟩ | (trace_state; fail))).mono ?_); rintro e wB ⟨⟨vB, At1, ts1, ct1, rfl, hse, hpw, hs1, hs0⟩, hbQ, hbB⟩; obtain ⟨F1, f1, F2, f2, F3, f3, rfl, -⟩ := hse.now.form; have hzB : wB.heap[w9.heap.size]? = some (.cells #[.slice none 0 0, .slice none 0 0, .slice none 0 0] 41 (0, 0)) := (hbQ.block _ (by simp)).trans (heap_alloc_new w9 _); obtain ⟨z0, z1, z2⟩ := zero3 hzB; have o0 := frozen_blk hzB 0; have o1 := frozen_blk hzB 1; have o2 := frozen_blk hzB 2)
        | (trace_state; fail))
       | fail)
     all_goals
      go_wp2_with fail
      go_meet
      ·first
        | exact AlQ.early hse hpw hs1 hs0 hbB hzB (by simp) (Nat.le_refl _)
        | exact AlQ.late hse hpw hs1 hs0 hbB
        | exact AlQ.early hse hpw (fun _ => hs1 trivial) (fun e => absurd rfl e) hbB hzB (by simp) (Nat.le_refl _)
        | exact AlQ.late hse hpw (fun _ => hs1 trivial) (fun e => absurd rfl e) hbB
        | (trace_state; fail)
    ·obtain rfl : kk = rs.length := by omega
     rw [Nat.sub_self] at HALQ
     clear hkz
     by_cases hck : cr = rs.length
     ·subst hck
      go_region_held3 (fun W => W.cell? ⟨X, 0, none⟩ = some (.int .i64 (L.disks : Int)) ∧ W.cell? ⟨X, 1, none⟩ = some (.slice A L.n c) ∧ W.cell? ⟨X, 2, none⟩ = some (.int .i64 (L.tiles : Int)) ∧ W.cell? ⟨X, 3, none⟩ = some (.int .i64 (L.spare : Int)) ∧ W.cell? ⟨DB, 0, none⟩ = some (.slice B1 S1.ls.length b1) ∧ W.cell? ⟨DB, 1, none⟩ = some (.slice B2 S1.ms.length b2) ∧ W.cell? ⟨DB, 2, none⟩ = some (.slice B3 S1.nt.length b3))
       (first | with_reducible exact HKS.out _ (Below.refl w9.heap.size w9) | with_reducible exact HKS.out _ (Below.refl w9.heap.size w9).drew | with_reducible exact HKS.out _ ((Below.refl w9.heap.size w9).alloc (Nat.le_refl _) _) | with_reducible exact HKS.out _ ((Below.refl w9.heap.size w9).alloc (Nat.le_refl _) _).drew | with_reducible exact HKS.out _ hbB | with_reducible exact HKS.out _ (hbB.alloc hbB.size _) | with_reducible exact HKS.out _ (((hbB.setCell (Nat.le_refl _) _).setCell (Nat.le_refl _) _).setCell (Nat.le_refl _) _) | with_reducible exact HKS.out _ ((((hbB.alloc hbB.size _).setCell hbB.size _).setCell hbB.size _).setCell hbB.size _) | (trace_state; fail))
       (first
        | (go_at_call 24; first
         | ((first | with_reducible refine (HALQ.out _ _ _ (Below.refl w9.heap.size w9).drew (by first | exact .inl rfl | exact .inr ⟨_, _, rfl, rfl⟩ | exact .inr ⟨_, _, rfl, by simp⟩ | (trace_state; fail))).mono ?_ | with_reducible refine (HALQ.out _ _ _ (Below.refl w9.heap.size w9) (by first | exact .inl rfl | exact .inr ⟨_, _, rfl, rfl⟩ | exact .inr ⟨_, _, rfl, by simp⟩ | (trace_state; fail))).mono ?_); rintro e wB ⟨⟨vB, At1, ts1, ct1, rfl, hse, hpw, hs1, hs0⟩, hbQ, hbB⟩; obtain ⟨F1, f1, F2, f2, F3, f3, rfl, -⟩ := hse.now.form)
         | ((first | with_reducible refine (HALQ.out _ _ _ ((Below.refl w9.heap.size w9).alloc (Nat.le_refl _) _).drew (by first | exact .inl rfl | exact .inr ⟨_, _, rfl, rfl⟩ | exact .inr ⟨_, _, rfl, by simp⟩ | (trace_state; fail))).mono ?_ | with_reducible refine (HALQ.out _ _ _ ((Below.refl w9.heap.size w9).alloc (Nat.le_refl _) _) (by first | exact .inl rfl | exact .inr ⟨_, _, rfl, rfl⟩ | exact .inr ⟨_, _, rfl, by simp⟩ | (trace_state; fail))).mono ?_); rintro e wB ⟨⟨vB, At1, ts1, ct1, rfl, hse, hpw, hs1, hs0⟩, hbQ, hbB⟩; obtain ⟨F1, f1, F2, f2, F3, f3, rfl, -⟩ := hse.now.form; have hzB : wB.heap[w9.heap.size]? = some (.cells #[.slice none 0 0, .slice none 0 0, .slice none 0 0] 41 (0, 0)) := (hbQ.block _ (by simp)).trans (heap_alloc_new w9 _); obtain ⟨z0, z1, z2⟩ := zero3 hzB; have o0 := frozen_blk hzB 0; have o1 := frozen_blk hzB 1; have o2 := frozen_blk hzB 2)
         | (trace_state; fail))
        | fail)
      all_goals
       go_wp2_with fail
       go_meet
       ·first
         | exact AlQ.early hse hpw hs1 hs0 hbB hzB (by simp) (Nat.le_refl _)
         | exact AlQ.late hse hpw hs1 hs0 hbB
         | exact AlQ.early hse hpw (fun _ => hs1 trivial) (fun e => absurd rfl e) hbB hzB (by simp) (Nat.le_refl _)
         | exact AlQ.late hse hpw (fun _ => hs1 trivial) (fun e => absurd rfl e) hbB
         | (trace_state; fail)
     ·skip
      go_region_held3 (fun W => W.cell? ⟨X, 0, none⟩ = some (.int .i64 (L.disks : Int)) ∧ W.cell? ⟨X, 1, none⟩ = some (.slice A L.n c) ∧ W.cell? ⟨X, 2, none⟩ = some (.int .i64 (L.tiles : Int)) ∧ W.cell? ⟨X, 3, none⟩ = some (.int .i64 (L.spare : Int)) ∧ W.cell? ⟨DB, 0, none⟩ = some (.slice B1 S1.ls.length b1) ∧ W.cell? ⟨DB, 1, none⟩ = some (.slice B2 S1.ms.length b2) ∧ W.cell? ⟨DB, 2, none⟩ = some (.slice B3 S1.nt.length b3))
       (first | with_reducible exact HKS.out _ (Below.refl w9.heap.size w9) | with_reducible exact HKS.out _ (Below.refl w9.heap.size w9).drew | with_reducible exact HKS.out _ ((Below.refl w9.heap.size w9).alloc (Nat.le_refl _) _) | with_reducible exact HKS.out _ ((Below.refl w9.heap.size w9).alloc (Nat.le_refl _) _).drew | with_reducible exact HKS.out _ hbB | with_reducible exact HKS.out _ (hbB.alloc hbB.size _) | with_reducible exact HKS.out _ (((hbB.setCell (Nat.le_refl _) _).setCell (Nat.le_refl _) _).setCell (Nat.le_refl _) _) | with_reducible exact HKS.out _ ((((hbB.alloc hbB.size _).setCell hbB.size _).setCell hbB.size _).setCell hbB.size _) | (trace_state; fail))
       (first
        | (go_at_call 24; first
         | ((first | with_reducible refine (HALQ.out _ _ _ (Below.refl w9.heap.size w9).drew (by first | exact .inl rfl | exact .inr ⟨_, _, rfl, rfl⟩ | exact .inr ⟨_, _, rfl, by simp⟩ | (trace_state; fail))).mono ?_ | with_reducible refine (HALQ.out _ _ _ (Below.refl w9.heap.size w9) (by first | exact .inl rfl | exact .inr ⟨_, _, rfl, rfl⟩ | exact .inr ⟨_, _, rfl, by simp⟩ | (trace_state; fail))).mono ?_); rintro e wB ⟨⟨vB, At1, ts1, ct1, rfl, hse, hpw, hs1, hs0⟩, hbQ, hbB⟩; obtain ⟨F1, f1, F2, f2, F3, f3, rfl, -⟩ := hse.now.form)
         | ((first | with_reducible refine (HALQ.out _ _ _ ((Below.refl w9.heap.size w9).alloc (Nat.le_refl _) _).drew (by first | exact .inl rfl | exact .inr ⟨_, _, rfl, rfl⟩ | exact .inr ⟨_, _, rfl, by simp⟩ | (trace_state; fail))).mono ?_ | with_reducible refine (HALQ.out _ _ _ ((Below.refl w9.heap.size w9).alloc (Nat.le_refl _) _) (by first | exact .inl rfl | exact .inr ⟨_, _, rfl, rfl⟩ | exact .inr ⟨_, _, rfl, by simp⟩ | (trace_state; fail))).mono ?_); rintro e wB ⟨⟨vB, At1, ts1, ct1, rfl, hse, hpw, hs1, hs0⟩, hbQ, hbB⟩; obtain ⟨F1, f1, F2, f2, F3, f3, rfl, -⟩ := hse.now.form; have hzB : wB.heap[w9.heap.size]? = some (.cells #[.slice none 0 0, .slice none 0 0, .slice none 0 0] 41 (0, 0)) := (hbQ.block _ (by simp)).trans (heap_alloc_new w9 _); obtain ⟨z0, z1, z2⟩ := zero3 hzB; have o0 := frozen_blk hzB 0; have o1 := frozen_blk hzB 1; have o2 := frozen_blk hzB 2)
         | (trace_state; fail))
        | fail)
      all_goals
       go_wp2_with fail
       go_meet
       ·first
         | exact AlQ.early hse hpw hs1 hs0 hbB hzB (by simp) (Nat.le_refl _)
         | exact AlQ.late hse hpw hs1 hs0 hbB
         | exact AlQ.early hse hpw (fun _ => hs1 trivial) (fun e => absurd rfl e) hbB hzB (by simp) (Nat.le_refl _)
         | exact AlQ.late hse hpw (fun _ => hs1 trivial) (fun e => absurd rfl e) hbB
         | (trace_state; fail)
   obtain ⟨DC, C1, c1, C2, c2, C3, c3, At2, ts2, ct2, rfl, rfl, rfl, hbx, hpw, hs1, hs0, hbC⟩ := hcut
   have hwl2 := ts_big HRKD.out (by rw [HDL.out]; omega) hs1 hs0
   have HSA := Lib.hid (HS1.out rfl)
   have HLE1 := Lib.hid ((HPL.out ts1 ts2 ts HSA.out).1 (HS11.out rfl))
   have HLE2 := Lib.hid ((HPL.out ts1 ts2 ts HSA.out).2 (hs1 rfl))
   have HBC10 := Lib.hid hbx
   have HBA10 := Lib.hid (HBA9.out.below hbC)
   have HZB10 := Lib.hid (HZB9.out.below hbC)
   have HPW10 := Lib.hid (pws_keep HPW9.out hbC)
   have HI10 := Lib.hid (HI9.out.below hbC)
   clear hbx hpw hs1 hs0 hbC HALQ HKS HBA9 HZB9 HPW9 HI9 HS1 HS11 HPL
   generalize wc = w10 at *
   go_upto_region 18 with (fail)
   have f1 : ¬ (ts.length : Int) < (ts1.length : Int) := by have := HLE1.out; omega
   have f2 : ¬ (ts.length : Int) < (ts2.length : Int) := by have := HLE2.out; omega
   have f1' : decide ((ts.length : Int) < (ts1.length : Int)) = false := decide_eq_false f1
   have f2' : decide ((ts.length : Int) < (ts2.length : Int)) = false := decide_eq_false f2
   have C4 := fun d xs => (HBC10.out.below (below_regrown w10 d xs)).cells
   have A4 := fun d xs => (HBA10.out.below (below_regrown w10 d xs)).cells
   have KTC := Lib.hid (fun d xs => lto_any (.slice C1 Sa.ls.length c1) (.slice C2 Sa.ms.length c2) (.slice C3 Sa.nt.length c3) (Sort.grow (redrawn w10 d) xs) ⟨_, _, _, rfl⟩ ⟨_, _, _, rfl⟩ ⟨_, _, _, rfl⟩)
   have KTA := Lib.hid (fun d xs => lto_any (.slice D1 Sa.ls.length d1) (.slice D2 Sa.ms.length d2) (.slice D3 Sa.nt.length d3) (Sort.grow (redrawn w10 d) xs) ⟨_, _, _, rfl⟩ ⟨_, _, _, rfl⟩ ⟨_, _, _, rfl⟩)
   have KS := Lib.hid (fun d xs => r50same (Sort.grow (redrawn w10 d) xs) (HBC10.out.below (below_regrown w10 d xs)).st (HBA10.out.below (below_regrown w10 d xs)).st (Nat.le_refl _) HFA.out.lv (by have := HFA.out.n1; omega) (by have := HFA.out.n2; omega) (by have := HFA.out.n3; omega))
   refine quiet_below (by kernel_rfl) (by kernel_rfl) ?_
   repeat (go_big_quiet_step (first | (go_at_call 17; first | with_reducible exact Calls.regrown_of (KTC.out _ _) | with_reducible exact Calls.regrown_of (KTA.out _ _)) | (go_at_call 16; exact Calls.regrown_of (KS.out _ _))))
   refine wpQuiet_nil ?_
   intro w11 hb11
   have HBA11 := Lib.hid (HBA10.out.below hb11)
   have HZB11 := Lib.hid (HZB10.out.below hb11)
   have HPW11 := Lib.hid (pws_keep HPW10.out hb11)
   have HI11 := Lib.hid (HI10.out.below hb11)
   clear C4 A4 KTC KTA KS hb11 HBC10 HBA10 HZB10 HPW10 HI10 f1 f2 f1' f2'
   have HA1 := Lib.hid (HOR.out rfl)
   have hb12 : Below w11.heap.size w11 (w11.alloc (.cells #[.int .u64 0, .int .u64 1, .slice At ts.length ct, .slice none 0 0, .slice none 0 0] 28)) := below_laid
   have HAN : Hid (Calls Tryz.prog 24 #[.agg #[.int .i64 L.disks, .slice A L.n c, .int .i64 L.tiles, .int .i64 L.spare], .agg #[.slice A' L.G c', .slice none 0 0, .slice none 0 0], .slice (some ⟨w11.heap.size, 0, none⟩) 1 1] (w11.alloc (.cells #[.int .u64 0, .int .u64 1, .slice At ts.length ct, .slice none 0 0, .slice none 0 0] 28)) fun e w' => AllV (fun _ => False) (allR L (newS L) [oneR ts]).1 (allR L (newS L) [oneR ts]).2 ts w' e ∧ Below w11.heap.size w11 w') := by
    have hrc := rcs_one (ct := ct) HPW11.out
    have h := (HI11.out.below hb12).all (cq := 1) HX.out (HZB11.out.below hb12) HNM.out (hrc.more (by simp)) (one_ok HROK.out HA1.out.1 hlen HSA.out) (by simp) HNF.out
    rw [allW_one] at h
    exact h.mono fun e w' hh => ⟨AllV.less hh.1 (fun _ e => e.elim), hb12.trans (hh.2.mono hb12.size)⟩
   have HFT := Lib.hid (allR_few (L := L) (S := newS L) (rs := [oneR ts]) (by omega) (by omega) (by simp) (by simp [newS]) (by simp [newS]))
   have HON := Lib.hid (fun hn => HA1.out.2 ts HSA.out hn)
   obtain ⟨T, et, hap⟩ : ∃ T et, allR L (newS L) [oneR ts] = (T, et) := ⟨_, _, rfl⟩
   rw [hap] at HAN HFT HON
   simp only at HAN HFT HON
   clear hap hb12 HOR HTK HOK HOA HFK HRKT HRKD HTL HDL HE1 HADR HRD HNM HNF HLE1 HLE2 HA1
   obtain ⟨l0, l1, l2, l3⟩ := HI11.out.lay.cells
   obtain ⟨y0, y1, y2⟩ := HZB11.out.cells
   go_wp2_with fail
   refine HAN.out.mono ?_
   rintro r w12 ⟨⟨v12, At3, ts3, ct3, rfl, hse, -, hs1, hs0⟩, hb12⟩
   obtain ⟨G1, g1, G2, g2, G3, g3, rfl, hsv⟩ := hse.now.form
   have HSV := Lib.hid hsv
   have hwl3 : ts3.length ≤ 10000000 := by
    by_cases h0 : et = 0
    ·have := srtW_len (hs1 h0); omega
    ·rw [hs0 h0]; simp
   have HS3 := Lib.hid hs1
   have HBA12 := Lib.hid (HBA11.out.below hb12)
   have HI12 := Lib.hid (HI11.out.below hb12)
   clear hsv hse hs1 hs0 hb12 HAN HI11 HZB11 HBA11 HPW11 l0 l1 l2 l3 y0 y1 y2
   go_upto_region 21 with (fail)
   have HBD13 : Hid (Bx (w12.alloc (.cells #[.slice G1 T.ls.length g1, .slice G2 T.ms.length g2, .slice G3 T.nt.length g3] 41)) w12.heap.size 41 (.slice G1 T.ls.length g1) (.slice G2 T.ms.length g2) (.slice G3 T.nt.length g3) T) := Bx.made HSV.out _
   have HI13 : Hid (LxI w X L A c (w12.alloc (.cells #[.slice G1 T.ls.length g1, .slice G2 T.ms.length g2, .slice G3 T.nt.length g3] 41))) := HI12.out.below below_laid
   have HBA13 : Hid (Bx (w12.alloc (.cells #[.slice G1 T.ls.length g1, .slice G2 T.ms.length g2, .slice G3 T.nt.length g3] 41)) E 41 (.slice D1 Sa.ls.length d1) (.slice D2 Sa.ms.length d2) (.slice D3 Sa.nt.length d3) Sa) := HBA12.out.below below_laid
   generalize w12.alloc _ = w13 at *
   generalize w12.heap.size = U at *
   clear HSV HI12 HBA12
   by_cases h64 : 64 < ts.length
   case pos =>
    have f1 : (64 : Int) < (ts.length : Int) := by omega
    refine quiet_below (by kernel_rfl) (by kernel_rfl) ?_
    repeat (go_big_quiet_step (fail))
    refine wpQuiet_nil ?_
    intro w14 hb14
    have HF := Lib.hid (HI13.out.below hb14).bel
    clear hb14 f1
    go_wp2
    go_ret
    exact ⟨rfl, HF.out⟩
   case neg =>
    obtain ⟨T', hT, hTL⟩ := HON.out (by omega)
    obtain ⟨rfl, rfl⟩ : T = T' ∧ et = 0 := ⟨congrArg Prod.fst hT, congrArg Prod.snd hT⟩
    obtain rfl : ts3 = ts := srt_unique (HS3.out rfl) (srt_self HSA.out)
    have f1 : ¬ (64 : Int) < (ts3.length : Int) := by omega
    have D4 := fun d xs => (HBD13.out.below (below_regrown w13 d xs)).cells
    have A4 := fun d xs => (HBA13.out.below (below_regrown w13 d xs)).cells
    have KTD := Lib.hid (fun d xs => lto_any (.slice G1 T.ls.length g1) (.slice G2 T.ms.length g2) (.slice G3 T.nt.length g3) (Sort.grow (redrawn w13 d) xs) ⟨_, _, _, rfl⟩ ⟨_, _, _, rfl⟩ ⟨_, _, _, rfl⟩)
    have KTA := Lib.hid (fun d xs => lto_any (.slice D1 Sa.ls.length d1) (.slice D2 Sa.ms.length d2) (.slice D3 Sa.nt.length d3) (Sort.grow (redrawn w13 d) xs) ⟨_, _, _, rfl⟩ ⟨_, _, _, rfl⟩ ⟨_, _, _, rfl⟩)
    have hks := fun d xs => lsameLeaves (Sort.grow (redrawn w13 d) xs) (HBD13.out.below (below_regrown w13 d xs)).st (HBA13.out.below (below_regrown w13 d xs)).st (Nat.le_refl _) HFT.out.lv HFA.out.lv (by have := HFT.out.n1; omega) (by have := HFA.out.n1; omega)
    rw [decide_eq_true hTL] at hks
    have KS := Lib.hid hks
    clear hks hT hTL
    refine quiet_below (by kernel_rfl) (by kernel_rfl) ?_
    repeat (go_big_quiet_step (first | (go_at_call 17; first | with_reducible exact Calls.regrown_of (KTD.out _ _) | with_reducible exact Calls.regrown_of (KTA.out _ _)) | (go_at_call 26; exact Calls.regrown_of (KS.out _ _))))
    refine wpQuiet_nil ?_
    intro w14 hb14
    have HF := Lib.hid (HI13.out.below hb14).bel
    clear hb14 f1 D4 A4 KTD KTA KS
    go_wp2
    go_ret
    exact ⟨rfl, HF.out⟩
end Go.Proofs.YtjgjofepedcfnaaGreat
