/- Walk of tegulalaw50.ReplayRoot. -/
import Derived.Test.YtjgjofepedcfnaaGreatRrI
import Derived.Test.YtjgjofepedcfnaaGreatOpnR
namespace Go.Proofs.YtjgjofepedcfnaaGreat
open Go.RowKit
theorem ok_leaves {L : LayD} {S : St} (h : stOk L S = true) (hw : L.w ≤ 16) : ∀ x ∈ S.ls, x.vs.length = x.ss.length ∧ x.vs.length ≤ 1000 := fun x hx => by
 have h1 := (stOk_ls h).2 x hx
 omega
set_option maxHeartbeats 16000000 in
set_option maxRecDepth 100000 in
theorem lreplayRoot (n0 : Nat) (hn0 : n0 < 256) (ra rb : List Rcd) (Ar Br : Option Addr) (cr dr : Nat) (w : World) (hra : RcsS w w.heap.size Ar ra) (hia : ∀ r ∈ ra, r.seq < 18446744073709551616 ∧ ∀ x ∈ r.ws, x.d.ok) (hla : ra.length ≤ 9223372036854775807) (hrb : RcsS w w.heap.size Br rb) (hib : ∀ r ∈ rb, r.seq < 18446744073709551616 ∧ ∀ x ∈ r.ws, x.d.ok) (hlb : rb.length ≤ 9223372036854775807) :
  Calls Tryz.prog 7 #[.int .u8 (n0 : Int), .slice Ar ra.length cr, .slice Br rb.length dr] w fun r w' => r = .returned (.bool true) ∧ Below w.heap.size w w' := by
 have HX := Lib.hid (small_layX (kL n0))
 have HSM : Hid (∀ W, Calls Tryz.prog 13 #[.int .u8 (n0 : Int)] W fun r w' => SmkP n0 W r w') := fun W => r50small n0 hn0 W
 unfold SmkP at HSM
 generalize smallL (kL n0) = L at *
 have HAW : Hid (∀ W, Calls Tryz.prog 10 #[] W fun r w' => r = .returned (.bool true) ∧ Below W.heap.size W w') := fun W => lawake W
 have HFA : Hid (∀ W, Below w.heap.size w W → Calls Tryz.prog 11 #[.slice Ar ra.length cr] W fun e w' => e = .returned (.bool (fewB ra)) ∧ Below W.heap.size W w') := fun W hW => lfew W (hra.below hW (Nat.le_refl _)) hW.size hla
 have HFB : Hid (∀ W, Below w.heap.size w W → Calls Tryz.prog 11 #[.slice Br rb.length dr] W fun e w' => e = .returned (.bool (fewB rb)) ∧ Below W.heap.size W w') := fun W hW => lfew W (hrb.below hW (Nat.le_refl _)) hW.size hlb
 have HTA := Lib.hid (fun h => few_ok (rs := ra) h hia)
 have HTB := Lib.hid (fun h => few_ok (rs := rb) h hib)
 have HRA := Lib.hid hra
 have HRB0 := Lib.hid hrb
 obtain ⟨fa, hfa⟩ : ∃ q, fewB ra = q := ⟨_, rfl⟩
 obtain ⟨fb, hfb⟩ : ∃ q, fewB rb = q := ⟨_, rfl⟩
 rw [hfa] at HFA HTA
 rw [hfb] at HFB HTB
 clear hra hrb hia hib hfa hfb hla hlb
 go_enter Tryz.func7, Tryz.ntmps7
 go_wp2_with fail
 refine (HAW.out w).mono ?_
 rintro r w1 ⟨rfl, hb1⟩
 have HB1 := Lib.hid hb1
 clear hb1 HAW
 go_wp2_with fail
 refine (HFA.out w1 HB1.out).mono ?_
 rintro r w2 ⟨rfl, hb2⟩
 have HB2 := Lib.hid (HB1.out.trans (hb2.mono HB1.out.size))
 clear hb2 HFA HB1
 cases fa with
 | false =>
  go_wp2
  go_ret
  exact ⟨rfl, HB2.out⟩
 | true =>
  obtain ⟨hlen, hroka⟩ := HTA.out rfl
  have HROK := Lib.hid hroka
  clear HTA hroka
  go_wp2_with fail
  refine (HFB.out w2 HB2.out).mono ?_
  rintro r w3 ⟨rfl, hb3⟩
  have HB3 := Lib.hid (HB2.out.trans (hb3.mono HB2.out.size))
  clear hb3 HFB HB2
  cases fb with
  | false =>
   go_wp2
   go_ret
   exact ⟨rfl, HB3.out⟩
  | true =>
   obtain ⟨hlenb, hrokb⟩ := HTB.out rfl
   have HROKB := Lib.hid hrokb
   have hlay := HX.out.ok
   have hw16 := hlay.w
   have hG := hlay.G
   clear HTB hrokb
   go_wp2_with fail
   refine (HSM.out w3).mono ?_
   rintro r w4 ⟨A, c, rfl, hgs, hb4⟩
   unfold layAgg
   have HB4 := Lib.hid (HB3.out.trans (hb4.mono HB3.out.size))
   have HGS := Lib.hid hgs
   clear hgs hb4 HSM HB3
   go_upto_region 6 with (fail)
   generalize hW5 : w4.alloc _ = w5
   have HI5 : Hid (LxI w w4.heap.size L A c w5) := by
    refine ⟨?_, ?_, ?_⟩
    ·rw [← hW5]; exact HB4.out.trans (below_laid.mono HB4.out.size)
    ·rw [← hW5]; exact heap_alloc_new w4 _
    ·rw [← hW5]; exact HGS.out.below below_laid (Nat.le_refl _)
   have HXL : Hid (w.heap.size ≤ w4.heap.size) := HB4.out.size
   clear hW5 HGS HB4
   generalize w4.heap.size = X at *
   have HN2 := Lib.hid (fun (W : World) (h : LxI w X L A c W) => r50new (c := c) W HX.out h.gs (Nat.le_refl _) (by omega) (by omega) (by omega))
   unfold layAgg at HN2
   obtain ⟨l0, l1, l2, l3⟩ := HI5.out.lay.cells
   go_wp2_with fail
   refine (HN2.out w5 HI5.out).mono ?_
   rintro r w6 ⟨⟨A', c', rfl, hls⟩, hb6⟩
   have HI6 := Lib.hid (HI5.out.below hb6)
   have HLS := Lib.hid (LvS.stv (c := c') hls)
   clear hls hb6 HN2 HI5 l0 l1 l2 l3
   go_upto_region 8 with (fail)
   have hb7 : Below w6.heap.size w6 ((w6.alloc (.cells #[.slice A' L.G c', .slice none 0 0, .slice none 0 0] 45)).alloc (.cells #[.slice A' L.G c', .slice none 0 0, .slice none 0 0] 45)) := below_laid.trans (below_laid.mono (by simp))
   have hy1 : ((w6.alloc (.cells #[.slice A' L.G c', .slice none 0 0, .slice none 0 0] 45)).alloc (.cells #[.slice A' L.G c', .slice none 0 0, .slice none 0 0] 45)).heap[w6.heap.size]? = some (.cells #[.slice A' L.G c', .slice none 0 0, .slice none 0 0] 45 (0, 0)) := by
    rw [Below.heap_alloc _ _ _ (by simp)]
    exact heap_alloc_new w6 _
   have hy2 : ((w6.alloc (.cells #[.slice A' L.G c', .slice none 0 0, .slice none 0 0] 45)).alloc (.cells #[.slice A' L.G c', .slice none 0 0, .slice none 0 0] 45)).heap[w6.heap.size + 1]? = some (.cells #[.slice A' L.G c', .slice none 0 0, .slice none 0 0] 45 (0, 0)) := by
    have := heap_alloc_new (w6.alloc (.cells #[.slice A' L.G c', .slice none 0 0, .slice none 0 0] 45)) (.cells #[.slice A' L.G c', .slice none 0 0, .slice none 0 0] 45)
    simpa using this
   have HI7 := Lib.hid (HI6.out.below hb7)
   have HST7 := Lib.hid (HLS.out.below hb7 (Nat.le_refl _))
   have HXY : Hid (X < w6.heap.size) := HI6.out.lay.lt2
   generalize (w6.alloc _).alloc _ = w7 at *
   obtain ⟨Y2, hY2⟩ : ∃ Y2, w6.heap.size + 1 = Y2 := ⟨_, rfl⟩
   rw [hY2] at hy2 ⊢
   generalize w6.heap.size = Y1 at *
   have HY1 := Lib.hid hy1
   have HY2 := Lib.hid hy2
   have HYL : Hid (Y1 < w7.heap.size ∧ Y2 < w7.heap.size ∧ Y1 ≠ Y2 ∧ X < Y2) := ⟨(Array.getElem?_eq_some_iff.1 hy1).1, (Array.getElem?_eq_some_iff.1 hy2).1, by omega, by have := HXY.out; omega⟩
   have HSK : Hid (StK (fun k => k = Y1 ∨ k = Y2) w7 (.agg #[.slice A' L.G c', .slice none 0 0, .slice none 0 0]) (newS L)) := HST7.out.stk (Nat.le_of_lt HYL.out.1) (fun k _ e => by rcases e with e | e <;> omega)
   have HRI0 : Hid (RunI (fun k => k = Y1 ∨ k = Y2) w7 X Y1 L A c (.slice A' L.G c') (.slice none 0 0) (.slice none 0 0) (runS L (newS L) (ra.take 0)) w7) :=
    ⟨Agr.refl _ _, HI7.out.lay, HI7.out.gx, HXY.out, HYL.out.1, HY1.out, .inl rfl, HSK.out⟩
   have HRS6 : Hid (RcsS w7 w.heap.size Ar ra) := HRA.out.below HI7.out.bel (Nat.le_refl _)
   have HRB : Hid (w.heap.size ≤ Y1) := by have := HXL.out; have := HXY.out; rw [Hid]; omega
   have HRSB : Hid (RcsS w7 w.heap.size Br rb) := HRB0.out.below HI7.out.bel (Nat.le_refl _)
   clear hb7 hy1 hy2 HI6 HLS HST7 HRA HRB0 hY2
   go_wp2
   go_loopw [39] (fun s39 wr => ∃ k : Nat, k ≤ ra.length ∧ s39 = .int .i64 k ∧ ∃ a b d, RunI (fun k => k = Y1 ∨ k = Y2) w7 X Y1 L A c a b d (runS L (newS L) (ra.take k)) wr) (fun s39 _ => ra.length - (intOf s39).toNat)
   case atStart => exact ⟨0, by omega, rfl, _, _, _, HRI0.out⟩
   case round =>
    obtain ⟨k, hk, rfl, xa, xb, xd, hI⟩ := hrel
    obtain ⟨hok, hmsn, hntn⟩ := runS_few (L := L) (rs := ra) (k := k) hlen
    obtain ⟨A6, c6, A7, c7, A8, c8, hsc, -⟩ := hI.st.now.form
    obtain ⟨rfl, rfl, rfl⟩ : xa = .slice A6 (runS L (newS L) (ra.take k)).ls.length c6 ∧ xb = .slice A7 (runS L (newS L) (ra.take k)).ms.length c7 ∧ xd = .slice A8 (runS L (newS L) (ra.take k)).nt.length c8 := by
     injection hsc with hsc
     have g0 := congrArg (fun x => x[0]?) hsc
     have g1 := congrArg (fun x => x[1]?) hsc
     have g2 := congrArg (fun x => x[2]?) hsc
     simp at g0 g1 g2
     exact ⟨g0, g1, g2⟩
    have HOK := Lib.hid hok
    have HI := Lib.hid hI
    have HIL := Lib.hid hI.lt
    clear hok hI HRI0 hsc
    by_cases hkn : k < ra.length
    case neg =>
     have hkI : ¬ (k : Int) < (ra.length : Int) := by omega
     obtain rfl : k = ra.length := by omega
     rw [List.take_length] at HI HOK hmsn hntn
     clear hkn
     have HLX : Hid (LxI w X L A c wr) := ⟨HI7.out.bel.trans (HI.out.bel.mono HRB.out), HI.out.layr, HI.out.gxr⟩
     have hga : Agr (fun k => k = Y1 ∨ k = Y2) w7 wr := HI.out.agr.mono fun k _ e => .inl e
     have HYQ : Hid (Y1 < wr.heap.size ∧ Y2 < wr.heap.size ∧ Y1 ≠ Y2 ∧ X < Y2) := by have := HYL.out; have := hga.size; rw [Hid]; omega
     have HY2Q : Hid (wr.heap[Y2]? = some (.cells #[.slice A' L.G c', .slice none 0 0, .slice none 0 0] 45 (0, 0))) := (HI.out.agr.block Y2 HYL.out.2.1 (fun e => HYL.out.2.2.1 e.symm)).trans HY2.out
     have HRI0 : Hid (RunI (fun k => k = Y1 ∨ k = Y2) wr X Y2 L A c (.slice A' L.G c') (.slice none 0 0) (.slice none 0 0) (runS L (newS L) (rb.take 0)) wr) :=
      ⟨Agr.refl _ _, HI.out.layr, HI.out.gxr, HYQ.out.2.2.2, HYQ.out.2.1, HY2Q.out, .inr rfl, HSK.out.step hga⟩
     have HRSQ : Hid (RcsS wr w.heap.size Br rb) := HRSB.out.below HI.out.bel HRB.out
     have HRBQ : Hid (w.heap.size ≤ Y2) := by have := HRB.out; have := HYL.out; have := HXY.out; have := HXL.out; rw [Hid]; omega
     have HSA := Lib.hid HI.out.st
     have HBA := Lib.hid HI.out.blk
     have HOKA := Lib.hid HOK.out
     clear HI HIL HRS6 HI7 HRB HSK HY1 HY2 HRSB hga HY2Q HOK HYL HROK hlen hmsn hntn
     generalize wr = wq at *
     generalize runS L (newS L) ra = Sa at *
     have HRS6 := Lib.hid HRSQ.out
     have HRB := Lib.hid HRBQ.out
     have HROK := Lib.hid HROKB.out
     have hlen := hlenb
     clear HRSQ HRBQ HROKB
     go_wp2
     generalize A6 = B6 at *
     generalize c6 = b6 at *
     generalize A7 = B7 at *
     generalize c7 = b7 at *
     generalize A8 = B8 at *
     generalize c8 = b8 at *
     go_loopw [58] (fun s58 wr => ∃ k : Nat, k ≤ rb.length ∧ s58 = .int .i64 k ∧ ∃ a b d, RunI (fun k => k = Y1 ∨ k = Y2) wq X Y2 L A c a b d (runS L (newS L) (rb.take k)) wr) (fun s58 _ => rb.length - (intOf s58).toNat)
     case atStart => exact ⟨0, by omega, rfl, _, _, _, HRI0.out⟩
     case round =>
      obtain ⟨k, hk, rfl, xa, xb, xd, hI⟩ := hrel
      obtain ⟨hok, hmsn, hntn⟩ := runS_few (L := L) (rs := rb) (k := k) hlen
      obtain ⟨A6, c6, A7, c7, A8, c8, hsc, -⟩ := hI.st.now.form
      obtain ⟨rfl, rfl, rfl⟩ : xa = .slice A6 (runS L (newS L) (rb.take k)).ls.length c6 ∧ xb = .slice A7 (runS L (newS L) (rb.take k)).ms.length c7 ∧ xd = .slice A8 (runS L (newS L) (rb.take k)).nt.length c8 := by
       injection hsc with hsc
       have g0 := congrArg (fun x => x[0]?) hsc
       have g1 := congrArg (fun x => x[1]?) hsc
       have g2 := congrArg (fun x => x[2]?) hsc
       simp at g0 g1 g2
       exact ⟨g0, g1, g2⟩
      have HOK := Lib.hid hok
      have HI := Lib.hid hI
      have HIL := Lib.hid hI.lt
      clear hok hI HRI0 hsc
      by_cases hkn : k < rb.length
      case neg =>
       have hkI : ¬ (k : Int) < (rb.length : Int) := by omega
       obtain rfl : k = rb.length := by omega
       rw [List.take_length] at HI HOK hmsn hntn
       clear hkn
       have HLX2 : Hid (LxI w X L A c wr) := ⟨HLX.out.bel.trans (HI.out.bel.mono HRB.out), HI.out.layr, HI.out.gxr⟩
       have hga : Agr (fun k => k = Y1 ∨ k = Y2) wq wr := HI.out.agr.mono fun k _ e => .inr e
       have HBS : Hid (Bx wr Y1 45 (.slice B6 Sa.ls.length b6) (.slice B7 Sa.ms.length b7) (.slice B8 Sa.nt.length b8) Sa) := ⟨(HI.out.agr.block Y1 HYQ.out.1 HYQ.out.2.2.1).trans HBA.out, (HSA.out.step hga).now⟩
       have HBT : Hid (Bx wr Y2 45 (.slice A6 (runS L (newS L) rb).ls.length c6) (.slice A7 (runS L (newS L) rb).ms.length c7) (.slice A8 (runS L (newS L) rb).nt.length c8) (runS L (newS L) rb)) := ⟨HI.out.blk, HI.out.st.now⟩
       clear HI HIL HRS6 HRB HBA HSA hga HLX HROK
       generalize runS L (newS L) rb = Sb at *
       have hla := ok_leaves HOKA.out (by omega)
       have hlb := ok_leaves HOK.out (by omega)
       have hna : Sa.ls.length ≤ 100000 := by rw [(stOk_ls HOKA.out).1]; omega
       have hnb : Sb.ls.length ≤ 100000 := by rw [(stOk_ls HOK.out).1]; omega
       have HRE : Hid (Sa.ls = Sb.ls → rootS Sa = rootS Sb) := fun e => by unfold rootS; rw [e]
       have S4 := fun d xs => (HBS.out.below (below_regrown wr d xs)).cells
       have T4 := fun d xs => (HBT.out.below (below_regrown wr d xs)).cells
       have KFS := Lib.hid (fun d xs => lfrom_any (.slice B6 Sa.ls.length b6) (.slice B7 Sa.ms.length b7) (.slice B8 Sa.nt.length b8) (Sort.grow (redrawn wr d) xs) ⟨_, _, _, rfl⟩ ⟨_, _, _, rfl⟩ ⟨_, _, _, rfl⟩)
       have KFT := Lib.hid (fun d xs => lfrom_any (.slice A6 Sb.ls.length c6) (.slice A7 Sb.ms.length c7) (.slice A8 Sb.nt.length c8) (Sort.grow (redrawn wr d) xs) ⟨_, _, _, rfl⟩ ⟨_, _, _, rfl⟩ ⟨_, _, _, rfl⟩)
       have KRS := Lib.hid (fun d xs => rRoot (Sort.grow (redrawn wr d) xs) (HBS.out.below (below_regrown wr d xs)).st (Nat.le_refl _) hla hna)
       have KRT := Lib.hid (fun d xs => rRoot (Sort.grow (redrawn wr d) xs) (HBT.out.below (below_regrown wr d xs)).st (Nat.le_refl _) hlb hnb)
       have HR5S := Lib.hid (fun (W : World) (hW : Below wr.heap.size wr W) => r50Root W (HBS.out.below hW).st (Nat.le_refl _) hla hna)
       have HR5T := Lib.hid (fun (W : World) (hW : Below wr.heap.size wr W) => r50Root W (HBT.out.below hW).st (Nat.le_refl _) hlb hnb)
       have HSL := Lib.hid (fun (W : World) (hW : Below wr.heap.size wr W) => lsameLeaves W (HBS.out.below hW).st (HBT.out.below hW).st (Nat.le_refl _) (ok_few HOKA.out (by omega)) (ok_few HOK.out (by omega)) (by omega) (by omega))
       generalize rootS Sa = xa at *
       generalize rootS Sb = xb at *
       go_upto_region 22 with (fail)
       refine quiet_below (by kernel_rfl) (by kernel_rfl) ?_
       repeat (go_big_quiet_step (first | (go_at_call 20; first | with_reducible exact Calls.regrown_of (KFS.out _ _) | with_reducible exact Calls.regrown_of (KFT.out _ _)) | (go_at_call 27; first | with_reducible exact Calls.regrown_of (KRS.out _ _) | with_reducible exact Calls.regrown_of (KRT.out _ _))))
       refine wpQuiet_nil ?_
       intro w20 hb20
       have HB20 := Lib.hid hb20
       have HW20 := Lib.hid (HLX2.out.below hb20).bel
       obtain ⟨s0, s1, s2⟩ := (HBS.out.below hb20).cells
       clear S4 T4 KFS KFT KRS KRT hb20
       go_wp2_with fail
       refine (HR5S.out w20 HB20.out).mono ?_
       rintro r w21 ⟨rfl, hb21⟩
       have HB21 := Lib.hid (HB20.out.trans (hb21.mono HB20.out.size))
       obtain ⟨t0, t1, t2⟩ := (HBT.out.below HB21.out).cells
       clear hb21 s0 s1 s2
       go_wp2_with fail
       refine (HR5T.out w21 HB21.out).mono ?_
       rintro r w22 ⟨rfl, hb22⟩
       have HB22 := Lib.hid (HB21.out.trans (hb22.mono HB21.out.size))
       have HF := Lib.hid (HLX2.out.below HB22.out).bel
       clear hb22 t0 t1 t2
       by_cases hxy : xa = xb
       ·subst hxy
        go_wp2
        go_ret
        exact ⟨rfl, HF.out⟩
       ·have f1 : ((xa : Int) == (xb : Int)) = false := by rw [beq_eq_false_iff_ne]; omega
        have f2 : ¬ (xa : Int) = (xb : Int) := by omega
        have hne : ¬ Sa.ls = Sb.ls := fun e => hxy (HRE.out e)
        obtain ⟨s0, s1, s2⟩ := (HBS.out.below HB22.out).cells
        obtain ⟨t0, t1, t2⟩ := (HBT.out.below HB22.out).cells
        have hsl := HSL.out w22 HB22.out
        rw [decide_eq_false hne] at hsl
        have HSC := Lib.hid hsl
        clear hsl hne hxy
        go_wp2_with fail
        refine HSC.out.mono ?_
        rintro r w23 ⟨rfl, hb23⟩
        have HF2 := Lib.hid (HF.out.trans (hb23.mono HF.out.size))
        clear hb23 s0 s1 s2 t0 t1 t2
        go_wp2
        go_ret
        exact ⟨rfl, HF2.out⟩
      case pos =>
       have hkI : (k : Int) < (rb.length : Int) := by omega
       have hk0 : ¬ (k : Int) < 0 := by omega
       obtain ⟨r, hrk⟩ : ∃ r, rb[k]? = some r := ⟨_, List.getElem?_eq_getElem hkn⟩
       have HROR := Lib.hid (HROK.out r (List.mem_of_getElem? hrk))
       have HSN := Lib.hid (runS_succ (L := L) (S := newS L) hrk)
       obtain ⟨b, off, Aw, cw, Am, cm, An, cn, rfl, hbB0, hcl⟩ := RcsS.at2 (HRS6.out.below HI.out.bel HRB.out) hrk (Nat.le_trans HRB.out (Nat.le_of_lt HIL.out.2))
       have HCL := Lib.hid hcl
       obtain ⟨x0, x1, x2, x3, x4, -⟩ := hcl wr (Below.refl _ _)
       generalize runS L (newS L) (rb.take k) = Sk at *
       obtain ⟨gen, seq, ws, ms, nt⟩ := r
       simp only at x0 x1 x2 x3 x4 HCL HROR HSN
       have HCA := Lib.hid (fun (W : World) (hW : Below wr.heap.size wr W) => HI.out.apply HX.out (rv := .agg #[.int .u64 gen, .int .u64 seq, .slice Aw ws.length cw, .slice Am ms.length cm, .slice An nt.length cn]) (r := ⟨gen, seq, ws, ms, nt⟩) HOK.out (by omega) (by omega) HROR.out ((HCL.out wr (Below.refl _ _)).2.2.2.2.2.1.more (Nat.le_trans HRB.out (Nat.le_of_lt HIL.out.2))) hW)
       unfold stepS at HSN
       obtain ⟨Sn, er, hap⟩ : ∃ Sn er, applyS L Sk ⟨gen, seq, ws, ms, nt⟩ = (Sn, er) := ⟨_, _, rfl⟩
       rw [hap] at HSN HCA
       simp only at HSN HCA
       clear hcl hap hrk
       have HKS : Hid (∀ W, Below wr.heap.size wr W → (W.cell? ⟨X, 0, none⟩ = some (.int .i64 (L.disks : Int)) ∧ W.cell? ⟨X, 1, none⟩ = some (.slice A L.n c) ∧ W.cell? ⟨X, 2, none⟩ = some (.int .i64 (L.tiles : Int)) ∧ W.cell? ⟨X, 3, none⟩ = some (.int .i64 (L.spare : Int)) ∧ W.cell? ⟨Y2, 0, none⟩ = some (.slice A6 Sk.ls.length c6) ∧ W.cell? ⟨Y2, 1, none⟩ = some (.slice A7 Sk.ms.length c7) ∧ W.cell? ⟨Y2, 2, none⟩ = some (.slice A8 Sk.nt.length c8) ∧ W.cell? ⟨b, off + k * 5, none⟩ = some (.int .u64 gen) ∧ W.cell? ⟨b, off + k * 5 + 1, none⟩ = some (.int .u64 seq) ∧ W.cell? ⟨b, off + k * 5 + 2, none⟩ = some (.slice Aw ws.length cw) ∧ W.cell? ⟨b, off + k * 5 + 3, none⟩ = some (.slice Am ms.length cm) ∧ W.cell? ⟨b, off + k * 5 + 4, none⟩ = some (.slice An nt.length cn))) := fun W hW => by
        have hI2 := HI.out.call hW
        obtain ⟨l0, l1, l2, l3⟩ := LayB.cells (L := L) hI2.layr
        obtain ⟨m0, m1, m2⟩ := hI2.cells
        obtain ⟨y0, y1, y2, y3, y4, -⟩ := HCL.out W hW
        exact ⟨l0, l1, l2, l3, m0, m1, m2, y0, y1, y2, y3, y4⟩
       clear x0 x1 x2 x3 x4
       go_upto_region 18 with (fail)
       go_cut [15, 16] (fun s15 s16 wx => RuQ (fun k => k = Y1 ∨ k = Y2) wr Sn er s15 s16 wx)
       case first =>
        have HFL : Hid (∀ k, (fun k => k = Y1 ∨ k = Y2) k → k < wr.heap.size) := fun k e => by have h1 := HI.out.agr.size; have h2 := HYQ.out; rcases e with e | e <;> omega
        clear HSN HCL HRS6 HROK HROR HOK
        go_region_held3 (fun W => W.cell? ⟨X, 0, none⟩ = some (.int .i64 (L.disks : Int)) ∧ W.cell? ⟨X, 1, none⟩ = some (.slice A L.n c) ∧ W.cell? ⟨X, 2, none⟩ = some (.int .i64 (L.tiles : Int)) ∧ W.cell? ⟨X, 3, none⟩ = some (.int .i64 (L.spare : Int)) ∧ W.cell? ⟨Y2, 0, none⟩ = some (.slice A6 Sk.ls.length c6) ∧ W.cell? ⟨Y2, 1, none⟩ = some (.slice A7 Sk.ms.length c7) ∧ W.cell? ⟨Y2, 2, none⟩ = some (.slice A8 Sk.nt.length c8) ∧ W.cell? ⟨b, off + k * 5, none⟩ = some (.int .u64 gen) ∧ W.cell? ⟨b, off + k * 5 + 1, none⟩ = some (.int .u64 seq) ∧ W.cell? ⟨b, off + k * 5 + 2, none⟩ = some (.slice Aw ws.length cw) ∧ W.cell? ⟨b, off + k * 5 + 3, none⟩ = some (.slice Am ms.length cm) ∧ W.cell? ⟨b, off + k * 5 + 4, none⟩ = some (.slice An nt.length cn))
         (first | with_reducible exact HKS.out _ (Below.refl wr.heap.size wr) | with_reducible exact HKS.out _ (Below.refl wr.heap.size wr).drew | with_reducible exact HKS.out _ ((Below.refl wr.heap.size wr).alloc (Nat.le_refl _) _) | with_reducible exact HKS.out _ ((Below.refl wr.heap.size wr).alloc (Nat.le_refl _) _).drew | with_reducible exact HKS.out _ hbB | with_reducible exact HKS.out _ (hbB.alloc hbB.size _) | with_reducible exact HKS.out _ (((hbB.setCell (Nat.le_refl _) _).setCell (Nat.le_refl _) _).setCell (Nat.le_refl _) _) | with_reducible exact HKS.out _ ((((hbB.alloc hbB.size _).setCell hbB.size _).setCell hbB.size _).setCell hbB.size _) | (trace_state; fail))
         (first
          | (go_at_call 18; first
           | ((first | with_reducible refine (HCA.out _ (Below.refl wr.heap.size wr).drew).mono ?_ | with_reducible refine (HCA.out _ (Below.refl wr.heap.size wr)).mono ?_); rintro e wB ⟨⟨vB, rfl, hsB⟩, hbQ, hbB⟩; obtain ⟨D1, e1, D2, e2, D3, e3, rfl, -⟩ := hsB.now.form)
           | ((first | with_reducible refine (HCA.out _ ((Below.refl wr.heap.size wr).alloc (Nat.le_refl _) _).drew).mono ?_ | with_reducible refine (HCA.out _ ((Below.refl wr.heap.size wr).alloc (Nat.le_refl _) _)).mono ?_); rintro e wB ⟨⟨vB, rfl, hsB⟩, hbQ, hbB⟩; obtain ⟨D1, e1, D2, e2, D3, e3, rfl, -⟩ := hsB.now.form; have hz : wB.heap[wr.heap.size]? = some (.cells #[.slice none 0 0, .slice none 0 0, .slice none 0 0] 45 (0, 0)) := (hbQ.block _ (by simp)).trans (heap_alloc_new wr _); obtain ⟨z0, z1, z2⟩ := zero3 hz; have f0 := frozen_blk hz 0; have f1 := frozen_blk hz 1; have f2 := frozen_blk hz 2)
           | (trace_state; fail))
          | fail)
        all_goals
         go_wp2_with fail
         go_meet
         ·first
           | exact RuQ.early hsB (by simp) HFL.out hbB hz
           | exact RuQ.late hsB (by simp) HFL.out hbB
           | (trace_state; fail)
       obtain ⟨D, D1, d1, D2, d2, D3, d3, rfl, rfl, hDl, hDr, hDs, hDb⟩ := hcut
       have HI2 := Lib.hid (HI.out.call hDb)
       have HDS := Lib.hid hDs
       have dd0 : wc.cell? ⟨D, 0, none⟩ = some (.slice D1 Sn.ls.length d1) := by rw [cell_of_row _ _ _ _ _ _ hDr]; rfl
       have dd1 : wc.cell? ⟨D, 1, none⟩ = some (.slice D2 Sn.ms.length d2) := by rw [cell_of_row _ _ _ _ _ _ hDr]; rfl
       have dd2 : wc.cell? ⟨D, 2, none⟩ = some (.slice D3 Sn.nt.length d3) := by rw [cell_of_row _ _ _ _ _ _ hDr]; rfl
       clear hDl hDr hDs hDb HKS HCA HI HIL
       generalize wc = w7 at *
       by_cases her : er = 0
       ·subst her
        have HT : Hid (runS L (newS L) (rb.take (k + 1)) = Sn) := by rw [Hid, HSN.out]; simp
        obtain ⟨s0, s1, s2⟩ := HI2.out.cells
        have f0 := frozen_blk HI2.out.blk 0
        have f1 := frozen_blk HI2.out.blk 1
        have f2 := frozen_blk HI2.out.blk 2
        have HNX := Lib.hid (HI2.out.next (Below.refl _ _) HDS.out)
        clear HSN HI2 HDS
        go_wp2
        go_roundw
        case rel => exact ⟨k + 1, by omega, by go_num, _, _, _, by rw [HT.out]; exact HNX.out⟩
        case measure => simp [intOf] <;> omega
       ·have g1 : (er == 0) = false := by simpa using her
        have HT : Hid (runS L (newS L) (rb.take (k + 1)) = Sk) := by rw [Hid, HSN.out, if_neg her]
        clear HSN HDS dd0 dd1 dd2 her
        go_wp2
        go_roundw
        case rel => exact ⟨k + 1, by omega, by go_num, _, _, _, by rw [HT.out]; exact HI2.out⟩
        case measure => simp [intOf] <;> omega
    case pos =>
     have hkI : (k : Int) < (ra.length : Int) := by omega
     have hk0 : ¬ (k : Int) < 0 := by omega
     obtain ⟨r, hrk⟩ : ∃ r, ra[k]? = some r := ⟨_, List.getElem?_eq_getElem hkn⟩
     have HROR := Lib.hid (HROK.out r (List.mem_of_getElem? hrk))
     have HSN := Lib.hid (runS_succ (L := L) (S := newS L) hrk)
     obtain ⟨b, off, Aw, cw, Am, cm, An, cn, rfl, hbB0, hcl⟩ := RcsS.at2 (HRS6.out.below HI.out.bel HRB.out) hrk (Nat.le_trans HRB.out (Nat.le_of_lt HIL.out.2))
     have HCL := Lib.hid hcl
     obtain ⟨x0, x1, x2, x3, x4, -⟩ := hcl wr (Below.refl _ _)
     generalize runS L (newS L) (ra.take k) = Sk at *
     obtain ⟨gen, seq, ws, ms, nt⟩ := r
     simp only at x0 x1 x2 x3 x4 HCL HROR HSN
     have HCA := Lib.hid (fun (W : World) (hW : Below wr.heap.size wr W) => HI.out.apply HX.out (rv := .agg #[.int .u64 gen, .int .u64 seq, .slice Aw ws.length cw, .slice Am ms.length cm, .slice An nt.length cn]) (r := ⟨gen, seq, ws, ms, nt⟩) HOK.out (by omega) (by omega) HROR.out ((HCL.out wr (Below.refl _ _)).2.2.2.2.2.1.more (Nat.le_trans HRB.out (Nat.le_of_lt HIL.out.2))) hW)
     unfold stepS at HSN
     obtain ⟨Sn, er, hap⟩ : ∃ Sn er, applyS L Sk ⟨gen, seq, ws, ms, nt⟩ = (Sn, er) := ⟨_, _, rfl⟩
     rw [hap] at HSN HCA
     simp only at HSN HCA
     clear hcl hap hrk
     have HKS : Hid (∀ W, Below wr.heap.size wr W → (W.cell? ⟨X, 0, none⟩ = some (.int .i64 (L.disks : Int)) ∧ W.cell? ⟨X, 1, none⟩ = some (.slice A L.n c) ∧ W.cell? ⟨X, 2, none⟩ = some (.int .i64 (L.tiles : Int)) ∧ W.cell? ⟨X, 3, none⟩ = some (.int .i64 (L.spare : Int)) ∧ W.cell? ⟨Y1, 0, none⟩ = some (.slice A6 Sk.ls.length c6) ∧ W.cell? ⟨Y1, 1, none⟩ = some (.slice A7 Sk.ms.length c7) ∧ W.cell? ⟨Y1, 2, none⟩ = some (.slice A8 Sk.nt.length c8) ∧ W.cell? ⟨b, off + k * 5, none⟩ = some (.int .u64 gen) ∧ W.cell? ⟨b, off + k * 5 + 1, none⟩ = some (.int .u64 seq) ∧ W.cell? ⟨b, off + k * 5 + 2, none⟩ = some (.slice Aw ws.length cw) ∧ W.cell? ⟨b, off + k * 5 + 3, none⟩ = some (.slice Am ms.length cm) ∧ W.cell? ⟨b, off + k * 5 + 4, none⟩ = some (.slice An nt.length cn))) := fun W hW => by
      have hI2 := HI.out.call hW
      obtain ⟨l0, l1, l2, l3⟩ := LayB.cells (L := L) hI2.layr
      obtain ⟨m0, m1, m2⟩ := hI2.cells
      obtain ⟨y0, y1, y2, y3, y4, -⟩ := HCL.out W hW
      exact ⟨l0, l1, l2, l3, m0, m1, m2, y0, y1, y2, y3, y4⟩
     clear x0 x1 x2 x3 x4
     go_upto_region 11 with (fail)
     go_cut [12, 13] (fun s12 s13 wx => RuQ (fun k => k = Y1 ∨ k = Y2) wr Sn er s12 s13 wx)
     case first =>
      have HFL : Hid (∀ k, (fun k => k = Y1 ∨ k = Y2) k → k < wr.heap.size) := fun k e => by have h1 := HI.out.agr.size; have h2 := HYL.out; rcases e with e | e <;> omega
      clear HSN HCL HRS6 HROK HROR HOK
      go_region_held3 (fun W => W.cell? ⟨X, 0, none⟩ = some (.int .i64 (L.disks : Int)) ∧ W.cell? ⟨X, 1, none⟩ = some (.slice A L.n c) ∧ W.cell? ⟨X, 2, none⟩ = some (.int .i64 (L.tiles : Int)) ∧ W.cell? ⟨X, 3, none⟩ = some (.int .i64 (L.spare : Int)) ∧ W.cell? ⟨Y1, 0, none⟩ = some (.slice A6 Sk.ls.length c6) ∧ W.cell? ⟨Y1, 1, none⟩ = some (.slice A7 Sk.ms.length c7) ∧ W.cell? ⟨Y1, 2, none⟩ = some (.slice A8 Sk.nt.length c8) ∧ W.cell? ⟨b, off + k * 5, none⟩ = some (.int .u64 gen) ∧ W.cell? ⟨b, off + k * 5 + 1, none⟩ = some (.int .u64 seq) ∧ W.cell? ⟨b, off + k * 5 + 2, none⟩ = some (.slice Aw ws.length cw) ∧ W.cell? ⟨b, off + k * 5 + 3, none⟩ = some (.slice Am ms.length cm) ∧ W.cell? ⟨b, off + k * 5 + 4, none⟩ = some (.slice An nt.length cn))
       (first | with_reducible exact HKS.out _ (Below.refl wr.heap.size wr) | with_reducible exact HKS.out _ (Below.refl wr.heap.size wr).drew | with_reducible exact HKS.out _ ((Below.refl wr.heap.size wr).alloc (Nat.le_refl _) _) | with_reducible exact HKS.out _ ((Below.refl wr.heap.size wr).alloc (Nat.le_refl _) _).drew | with_reducible exact HKS.out _ hbB | with_reducible exact HKS.out _ (hbB.alloc hbB.size _) | with_reducible exact HKS.out _ (((hbB.setCell (Nat.le_refl _) _).setCell (Nat.le_refl _) _).setCell (Nat.le_refl _) _) | with_reducible exact HKS.out _ ((((hbB.alloc hbB.size _).setCell hbB.size _).setCell hbB.size _).setCell hbB.size _) | (trace_state; fail))
       (first
        | (go_at_call 18; first
         | ((first | with_reducible refine (HCA.out _ (Below.refl wr.heap.size wr).drew).mono ?_ | with_reducible refine (HCA.out _ (Below.refl wr.heap.size wr)).mono ?_); rintro e wB ⟨⟨vB, rfl, hsB⟩, hbQ, hbB⟩; obtain ⟨D1, e1, D2, e2, D3, e3, rfl, -⟩ := hsB.now.form)
         | ((first | with_reducible refine (HCA.out _ ((Below.refl wr.heap.size wr).alloc (Nat.le_refl _) _).drew).mono ?_ | with_reducible refine (HCA.out _ ((Below.refl wr.heap.size wr).alloc (Nat.le_refl _) _)).mono ?_); rintro e wB ⟨⟨vB, rfl, hsB⟩, hbQ, hbB⟩; obtain ⟨D1, e1, D2, e2, D3, e3, rfl, -⟩ := hsB.now.form; have hz : wB.heap[wr.heap.size]? = some (.cells #[.slice none 0 0, .slice none 0 0, .slice none 0 0] 45 (0, 0)) := (hbQ.block _ (by simp)).trans (heap_alloc_new wr _); obtain ⟨z0, z1, z2⟩ := zero3 hz; have f0 := frozen_blk hz 0; have f1 := frozen_blk hz 1; have f2 := frozen_blk hz 2)
         | (trace_state; fail))
        | fail)
      all_goals
       go_wp2_with fail
       go_meet
       ·first
         | exact RuQ.early hsB (by simp) HFL.out hbB hz
         | exact RuQ.late hsB (by simp) HFL.out hbB
         | (trace_state; fail)
     obtain ⟨D, D1, d1, D2, d2, D3, d3, rfl, rfl, hDl, hDr, hDs, hDb⟩ := hcut
     have HI2 := Lib.hid (HI.out.call hDb)
     have HDS := Lib.hid hDs
     have dd0 : wc.cell? ⟨D, 0, none⟩ = some (.slice D1 Sn.ls.length d1) := by rw [cell_of_row _ _ _ _ _ _ hDr]; rfl
     have dd1 : wc.cell? ⟨D, 1, none⟩ = some (.slice D2 Sn.ms.length d2) := by rw [cell_of_row _ _ _ _ _ _ hDr]; rfl
     have dd2 : wc.cell? ⟨D, 2, none⟩ = some (.slice D3 Sn.nt.length d3) := by rw [cell_of_row _ _ _ _ _ _ hDr]; rfl
     clear hDl hDr hDs hDb HKS HCA HI HIL
     generalize wc = w7 at *
     by_cases her : er = 0
     ·subst her
      have HT : Hid (runS L (newS L) (ra.take (k + 1)) = Sn) := by rw [Hid, HSN.out]; simp
      obtain ⟨s0, s1, s2⟩ := HI2.out.cells
      have f0 := frozen_blk HI2.out.blk 0
      have f1 := frozen_blk HI2.out.blk 1
      have f2 := frozen_blk HI2.out.blk 2
      have HNX := Lib.hid (HI2.out.next (Below.refl _ _) HDS.out)
      clear HSN HI2 HDS
      go_wp2
      go_roundw
      case rel => exact ⟨k + 1, by omega, by go_num, _, _, _, by rw [HT.out]; exact HNX.out⟩
      case measure => simp [intOf] <;> omega
     ·have g1 : (er == 0) = false := by simpa using her
      have HT : Hid (runS L (newS L) (ra.take (k + 1)) = Sk) := by rw [Hid, HSN.out, if_neg her]
      clear HSN HDS dd0 dd1 dd2 her
      go_wp2
      go_roundw
      case rel => exact ⟨k + 1, by omega, by go_num, _, _, _, by rw [HT.out]; exact HI2.out⟩
      case measure => simp [intOf] <;> omega
end Go.Proofs.YtjgjofepedcfnaaGreat
