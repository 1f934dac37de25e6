/- Walk of tegularef50.All.
Walk of tegularef50.SameLeaf. -/
import Derived.Test.YtjgjofepedcfnaaGreatRqJ
namespace Go.Proofs.YtjgjofepedcfnaaGreat
open Go.RowKit Go.Maps
structure ArI (w wr : World) (L : LayD) (A : Option Addr) (c : Nat) (sv ov : Value) (sc : Array Value) (S : St) (ws out : List Pw) : Prop where
 lay : LayB wr w.heap.size L A c
 box : wr.heap[w.heap.size + 1]? = some (.cells sc 45 (0, 0))
 res : wr.heap[w.heap.size + 1 + 1]? = some (.cells #[.slice none 0 0, .slice none 0 0, .slice none 0 0] 45 (0, 0))
 hsv : sv = .agg sc
 st : StK (fun k => k = w.heap.size + 1 ∨ k = w.heap.size + 1 + 1) wr sv S
 own : OwS wr (w.heap.size + 3) 64 11 ov (out.map Pw.cells)
 srt : SrtW ws out
 bel : Below w.heap.size w wr
section
variable {w wr w' : World} {L : LayD} {A : Option Addr} {c : Nat} {sv ov ov' : Value} {sc : Array Value} {S S' : St} {ws ws' out out' : List Pw}
theorem ArI.lt (h : ArI w wr L A c sv ov sc S ws out) : w.heap.size + 1 + 1 < wr.heap.size := (Array.getElem?_eq_some_iff.1 h.res).1
theorem ArI.call (h : ArI w wr L A c sv ov sc S ws out) (hb : Below wr.heap.size wr w') : ArI w w' L A c sv ov sc S ws out := by
 have hl := h.lt
 exact ⟨h.lay.below hb (by omega), (hb.block _ (by omega)).trans h.box, (hb.block _ (by omega)).trans h.res, h.hsv, h.st.call hb, h.own.below hb, h.srt, h.bel.trans (hb.mono (by omega))⟩
theorem ArI.put (h : ArI w wr L A c sv ov sc S ws out) (hb : Below wr.heap.size wr w') (ho : OwS w' wr.heap.size 64 11 ov' (out'.map Pw.cells)) (hs : SrtW ws' out') : ArI w w' L A c sv ov' sc S ws' out' := by
 have hl := h.lt
 have h1 := h.call hb
 exact ⟨h1.lay, h1.box, h1.res, h1.hsv, h1.st, ho.mono (by omega), hs, h1.bel⟩
theorem ArI.next (h : ArI w wr L A c sv ov sc S ws out) (hb : Below wr.heap.size wr w') {a1 a2 a3 : Value} (hs : StK (fun k => k = w.heap.size + 1 ∨ k = w.heap.size + 1 + 1) w' (.agg #[a1, a2, a3]) S') {b1 b2 b3 : Value} (he : sc = #[b1, b2, b3]) :
  ArI w (((w'.setCell ⟨w.heap.size + 1, 0, none⟩ a1).setCell ⟨w.heap.size + 1, 1, none⟩ a2).setCell ⟨w.heap.size + 1, 2, none⟩ a3) L A c (.agg #[a1, a2, a3]) ov #[a1, a2, a3] S' ws out := by
 subst he
 have hl := h.lt
 have h1 := h.call hb
 have hk : ∀ k, k ≠ w.heap.size + 1 → (((w'.setCell ⟨w.heap.size + 1, 0, none⟩ a1).setCell ⟨w.heap.size + 1, 1, none⟩ a2).setCell ⟨w.heap.size + 1, 2, none⟩ a3).heap[k]? = w'.heap[k]? := fun k hk =>
  ((heap_setCell_other _ _ _ _ hk).trans (heap_setCell_other _ _ _ _ hk)).trans (heap_setCell_other _ _ _ _ hk)
 refine ⟨(hk _ (by omega)).trans h1.lay, heap_setCell_same _ _ 2 _ _ a3 (heap_setCell_same _ _ 1 _ _ a2 (heap_setCell_same _ _ 0 _ _ a1 h1.box)), (hk _ (by omega)).trans h1.res, rfl, hs.step (agr_three (.inl rfl) _ _ _), h1.own.same fun k e => hk k (by have := (h1.own.lt e).1; omega), h.srt, ((h1.bel.setCell (by simp) _).setCell (by simp) _).setCell (by simp) _⟩
theorem ArI.fin (h : ArI w wr L A c sv ov sc S ws out) {At : Option Addr} {n ct : Nat} (he : ov = .slice At n ct) {a1 a2 a3 : Value} (hsc : sc = #[a1, a2, a3]) {W : World} (hW : ((wr.setCell ⟨w.heap.size + 1 + 1, 0, none⟩ a1).setCell ⟨w.heap.size + 1 + 1, 1, none⟩ a2).setCell ⟨w.heap.size + 1 + 1, 2, none⟩ a3 = W) :
  Below w.heap.size w W ∧ StV W W.heap.size (.agg #[a1, a2, a3]) S ∧ PwS W W.heap.size At out := by
 subst he
 have ha : Agr (fun k => k = w.heap.size + 1 ∨ k = w.heap.size + 1 + 1) wr W := by
  rw [← hW]
  exact agr_three (.inr rfl) _ _ _
 have hst := h.st
 rw [h.hsv, hsc] at hst
 refine ⟨?_, (hst.step ha).now, ?_⟩
 ·rw [← hW]
  exact ((h.bel.setCell (by simp; omega) _).setCell (by simp; omega) _).setCell (by simp; omega) _
 ·exact RdS.stb (F := fun k => k = w.heap.size + 1 ∨ k = w.heap.size + 1 + 1) h.own.reads (fun a hA e => by
   have h1 := (h.own.lt (k := a.block) (by rw [hA]; rfl)).1
   omega) W ha
end
theorem srtW_len {ws ts : List Pw} (h : SrtW ws ts) : ts.length ≤ ws.length := by
 haveI : DecidableEq Pw := fun a b => Classical.propDecidable (a = b)
 refine length_le_of_sub _ _ (h.2.imp fun {a b} (hab : ltW a b) (e : a = b) => ltW_ir (show ltW b b by rw [e] at hab; exact hab)) fun x hx => (lastW_some ((h.1 x).1 hx)).1
def ArP (w wr : World) (Sn : St) (er : Int) (s11 s12 : Value) (wx : World) : Prop := ∃ D D1 d1 D2 d2 D3 d3, s11 = .pointer (some ⟨D, 0, none⟩) ∧ s12 = .int .i64 er ∧ wr.heap.size ≤ D ∧ wx.heap[D]? = some (.cells #[.slice D1 Sn.ls.length d1, .slice D2 Sn.ms.length d2, .slice D3 Sn.nt.length d3] 45 (0, 0)) ∧
 StK (fun k => k = w.heap.size + 1 ∨ k = w.heap.size + 1 + 1) wx (.agg #[.slice D1 Sn.ls.length d1, .slice D2 Sn.ms.length d2, .slice D3 Sn.nt.length d3]) Sn ∧ Below wr.heap.size wr wx
set_option maxHeartbeats 4000000 in
set_option maxRecDepth 100000 in
theorem r50all {L : LayD} {A Ar : Option Addr} {B c cr : Nat} {v : Value} {S : St} {rs : List Rcd} (w : World) (hx : LayX L) (hv : GsV w B A L.gs) (h : StV w B v S) (hrs : RcsS w B Ar rs) (hro : ∀ r ∈ rs, RcdOk r) (hB : B ≤ w.heap.size) (hlen : rs.length ≤ 10)
  (n1 : S.ls.length ≤ 100000) (n2 : S.ms.length ≤ 8000) (n3 : S.nt.length ≤ 90000) :
  Calls Tryz.prog 25 #[layAgg L A c, v, .slice Ar rs.length cr] w fun e w' => AllP (fun _ => False) L S rs w' e ∧ Below w.heap.size w w' := by
 have hG := hx.ok.G
 have hw16 := hx.ok.w.2
 have h0 := h
 obtain ⟨A1, c1, A2, c2, A3, c3, rfl, -⟩ := h0.form
 have HVA : Hid (∀ W, Below w.heap.size w W → Calls Tryz.prog 23 #[.agg #[.int .i64 L.disks, .slice A L.n c, .int .i64 L.tiles, .int .i64 L.spare], .agg #[.slice A1 S.ls.length c1, .slice A2 S.ms.length c2, .slice A3 S.nt.length c3]] W fun e w' => e = .returned (.bool (stOk L S)) ∧ Below W.heap.size W w') := fun W hW => r50valid W hx (hv.below hW hB) (h0.below hW hB) (Nat.le_trans hB hW.size) n1 (by omega) (by omega)
 have HAPX : Hid (∀ (wr : World) (sv ov : Value) (sc : Array Value) (Sk : St) (ws out : List Pw) (rv : Value) (r : Rcd), ArI w wr L A c sv ov sc Sk ws out → stOk L Sk = true → Sk.ms.length ≤ 9000 → Sk.nt.length ≤ 100000 → RcdOk r → RcdV wr B rv r → ∀ W, Below wr.heap.size wr W →
   Calls Tryz.prog 18 #[.agg #[.int .i64 L.disks, .slice A L.n c, .int .i64 L.tiles, .int .i64 L.spare], sv, rv] W fun e w' => (∃ v', e = .returned (.tuple #[v', .int .i64 (applyS L Sk r).2]) ∧ StK (fun k => (k = w.heap.size + 1 ∨ k = w.heap.size + 1 + 1 ∨ k = wr.heap.size) ∧ k < W.heap.size) w' v' (applyS L Sk r).1) ∧ Below W.heap.size W w' ∧ Below wr.heap.size wr w') := fun wr sv ov sc Sk ws out rv r hI hok hm hn hrk hrv W hW => by
  have hb1 := hI.bel
  have hl := hI.lt
  have hBw : B ≤ wr.heap.size := Nat.le_trans hB hb1.size
  have h1 := r50apply (c := c) (fun k => (k = w.heap.size + 1 ∨ k = w.heap.size + 1 + 1 ∨ k = wr.heap.size) ∧ k < W.heap.size) W hx (hv.below (hb1.trans (hW.mono hb1.size)) hB) (hI.st.to (.of hW) fun i hi e => by omega) (fun k hk => hk.2) (hrv.below hW hBw) (Nat.le_trans hBw hW.size) hrk (by rw [(stOk_ls hok).1]; omega) hm hn
  have e1 : applyR L Sk r = applyS L Sk r := by unfold applyR; rw [if_pos hok]
  rw [e1] at h1
  exact h1.mono fun e w' hh => ⟨hh.1, hh.2, hW.trans (hh.2.mono hW.size)⟩
 have HBW := Lib.hid hB
 have HST := Lib.hid h
 have HRS := Lib.hid hrs
 have HRO := Lib.hid hro
 have HAR : Hid (allR L S rs = if stOk L S = true then allF L S rs else (St.zero, 1)) := rfl
 have HAF : Hid (∀ j, stOk L S = true → (allF L S (rs.take j)).2 = 0 → stOk L (allF L S (rs.take j)).1 = true ∧ (allF L S (rs.take j)).1.ms.length ≤ 9000 ∧ (allF L S (rs.take j)).1.nt.length ≤ 100000) := fun j hok he => by
  obtain ⟨g1, g2, g3⟩ := allF_ok _ _ hok he
  have : (rs.take j).length ≤ 10 := by rw [List.length_take]; omega
  exact ⟨g1, by omega, by omega⟩
 obtain ⟨ok, hok⟩ : ∃ q, stOk L S = q := ⟨_, rfl⟩
 rw [hok] at HVA HAR HAF
 unfold layAgg
 clear hx hv h h0 hrs hro hG hw16 hok
 go_enter Tryz.func25, Tryz.ntmps25
 go_upto_region 1 with (fail)
 obtain ⟨w1, hw1', ha, hb, hd, hbl, hz⟩ := three_laid w (.cells #[.int .i64 L.disks, .slice A L.n c, .int .i64 L.tiles, .int .i64 L.spare] 36) (.cells #[.slice A1 S.ls.length c1, .slice A2 S.ms.length c2, .slice A3 S.nt.length c3] 45) (.cells #[.slice none 0 0, .slice none 0 0, .slice none 0 0] 45)
 rw [hw1']
 have HI0 : Hid (ArI w w1 L A c _ (.slice none 0 0) #[.slice A1 S.ls.length c1, .slice A2 S.ms.length c2, .slice A3 S.nt.length c3] S [] []) := ⟨ha, hb, hd, rfl, (HST.out.below hbl HBW.out).stk (Nat.le_trans HBW.out hbl.size) (fun k _ hk => by have := HBW.out; omega), OwS.nil _ _ _ _, srt_nil, hbl⟩
 obtain ⟨l0, l1, l2, l3⟩ := LayB.cells (L := L) ha
 have s0 : w1.cell? ⟨w.heap.size + 1, 0, none⟩ = some (.slice A1 S.ls.length c1) := by rw [cell_of_row _ _ _ _ _ _ hb]; rfl
 have s1 : w1.cell? ⟨w.heap.size + 1, 1, none⟩ = some (.slice A2 S.ms.length c2) := by rw [cell_of_row _ _ _ _ _ _ hb]; rfl
 have s2 : w1.cell? ⟨w.heap.size + 1, 2, none⟩ = some (.slice A3 S.nt.length c3) := by rw [cell_of_row _ _ _ _ _ _ hb]; rfl
 clear ha hb hd hbl hz hw1'
 go_wp2_with fail
 refine (HVA.out w1 HI0.out.bel).mono ?_
 rintro e w2 ⟨rfl, hb2⟩
 have HI2 := Lib.hid (HI0.out.call hb2)
 have HIL2 := Lib.hid HI2.out.lt
 clear hb2 HI0 l0 l1 l2 l3 s0 s1 s2 HVA
 cases ok with
 | false =>
  have HRF : Hid (allR L S rs = (St.zero, 1)) := by rw [Hid, HAR.out]; rfl
  obtain ⟨z0, z1, z2⟩ := zero3 HI2.out.res
  have f0 := frozen_blk HI2.out.res 0
  have f1 := frozen_blk HI2.out.res 1
  have f2 := frozen_blk HI2.out.res 2
  have HBF : Hid (Below w.heap.size w (((w2.setCell ⟨w.heap.size + 1 + 1, 0, none⟩ (.slice none 0 0)).setCell ⟨w.heap.size + 1 + 1, 1, none⟩ (.slice none 0 0)).setCell ⟨w.heap.size + 1 + 1, 2, none⟩ (.slice none 0 0))) := ((HI2.out.bel.setCell (by simp; omega) _).setCell (by simp; omega) _).setCell (by simp; omega) _
  go_wp2
  (try simp only [Exit.inBlock, Exit.then])
  refine bodyPost_ret (v := .tuple #[.agg #[.slice none 0 0, .slice none 0 0, .slice none 0 0], .slice none 0 0, .int .i64 1]) ?_ rfl ⟨AllP.bad HRF.out (by decide), HBF.out⟩
  rw [results_cell_tmp2 rfl]
  go_simp
 | true =>
  have HRT : Hid (allR L S rs = allF L S rs) := by rw [Hid, HAR.out]; rfl
  have HAG := Lib.hid (fun j => HAF.out j rfl)
  clear HAR HAF
  go_wp2
  go_loopw [9, 10] (fun s9 s10 wr => ∃ k : Nat, k ≤ rs.length ∧ s10 = .int .i64 k ∧ (allF L S (rs.take k)).2 = 0 ∧ ∃ sc out, ArI w wr L A c (.agg sc) s9 sc (allF L S (rs.take k)).1 (allW (rs.take k)) out) (fun _ s10 _ => rs.length - (intOf s10).toNat)
  case atStart => exact ⟨0, by omega, rfl, rfl, _, _, HI2.out⟩
  case round =>
   obtain ⟨k, hk, rfl, he0, sc, out, hI⟩ := hrel
   obtain ⟨hok, hmsn, hntn⟩ := HAG.out k he0
   have HE0 := Lib.hid he0
   have HOK := Lib.hid hok
   obtain ⟨A6, c6, A7, c7, A8, c8, hsc, -⟩ := hI.st.now.form
   obtain rfl : sc = #[.slice A6 (allF L S (rs.take k)).1.ls.length c6, .slice A7 (allF L S (rs.take k)).1.ms.length c7, .slice A8 (allF L S (rs.take k)).1.nt.length c8] := by injection hsc
   obtain ⟨Ao, co, rfl, -, -⟩ := hI.own.form
   rw [List.length_map] at hI ⊢
   have HI := Lib.hid hI
   have HIL := Lib.hid hI.lt
   clear he0 hok hI HI2 hsc HIL2
   by_cases hkn : k < rs.length
   case neg =>
    have hkI : ¬ (k : Int) < (rs.length : Int) := by omega
    obtain rfl : k = rs.length := by omega
    have HRE : Hid (allR L S rs = ((allF L S (rs.take rs.length)).1, 0)) := by
     have h0 := HE0.out
     rw [Hid, HRT.out]
     rw [List.take_of_length_le (Nat.le_refl _)] at h0 ⊢
     exact Prod.ext rfl h0
    have HWR : Hid (allW (rs.take rs.length) = allW rs) := by rw [Hid, List.take_of_length_le (Nat.le_refl _)]
    generalize (allF L S (rs.take rs.length)).1 = Sf at *
    generalize allW (rs.take rs.length) = wf at *
    clear hkn
    have s0 : wr.cell? ⟨w.heap.size + 1, 0, none⟩ = some (.slice A6 Sf.ls.length c6) := by rw [cell_of_row _ _ _ _ _ _ HI.out.box]; rfl
    have s1 : wr.cell? ⟨w.heap.size + 1, 1, none⟩ = some (.slice A7 Sf.ms.length c7) := by rw [cell_of_row _ _ _ _ _ _ HI.out.box]; rfl
    have s2 : wr.cell? ⟨w.heap.size + 1, 2, none⟩ = some (.slice A8 Sf.nt.length c8) := by rw [cell_of_row _ _ _ _ _ _ HI.out.box]; rfl
    obtain ⟨z0, z1, z2⟩ := zero3 HI.out.res
    have f0 := frozen_blk HI.out.res 0
    have f1 := frozen_blk HI.out.res 1
    have f2 := frozen_blk HI.out.res 2
    have HFN := Lib.hid (HI.out.fin rfl rfl rfl)
    have HSR := Lib.hid HI.out.srt
    clear HI HIL
    go_wp2
    (try simp only [Exit.inBlock, Exit.then])
    refine bodyPost_ret (v := .tuple #[.agg #[.slice A6 Sf.ls.length c6, .slice A7 Sf.ms.length c7, .slice A8 Sf.nt.length c8], .slice Ao out.length co, .int .i64 0]) ?_ rfl ⟨⟨_, Ao, out, co, by rw [HRE.out], by rw [HRE.out]; exact HFN.out.2.1.ste (Nat.le_refl _), RdS.stb HFN.out.2.2 (fun _ _ e => e.elim), fun _ => by rw [← HWR.out]; exact HSR.out, fun e => absurd (by rw [HRE.out]) e⟩, HFN.out.1⟩
    rw [results_cell_tmp2 rfl]
    go_simp
   case pos =>
    have hkI : (k : Int) < (rs.length : Int) := by omega
    have hk0 : ¬ (k : Int) < 0 := by omega
    obtain ⟨r, hrk⟩ : ∃ r, rs[k]? = some r := ⟨_, List.getElem?_eq_getElem hkn⟩
    have hrok := HRO.out r (List.mem_of_getElem? hrk)
    have HSN := Lib.hid (allF_snoc (L := L) (S := S) hrk HE0.out)
    have HWS := Lib.hid (allW_succ hrk)
    have HRCF := Lib.hid (fun h => allF_rcd (L := L) (rs.take (k + 1)) S h)
    obtain ⟨b, off, Aw, cw, Am, cm, An, cn, rfl, hbB, hcl⟩ := RcsS.at2 HRS.out hrk HBW.out
    have HCL := Lib.hid hcl
    obtain ⟨x0, x1, x2, x3, x4, -⟩ := hcl wr HI.out.bel
    have HROK := Lib.hid hrok
    generalize (allF L S (rs.take k)).1 = Sk at *
    generalize allW (rs.take k) = wk at *
    obtain ⟨gen, seq, ws, ms, nt⟩ := r
    simp only at x0 x1 x2 x3 x4 HCL HROK HWS
    have HCA := Lib.hid (HAPX.out wr _ _ _ Sk wk out (.agg #[.int .u64 gen, .int .u64 seq, .slice Aw ws.length cw, .slice Am ms.length cm, .slice An nt.length cn]) ⟨gen, seq, ws, ms, nt⟩ HI.out HOK.out hmsn hntn HROK.out (HCL.out wr HI.out.bel).2.2.2.2.2.1)
    obtain ⟨Sn, er, hap⟩ : ∃ Sn er, applyS L Sk ⟨gen, seq, ws, ms, nt⟩ = (Sn, er) := ⟨_, _, rfl⟩
    rw [hap] at HSN HCA
    simp only at HSN HCA
    clear hrok hcl hap hrk
    have HKS : Hid (∀ W, Below wr.heap.size wr W → (W.cell? ⟨w.heap.size, 0, none⟩ = some (.int .i64 (L.disks : Int)) ∧ W.cell? ⟨w.heap.size, 1, none⟩ = some (.slice A L.n c) ∧ W.cell? ⟨w.heap.size, 2, none⟩ = some (.int .i64 (L.tiles : Int)) ∧ W.cell? ⟨w.heap.size, 3, none⟩ = some (.int .i64 (L.spare : Int)) ∧ W.cell? ⟨w.heap.size + 1, 0, none⟩ = some (.slice A6 Sk.ls.length c6) ∧ W.cell? ⟨w.heap.size + 1, 1, none⟩ = some (.slice A7 Sk.ms.length c7) ∧ W.cell? ⟨w.heap.size + 1, 2, none⟩ = some (.slice A8 Sk.nt.length c8) ∧ W.cell? ⟨b, off + k * 5, none⟩ = some (.int .u64 gen) ∧ W.cell? ⟨b, off + k * 5 + 1, none⟩ = some (.int .u64 seq) ∧ W.cell? ⟨b, off + k * 5 + 2, none⟩ = some (.slice Aw ws.length cw) ∧ W.cell? ⟨b, off + k * 5 + 3, none⟩ = some (.slice Am ms.length cm) ∧ W.cell? ⟨b, off + k * 5 + 4, none⟩ = some (.slice An nt.length cn))) := fun W hW => by
     have hI2 := HI.out.call hW
     obtain ⟨l0, l1, l2, l3⟩ := hI2.lay.cells
     obtain ⟨y0, y1, y2, y3, y4, -⟩ := HCL.out W hI2.bel
     exact ⟨l0, l1, l2, l3, by rw [cell_of_row _ _ _ _ _ _ hI2.box]; rfl, by rw [cell_of_row _ _ _ _ _ _ hI2.box]; rfl, by rw [cell_of_row _ _ _ _ _ _ hI2.box]; rfl, y0, y1, y2, y3, y4⟩
    clear x0 x1 x2 x3 x4
    go_upto_region 7 with (fail)
    go_cut [11, 12] (fun s11 s12 wx => ArP w wr Sn er s11 s12 wx)
    case first =>
     clear HSN HWS HRCF HCL HAG HRS HRO HOK HE0
     go_region_held3 (fun W => W.cell? ⟨w.heap.size, 0, none⟩ = some (.int .i64 (L.disks : Int)) ∧ W.cell? ⟨w.heap.size, 1, none⟩ = some (.slice A L.n c) ∧ W.cell? ⟨w.heap.size, 2, none⟩ = some (.int .i64 (L.tiles : Int)) ∧ W.cell? ⟨w.heap.size, 3, none⟩ = some (.int .i64 (L.spare : Int)) ∧ W.cell? ⟨w.heap.size + 1, 0, none⟩ = some (.slice A6 Sk.ls.length c6) ∧ W.cell? ⟨w.heap.size + 1, 1, none⟩ = some (.slice A7 Sk.ms.length c7) ∧ W.cell? ⟨w.heap.size + 1, 2, none⟩ = some (.slice A8 Sk.nt.length c8) ∧ W.cell? ⟨b, off + k * 5, none⟩ = some (.int .u64 gen) ∧ W.cell? ⟨b, off + k * 5 + 1, none⟩ = some (.int .u64 seq) ∧ W.cell? ⟨b, off + k * 5 + 2, none⟩ = some (.slice Aw ws.length cw) ∧ W.cell? ⟨b, off + k * 5 + 3, none⟩ = some (.slice Am ms.length cm) ∧ W.cell? ⟨b, off + k * 5 + 4, none⟩ = some (.slice An nt.length cn))
      (first | with_reducible exact HKS.out _ (Below.refl wr.heap.size wr) | with_reducible exact HKS.out _ (Below.refl wr.heap.size wr).drew | with_reducible exact HKS.out _ ((Below.refl wr.heap.size wr).alloc (Nat.le_refl _) _) | with_reducible exact HKS.out _ ((Below.refl wr.heap.size wr).alloc (Nat.le_refl _) _).drew | with_reducible exact HKS.out _ hbB | with_reducible exact HKS.out _ (hbB.alloc hbB.size _) | with_reducible exact HKS.out _ (((hbB.setCell (Nat.le_refl _) _).setCell (Nat.le_refl _) _).setCell (Nat.le_refl _) _) | with_reducible exact HKS.out _ ((((hbB.alloc hbB.size _).setCell hbB.size _).setCell hbB.size _).setCell hbB.size _) | (trace_state; fail))
      (first
       | (go_at_call 18; first
        | ((with_reducible refine (HCA.out _ (Below.refl wr.heap.size wr).drew).mono ?_); rintro e wB ⟨⟨vB, rfl, hsB⟩, hbQ, hbB⟩; obtain ⟨D1, d1, D2, d2, D3, d3, rfl, -⟩ := hsB.now.form)
        | ((with_reducible refine (HCA.out _ ((Below.refl wr.heap.size wr).alloc (Nat.le_refl _) _).drew).mono ?_); rintro e wB ⟨⟨vB, rfl, hsB⟩, hbQ, hbB⟩; obtain ⟨D1, d1, D2, d2, D3, d3, rfl, -⟩ := hsB.now.form; have hz : wB.heap[wr.heap.size]? = some (.cells #[.slice none 0 0, .slice none 0 0, .slice none 0 0] 45 (0, 0)) := (hbQ.block _ (by simp)).trans (heap_alloc_new wr _); obtain ⟨z0, z1, z2⟩ := zero3 hz; have f0 := frozen_blk hz 0; have f1 := frozen_blk hz 1; have f2 := frozen_blk hz 2)
        | (trace_state; fail))
       | fail)
     all_goals
      have hlt := HIL.out
      go_wp2_with fail
      go_meet
      ·refine ⟨_, D1, d1, D2, d2, D3, d3, rfl, rfl, ?_, ?_, ?_, ?_⟩
       ·first
         | exact Nat.le_refl _
         | exact hbB.size
       ·first
         | exact heap_setCell_same _ _ 2 _ _ _ (heap_setCell_same _ _ 1 _ _ _ (heap_setCell_same _ _ 0 _ _ _ hz))
         | exact heap_alloc_new wB _
       ·first
         | exact (hsB.step (agr_three ⟨.inr (.inr rfl), by simp⟩ _ _ _)).less fun i _ e => ⟨by omega, by simp; omega⟩
         | exact (hsB.call below_laid).less fun i _ e => ⟨by omega, by simp; omega⟩
       ·first
         | with_reducible exact hbB.alloc hbB.size _
         | with_reducible exact ((hbB.setCell (Nat.le_refl _) _).setCell (Nat.le_refl _) _).setCell (Nat.le_refl _) _
    obtain ⟨D, D1, d1, D2, d2, D3, d3, rfl, rfl, hDl, hDr, hDs, hDb⟩ := hcut
    have HI2 := Lib.hid (HI.out.call hDb)
    have HDS := Lib.hid hDs
    have HDL := Lib.hid (show D < wc.heap.size from (Array.getElem?_eq_some_iff.1 hDr).1)
    have dd0 : wc.cell? ⟨D, 0, none⟩ = some (.slice D1 Sn.ls.length d1) := by rw [cell_of_row _ _ _ _ _ _ hDr]; rfl
    have dd1 : wc.cell? ⟨D, 1, none⟩ = some (.slice D2 Sn.ms.length d2) := by rw [cell_of_row _ _ _ _ _ _ hDr]; rfl
    have dd2 : wc.cell? ⟨D, 2, none⟩ = some (.slice D3 Sn.nt.length d3) := by rw [cell_of_row _ _ _ _ _ _ hDr]; rfl
    clear hDl hDr hDs hDb HKS HCA HI HIL
    generalize wc = w7 at *
    by_cases her : er = 0
    ·subst her
     have HT : Hid (allF L S (rs.take (k + 1)) = (Sn, 0)) := by rw [Hid, HSN.out]; simp
     have s0 : w7.cell? ⟨w.heap.size + 1, 0, none⟩ = some (.slice A6 Sk.ls.length c6) := by rw [cell_of_row _ _ _ _ _ _ HI2.out.box]; rfl
     have s1 : w7.cell? ⟨w.heap.size + 1, 1, none⟩ = some (.slice A7 Sk.ms.length c7) := by rw [cell_of_row _ _ _ _ _ _ HI2.out.box]; rfl
     have s2 : w7.cell? ⟨w.heap.size + 1, 2, none⟩ = some (.slice A8 Sk.nt.length c8) := by rw [cell_of_row _ _ _ _ _ _ HI2.out.box]; rfl
     have f0 := frozen_blk HI2.out.box 0
     have f1 := frozen_blk HI2.out.box 1
     have f2 := frozen_blk HI2.out.box 2
     have HNX := Lib.hid (HI2.out.next (Below.refl _ _) HDS.out rfl)
     go_upto_region 11 with (fail)
     generalize ((w7.setCell _ _).setCell _ _).setCell _ _ = w8 at *
     clear f0 f1 f2 s0 s1 s2 dd0 dd1 dd2 HDS HDL HI2 hmsn hntn
     have hwn : ws.length ≤ 1000000 := HROK.out.nw
     go_wp2
     go_loopw [9, 13] (fun s9 s13 wr => ∃ j : Nat, j ≤ ws.length ∧ s13 = .int .i64 j ∧ ∃ out1, ArI w wr L A c (.agg #[.slice D1 Sn.ls.length d1, .slice D2 Sn.ms.length d2, .slice D3 Sn.nt.length d3]) s9 #[.slice D1 Sn.ls.length d1, .slice D2 Sn.ms.length d2, .slice D3 Sn.nt.length d3] Sn (wk ++ ws.take j) out1) (fun _ s13 _ => ws.length - (intOf s13).toNat)
     case atStart => exact ⟨0, by omega, rfl, _, by simpa using HNX.out⟩
     case round =>
      obtain ⟨j, hj, rfl, out1, hI⟩ := hrel
      obtain ⟨A9, c9, rfl, -, -⟩ := hI.own.form
      rw [List.length_map] at hI ⊢
      have HJ := Lib.hid hI
      have HJL := Lib.hid hI.lt
      obtain ⟨x0, x1, x2, x3, x4, -, hpw⟩ := HCL.out wr hI.bel
      have hlo : out1.length ≤ 100000 := by
       have h1 := allWs_len (HRCF.out (by rw [HT.out]))
       rw [HWS.out, List.length_append] at h1
       have h2 : (rs.take (k + 1)).length ≤ 10 := by rw [List.length_take]; omega
       have h3 : out1.length ≤ (wk ++ ws.take j).length := srtW_len hI.srt
       rw [List.length_append, List.length_take] at h3
       omega
      clear hI HNX
      by_cases hjn : j < ws.length
      case neg =>
       have hjI : ¬ (j : Int) < (ws.length : Int) := by omega
       obtain rfl : j = ws.length := by omega
       have HE : Hid (ArI w wr L A c (.agg #[.slice D1 Sn.ls.length d1, .slice D2 Sn.ms.length d2, .slice D3 Sn.nt.length d3]) (.slice A9 out1.length c9) #[.slice D1 Sn.ls.length d1, .slice D2 Sn.ms.length d2, .slice D3 Sn.nt.length d3] Sn (allW (rs.take (k + 1))) out1) := by
        have h0 := HJ.out
        rw [List.take_of_length_le (Nat.le_refl _)] at h0
        rw [HWS.out]
        exact h0
       clear hjn hpw
       go_wp2
       go_roundw
       case rel => exact ⟨k + 1, by omega, by go_num, by rw [HT.out], _, _, by rw [HT.out]; exact HE.out⟩
       case measure => simp [intOf] <;> omega
      case pos =>
       have hjI : (j : Int) < (ws.length : Int) := by omega
       have hj0 : ¬ (j : Int) < 0 := by omega
       obtain ⟨x, hxk⟩ : ∃ x, ws[j]? = some x := ⟨_, List.getElem?_eq_getElem hjn⟩
       obtain ⟨bx, ox, rfl, hbx, hcx⟩ := PwS.at_ hpw hxk
       have HTK : Hid ((wk ++ ws.take j) ++ [x] = wk ++ ws.take (j + 1)) := by rw [Hid, List.take_add_one, hxk, List.append_assoc]; rfl
       have HPT := Lib.hid (r50put (Am := A9) (cm := c9) x wr HJ.out.own.reads (Nat.le_refl _) hlo)
       unfold Pw.agg at HPT
       have HSR := Lib.hid (putW_srt (x := x) HJ.out.srt)
       rw [HTK.out] at HSR
       obtain ⟨xg, xp, xv, ⟨b0, b1, b2, b3, b4, b5, b6, b7⟩⟩ := x
       have y0 := hcx 0 _ rfl
       have y1 := hcx 1 _ rfl
       have y2 := hcx 2 _ rfl
       have y3 := hcx 3 _ rfl
       have y4 := hcx 4 _ rfl
       have y5 := hcx 5 _ rfl
       have y6 := hcx 6 _ rfl
       have y7 := hcx 7 _ rfl
       have y8 := hcx 8 _ rfl
       have y9 := hcx 9 _ rfl
       have y10 := hcx 10 _ rfl
       simp only [Nat.add_zero] at y0
       clear hpw hcx hxk hbx
       go_wp2_with fail
       refine HPT.out.mono ?_
       rintro e w9 ⟨⟨v9, rfl, ho9⟩, hb9⟩
       have HE := Lib.hid (HJ.out.put hb9 ho9 HSR.out)
       clear ho9 hb9 HPT HJ HJL x0 x1 x2 x3 x4 y0 y1 y2 y3 y4 y5 y6 y7 y8 y9 y10
       go_wp2
       go_roundw
       case rel => exact ⟨j + 1, by omega, by go_num, _, HE.out⟩
       case measure => simp [intOf] <;> omega
    ·have g1 : (er != 0) = true := by simpa using her
     have g2 : (er == 0) = false := by simpa using her
     have HER : Hid (er ≠ 0) := her
     have HE : Hid (allR L S rs = (St.zero, er)) := by
      have h1 : (allF L S (rs.take (k + 1))).2 = er := by rw [HSN.out, if_neg her]
      have h2 := allF_stop (L := L) (S := S) (xs := rs) (k := k + 1) (by rw [h1]; exact her)
      rw [Hid, HRT.out, h2, h1]
     obtain ⟨z0, z1, z2⟩ := zero3 HI2.out.res
     have e0 := frozen_blk HI2.out.res 0
     have e1 := frozen_blk HI2.out.res 1
     have e2 := frozen_blk HI2.out.res 2
     have HBF : Hid (Below w.heap.size w (((w7.setCell ⟨w.heap.size + 1 + 1, 0, none⟩ (.slice none 0 0)).setCell ⟨w.heap.size + 1 + 1, 1, none⟩ (.slice none 0 0)).setCell ⟨w.heap.size + 1 + 1, 2, none⟩ (.slice none 0 0))) := ((HI2.out.bel.setCell (by simp; omega) _).setCell (by simp; omega) _).setCell (by simp; omega) _
     clear her HSN HI2 HDS dd0 dd1 dd2
     go_wp2
     (try simp only [Exit.inBlock, Exit.then])
     refine bodyPost_ret (v := .tuple #[.agg #[.slice none 0 0, .slice none 0 0, .slice none 0 0], .slice none 0 0, .int .i64 er]) ?_ rfl ⟨AllP.bad HE.out HER.out, HBF.out⟩
     rw [results_cell_tmp2 rfl]
     go_simp
end Go.Proofs.YtjgjofepedcfnaaGreat
namespace Go.Proofs.YtjgjofepedcfnaaGreat
open Go.RowKit
def sameLf (a b : Leaf) : Bool := decide (a.vs = b.vs) && decide (a.ss = b.ss)
theorem sameLf_vs {a b : Leaf} (h : a.vs ≠ b.vs) : sameLf a b = false := by simp [sameLf, h]
theorem sameLf_ss {a b : Leaf} (h : a.ss ≠ b.ss) : sameLf a b = false := by simp [sameLf, h]
theorem sameLf_eq {a b : Leaf} (h : a.vs = b.vs) (h2 : a.ss = b.ss) : sameLf a b = true := by simp [sameLf, h, h2]
theorem sameLf_iff {a b : Leaf} : sameLf a b = true ↔ a = b := by
 cases a
 cases b
 simp [sameLf]
structure SlI (w wr : World) (L1 L2 : Array Value) : Prop where
 p : wr.heap[w.heap.size]? = some (.cells L1 80 (0, 0))
 q : wr.heap[w.heap.size + 1]? = some (.cells L2 80 (0, 0))
 bel : Below w.heap.size w wr
theorem SlI.cells {w wr : World} {x y z u : Value} (h : SlI w wr #[x, y] #[z, u]) : wr.cell? ⟨w.heap.size, 0, none⟩ = some x ∧ wr.cell? ⟨w.heap.size, 1, none⟩ = some y ∧ wr.cell? ⟨w.heap.size + 1, 0, none⟩ = some z ∧ wr.cell? ⟨w.heap.size + 1, 1, none⟩ = some u :=
 ⟨by rw [cell_of_row _ _ _ _ _ _ h.p]; rfl, by rw [cell_of_row _ _ _ _ _ _ h.p]; rfl, by rw [cell_of_row _ _ _ _ _ _ h.q]; rfl, by rw [cell_of_row _ _ _ _ _ _ h.q]; rfl⟩
theorem SlI.drewN {w wr : World} {L1 L2 : Array Value} (h : SlI w wr L1 L2) (n : Nat) : SlI w (wr.drewN n) L1 L2 := by
 have hb : Below wr.heap.size wr (wr.drewN n) := below_drewN (Below.refl _ _) _
 have h1 := (Array.getElem?_eq_some_iff.1 h.p).1
 have h2 := (Array.getElem?_eq_some_iff.1 h.q).1
 exact ⟨(hb.block _ h1).trans h.p, (hb.block _ h2).trans h.q, below_drewN h.bel n⟩
set_option maxHeartbeats 4000000 in
set_option maxRecDepth 100000 in
theorem r50sameLeaf {B : Nat} {va vb : Value} {a b : Leaf} (w : World) (ha : LfV w B va a) (hb : LfV w B vb b) (hB : B ≤ w.heap.size) (n1 : a.vs.length ≤ 1000000) (n2 : a.ss.length ≤ 1000000) (_n3 : b.vs.length ≤ 1000000) (_n4 : b.ss.length ≤ 1000000) :
  Calls Tryz.prog 85 #[va, vb] w fun r w' => r = .returned (.bool (sameLf a b)) ∧ Below w.heap.size w w' := by
 obtain ⟨A1, c1, A2, c2, rfl, ha0, ha1, -⟩ := ha
 obtain ⟨C1, e1, C2, e2, rfl, hb0, hb1, -⟩ := hb
 have HA0 := Lib.hid ha0
 have HA1 := Lib.hid ha1
 have HB0 := Lib.hid hb0
 have HB1 := Lib.hid hb1
 clear ha0 ha1 hb0 hb1
 by_cases hv : a.vs.length = b.vs.length
 ·by_cases hs : a.ss.length = b.ss.length
  ·have HVSL := Lib.hid hv
   have HSSL := Lib.hid hs
   rw [← hv, ← hs]
   have hvI : ((a.vs.length : Int) != (a.vs.length : Int)) = false := by simp
   have hsI : ((a.ss.length : Int) != (a.ss.length : Int)) = false := by simp
   clear hv hs
   go_enter Tryz.func85, Tryz.ntmps85
   go_upto_region 1 with (fail)
   obtain ⟨w1, hw1', hp, hq, hbl, hz⟩ := two_laid w (.cells #[.slice A1 a.vs.length c1, .slice A2 a.ss.length c2] 80) (.cells #[.slice C1 a.vs.length e1, .slice C2 a.ss.length e2] 80)
   rw [hw1']
   obtain ⟨L1, hL1⟩ : ∃ L1, (#[.slice A1 a.vs.length c1, .slice A2 a.ss.length c2] : Array Value) = L1 := ⟨_, rfl⟩
   obtain ⟨L2, hL2⟩ : ∃ L2, (#[.slice C1 a.vs.length e1, .slice C2 a.ss.length e2] : Array Value) = L2 := ⟨_, rfl⟩
   have HI1 : Hid (SlI w w1 #[.slice A1 a.vs.length c1, .slice A2 a.ss.length c2] #[.slice C1 a.vs.length e1, .slice C2 a.ss.length e2]) := ⟨hp, hq, hbl⟩
   clear hL1 hL2 L1 L2
   obtain ⟨l0, l1, m0, m1⟩ := HI1.out.cells
   clear hp hq hbl hz hw1'
   go_wp2
   clear l0 l1 m0 m1
   go_loopw [5] (fun s5 wr => ∃ k : Nat, k ≤ a.vs.length ∧ s5 = .int .i64 k ∧ (∀ j : Nat, j < k → a.vs[j]? = b.vs[j]?) ∧ SlI w wr #[.slice A1 a.vs.length c1, .slice A2 a.ss.length c2] #[.slice C1 a.vs.length e1, .slice C2 a.ss.length e2]) (fun s5 _ => a.vs.length - (intOf s5).toNat)
   case atStart => exact ⟨0, by omega, rfl, fun j hj => absurd hj (by omega), HI1.out⟩
   case round =>
    obtain ⟨k, hk, rfl, heq, hI⟩ := hrel
    have HEQ := Lib.hid heq
    have HI := Lib.hid hI
    obtain ⟨l0, l1, m0, m1⟩ := hI.cells
    clear heq
    by_cases hka : k < a.vs.length
    ·have hkI : (k : Int) < (a.vs.length : Int) := by omega
     have hk0 : ¬ (k : Int) < 0 := by omega
     obtain ⟨x, hx⟩ := at_some hka
     obtain ⟨y, hy⟩ := at_some (l := b.vs) (i := k) (by have := HVSL.out; omega)
     obtain ⟨b1, o1, rfl, -, x0⟩ := U64S.at_ (RdS.below' HA0.out hI.bel hB) hx
     obtain ⟨b2, o2, rfl, -, y0⟩ := U64S.at_ (RdS.below' HB0.out hI.bel hB) hy
     have HNE : Hid (x ≠ y → sameLf a b = false) := fun h => by
      refine sameLf_vs fun e => h ?_
      rw [e, hy] at hx
      exact (Option.some.inj hx).symm
     have HNX : Hid (x = y → ∀ j : Nat, j < k + 1 → a.vs[j]? = b.vs[j]?) := fun h j hj => by
      rcases Nat.lt_or_eq_of_le (Nat.le_of_lt_succ hj) with hj | rfl
      ·exact HEQ.out j hj
      ·rw [hx, hy, h]
     clear hx hy hI
     by_cases e1 : x = y
     ·have HR := Lib.hid (HNX.out e1)
      subst e1
      go_wp2_with fail
      go_quiet (fail)
      go_wp2
      go_roundw
      case rel => exact ⟨k + 1, by omega, by go_num, HR.out, HI.out.drewN _⟩
      case measure => simp [intOf] <;> omega
     ·have HR := Lib.hid (HNE.out e1)
      have f3 : ((x : Int) != (y : Int)) = true := by simp; omega
      have f4 : ((x : Int) == (y : Int)) = false := by simp; omega
      clear e1
      go_wp2_with fail
      go_quiet (fail)
      go_wp2
      go_ret
      exact ⟨ret_bool (by rw [HR.out]), below_drewN HI.out.bel _⟩
    ·have hkI : ¬ (k : Int) < (a.vs.length : Int) := by omega
     have HVSE : Hid (a.vs = b.vs) := by
      apply List.ext_getElem?
      intro j
      by_cases hj : j < k
      ·exact HEQ.out j hj
      ·rw [List.getElem?_eq_none (by omega), List.getElem?_eq_none (by have := HVSL.out; omega)]
     clear hI
     have HI9 := Lib.hid HI.out
     clear HI HEQ
     go_wp2
     clear l0 l1 m0 m1
     go_loopw [6] (fun s6 wr => ∃ k : Nat, k ≤ a.ss.length ∧ s6 = .int .i64 k ∧ (∀ j : Nat, j < k → a.ss[j]? = b.ss[j]?) ∧ SlI w wr #[.slice A1 a.vs.length c1, .slice A2 a.ss.length c2] #[.slice C1 a.vs.length e1, .slice C2 a.ss.length e2]) (fun s6 _ => a.ss.length - (intOf s6).toNat)
     case atStart => exact ⟨0, by omega, rfl, fun j hj => absurd hj (by omega), HI9.out⟩
     case round =>
      obtain ⟨k, hk, rfl, heq, hI⟩ := hrel
      have HEQ := Lib.hid heq
      have HI := Lib.hid hI
      obtain ⟨l0, l1, m0, m1⟩ := hI.cells
      clear heq
      by_cases hka : k < a.ss.length
      ·have hkI : (k : Int) < (a.ss.length : Int) := by omega
       have hk0 : ¬ (k : Int) < 0 := by omega
       obtain ⟨x, hx⟩ := at_some hka
       obtain ⟨y, hy⟩ := at_some (l := b.ss) (i := k) (by have := HSSL.out; omega)
       obtain ⟨b1, o1, rfl, -, x0⟩ := U64S.at_ (RdS.below' HA1.out hI.bel hB) hx
       obtain ⟨b2, o2, rfl, -, y0⟩ := U64S.at_ (RdS.below' HB1.out hI.bel hB) hy
       have HNE : Hid (x ≠ y → sameLf a b = false) := fun h => by
        refine sameLf_ss fun e => h ?_
        rw [e, hy] at hx
        exact (Option.some.inj hx).symm
       have HNX : Hid (x = y → ∀ j : Nat, j < k + 1 → a.ss[j]? = b.ss[j]?) := fun h j hj => by
        rcases Nat.lt_or_eq_of_le (Nat.le_of_lt_succ hj) with hj | rfl
        ·exact HEQ.out j hj
        ·rw [hx, hy, h]
       clear hx hy hI
       by_cases e1 : x = y
       ·have HR := Lib.hid (HNX.out e1)
        subst e1
        go_wp2_with fail
        go_quiet (fail)
        go_wp2
        go_roundw
        case rel => exact ⟨k + 1, by omega, by go_num, HR.out, HI.out.drewN _⟩
        case measure => simp [intOf] <;> omega
       ·have HR := Lib.hid (HNE.out e1)
        have f3 : ((x : Int) != (y : Int)) = true := by simp; omega
        have f4 : ((x : Int) == (y : Int)) = false := by simp; omega
        clear e1
        go_wp2_with fail
        go_quiet (fail)
        go_wp2
        go_ret
        exact ⟨ret_bool (by rw [HR.out]), below_drewN HI.out.bel _⟩
      ·have hkI : ¬ (k : Int) < (a.ss.length : Int) := by omega
       have HSSE : Hid (a.ss = b.ss) := by
        apply List.ext_getElem?
        intro j
        by_cases hj : j < k
        ·exact HEQ.out j hj
        ·rw [List.getElem?_eq_none (by omega), List.getElem?_eq_none (by have := HSSL.out; omega)]
       clear hI
       go_wp2
       go_ret
       exact ⟨ret_bool (by rw [sameLf_eq HVSE.out HSSE.out]), HI.out.bel⟩
  ·have hsI : ((a.ss.length : Int) != (b.ss.length : Int)) = true := by simp; omega
   have hsJ : ((a.ss.length : Int) == (b.ss.length : Int)) = false := by simp; omega
   have HR : Hid (sameLf a b = false) := sameLf_ss fun e => hs (by rw [e])
   rw [← hv]
   clear hv hs
   go_enter Tryz.func85, Tryz.ntmps85
   go_wp2
   go_ret
   exact ⟨ret_bool (by rw [HR.out]), (below_laid (w := w)).trans (below_laid.mono (by simp))⟩
 ·have hvI : ((a.vs.length : Int) != (b.vs.length : Int)) = true := by simp; omega
  have hvJ : ((a.vs.length : Int) == (b.vs.length : Int)) = false := by simp; omega
  have HR : Hid (sameLf a b = false) := sameLf_vs fun e => hv (by rw [e])
  clear hv
  go_enter Tryz.func85, Tryz.ntmps85
  go_wp2
  go_ret
  exact ⟨ret_bool (by rw [HR.out]), (below_laid (w := w)).trans (below_laid.mono (by simp))⟩
end Go.Proofs.YtjgjofepedcfnaaGreat
