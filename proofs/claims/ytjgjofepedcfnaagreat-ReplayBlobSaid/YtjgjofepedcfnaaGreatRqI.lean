/- Walk of replay.All. -/
import Derived.Test.YtjgjofepedcfnaaGreatRqH
namespace Go.Proofs.YtjgjofepedcfnaaGreat
open Go.RowKit Go.Maps
set_option maxHeartbeats 4000000 in
set_option maxRecDepth 100000 in
theorem rAll {L : LayD} {A Ar : Option Addr} {B c cr : Nat} {v : Value} {S : St} {rs : List Rcd} (w : World) (hx : LayX L) (hv : GsV w B A L.gs) (h : StV w B v S) (hwf : ∀ m ∈ S.ms, PlWf m.to) (hrs : RcsS w B Ar rs) (hro : ∀ r ∈ rs, RcdOk r) (hB : B ≤ w.heap.size) (hlen : rs.length ≤ 10)
  (n1 : S.ls.length ≤ 100000) (n2 : S.ms.length ≤ 8000) (n3 : S.nt.length ≤ 90000) :
  Calls Tryz.prog 24 #[layAgg L A c, v, .slice Ar rs.length cr] w fun e w' => AllP (fun k => k < w.heap.size) L S rs w' e ∧ Below w.heap.size w w' := by
 have hG := hx.ok.G
 have hw16 := hx.ok.w.2
 obtain ⟨A1, c1, A2, c2, A3, c3, rfl, h0⟩ := h.form
 have HVA : Hid (∀ W, Below w.heap.size w W → Calls Tryz.prog 21 #[.agg #[.int .i64 L.disks, .slice A L.n c, .int .i64 L.tiles, .int .i64 L.spare], .agg #[.slice A1 S.ls.length c1, .slice A2 S.ms.length c2, .slice A3 S.nt.length c3]] W fun e w' => e = .returned (.bool (stOk L S)) ∧ Below W.heap.size W w') := fun W hW => rvalidS W hx (hv.below hW hB) (h0.below hW hB) hwf (Nat.le_trans hB hW.size) n1 (by omega) (by omega)
 have HCPX : Hid (stOk L S = true → ∀ W, Below w.heap.size w W → w.heap.size + 3 ≤ W.heap.size → Calls Tryz.prog 48 #[.agg #[.slice A1 S.ls.length c1, .slice A2 S.ms.length c2, .slice A3 S.nt.length c3]] W fun e w' => (∃ lv mv nv, e = .returned (.agg #[lv, mv, nv]) ∧ StW w' (fun k => k < W.heap.size) lv mv nv S ∧ ∀ k, FS lv nv k → W.heap.size ≤ k) ∧ Below W.heap.size W w') := fun hok W hW hsz => rcopied _ W (h0.below hW hB) (Nat.le_trans hB hW.size) (stOk_few hok hw16 n1 (by omega) (by omega)) (fun k hk => hk)
 have HAPX : Hid (∀ (n0 M k : Nat) (wr : World) (lv mv nv : Value) (Sk : St) (ws : List Pw) (Aw Am An : Option Addr) (cw cm cn : Nat) (r : Rcd), AlI w wr L A c n0 M lv mv nv Sk ws → stOk L Sk = true → Sk.ms.length ≤ 9000 → Sk.nt.length ≤ 900000 → RcdOk r → (∃ W, Below w.heap.size W wr ∧ RcdV W B (.agg #[.int .u64 r.gen, .int .u64 r.seq, .slice Aw r.ws.length cw, .slice Am r.ms.length cm, .slice An r.nt.length cn]) r) →
   Calls Tryz.prog 47 #[.agg #[.int .i64 L.disks, .slice A L.n c, .int .i64 L.tiles, .int .i64 L.spare], .agg #[lv, mv, nv], .agg #[.int .u64 r.gen, .int .u64 r.seq, .slice Aw r.ws.length cw, .slice Am r.ms.length cm, .slice An r.nt.length cn]] wr fun e w' => Agr (FS lv nv) wr w' ∧ AplP (alE n0 M) L Sk r wr lv nv w' e) := fun n0 M k wr lv mv nv Sk ws Aw Am An cw cm cn r hI hok hm hn hrk hrv => by
  obtain ⟨W0, hW0, hrv⟩ := hrv
  have hb1 := hI.bel
  have hl := hI.lt
  have hF : ∀ k, k < wr.heap.size → FS lv nv k → w.heap.size ≤ k := fun k _ hk => by have := hI.fs k hk; have := hI.hn; omega
  have hgs : Stb (FS lv nv) wr fun W => GsV W W.heap.size A L.gs := stb_in hb1.size hF fun V hV => (hv.below (hb1.trans hV) hB).more (Nat.le_trans (Nat.le_trans hB hb1.size) hV.size)
  have hrs' : Stb (FS lv nv) wr fun W => RcdV W W.heap.size (.agg #[.int .u64 r.gen, .int .u64 r.seq, .slice Aw r.ws.length cw, .slice Am r.ms.length cm, .slice An r.nt.length cn]) r := stb_in hb1.size hF fun V hV => (hrv.below (hW0.trans hV) hB).more (Nat.le_trans (Nat.le_trans hB hb1.size) hV.size)
  exact rapply _ wr hx hgs hrs' hI.st (fun k hk => by have := hI.hM; rcases hk with hk | hk <;> omega) hok hrk (by omega) hw16 hm hn
 have HBW := Lib.hid hB
 have HRS : Hid (∀ W, Below w.heap.size w W → RcsS W B Ar rs) := fun W hW => hrs.below hW hB
 have HRO := Lib.hid hro
 have HAR : Hid (allR L S rs = if stOk L S = true then allF L S rs else (St.zero, 1)) := rfl
 have HAF : Hid (∀ j, stOk L S = true → (allF L S (rs.take j)).2 = 0 → stOk L (allF L S (rs.take j)).1 = true ∧ (allF L S (rs.take j)).1.ms.length ≤ 9000 ∧ (allF L S (rs.take j)).1.nt.length ≤ 900000) := fun j hok he => by
  obtain ⟨g1, g2, g3⟩ := allF_ok _ _ hok he
  have : (rs.take j).length ≤ 10 := by rw [List.length_take]; omega
  exact ⟨g1, by omega, by omega⟩
 obtain ⟨ok, hok⟩ : ∃ q, stOk L S = q := ⟨_, rfl⟩
 rw [hok] at HVA HCPX HAR HAF
 unfold layAgg
 clear hx hv h h0 hwf hrs hro hG hw16 hok
 go_enter Tryz.func24, Tryz.ntmps24
 go_upto_region 1 with (fail)
 obtain ⟨w1, hw1', ha, hb, hd, hbl, hz⟩ := three_laid w (.cells #[.int .i64 L.disks, .slice A L.n c, .int .i64 L.tiles, .int .i64 L.spare] 36) (.cells #[.slice A1 S.ls.length c1, .slice A2 S.ms.length c2, .slice A3 S.nt.length c3] 41) (.cells #[.slice none 0 0, .slice none 0 0, .slice none 0 0] 41)
 rw [hw1']
 have HA := Lib.hid ha
 have HS := Lib.hid hb
 have HR := Lib.hid hd
 have HB := Lib.hid hbl
 have hz1 : w.heap.size + 3 ≤ w1.heap.size := Nat.le_of_eq hz.symm
 obtain ⟨l0, l1, l2, l3⟩ := LayB.cells (L := L) ha
 have s0 : w1.cell? ⟨w.heap.size + 1, 0, none⟩ = some (.slice A1 S.ls.length c1) := by rw [cell_of_row _ _ _ _ _ _ hb]; rfl
 have s1 : w1.cell? ⟨w.heap.size + 1, 1, none⟩ = some (.slice A2 S.ms.length c2) := by rw [cell_of_row _ _ _ _ _ _ hb]; rfl
 have s2 : w1.cell? ⟨w.heap.size + 1, 2, none⟩ = some (.slice A3 S.nt.length c3) := by rw [cell_of_row _ _ _ _ _ _ hb]; rfl
 clear ha hb hd hbl hz hw1'
 go_wp2_with fail
 refine (HVA.out w1 HB.out).mono ?_
 rintro e w2 ⟨rfl, hb2⟩
 have HA2 := Lib.hid ((hb2.block _ (by omega)).trans HA.out)
 have HS2 := Lib.hid ((hb2.block _ (by omega)).trans HS.out)
 have HR2 := Lib.hid ((hb2.block _ (by omega)).trans HR.out)
 have HB2 := Lib.hid (HB.out.trans (hb2.mono HB.out.size))
 have hz2 : w.heap.size + 3 ≤ w2.heap.size := Nat.le_trans hz1 hb2.size
 clear hb2 HA HS HR HB hz1 l0 l1 l2 l3 s0 s1 s2 HVA
 cases ok with
 | false =>
  have HRF : Hid (allR L S rs = (St.zero, 1)) := by rw [Hid, HAR.out]; rfl
  obtain ⟨z0, z1, z2⟩ := zero3 HR2.out
  have f0 := frozen_blk HR2.out 0
  have f1 := frozen_blk HR2.out 1
  have f2 := frozen_blk HR2.out 2
  have HBF : Hid (Below w.heap.size w (((w2.setCell ⟨w.heap.size + 1 + 1, 0, none⟩ (.slice none 0 0)).setCell ⟨w.heap.size + 1 + 1, 1, none⟩ (.slice none 0 0)).setCell ⟨w.heap.size + 1 + 1, 2, none⟩ (.slice none 0 0))) := ((HB2.out.setCell (by simp; omega) _).setCell (by simp; omega) _).setCell (by simp; omega) _
  go_wp2
  (try simp only [Exit.inBlock, Exit.then])
  refine bodyPost_ret (v := .tuple #[.agg #[.slice none 0 0, .slice none 0 0, .slice none 0 0], .slice none 0 0, .int .i64 1]) ?_ rfl ⟨AllP.bad HRF.out (by decide), HBF.out⟩
  rw [results_cell_tmp2 rfl]
  go_simp
 | true =>
  have HRT : Hid (allR L S rs = allF L S rs) := by rw [Hid, HAR.out]; rfl
  have s0 : w2.cell? ⟨w.heap.size + 1, 0, none⟩ = some (.slice A1 S.ls.length c1) := by rw [cell_of_row _ _ _ _ _ _ HS2.out]; rfl
  have s1 : w2.cell? ⟨w.heap.size + 1, 1, none⟩ = some (.slice A2 S.ms.length c2) := by rw [cell_of_row _ _ _ _ _ _ HS2.out]; rfl
  have s2 : w2.cell? ⟨w.heap.size + 1, 2, none⟩ = some (.slice A3 S.nt.length c3) := by rw [cell_of_row _ _ _ _ _ _ HS2.out]; rfl
  have f0 := frozen_blk HS2.out 0
  have f1 := frozen_blk HS2.out 1
  have f2 := frozen_blk HS2.out 2
  have HCP := Lib.hid (HCPX.out rfl w2 HB2.out hz2)
  have HAG := Lib.hid (fun j => HAF.out j rfl)
  clear HCPX HAR HAF
  go_wp2_with fail
  refine HCP.out.mono ?_
  rintro e w3 ⟨⟨lv, mv, nv, rfl, hst, hfs⟩, hb3⟩
  have HST := Lib.hid hst
  have HFS := Lib.hid hfs
  have HB3 := Lib.hid hb3
  have hz3 := hb3.size
  have y0 : w3.cell? ⟨w.heap.size + 1, 0, none⟩ = some (.slice A1 S.ls.length c1) := by rw [cell_of_row _ _ _ _ _ _ ((hb3.block _ (by omega)).trans HS2.out)]; rfl
  have y1 : w3.cell? ⟨w.heap.size + 1, 1, none⟩ = some (.slice A2 S.ms.length c2) := by rw [cell_of_row _ _ _ _ _ _ ((hb3.block _ (by omega)).trans HS2.out)]; rfl
  have y2 : w3.cell? ⟨w.heap.size + 1, 2, none⟩ = some (.slice A3 S.nt.length c3) := by rw [cell_of_row _ _ _ _ _ _ ((hb3.block _ (by omega)).trans HS2.out)]; rfl
  have t0 := frozen_blk ((hb3.block _ (by omega)).trans HS2.out) 0
  have t1 := frozen_blk ((hb3.block _ (by omega)).trans HS2.out) 1
  have t2 := frozen_blk ((hb3.block _ (by omega)).trans HS2.out) 2
  obtain ⟨Al, cl, rfl, -⟩ := hst.1.form
  obtain ⟨Av, cv, rfl, -⟩ := hst.2.1
  obtain ⟨Ao, co, rfl, -⟩ := hst.2.2.form
  clear s0 s1 s2 f0 f1 f2 hst hfs hb3 HCP
  go_upto_region 4 with (fail)
  have hI0 := al_start (w4 := _) HA2.out HS2.out HR2.out HB2.out hz2 HB3.out HST.out HFS.out rfl
  generalize ((w3.setCell _ _).setCell _ _).setCell _ _ = w4 at *
  have HI0 := Lib.hid hI0
  clear hI0 HA2 HS2 HR2 HB2 HB3 HST HFS y0 y1 y2 t0 t1 t2
  have hmm : ∀ W : World, (Instr.makeMap 98 none).run Tryz.prog W = .ok (.map (some W.heap.size)) (W.alloc (.map #[] 0)) := fun W => rfl
  have HM4 : Hid (∃ M, w4.heap.size = M) := ⟨_, rfl⟩
  go_wp2
  clear hmm
  generalize w4.heap.size = M at *
  generalize w2.heap.size = n0 at *
  generalize w4.alloc _ = w5 at *
  clear hz3 hz2
  go_loopw [11, 26] (fun s11 s26 wr => ∃ k : Nat, k ≤ rs.length ∧ s26 = .int .i64 k ∧ (allF L S (rs.take k)).2 = 0 ∧ ∃ mv nv, AlI w wr L A c n0 M (.slice Al S.ls.length cl) mv nv (allF L S (rs.take k)).1 (allW (rs.take k))) (fun _ s26 _ => rs.length - (intOf s26).toNat)
  case atStart => exact ⟨0, by omega, rfl, rfl, _, _, HI0.out⟩
  case round =>
   obtain ⟨k, hk, rfl, he0, mv, nv, hI⟩ := hrel
   obtain ⟨hok, hmsn, hntn⟩ := HAG.out k he0
   have HE0 := Lib.hid he0
   have HOK := Lib.hid hok
   have HI := Lib.hid hI
   have HIL := Lib.hid hI.lt
   have hrb := allF_rcd _ _ he0
   have HWL : Hid ((allW (rs.take k)).length ≤ 640) := by
    have h1 := allWs_len hrb
    have h2 : (rs.take k).length ≤ 10 := by rw [List.length_take]; omega
    unfold Hid
    omega
   obtain ⟨A7, c7, rfl, -⟩ := hI.st.2.1
   obtain ⟨A8, c8, rfl, -⟩ := hI.st.2.2.form
   clear he0 hok hI hrb HI0
   by_cases hkn : k < rs.length
   case neg =>
    have hkI : ¬ (k : Int) < (rs.length : Int) := by omega
    obtain rfl : k = rs.length := by omega
    have HRE : Hid (allR L S rs = ((allF L S (rs.take rs.length)).1, 0)) := by
     have h0 := HE0.out
     rw [Hid, HRT.out]
     rw [List.take_of_length_le (Nat.le_refl _)] at h0 ⊢
     exact Prod.ext rfl h0
    have HWR : Hid (allW (rs.take rs.length) = allW rs) := by rw [Hid, List.take_of_length_le (Nat.le_refl _)]
    have HWF : Hid (∀ x ∈ allW (rs.take rs.length), pwWf x) := allW_wf (allF_rcd _ _ HE0.out)
    generalize (allF L S (rs.take rs.length)).1 = Sf at *
    generalize allW (rs.take rs.length) = wf at *
    have HV := Lib.hid (values_any M wr)
    clear hkn
    go_wp2_with fail
    refine HV.out.mono ?_
    rintro e w6 ⟨rfl, hw6⟩
    have hb6 : Below wr.heap.size wr w6 := by rw [hw6]; exact below_laid
    have hn6 : w6.heap[wr.heap.size]? = some (.cells #[.map (some M)] 98 (0, 0)) := by rw [hw6]; exact heap_alloc_new _ _
    have hz6 : wr.heap.size < w6.heap.size := (Array.getElem?_eq_some_iff.1 hn6).1
    have HI6 := Lib.hid (HI.out.call hb6)
    have HSO := Lib.hid (sorted_any wr.heap.size M wf HWF.out (by have := HWL.out; omega) w6 hz6 (by rw [cell_of_row _ _ _ _ _ _ hn6]; rfl) HI6.out.map)
    clear hw6 hb6 hn6 HV
    go_wp2_with fail
    refine HSO.out.mono ?_
    rintro e w7 ⟨vt, ts, rfl, hsr, how, hb7⟩
    have HI7 := Lib.hid (HI6.out.call hb7)
    have HSR := Lib.hid hsr
    obtain ⟨At, ct, rfl, -⟩ := how.form
    rw [List.length_map] at how
    simp only [List.length_map]
    have HOW := Lib.hid how
    obtain ⟨s0, s1, s2, -⟩ := HI7.out.cells
    obtain ⟨z0, z1, z2⟩ := zero3 HI7.out.res
    have f0 := frozen_blk HI7.out.res 0
    have f1 := frozen_blk HI7.out.res 1
    have f2 := frozen_blk HI7.out.res 2
    have HFN := Lib.hid (HI7.out.fin HOW.out (by have := HIL.out; omega) rfl)
    clear hsr how hb7 HSO HI6
    go_wp2
    (try simp only [Exit.inBlock, Exit.then])
    refine bodyPost_ret (v := .tuple #[.agg #[.slice Al S.ls.length cl, .slice A7 Sf.ms.length c7, .slice A8 Sf.nt.length c8], .slice At ts.length ct, .int .i64 0]) ?_ rfl ⟨⟨_, At, ts, ct, by rw [HRE.out], by rw [HRE.out]; exact HFN.out.2.1, HFN.out.2.2, fun _ => by rw [← HWR.out]; exact HSR.out, fun e => absurd (by rw [HRE.out]) e⟩, HFN.out.1⟩
    rw [results_cell_tmp2 rfl]
    go_simp
   case pos =>
    have hkI : (k : Int) < (rs.length : Int) := by omega
    have hk0 : ¬ (k : Int) < 0 := by omega
    obtain ⟨r, hrk⟩ : ∃ r, rs[k]? = some r := ⟨_, List.getElem?_eq_getElem hkn⟩
    have hrok := HRO.out r (List.mem_of_getElem? hrk)
    have HSN := Lib.hid (allF_snoc (L := L) (S := S) hrk HE0.out)
    have HWS := Lib.hid (allW_succ hrk)
    have HRCF := Lib.hid (fun h => allF_rcd (L := L) (rs.take (k + 1)) S h)
    obtain ⟨b, off, Aw, cw, Am, cm, An, cn, rfl, hbB, hcl⟩ := RcsS.at2 (HRS.out w (Below.refl _ _)) hrk HBW.out
    have HCL := Lib.hid hcl
    obtain ⟨x0, x1, x2, x3, x4, -⟩ := hcl wr HI.out.bel
    have HROK := Lib.hid hrok
    generalize (allF L S (rs.take k)).1 = Sk at *
    generalize allW (rs.take k) = wk at *
    obtain ⟨gen, seq, ws, ms, nt⟩ := r
    simp only at x0 x1 x2 x3 x4 HCL HROK HWS
    obtain ⟨Sn, er, hap⟩ : ∃ Sn er, applyS L Sk ⟨gen, seq, ws, ms, nt⟩ = (Sn, er) := ⟨_, _, rfl⟩
    rw [hap] at HSN
    simp only at HSN
    have HAP := Lib.hid hap
    clear hrok hcl hap hrk
    go_upto_region 8 with (fail)
    have hn5 := heap_alloc_new wr (.cells #[.int .u64 gen, .int .u64 seq, .slice Aw ws.length cw, .slice Am ms.length cm, .slice An nt.length cn] 28)
    have hb5 : Below wr.heap.size wr (wr.alloc (.cells #[.int .u64 gen, .int .u64 seq, .slice Aw ws.length cw, .slice Am ms.length cm, .slice An nt.length cn] 28)) := below_laid
    have hz5 : wr.heap.size < (wr.alloc (.cells #[.int .u64 gen, .int .u64 seq, .slice Aw ws.length cw, .slice Am ms.length cm, .slice An nt.length cn] 28)).heap.size := (Array.getElem?_eq_some_iff.1 hn5).1
    generalize wr.alloc _ = w6 at *
    have HI6 := Lib.hid (HI.out.call hb5)
    have HCA := Lib.hid (HAPX.out n0 M k w6 _ _ _ Sk wk Aw Am An cw cm cn ⟨gen, seq, ws, ms, nt⟩ HI6.out HOK.out hmsn hntn HROK.out ⟨w6, (Below.refl _ _), (HCL.out w6 HI6.out.bel).2.2.2.2.2.1⟩)
    simp only at HCA
    obtain ⟨l0, l1, l2, l3⟩ := HI6.out.lay.cells
    obtain ⟨s0, s1, s2, -⟩ := HI6.out.cells
    have g0 : w6.cell? ⟨wr.heap.size, 0, none⟩ = some (.int .u64 gen) := by rw [cell_of_row _ _ _ _ _ _ hn5]; rfl
    have g1 : w6.cell? ⟨wr.heap.size, 1, none⟩ = some (.int .u64 seq) := by rw [cell_of_row _ _ _ _ _ _ hn5]; rfl
    have g2 : w6.cell? ⟨wr.heap.size, 2, none⟩ = some (.slice Aw ws.length cw) := by rw [cell_of_row _ _ _ _ _ _ hn5]; rfl
    have g3 : w6.cell? ⟨wr.heap.size, 3, none⟩ = some (.slice Am ms.length cm) := by rw [cell_of_row _ _ _ _ _ _ hn5]; rfl
    have g4 : w6.cell? ⟨wr.heap.size, 4, none⟩ = some (.slice An nt.length cn) := by rw [cell_of_row _ _ _ _ _ _ hn5]; rfl
    have HN5 := Lib.hid hn5
    clear hn5 hb5 x0 x1 x2 x3 x4
    go_wp2_with fail
    refine HCA.out.mono ?_
    rintro e w7 ⟨hag7, hap7⟩
    have HAG7 := Lib.hid hag7
    have HFS7 : Hid (¬ FS (.slice Al S.ls.length cl) (.slice A8 Sk.nt.length c8) wr.heap.size) := fun e => absurd (FS.lt HI.out.st.1 HI.out.st.2.2 e) (Nat.lt_irrefl _)
    have hn7 : w7.heap[wr.heap.size]? = some (.cells #[.int .u64 gen, .int .u64 seq, .slice Aw ws.length cw, .slice Am ms.length cm, .slice An nt.length cn] 28 (0, 0)) := (hag7.block _ hz5 HFS7.out).trans HN5.out
    obtain ⟨HB7, HL7, HX7, HR7, -, hz7⟩ := HI6.out.agr hag7
    obtain ⟨s0', s1', s2'⟩ : w7.cell? ⟨w.heap.size + 1, 0, none⟩ = some (.slice Al S.ls.length cl) ∧ w7.cell? ⟨w.heap.size + 1, 1, none⟩ = some (.slice A7 Sk.ms.length c7) ∧ w7.cell? ⟨w.heap.size + 1, 2, none⟩ = some (.slice A8 Sk.nt.length c8) := ⟨by rw [cell_of_row _ _ _ _ _ _ HX7]; rfl, by rw [cell_of_row _ _ _ _ _ _ HX7]; rfl, by rw [cell_of_row _ _ _ _ _ _ HX7]; rfl⟩
    have f0 := frozen_blk HX7 0
    have f1 := frozen_blk HX7 1
    have f2 := frozen_blk HX7 2
    rw [AplP, HAP.out] at hap7
    simp only at hap7
    have HN7 := Lib.hid hn7
    have HBB7 := Lib.hid HB7
    have HRR7 := Lib.hid HR7
    clear HB7 HL7 HX7 HR7 hag7 hn7 l0 l1 l2 l3 s0 s1 s2 g0 g1 g2 g3 g4 HCA HN5
    by_cases her : er = 0
    ·subst her
     obtain ⟨mv', nv', rfl, hst7, hnv7⟩ := hap7.2 rfl
     have HT : Hid (allF L S (rs.take (k + 1)) = (Sn, 0)) := by rw [Hid, HSN.out]; simp
     have HNX0 := Lib.hid (HI6.out.next HAG7.out hst7 hnv7)
     obtain ⟨A9, c9, rfl, -⟩ := hst7.2.1
     obtain ⟨Aa, ca, rfl, -⟩ := hst7.2.2.form
     clear hap7 hst7 hnv7
     go_upto_region 12 with (fail)
     have hn8 : (((w7.setCell ⟨w.heap.size + 1, 0, none⟩ (.slice Al S.ls.length cl)).setCell ⟨w.heap.size + 1, 1, none⟩ (.slice A9 Sn.ms.length c9)).setCell ⟨w.heap.size + 1, 2, none⟩ (.slice Aa Sn.nt.length ca)).heap[wr.heap.size]? = some (.cells #[.int .u64 gen, .int .u64 seq, .slice Aw ws.length cw, .slice Am ms.length cm, .slice An nt.length cn] 28 (0, 0)) := by
      have hne : wr.heap.size ≠ w.heap.size + 1 := by have := HIL.out; omega
      exact ((heap_setCell_other _ _ _ _ hne).trans ((heap_setCell_other _ _ _ _ hne).trans (heap_setCell_other _ _ _ _ hne))).trans HN7.out
     generalize ((w7.setCell _ _).setCell _ _).setCell _ _ = w8 at *
     have q2 : w8.cell? ⟨wr.heap.size, 2, none⟩ = some (.slice Aw ws.length cw) := by rw [cell_of_row _ _ _ _ _ _ hn8]; rfl
     clear f0 f1 f2 s0' s1' s2' hn8 HN7 HAG7 HFS7 HI6 HI HBB7 HRR7 hmsn hntn hz7
     go_wp2
     clear q2
     generalize wr.heap.size = nb at *
     have hwn : ws.length ≤ 1000000 := HROK.out.nw
     clear hz5 HIL
     clear wr
     go_loopw [14, 44] (fun s14 s44 wr => ∃ j : Nat, j ≤ ws.length ∧ s44 = .int .i64 j ∧ AlI w wr L A c n0 M (.slice Al S.ls.length cl) (.slice A9 Sn.ms.length c9) (.slice Aa Sn.nt.length ca) Sn (wk ++ ws.take j)) (fun _ s44 _ => ws.length - (intOf s44).toNat)
     case atStart => exact ⟨0, by omega, rfl, by simpa using HNX0.out⟩
     case round =>
      obtain ⟨j, hj, rfl, hI⟩ := hrel
      have HJ := Lib.hid hI
      clear hI HNX0
      by_cases hjn : j < ws.length
      case neg =>
       have hjI : ¬ (j : Int) < (ws.length : Int) := by omega
       obtain rfl : j = ws.length := by omega
       have HE : Hid (AlI w wr L A c n0 M (.slice Al S.ls.length cl) (.slice A9 Sn.ms.length c9) (.slice Aa Sn.nt.length ca) Sn (allW (rs.take (k + 1)))) := by
        have h0 := HJ.out
        rw [List.take_of_length_le (Nat.le_refl _)] at h0
        rw [HWS.out]
        exact h0
       clear hjn
       go_wp2
       go_roundw
       case rel => exact ⟨k + 1, by omega, by go_num, by rw [HT.out], _, _, by rw [HT.out]; exact HE.out⟩
       case measure => simp [intOf] <;> omega
      case pos =>
       have hjI : (j : Int) < (ws.length : Int) := by omega
       have hj0 : ¬ (j : Int) < 0 := by omega
       obtain ⟨x, hxk⟩ : ∃ x, ws[j]? = some x := ⟨_, List.getElem?_eq_getElem hjn⟩
       obtain ⟨-, -, -, -, -, -, hpw⟩ := HCL.out wr HJ.out.bel
       obtain ⟨bx, ox, rfl, hbx, hcx⟩ := PwS.at_ hpw hxk
       have hwfa := allW_wf (HRCF.out (by rw [HT.out]))
       have HWFX := Lib.hid (hwfa x (by rw [HWS.out]; exact List.mem_append_right _ (List.mem_of_getElem? hxk)))
       have HWFW : Hid (∀ y ∈ wk ++ ws.take j, pwWf y) := fun y hy => hwfa y (by
        rw [HWS.out]
        rcases List.mem_append.1 hy with hy | hy
        ·exact List.mem_append_left _ hy
        ·exact List.mem_append_right _ (List.mem_of_mem_take hy))
       have hwl := allWs_len (HRCF.out (by rw [HT.out]))
       have HLN : Hid ((wk ++ ws.take j).length < maxLen) := by
        rw [HWS.out, List.length_append] at hwl
        have h2 : (rs.take (k + 1)).length ≤ 10 := by rw [List.length_take]; omega
        unfold Hid
        rw [List.length_append, List.length_take]
        unfold maxLen
        omega
       have HTK : Hid ((wk ++ ws.take j) ++ [x] = wk ++ ws.take (j + 1)) := by rw [Hid, List.take_add_one, hxk, List.append_assoc]; rfl
       obtain ⟨xg, xp, xv, ⟨b0, b1, b2, b3, b4, b5, b6, b7⟩⟩ := x
       have x0 := hcx 0 _ rfl
       have x1 := hcx 1 _ rfl
       have x2 := hcx 2 _ rfl
       have x3 := hcx 3 _ rfl
       have x4 := hcx 4 _ rfl
       have x5 := hcx 5 _ rfl
       have x6 := hcx 6 _ rfl
       have x7 := hcx 7 _ rfl
       have x8 := hcx 8 _ rfl
       have x9 := hcx 9 _ rfl
       have x10 := hcx 10 _ rfl
       simp only [Nat.add_zero] at x0
       generalize wk ++ ws.take j = wj at *
       clear hpw hwfa hwl hcx hxk
       go_upto_region 15 with (fail)
       have hn9 := heap_alloc_new wr (.cells #[.int .i64 xg, .int .i64 xp, .int .u64 xv, .int .u8 b0, .int .u8 b1, .int .u8 b2, .int .u8 b3, .int .u8 b4, .int .u8 b5, .int .u8 b6, .int .u8 b7] 64)
       have hb9 : Below wr.heap.size wr (wr.alloc (.cells #[.int .i64 xg, .int .i64 xp, .int .u64 xv, .int .u8 b0, .int .u8 b1, .int .u8 b2, .int .u8 b3, .int .u8 b4, .int .u8 b5, .int .u8 b6, .int .u8 b7] 64)) := below_laid
       generalize wr.alloc _ = w9 at *
       have HJ9 := Lib.hid (HJ.out.call hb9)
       have n0' : w9.cell? ⟨wr.heap.size, 0, none⟩ = some (.int .i64 xg) := by rw [cell_of_row _ _ _ _ _ _ hn9]; rfl
       have n1' : w9.cell? ⟨wr.heap.size, 1, none⟩ = some (.int .i64 xp) := by rw [cell_of_row _ _ _ _ _ _ hn9]; rfl
       have n2' : w9.cell? ⟨wr.heap.size, 2, none⟩ = some (.int .u64 xv) := by rw [cell_of_row _ _ _ _ _ _ hn9]; rfl
       have n3' : w9.cell? ⟨wr.heap.size, 3, none⟩ = some (.int .u8 b0) := by rw [cell_of_row _ _ _ _ _ _ hn9]; rfl
       have n4' : w9.cell? ⟨wr.heap.size, 4, none⟩ = some (.int .u8 b1) := by rw [cell_of_row _ _ _ _ _ _ hn9]; rfl
       have n5' : w9.cell? ⟨wr.heap.size, 5, none⟩ = some (.int .u8 b2) := by rw [cell_of_row _ _ _ _ _ _ hn9]; rfl
       have n6' : w9.cell? ⟨wr.heap.size, 6, none⟩ = some (.int .u8 b3) := by rw [cell_of_row _ _ _ _ _ _ hn9]; rfl
       have n7' : w9.cell? ⟨wr.heap.size, 7, none⟩ = some (.int .u8 b4) := by rw [cell_of_row _ _ _ _ _ _ hn9]; rfl
       have n8' : w9.cell? ⟨wr.heap.size, 8, none⟩ = some (.int .u8 b5) := by rw [cell_of_row _ _ _ _ _ _ hn9]; rfl
       have n9' : w9.cell? ⟨wr.heap.size, 9, none⟩ = some (.int .u8 b6) := by rw [cell_of_row _ _ _ _ _ _ hn9]; rfl
       have n10' : w9.cell? ⟨wr.heap.size, 10, none⟩ = some (.int .u8 b7) := by rw [cell_of_row _ _ _ _ _ _ hn9]; rfl
       clear hn9 hb9 x0 x1 x2 x3 x4 x5 x6 x7 x8 x9 x10
       go_wp2_with (refine wpList_putW rfl (.tmp 48) (.tmp 53) (.tmp 54) _ rfl Tryz.underlying98 rfl HJ9.out.map HLN.out ⟨xg, xp, xv, ⟨b0, b1, b2, b3, b4, b5, b6, b7⟩⟩ HWFW.out HWFX.out rfl rfl ?_; intro w10 hm10 hg10)
       have HE := Lib.hid (HJ9.out.put hg10 hm10)
       rw [HTK.out] at HE
       clear hm10 hg10 n0' n1' n2' n3' n4' n5' n6' n7' n8' n9' n10'
       go_wp2
       go_roundw
       case rel => exact ⟨j + 1, by omega, by go_num, HE.out⟩
       case measure => simp [intOf] <;> omega
    ·have g1 : (er != 0) = true := by simpa using her
     have g2 : (er == 0) = false := by simpa using her
     have HER : Hid (er ≠ 0) := her
     obtain rfl := hap7.1 her
     have HE : Hid (allR L S rs = (St.zero, er)) := by
      have h1 : (allF L S (rs.take (k + 1))).2 = er := by rw [HSN.out, if_neg her]
      have h2 := allF_stop (L := L) (S := S) (xs := rs) (k := k + 1) (by rw [h1]; exact her)
      rw [Hid, HRT.out, h2, h1]
     obtain ⟨z0, z1, z2⟩ := zero3 HRR7.out
     have e0 := frozen_blk HRR7.out 0
     have e1 := frozen_blk HRR7.out 1
     have e2 := frozen_blk HRR7.out 2
     have HBF : Hid (Below w.heap.size w ((((((w7.setCell ⟨w.heap.size + 1, 0, none⟩ (.slice none 0 0)).setCell ⟨w.heap.size + 1, 1, none⟩ (.slice none 0 0)).setCell ⟨w.heap.size + 1, 2, none⟩ (.slice none 0 0)).setCell ⟨w.heap.size + 1 + 1, 0, none⟩ (.slice none 0 0)).setCell ⟨w.heap.size + 1 + 1, 1, none⟩ (.slice none 0 0)).setCell ⟨w.heap.size + 1 + 1, 2, none⟩ (.slice none 0 0))) := (((((HBB7.out.setCell (by simp) _).setCell (by simp) _).setCell (by simp) _).setCell (by simp; omega) _).setCell (by simp; omega) _).setCell (by simp; omega) _
     clear her HSN hap7 HAG7 HN7 HFS7 HI6 HI
     go_wp2
     (try simp only [Exit.inBlock, Exit.then])
     refine bodyPost_ret (v := .tuple #[.agg #[.slice none 0 0, .slice none 0 0, .slice none 0 0], .slice none 0 0, .int .i64 er]) ?_ rfl ⟨AllP.bad HE.out HER.out, HBF.out⟩
     rw [results_cell_tmp2 rfl]
     go_simp
end Go.Proofs.YtjgjofepedcfnaaGreat
