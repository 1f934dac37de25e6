/- Walk of linear's follow. -/
import Derived.Test.YtcgbnlhloopnfaaDoorGLnD
namespace Go.Proofs.YtcgbnlhloopnfaaDoor
open Go.RowKit

/-- what follow leaves -/
def FolP (X : List Opr) (safe : Opr → Bool) (last : Bool) (ids : List Int) (kept v : Int) (w : World) (r : Ending) (w' : World) : Prop := r = resF (folR X safe last ids kept v) ∧ Below w.heap.size w w'
theorem FolP.no {X : List Opr} {safe : Opr → Bool} {last : Bool} {ids : List Int} {kept v : Int} {w w' : World} (h : keptOk last (ids, kept) = true → runI X safe kept 0 [] v v ids = none) (hb : Below w.heap.size w w') : FolP X safe last ids kept v w (.returned (.tuple #[.int .i64 0, .bool false])) w' := by
  refine ⟨?_, hb⟩
  unfold folR followI
  split
  · rename_i hk
    rw [h hk]
    rfl
  · rfl

set_option maxHeartbeats 8000000 in
set_option maxRecDepth 100000 in
theorem follow_any {X : List Opr} (hids : (X.map (·.id)).Nodup) (safe : Opr → Bool) (Ao As Ai : Option Addr) (co cs ci B : Nat) (last : Bool) (ids : List Int) (kept v : Int) (w : World) (hX : OwS w 0 94 8 (.slice Ao X.length co) (X.map Opr.cells))
    (hS : OwS w 0 4 1 (.slice As X.length cs) ((X.map safe).map fun x => [.bool x])) (hI : IntS w B Ai ids) (hB : B ≤ w.heap.size) (hlX : X.length ≤ 100000) (hlI : ids.length ≤ 100000) :
    Calls Tryd.prog 35 #[.agg #[.slice Ao X.length co, .slice As X.length cs, .bool last], .agg #[.slice Ai ids.length ci, .int .i64 kept], .int .i64 v] w (FolP X safe last ids kept v w) := by
  have HX := Lib.hid hX
  have HS := Lib.hid hS
  have HI := Lib.hid hI
  have HN := Lib.hid hids
  clear hX hS hI hids
  have hko : Hid (keptOk last (ids, kept) = !(decide (kept < 0) || decide ((ids.length : Int) < kept) || (last && !(kept == (ids.length : Int))))) := rfl
  obtain ⟨kb, hkb⟩ : ∃ kb, keptOk last (ids, kept) = kb := ⟨_, rfl⟩
  rw [hkb] at hko
  have HKB := Lib.hid hkb
  clear hkb
  obtain ⟨W0, hW0⟩ : ∃ W0, W0 = ((w.alloc (.cells #[.slice Ao X.length co, .slice As X.length cs, .bool last] 71)).alloc (.cells #[.slice Ai ids.length ci, .int .i64 kept] 37)) := ⟨_, rfl⟩
  have hb0 : Below w.heap.size w W0 := by rw [hW0]; exact below_laid.alloc (by simp) _
  have hx0 : W0.heap[w.heap.size]? = some (.cells #[.slice Ao X.length co, .slice As X.length cs, .bool last] 71) := by rw [hW0, Below.heap_alloc _ _ _ (by simp)]; exact heap_new_at _ _ rfl
  have hy0 : W0.heap[w.heap.size + 1]? = some (.cells #[.slice Ai ids.length ci, .int .i64 kept] 37) := by rw [hW0]; exact heap_new_at _ _ (by simp)
  have a0 : W0.cell? ⟨w.heap.size, 0, none⟩ = some (.slice Ao X.length co) := by rw [cell_of_row _ _ _ _ _ _ hx0]; rfl
  have a1 : W0.cell? ⟨w.heap.size, 1, none⟩ = some (.slice As X.length cs) := by rw [cell_of_row _ _ _ _ _ _ hx0]; rfl
  have a2 : W0.cell? ⟨w.heap.size, 2, none⟩ = some (.bool last) := by rw [cell_of_row _ _ _ _ _ _ hx0]; rfl
  have b0 : W0.cell? ⟨w.heap.size + 1, 0, none⟩ = some (.slice Ai ids.length ci) := by rw [cell_of_row _ _ _ _ _ _ hy0]; rfl
  have b1 : W0.cell? ⟨w.heap.size + 1, 1, none⟩ = some (.int .i64 kept) := by rw [cell_of_row _ _ _ _ _ _ hy0]; rfl
  have HB0 := Lib.hid hb0
  have HX0 := Lib.hid hx0
  have HY0 := Lib.hid hy0
  clear hb0 hx0 hy0
  go_enter Tryd.func35, Tryd.ntmps35
  go_upto_region 1 with (fail)
  rw [← hW0]
  clear hW0
  go_cut [38] (fun s38 wx => s38 = .bool (!kb) ∧ wx = W0)
  case first =>
    by_cases h1 : kept < 0
    · have h1' : decide (kept < 0) = true := by simpa using h1
      obtain rfl : kb = false := by rw [hko.out, h1']; rfl
      go_wp2_with fail
      go_meet
      exact ⟨rfl, rfl⟩
    · have h1' : decide (kept < 0) = false := by simpa using h1
      by_cases h2 : (ids.length : Int) < kept
      · have h2' : decide (kept > (ids.length : Int)) = true := by simpa using h2
        have h2'' : kept > (ids.length : Int) := h2
        obtain rfl : kb = false := by rw [hko.out, h1', show decide ((ids.length : Int) < kept) = true by simpa using h2]; rfl
        go_wp2_with fail
        go_meet
        exact ⟨rfl, rfl⟩
      · have h2' : decide (kept > (ids.length : Int)) = false := by simp; omega
        have h2'' : ¬ kept > (ids.length : Int) := by omega
        have h23 : decide ((ids.length : Int) < kept) = false := by simpa using h2
        cases last
        · obtain rfl : kb = true := by rw [hko.out, h1', h23]; rfl
          go_wp2_with fail
          go_meet
          exact ⟨rfl, rfl⟩
        · by_cases h3 : kept = (ids.length : Int)
          · have h3' : (kept != (ids.length : Int)) = false := by simp [h3]
            obtain rfl : kb = true := by rw [hko.out, h1', h23, show (kept == (ids.length : Int)) = true by simpa using h3]; rfl
            clear h3
            go_wp2_with fail
            go_meet
            exact ⟨rfl, rfl⟩
          · have h3' : (kept != (ids.length : Int)) = true := by simpa using h3
            obtain rfl : kb = false := by rw [hko.out, h1', h23, show (kept == (ids.length : Int)) = false by simpa using h3]; rfl
            clear h3
            go_wp2_with fail
            go_meet
            exact ⟨rfl, rfl⟩
  case rest =>
    obtain ⟨rfl, rfl⟩ := hcut
    cases kb
    case false =>
      go_wp2
      go_ret2
      exact FolP.no (fun h => absurd (HKB.out.symm.trans h) (by simp)) HB0.out
    case true =>
      have hmk := fun W => make_bools W X.length (by omega)
      have hyl : w.heap.size + 1 < wc.heap.size := (Array.getElem?_eq_some_iff.1 HY0.out).1
      have hxl : w.heap.size < wc.heap.size := by omega
      have hzw : w.heap.size ≤ wc.heap.size := by omega
      go_wp2_with fail
      generalize hWd : (wc.alloc _).alloc _ = W1
      have hb1 : Below wc.heap.size wc W1 := by rw [← hWd]; exact below_laid.alloc (by simp) _
      have hdm : DoneM W1 (wc.heap.size + 1) wc.heap.size X [] := by
        refine ⟨by rw [← hWd]; exact heap_new_at _ _ (by simp), madeCells #[.bool false] X.length, by rw [← hWd, Below.heap_alloc _ _ _ (by simp)]; exact heap_new_at _ _ rfl, fun k hk => ?_⟩
        unfold madeCells
        rw [Array.getElem?_map, Array.getElem?_range, if_pos hk]
        simp [doneQ, Nat.mod_one]
      have HDM := Lib.hid hdm
      have HB1 := Lib.hid hb1
      have HX1 := Lib.hid (keptB HX0.out hb1)
      have HY1 := Lib.hid (keptB HY0.out hb1)
      clear hWd hb1 hdm a0 a1 a2 b0 b1 hxl hmk hko
      generalize hdb : wc.heap.size = db at *
      go_loopw [2, 9, 47] (fun s2 s9 s47 wr => ∃ (n : Nat) (v' e' : Int), n ≤ ids.length ∧ s47 = .int .i64 n ∧ s2 = .int .i64 v' ∧ s9 = .int .i64 e' ∧ runI X safe kept 0 [] v v ids = runI X safe kept n (ids.take n) v' e' (ids.drop n) ∧ DoneM wr (db + 1) db X (ids.take n) ∧ Below w.heap.size w wr ∧
        wr.heap[w.heap.size]? = some (.cells #[.slice Ao X.length co, .slice As X.length cs, .bool last] 71) ∧ wr.heap[w.heap.size + 1]? = some (.cells #[.slice Ai ids.length ci, .int .i64 kept] 37)) (fun _ _ s47 _ => ids.length - (intOf s47).toNat)
      case atStart => exact ⟨0, v, v, by omega, rfl, rfl, rfl, by simp, by simpa using HDM.out, HB0.out.trans (HB1.out.mono hzw), HX1.out, HY1.out⟩
      case round =>
        obtain ⟨n, v', e', hn, rfl, rfl, rfl, hrun, hdm, hb, hx, hy⟩ := hrel
        have HR := Lib.hid hrun
        have HDr := Lib.hid hdm
        have HBr := Lib.hid hb
        have HXr := Lib.hid hx
        have HYr := Lib.hid hy
        have hzr := hb.size
        have a0 : wr.cell? ⟨w.heap.size, 0, none⟩ = some (.slice Ao X.length co) := by rw [cell_of_row _ _ _ _ _ _ hx]; rfl
        have a1 : wr.cell? ⟨w.heap.size, 1, none⟩ = some (.slice As X.length cs) := by rw [cell_of_row _ _ _ _ _ _ hx]; rfl
        have a2 : wr.cell? ⟨w.heap.size, 2, none⟩ = some (.bool last) := by rw [cell_of_row _ _ _ _ _ _ hx]; rfl
        have b0 : wr.cell? ⟨w.heap.size + 1, 0, none⟩ = some (.slice Ai ids.length ci) := by rw [cell_of_row _ _ _ _ _ _ hy]; rfl
        have b1 : wr.cell? ⟨w.heap.size + 1, 1, none⟩ = some (.int .i64 kept) := by rw [cell_of_row _ _ _ _ _ _ hy]; rfl
        have hdl : db < wr.heap.size := by obtain ⟨-, cur, h2, -⟩ := hdm; exact (Array.getElem?_eq_some_iff.1 h2).1
        have hdl1 : db + 1 < wr.heap.size := (Array.getElem?_eq_some_iff.1 hdm.var).1
        have hd0 := hdm.cells.1
        clear hrun hb hx hy hdm
        by_cases hlt : n < ids.length
        · obtain ⟨bi, oi, rfl, hbi, hci⟩ := (HI.out.below' HBr.out hB).2 (by simp; omega)
          have hid : ids[n]? = some ids[n] := List.getElem?_eq_getElem hlt
          have c0 : wr.cell? ⟨bi, oi + n, none⟩ = some (.int .i64 ids[n]) := by
            have := hci n (icell ids[n]) (by simp [hid]) 0 _ rfl
            simpa using this
          have HTK : Hid (ids.take (n + 1) = ids.take n ++ [ids[n]]) := by unfold Hid; rw [List.take_add_one, hid]; rfl
          have HDR : Hid (ids.drop n = ids[n] :: ids.drop (n + 1)) := List.drop_eq_getElem_cons hlt
          have HFD := Lib.hid (fun W (hW : Below w.heap.size w W) => find_era Ao As co cs X.length last ids[n] W (HX.out.below hW) (by omega))
          obtain ⟨id, hide⟩ : ∃ id, ids[n] = id := ⟨_, rfl⟩
          rw [hide] at c0 HTK HDR HFD
          clear hide hid hci
          have hnl : (n : Int) < (ids.length : Int) := by omega
          rcases hfi : X.findIdx? (fun o => o.id == id) with _ | k
          · rw [hfi] at HFD
            have HNO := Lib.hid hfi
            clear hfi
            simp only [idxI] at HFD
            go_wp2_with fail
            refine (HFD.out _ HBr.out).mono ?_
            rintro r w2 ⟨rfl, hb2⟩
            have HB2 := Lib.hid (HBr.out.trans (hb2.mono hzr))
            clear hb2 a0 a1 a2 b0 b1 hd0 c0
            go_wp2
            go_ret2
            exact FolP.no (fun _ => by rw [HR.out, HDR.out, run_no HNO.out]) HB2.out
          · obtain ⟨hk, hidk, -⟩ := run_at (safe := safe) (kept := kept) (n := n) (dn := ids.take n) (v := v') (e := e') (r := ids.drop (n + 1)) HN.out hfi
            have HFI := Lib.hid hfi
            have HIDK := Lib.hid hidk
            rw [hfi] at HFD
            clear hfi hidk
            simp only [idxI] at HFD
            obtain ⟨bo, oo, rfl⟩ := ops_at HX.out (by omega)
            have HQW := Lib.hid (fun W (hW : Below w.heap.size w W) (hD : DoneM W (db + 1) db X (ids.take n)) => readyF_any (db + 1) k (doneQ X (ids.take n)) (some ⟨bo, oo, none⟩) As co cs (ms := X.length) last W (HX.out.below hW) (fun j hj W2 hW2 => fol1_any (db + 1) db j W2 (hD.below hW2) hj) hk (by omega))
            have HSF : Hid (∀ W, Below w.heap.size w W → ∃ bs os, As = some ⟨bs, os, none⟩ ∧ W.cell? ⟨bs, os + k, none⟩ = some (.bool (safe (opAt X k)))) := fun W hW => by
              have h1 := HS.out.below hW
              rw [show X.length = ((X.map safe).map fun x => [Value.bool x]).length by simp] at h1
              obtain ⟨bs, os, rfl, -, hc⟩ := h1.reads.2 (by simp; omega)
              refine ⟨bs, os, rfl, ?_⟩
              have hg : (X.map safe)[k]? = some (safe (opAt X k)) := by rw [List.getElem?_map, opAt_get hk]; rfl
              have := hc k [.bool (safe (opAt X k))] (by rw [List.getElem?_map, hg]; rfl) 0 _ rfl
              simpa using this
            obtain ⟨bs, so, rfl, -⟩ := HSF.out _ HBr.out
            have HSF2 : Hid (∀ W, Below w.heap.size w W → W.cell? ⟨bs, so + k, none⟩ = some (.bool (safe (opAt X k)))) := fun W hW => by
              obtain ⟨b', o', he, hc⟩ := HSF.out W hW
              cases he
              exact hc
            clear HSF
            have HSF := HSF2
            clear HSF2
            obtain ⟨dk, hdk⟩ : ∃ dk, doneQ X (ids.take n) k = dk := ⟨_, rfl⟩
            obtain ⟨rq, hrq⟩ : ∃ rq, readyQ X (doneQ X (ids.take n)) k = rq := ⟨_, rfl⟩
            have HQ1 := Lib.hid hdk
            have HQ2 := Lib.hid hrq
            rw [hrq] at HQW
            clear hdk hrq
            have hkl : (k : Int) < (X.length : Int) := by omega
            have hk0 : ¬ (k : Int) < 0 := by omega
            go_wp2_with fail
            refine (HFD.out _ HBr.out).mono ?_
            rintro r w2 ⟨rfl, hb2⟩
            have HB2 := Lib.hid (HBr.out.trans (hb2.mono hzr))
            have HD2 := Lib.hid (HDr.out.below hb2)
            have HX2 := Lib.hid (keptB HXr.out hb2)
            have HY2 := Lib.hid (keptB HYr.out hb2)
            clear hb2 a0 a1 a2 b0 b1 hd0 c0 hdl hdl1 HFD HDr HXr HYr
            have hd0 := HD2.out.cells.1
            have hd1 := (HD2.out.cells.2 k hk).1
            rw [HQ1.out] at hd1
            have a0 : w2.cell? ⟨w.heap.size, 0, none⟩ = some (.slice (some ⟨bo, oo, none⟩) X.length co) := by rw [cell_of_row _ _ _ _ _ _ HX2.out]; rfl
            have a1 : w2.cell? ⟨w.heap.size, 1, none⟩ = some (.slice (some ⟨bs, so, none⟩) X.length cs) := by rw [cell_of_row _ _ _ _ _ _ HX2.out]; rfl
            have a2 : w2.cell? ⟨w.heap.size, 2, none⟩ = some (.bool last) := by rw [cell_of_row _ _ _ _ _ _ HX2.out]; rfl
            cases dk
            case true =>
              go_wp2
              go_ret2
              exact FolP.no (fun _ => by rw [HR.out, HDR.out]; exact run_bad HN.out HFI.out (.inl HQ1.out)) HB2.out
            case false =>
            go_wp2_with fail
            refine (HQW.out _ HB2.out HD2.out).mono ?_
            rintro r w3 ⟨rfl, hb3⟩
            have hz2 := HB2.out.size
            have HB3 := Lib.hid (HB2.out.trans (hb3.mono hz2))
            have HD3 := Lib.hid (HD2.out.below hb3)
            have HX3 := Lib.hid (keptB HX2.out hb3)
            have HY3 := Lib.hid (keptB HY2.out hb3)
            clear hb3 a0 a1 a2 hd0 hd1 hz2 HD2 HX2 HY2
            cases rq
            case false =>
              go_wp2
              go_ret2
              exact FolP.no (fun _ => by rw [HR.out, HDR.out]; exact run_bad HN.out HFI.out (.inr (.inl HQ2.out))) HB3.out
            case true =>
            have hd0 := HD3.out.cells.1
            obtain ⟨hd1, hd2⟩ := HD3.out.cells.2 k hk
            have hdb1 : w.heap.size ≤ db := hzw
            have a0 : w3.cell? ⟨w.heap.size, 0, none⟩ = some (.slice (some ⟨bo, oo, none⟩) X.length co) := by rw [cell_of_row _ _ _ _ _ _ HX3.out]; rfl
            go_upto_region 12 with (fail)
            have hb4 := HB3.out.setCell (p := ⟨db, k, none⟩) hdb1 (.bool true)
            have hd4 := HD3.out.mark HN.out hk (by omega : db + 1 ≠ db)
            have hx4 : (w3.setCell ⟨db, k, none⟩ (.bool true)).heap[w.heap.size]? = some (.cells #[.slice (some ⟨bo, oo, none⟩) X.length co, .slice (some ⟨bs, so, none⟩) X.length cs, .bool last] 71) := by rw [heap_setCell_other _ _ _ _ (by simp; omega)]; exact HX3.out
            have hy4 : (w3.setCell ⟨db, k, none⟩ (.bool true)).heap[w.heap.size + 1]? = some (.cells #[.slice (some ⟨bi, oi, none⟩) ids.length ci, .int .i64 kept] 37) := by rw [heap_setCell_other _ _ _ _ (by simp; omega)]; exact HY3.out
            clear hd0 hd1 hd2 a0
            generalize w3.setCell _ _ = w4 at *
            have HB4 := Lib.hid hb4
            have HD4 := Lib.hid hd4
            have HX4 := Lib.hid hx4
            have HY4 := Lib.hid hy4
            have a0 : w4.cell? ⟨w.heap.size, 0, none⟩ = some (.slice (some ⟨bo, oo, none⟩) X.length co) := by rw [cell_of_row _ _ _ _ _ _ hx4]; rfl
            clear hb4 hd4 hx4 hy4
            obtain ⟨hbl, q0, q1, q2, q3, q4, q5, q6, q7⟩ := ops_cells (HX.out.below HB4.out) hk
            obtain ⟨o0, o1, o2, o3, o4, o5, o6, o7, hok⟩ : ∃ a b c d e f g h, opAt X k = ⟨a, b, c, d, e, f, g, h⟩ := ⟨_, _, _, _, _, _, _, _, rfl⟩
            rw [hok] at q0 q1 q2 q3 q4 q5 q6 q7
            simp only at q0 q1 q2 q3 q4 q5 q6 q7
            have HOK := Lib.hid hok
            clear hok
            go_upto_region 13 with (fail)
            have hba := below_laid (w := w4) (o := .cells #[.int .i64 o0, .int .i64 o1, .int .i64 o2, .bool o3, .bool o4, .int .i64 o5, .int .i64 o6, .int .i64 o7] 94)
            have hbx : (w4.alloc (.cells #[.int .i64 o0, .int .i64 o1, .int .i64 o2, .bool o3, .bool o4, .int .i64 o5, .int .i64 o6, .int .i64 o7] 94)).heap[w4.heap.size]? = some (.cells (Opr.cells ⟨o0, o1, o2, o3, o4, o5, o6, o7⟩).toArray 94) := heap_new_at _ _ rfl
            clear a0 q0 q1 q2 q3 q4 q5 q6 q7 hbl
            generalize w4.alloc _ = w5 at *
            have HB5 := Lib.hid (HB4.out.trans (hba.mono HB4.out.size))
            have HD5 := Lib.hid (HD4.out.below hba)
            have HX5 := Lib.hid (keptB HX4.out hba)
            have HY5 := Lib.hid (keptB HY4.out hba)
            obtain ⟨q0, q1, q2, q3, q4, q5, q6, q7⟩ := opBox hbx
            simp only at q0 q1 q2 q3 q4 q5 q6 q7
            have a1 : w5.cell? ⟨w.heap.size, 1, none⟩ = some (.slice (some ⟨bs, so, none⟩) X.length cs) := by rw [cell_of_row _ _ _ _ _ _ HX5.out]; rfl
            have b1 : w5.cell? ⟨w.heap.size + 1, 1, none⟩ = some (.int .i64 kept) := by rw [cell_of_row _ _ _ _ _ _ HY5.out]; rfl
            clear hba hbx HB4 HD4 HX4 HY4 HB3 HD3 HX3 HY3 HB2
            have HVAL : Hid ((opAt X k).val = o2) := by unfold Hid; rw [HOK.out]
            cases o3
            case false =>
              by_cases hbad : o7 < 0 ∨ o2 ≠ v'
              · have HRB : Hid (runI X safe kept 0 [] v v ids = none) := by
                  unfold Hid
                  rw [HR.out, HDR.out]
                  exact run_bad HN.out HFI.out (.inr (.inr ⟨by rw [HOK.out], by rw [HOK.out]; exact hbad⟩))
                clear HR HDR HQW HFI HQ1 HQ2 HOK HVAL
                by_cases h7 : o7 < 0
                · have h7' : decide (o7 < 0) = true := by simpa using h7
                  clear hbad
                  go_wp2
                  go_ret2
                  exact FolP.no (fun _ => HRB.out) HB5.out
                · have h7' : decide (o7 < 0) = false := by simpa using h7
                  have h2 : o2 ≠ v' := hbad.resolve_left h7
                  have h2' : (o2 != v') = true := by simpa using h2
                  clear hbad h2
                  go_wp2
                  go_ret2
                  exact FolP.no (fun _ => HRB.out) HB5.out
              · have h7 : ¬ o7 < 0 := fun h => hbad (.inl h)
                have h2 : o2 = v' := Classical.byContradiction fun h => hbad (.inr h)
                have h7' : decide (o7 < 0) = false := by simpa using h7
                subst h2
                have h2' : (o2 != o2) = false := by simp
                have H0 : Hid (0 ≤ (opAt X k).done) := by unfold Hid; rw [HOK.out]; show 0 ≤ o7; omega
                clear hbad
                have HRN : Hid (runI X safe kept 0 [] v v ids = if (n : Int) < kept then runI X safe kept (n + 1) (ids.take (n + 1)) o2 o2 (ids.drop (n + 1)) else if safe (opAt X k) then none else runI X safe kept (n + 1) (ids.take (n + 1)) o2 e' (ids.drop (n + 1))) := by
                  have h1 := run_next (safe := safe) (kept := kept) (n := n) (v := o2) (e := e') (r := ids.drop (n + 1)) HN.out HFI.out HQ1.out HQ2.out (.inr ⟨H0.out, HVAL.out⟩)
                  unfold Hid
                  rw [HR.out, HDR.out, h1, HTK.out, HVAL.out]
                by_cases hkp : (n : Int) < kept
                · have hkp' : decide ((n : Int) < kept) = true := by simpa using hkp
                  have HRK := Lib.hid (HRN.out.trans (if_pos hkp))
                  have HDK : Hid (DoneM w5 (db + 1) db X (ids.take (n + 1))) := by unfold Hid; rw [HTK.out, ← HIDK.out]; exact HD5.out
                  clear HRN HR HDR HQW HFI HQ1 HQ2 HOK
                  go_wp2
                  go_roundw
                  case rel => exact ⟨_, _, _, _, _, _, _, _, _, ⟨n + 1, by omega, by go_num, o2, rfl, o2, rfl, HRK.out, HDK.out, HB5.out, HX5.out, HY5.out⟩, rfl, rfl, rfl, rfl, rfl, rfl, rfl, rfl, rfl⟩
                  case measure => simp [intOf]; omega
                · have hkp' : decide ((n : Int) < kept) = false := by simpa using hkp
                  obtain ⟨sfk, hsf⟩ : ∃ sfk, safe (opAt X k) = sfk := ⟨_, rfl⟩
                  have s0 := HSF.out _ HB5.out
                  rw [hsf] at s0
                  have HRK := Lib.hid (HRN.out.trans (if_neg hkp))
                  rw [hsf] at HRK
                  have HDK : Hid (DoneM w5 (db + 1) db X (ids.take (n + 1))) := by unfold Hid; rw [HTK.out, ← HIDK.out]; exact HD5.out
                  clear hsf HRN HR HDR HQW HFI HQ1 HQ2 HOK
                  cases sfk
                  · have HRL := Lib.hid (HRK.out.trans (if_neg (by simp)))
                    clear HRK
                    go_wp2
                    go_roundw
                    case rel => exact ⟨_, _, _, _, _, _, _, _, _, ⟨n + 1, by omega, by go_num, o2, rfl, e', rfl, HRL.out, HDK.out, HB5.out, HX5.out, HY5.out⟩, rfl, rfl, rfl, rfl, rfl, rfl, rfl, rfl, rfl⟩
                    case measure => simp [intOf]; omega
                  · have HRL := Lib.hid (HRK.out.trans (if_pos rfl))
                    clear HRK
                    go_wp2
                    go_ret2
                    exact FolP.no (fun _ => HRL.out) HB5.out
            case true =>
              have HRN : Hid (runI X safe kept 0 [] v v ids = if (n : Int) < kept then runI X safe kept (n + 1) (ids.take (n + 1)) o2 o2 (ids.drop (n + 1)) else if safe (opAt X k) then none else runI X safe kept (n + 1) (ids.take (n + 1)) o2 e' (ids.drop (n + 1))) := by
                have h1 := run_next (safe := safe) (kept := kept) (n := n) (v := v') (e := e') (r := ids.drop (n + 1)) HN.out HFI.out HQ1.out HQ2.out (.inl (by rw [HOK.out]))
                unfold Hid
                rw [HR.out, HDR.out, h1, HTK.out, HVAL.out]
              by_cases hkp : (n : Int) < kept
              · have hkp' : decide ((n : Int) < kept) = true := by simpa using hkp
                have HRK := Lib.hid (HRN.out.trans (if_pos hkp))
                have HDK : Hid (DoneM w5 (db + 1) db X (ids.take (n + 1))) := by unfold Hid; rw [HTK.out, ← HIDK.out]; exact HD5.out
                clear HRN HR HDR HQW HFI HQ1 HQ2 HOK
                go_wp2
                go_roundw
                case rel =>
                  repeat apply Exists.intro
                  apply And.intro
                  case right => (repeat' apply And.intro) <;> rfl
                  case left => first | exact ⟨n + 1, o2, o2, by omega, by go_num, rfl, rfl, HRK.out, HDK.out, HB5.out, HX5.out, HY5.out⟩ | exact ⟨n + 1, by omega, by go_num, o2, rfl, o2, rfl, HRK.out, HDK.out, HB5.out, HX5.out, HY5.out⟩
                case measure => simp [intOf]; omega
              · have hkp' : decide ((n : Int) < kept) = false := by simpa using hkp
                obtain ⟨sfk, hsf⟩ : ∃ sfk, safe (opAt X k) = sfk := ⟨_, rfl⟩
                have s0 := HSF.out _ HB5.out
                rw [hsf] at s0
                have HRK := Lib.hid (HRN.out.trans (if_neg hkp))
                rw [hsf] at HRK
                have HDK : Hid (DoneM w5 (db + 1) db X (ids.take (n + 1))) := by unfold Hid; rw [HTK.out, ← HIDK.out]; exact HD5.out
                clear hsf HRN HR HDR HQW HFI HQ1 HQ2 HOK
                cases sfk
                · have HRL := Lib.hid (HRK.out.trans (if_neg (by simp)))
                  clear HRK
                  go_wp2
                  go_roundw
                  case rel =>
                    repeat apply Exists.intro
                    apply And.intro
                    case right => (repeat' apply And.intro) <;> rfl
                    case left => first | exact ⟨n + 1, o2, e', by omega, by go_num, rfl, rfl, HRL.out, HDK.out, HB5.out, HX5.out, HY5.out⟩ | exact ⟨n + 1, by omega, by go_num, o2, rfl, e', rfl, HRL.out, HDK.out, HB5.out, HX5.out, HY5.out⟩
                  case measure => simp [intOf]; omega
                · have HRL := Lib.hid (HRK.out.trans (if_pos rfl))
                  clear HRK
                  go_wp2
                  go_ret2
                  exact FolP.no (fun _ => HRL.out) HB5.out
        · obtain rfl : n = ids.length := by omega
          have HRE : Hid (runI X safe kept 0 [] v v ids = some (ids, e')) := by unfold Hid; rw [HR.out, List.drop_length, List.take_length]; rfl
          have HDE : Hid (DoneM wr (db + 1) db X ids) := by have := HDr.out; rwa [List.take_length] at this
          clear HR HDr HYr a1 a2 b0 b1 hd0 hdl hdl1
          go_wp2_with fail
          generalize wr = wa at *
          clear a0
          go_loopw [107] (fun s107 wr => ∃ j : Nat, j ≤ X.length ∧ s107 = .int .i64 j ∧ (∀ i, i < j → endB X ids i = true) ∧ Below wa.heap.size wa wr) (fun s107 _ => X.length - (intOf s107).toNat)
          case atStart => exact ⟨0, by omega, rfl, fun i hi => absurd hi (by omega), Below.refl _ _⟩
          case round =>
            obtain ⟨j, hj, rfl, hno, hb⟩ := hrel
            have HNO := Lib.hid hno
            have HBB := Lib.hid hb
            have hbw := HBr.out.trans (hb.mono hzr)
            have HBW := Lib.hid hbw
            clear hno
            by_cases hlt : j < X.length
            · obtain ⟨bo, oo, rfl⟩ := ops_at HX.out (by omega)
              obtain ⟨hbl, q0, q1, q2, q3, q4, q5, q6, q7⟩ := ops_cells (HX.out.below hbw) hlt
              obtain ⟨c0, c1⟩ := (HDE.out.below hb).cells
              have c2 := (c1 j hlt).1
              obtain ⟨o0, o1, o2, o3, o4, o5, o6, o7, hok⟩ : ∃ a b c d e f g h, opAt X j = ⟨a, b, c, d, e, f, g, h⟩ := ⟨_, _, _, _, _, _, _, _, rfl⟩
              have HEB : Hid (endB X ids j = (decide (o7 < 0) || doneQ X ids j)) := by unfold Hid endB; rw [hok]
              rw [hok] at q0 q1 q2 q3 q4 q5 q6 q7
              simp only at q0 q1 q2 q3 q4 q5 q6 q7
              clear hok c1 hb hbw
              generalize doneQ X ids j = dj at *
              have hjl : (j : Int) < (X.length : Int) := by omega
              have hdbl : db < wr.heap.size := by
                obtain ⟨-, cur, h2, -⟩ := HDE.out.below HBB.out
                exact (Array.getElem?_eq_some_iff.1 h2).1
              have hdbl1 : db + 1 < wr.heap.size := (Array.getElem?_eq_some_iff.1 (HDE.out.below HBB.out).var).1
              have hsz := HBB.out.size
              by_cases h7 : o7 < 0
              · have h7' : decide (o7 ≥ 0) = false := by simp; omega
                have HOK2 : Hid (endB X ids j = true) := by unfold Hid; rw [HEB.out, show decide (o7 < 0) = true by simpa using h7]; rfl
                clear HEB
                go_wp2
                go_roundw
                case rel => exact ⟨j + 1, by omega, by go_num, fun i hi => by
                  rcases Nat.lt_or_eq_of_le (Nat.le_of_lt_succ hi) with hi' | rfl
                  · exact HNO.out i hi'
                  · exact HOK2.out, HBB.out.alloc hsz _⟩
                case measure => simp [intOf]; omega
              · have h7' : decide (o7 ≥ 0) = true := by simp; omega
                cases dj
                · have HBD : Hid (endB X ids j = false) := by unfold Hid; rw [HEB.out, show decide (o7 < 0) = false by simpa using h7]; rfl
                  clear HEB
                  go_wp2
                  go_ret2
                  exact ⟨by rw [fol_bad HRE.out hlt HBD.out]; rfl, HBW.out.alloc HBW.out.size _⟩
                · have HOK2 : Hid (endB X ids j = true) := by unfold Hid; rw [HEB.out]; simp
                  clear HEB
                  go_wp2
                  go_roundw
                  case rel => exact ⟨j + 1, by omega, by go_num, fun i hi => by
                    rcases Nat.lt_or_eq_of_le (Nat.le_of_lt_succ hi) with hi' | rfl
                    · exact HNO.out i hi'
                    · exact HOK2.out, HBB.out.alloc hsz _⟩
                  case measure => simp [intOf]; omega
            · obtain rfl : j = X.length := by omega
              clear hb hbw
              go_wp2
              go_ret2
              exact ⟨by rw [fol_end HKB.out HRE.out HNO.out]; rfl, HBW.out⟩
end Go.Proofs.YtcgbnlhloopnfaaDoor
