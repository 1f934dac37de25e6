/- Walk of tegularef46.explains.
Walk of tegularef46.Accepts. -/
import Derived.Test.YtcgbnlhloopnfaaDoorGRa
import Derived.Test.YtcgbnlhloopnfaaDoorLinG
namespace Go.Proofs.YtcgbnlhloopnfaaDoor
open Go.RowKit

/-- tegularef46.explains, on lists -/
def expR (X : List Opr) (last : Bool) (ids : List Int) (kept v : Int) : Option Int := if keptOk last (ids, kept) then followR X (fun o => !last && durR X o) kept v ids else none
theorem exp_ordno {X : List Opr} {last : Bool} {ids : List Int} {kept v : Int} (h : orderR X [] ids = none) : expR X last ids kept v = none := by
  unfold expR followR
  rw [h]
  split <;> rfl
theorem exp_kb {X : List Opr} {last : Bool} {ids : List Int} {kept v : Int} (h : keptOk last (ids, kept) = false) : expR X last ids kept v = none := by
  unfold expR
  rw [h]
  rfl
theorem exp_run {X : List Opr} {last : Bool} {ids : List Int} {kept v : Int} {xs : List Opr} (h : orderR X [] ids = some xs) (hk : keptOk last (ids, kept) = true) : expR X last ids kept v = explR (fun o => !last && durR X o) kept [] 0 v v xs := by
  unfold expR followR
  rw [h, if_pos hk]
theorem expl_cons (safe : Opr → Bool) (kept : Int) (xs0 : List Opr) (n : Nat) (v e : Int) (o : Opr) (r : List Opr) : explR safe kept xs0 n v e (o :: r) = if xs0.any (fun k => precO o k) then none else if !o.write && !(o.val == v) then none
    else if (n : Int) < kept then explR safe kept (xs0 ++ [o]) (n + 1) (valTo o v) (valTo o v) r else if safe o then none else explR safe kept (xs0 ++ [o]) (n + 1) (valTo o v) e r := rfl
set_option maxHeartbeats 8000000 in
set_option maxRecDepth 100000 in
theorem explains_any {X : List Opr} (hids : (X.map (·.id)).Nodup) (last : Bool) (ids : List Int) (kept v : Int) (A Ai : Option Addr) (c ci B : Nat) (w : World) (hX : OpS w B A X) (hI : IntS w B Ai ids) (hB : B ≤ w.heap.size) (hlX : X.length ≤ 100000) (hlI : ids.length ≤ 100000) :
    Calls Tryd.prog 34 #[.slice A X.length c, .agg #[.slice Ai ids.length ci, .int .i64 kept], .int .i64 v, .bool last] w fun r w' => r = resF (expR X last ids kept v) ∧ Below w.heap.size w w' := by
  have HX := Lib.hid hX
  have HI := Lib.hid hI
  have HN := Lib.hid hids
  clear hX hI hids
  have hko : Hid (keptOk last (ids, kept) = !(decide (kept < 0) || decide ((ids.length : Int) < kept) || (last && !(kept == (ids.length : Int))))) := rfl
  obtain ⟨kb, hkb⟩ : ∃ kb, keptOk last (ids, kept) = kb := ⟨_, rfl⟩
  rw [hkb] at hko
  have HKB := Lib.hid hkb
  clear hkb
  obtain ⟨W0, hW0⟩ : ∃ W0, W0 = w.alloc (.cells #[.slice Ai ids.length ci, .int .i64 kept] 36) := ⟨_, rfl⟩
  have hb0 : Below w.heap.size w W0 := by rw [hW0]; exact below_laid
  have hy0 : W0.heap[w.heap.size]? = some (.cells #[.slice Ai ids.length ci, .int .i64 kept] 36) := by rw [hW0]; exact heap_new_at _ _ rfl
  have b0 : W0.cell? ⟨w.heap.size, 0, none⟩ = some (.slice Ai ids.length ci) := by rw [cell_of_row _ _ _ _ _ _ hy0]; rfl
  have HB0 := Lib.hid hb0
  have HY0 := Lib.hid hy0
  have HOR := Lib.hid (fun W (hW : Below w.heap.size w W) => order_any HN.out ids A Ai c ci B W (HX.out.below' hW hB) (HI.out.below' hW hB) (Nat.le_trans hB hW.size) hlX hlI)
  clear hb0 hy0
  go_enter Tryd.func34, Tryd.ntmps34
  go_upto_region 1 with (fail)
  rw [← hW0]
  clear hW0
  rcases hor : orderR X [] ids with _ | xs
  · have HF : Hid (expR X last ids kept v = none) := exp_ordno hor
    have HO2 : Hid (Calls Tryd.prog 53 #[.slice A X.length c, .slice Ai ids.length ci] W0 fun r w' => r = .returned (.tuple #[.slice none 0 0, .bool false]) ∧ Below W0.heap.size W0 w') := (HOR.out W0 HB0.out).mono fun r w' h => by
      unfold OrdP at h
      rw [hor] at h
      exact ⟨h.2, h.1⟩
    clear hor HOR
    go_wp2_with fail
    refine HO2.out.mono ?_
    rintro r w1 ⟨rfl, hb1⟩
    go_wp2
    go_ret2
    exact ⟨by rw [HF.out]; rfl, HB0.out.trans (hb1.mono HB0.out.size)⟩
  · have HO2 : Hid (Calls Tryd.prog 53 #[.slice A X.length c, .slice Ai ids.length ci] W0 fun r w' => (∃ Ax cx, r = .returned (.tuple #[.slice Ax xs.length cx, .bool true]) ∧ OwS w' W0.heap.size 64 8 (.slice Ax xs.length cx) (xs.map Opr.cells)) ∧ Below W0.heap.size W0 w') := (HOR.out W0 HB0.out).mono fun r w' h => by
      unfold OrdP at h
      rw [hor] at h
      obtain ⟨h1, v, h2, h3⟩ := h
      obtain ⟨Ax, cx, rfl, -, -⟩ := h3.form
      rw [List.length_map] at h2 h3
      exact ⟨⟨Ax, cx, h2, h3⟩, h1⟩
    have hxl : xs.length = ids.length := by have := (orderR_good ids [] xs List.nodup_nil hor).1; rw [← this, List.length_map]
    have HXL := Lib.hid hxl
    have HRN : Hid (kb = true → expR X last ids kept v = explR (fun o => !last && durR X o) kept [] 0 v v xs) := fun h => exp_run hor (by rw [HKB.out, h])
    clear hor HOR
    go_wp2_with fail
    refine HO2.out.mono ?_
    rintro r w1 ⟨⟨Ax, cx, rfl, hox⟩, hb1⟩
    have HOX := Lib.hid hox
    have HB1 := Lib.hid (HB0.out.trans (hb1.mono HB0.out.size))
    have hy1 := keptB HY0.out hb1
    have HY1 := Lib.hid hy1
    have b1 : w1.cell? ⟨w.heap.size, 1, none⟩ = some (.int .i64 kept) := by rw [cell_of_row _ _ _ _ _ _ hy1]; rfl
    clear hox hb1 hy1 b0 HY0 HO2
    rw [hxl] at HOX
    rw [hxl]
    go_upto_region 2 with (fail)
    go_cut [45] (fun s45 wx => s45 = .bool (!kb) ∧ wx = w1)
    case first =>
      clear hxl
      by_cases h1 : kept < 0
      · have h1' : decide (kept < 0) = true := by simpa using h1
        obtain rfl : kb = false := by rw [hko.out, h1']; rfl
        go_wp2_with fail
        go_meet
        exact ⟨rfl, rfl⟩
      · have h1' : decide (kept < 0) = false := by simpa using h1
        by_cases h2 : (ids.length : Int) < kept
        · have h2' : decide (kept > (ids.length : Int)) = true := by simpa using h2
          have h2'' : kept > (ids.length : Int) := h2
          obtain rfl : kb = false := by rw [hko.out, h1', show decide ((ids.length : Int) < kept) = true by simpa using h2]; rfl
          go_wp2_with fail
          go_meet
          exact ⟨rfl, rfl⟩
        · have h2' : decide (kept > (ids.length : Int)) = false := by simp; omega
          have h2'' : ¬ kept > (ids.length : Int) := by omega
          have h23 : decide ((ids.length : Int) < kept) = false := by simpa using h2
          cases last
          · obtain rfl : kb = true := by rw [hko.out, h1', h23]; rfl
            go_wp2_with fail
            go_meet
            exact ⟨rfl, rfl⟩
          · by_cases h3 : kept = (ids.length : Int)
            · have h3' : (kept != (ids.length : Int)) = false := by simp [h3]
              obtain rfl : kb = true := by rw [hko.out, h1', h23, show (kept == (ids.length : Int)) = true by simpa using h3]; rfl
              clear h3
              go_wp2_with fail
              go_meet
              exact ⟨rfl, rfl⟩
            · have h3' : (kept != (ids.length : Int)) = true := by simpa using h3
              obtain rfl : kb = false := by rw [hko.out, h1', h23, show (kept == (ids.length : Int)) = false by simpa using h3]; rfl
              clear h3
              go_wp2_with fail
              go_meet
              exact ⟨rfl, rfl⟩
    obtain ⟨rfl, rfl⟩ := hcut
    clear b1
    cases kb
    case false =>
      have HF : Hid (expR X last ids kept v = none) := exp_kb HKB.out
      go_wp2
      go_ret2
      exact ⟨by rw [HF.out]; rfl, HB1.out⟩
    case true =>
      have HR0 := Lib.hid (HRN.out rfl)
      have HDU := Lib.hid (fun (o : Opr) W (hW : Below w.heap.size w W) => rdur_any X o A c B W (HX.out.below' hW hB) (Nat.le_trans hB hW.size) (by omega))
      clear HRN HKB hko HI
      clear hxl
      obtain ⟨sf, hsf⟩ : ∃ sf : Opr → Bool, sf = fun o => !last && durR X o := ⟨_, rfl⟩
      have HSF : Hid (∀ o, sf o = (!last && durR X o)) := fun o => by rw [hsf]
      obtain ⟨ex, hexq⟩ : ∃ ex, expR X last ids kept v = ex := ⟨_, rfl⟩
      have HEQ := Lib.hid hexq
      rw [hexq, ← hsf] at HR0
      clear hsf hexq
      go_wp2
      go_loopw [2, 12, 13, 14] (fun vv lv i kk wr => ∃ (n : Nat) (v1 e1 : Int), n ≤ ids.length ∧ i = .int .i64 n ∧ vv = .int .i64 v1 ∧ lv = .int .i64 e1 ∧ ex = explR sf kept (xs.take n) n v1 e1 (xs.drop n) ∧ Below wc.heap.size wc wr) (fun _ _ i _ _ => ids.length - (intOf i).toNat)
      case atStart => exact ⟨0, v, v, by omega, rfl, rfl, rfl, by rw [HR0.out]; rfl, Below.refl _ _⟩
      case round =>
        obtain ⟨n, v1, e1, hn, rfl, rfl, rfl, hex, hb⟩ := hrel
        have HEX := Lib.hid hex
        have HB := Lib.hid hb
        have HBW := Lib.hid (HB1.out.trans (hb.mono HB1.out.size))
        clear hex
        by_cases hlt : n < ids.length
        · have hnl : (n : Int) < (ids.length : Int) := by omega
          have hnx : n < xs.length := by rw [HXL.out]; exact hlt
          obtain ⟨o, ho⟩ : ∃ o, xs[n]? = some o := ⟨_, List.getElem?_eq_getElem hnx⟩
          have HDR : Hid (xs.drop n = o :: xs.drop (n + 1)) := by unfold Hid; rw [List.drop_eq_getElem_cons hnx]; congr 1; exact Option.some.inj ((List.getElem?_eq_getElem hnx).symm.trans ho)
          have HTK : Hid (xs.take (n + 1) = xs.take n ++ [o]) := by unfold Hid; rw [List.take_add_one, ho]; rfl
          obtain ⟨gx, cx', hvv, -, hgx⟩ := (HOX.out.below hb).pos (by rw [List.length_map]; omega)
          injection hvv with hv1 hv2 hv3
          subst hv1
          clear hv2 hv3
          have HOC : Hid (∀ W, Below wc.heap.size wc W → ∀ (q : Nat) (b : Opr), xs[q]? = some b → ∀ (j : Nat) (u : Value), b.cells[j]? = some u → W.cell? ⟨gx, q * 8 + j, none⟩ = some u) := fun W hW q b hq j u hu => (HOX.out.below hW).cell (by rw [List.getElem?_map, hq]; rfl) hu
          have HNO := Lib.hid ho
          have hzo := hb.size
          generalize wr = wo at *
          clear hb ho
          have hnext : (xs.take n).any (fun k => precO o k) = false → ex = if !o.write && !(o.val == v1) then none else if (n : Int) < kept then explR sf kept (xs.take (n + 1)) (n + 1) (valTo o v1) (valTo o v1) (xs.drop (n + 1)) else if sf o then none else explR sf kept (xs.take (n + 1)) (n + 1) (valTo o v1) e1 (xs.drop (n + 1)) := fun hf => by
            rw [HEX.out, HDR.out, expl_cons, hf, HTK.out]
            simp
          have HNX := Lib.hid hnext
          have hprec : (xs.take n).any (fun k => precO o k) = true → ex = none := fun hf => by
            rw [HEX.out, HDR.out, expl_cons, hf]
            simp
          have HPR := Lib.hid hprec
          clear hnext hprec
          obtain ⟨o0, o1, o2, o3, o4, o5, o6, o7⟩ := o
          go_wp2
          go_loopw [14] (fun kk wr => ∃ q : Nat, q ≤ n ∧ kk = .int .i64 q ∧ (∀ j b, j < q → xs[j]? = some b → precO ⟨o0, o1, o2, o3, o4, o5, o6, o7⟩ b = false) ∧ Below wo.heap.size wo wr) (fun kk _ => n - (intOf kk).toNat)
          case atStart => exact ⟨0, by omega, rfl, fun j b hj => absurd hj (by omega), Below.refl _ _⟩
          case round =>
            obtain ⟨q, hq, rfl, hno, hbq⟩ := hrel
            have HQN := Lib.hid hno
            have HBQ := Lib.hid hbq
            have HBC := Lib.hid (HB.out.trans (hbq.mono hzo))
            have hzq := hbq.size
            clear hno hbq
            by_cases hlq : q < n
            · have hqn : (q : Int) < (n : Int) := by omega
              obtain ⟨b, hbx⟩ : ∃ b, xs[q]? = some b := ⟨_, List.getElem?_eq_getElem (show q < xs.length by omega)⟩
              have d7 := HOC.out wr HBC.out n _ HNO.out 7 _ rfl
              have f6 := HOC.out wr HBC.out q b hbx 6 _ rfl
              have HBX := Lib.hid hbx
              obtain ⟨b0, b1, b2, b3, b4, b5, b6, b7⟩ := b
              simp only at d7 f6
              have HPV : Hid (precO ⟨o0, o1, o2, o3, o4, o5, o6, o7⟩ ⟨b0, b1, b2, b3, b4, b5, b6, b7⟩ = (decide (0 ≤ o7) && decide (o7 < b6))) := rfl
              have hstep : precO ⟨o0, o1, o2, o3, o4, o5, o6, o7⟩ ⟨b0, b1, b2, b3, b4, b5, b6, b7⟩ = false → ∀ j b, j < q + 1 → xs[j]? = some b → precO ⟨o0, o1, o2, o3, o4, o5, o6, o7⟩ b = false := fun hf j b hj hjb => by
                rcases Nat.lt_or_eq_of_le (Nat.le_of_lt_succ hj) with h | rfl
                · exact HQN.out j b h hjb
                · have := HBX.out.symm.trans hjb
                  cases this
                  exact hf
              have HST := Lib.hid hstep
              have hfound : precO ⟨o0, o1, o2, o3, o4, o5, o6, o7⟩ ⟨b0, b1, b2, b3, b4, b5, b6, b7⟩ = true → ex = none := fun hf => HPR.out (List.any_eq_true.2 ⟨_, by
                rw [List.mem_iff_getElem?]
                exact ⟨q, by rw [List.getElem?_take, if_pos hlq]; exact HBX.out⟩, hf⟩)
              have HFD := Lib.hid hfound
              clear hbx hstep hfound
              by_cases h7 : 0 ≤ o7
              · have h7' : decide (o7 ≥ 0) = true := by simpa using h7
                have h7q : decide (0 ≤ o7) = true := by simpa using h7
                by_cases h6 : o7 < b6
                · have h6' : decide (o7 < b6) = true := by simpa using h6
                  have HF : Hid (ex = none) := HFD.out (by rw [HPV.out, h7q, h6']; rfl)
                  clear h7 h6
                  go_wp2_with fail
                  go_quiet (fail)
                  clear d7 f6
                  go_wp2
                  go_ret2
                  exact ⟨by rw [HEQ.out, HF.out]; rfl, HB1.out.trans ((below_drewN HBC.out _).mono HB1.out.size)⟩
                · have h6' : decide (o7 < b6) = false := by simpa using h6
                  have HF : Hid (precO ⟨o0, o1, o2, o3, o4, o5, o6, o7⟩ ⟨b0, b1, b2, b3, b4, b5, b6, b7⟩ = false) := by unfold Hid; rw [HPV.out, h6']; simp
                  clear h7 h6
                  go_wp2_with fail
                  go_quiet (fail)
                  clear d7 f6
                  go_wp2
                  go_roundw
                  case rel => exact ⟨q + 1, by omega, by go_num, HST.out HF.out, below_drewN HBQ.out _⟩
                  case measure => simp [intOf]; omega
              · have h7' : decide (o7 ≥ 0) = false := by simpa using h7
                have HF : Hid (precO ⟨o0, o1, o2, o3, o4, o5, o6, o7⟩ ⟨b0, b1, b2, b3, b4, b5, b6, b7⟩ = false) := by unfold Hid; rw [HPV.out, show decide (0 ≤ o7) = false by simpa using h7]; rfl
                clear h7
                go_wp2_with fail
                go_quiet (fail)
                clear d7 f6
                go_wp2
                go_roundw
                case rel => exact ⟨q + 1, by omega, by go_num, HST.out HF.out, below_drewN HBQ.out _⟩
                case measure => simp [intOf]; omega
            · obtain rfl : q = n := by omega
              have hany : (xs.take q).any (fun k => precO ⟨o0, o1, o2, o3, o4, o5, o6, o7⟩ k) = false := by
                rw [List.any_eq_false]
                intro b hb
                rw [List.mem_iff_getElem?] at hb
                obtain ⟨j, hj⟩ := hb
                rw [List.getElem?_take] at hj
                split at hj
                · rename_i hjq
                  rw [HQN.out j b hjq hj]
                  simp
                · cases hj
              have HNX2 := Lib.hid (HNX.out hany)
              clear hany
              simp only [valTo] at HNX2
              have dc := fun j u hu => HOC.out wr HBC.out q _ HNO.out j u hu
              have d0 := dc 0 _ rfl
              have d1 := dc 1 _ rfl
              have d2 := dc 2 _ rfl
              have d3 := dc 3 _ rfl
              have d4 := dc 4 _ rfl
              have d5 := dc 5 _ rfl
              have d6 := dc 6 _ rfl
              have d7 := dc 7 _ rfl
              rw [Nat.add_zero] at d0
              simp only at d0 d1 d2 d3 d4 d5 d6 d7
              have hyr := keptB HY1.out HBC.out
              have y1 : wr.cell? ⟨w.heap.size, 1, none⟩ = some (.int .i64 kept) := by rw [cell_of_row _ _ _ _ _ _ hyr]; rfl
              have HDO := Lib.hid (HDU.out ⟨o0, o1, o2, o3, o4, o5, o6, o7⟩ wr (HB1.out.trans (HBC.out.mono HB1.out.size)))
              clear dc hyr
              cases o3
              · by_cases he : o2 = v1
                · have he' : (o2 != v1) = false := by simpa using he
                  have hnx3 := HNX2.out
                  rw [show (o2 == v1) = true by simpa using he] at hnx3
                  simp only [Bool.not_false, Bool.not_true, Bool.and_false, Bool.false_eq_true, if_false] at hnx3
                  have HNX3 := Lib.hid hnx3
                  clear hnx3
                  clear he
                  by_cases hk : (q : Int) < kept
                  · have HF := HNX3.out
                    rw [if_pos hk] at HF
                    have HFX := Lib.hid HF
                    clear HF
                    go_wp2
                    go_roundw
                    case rel =>
                      first
                      | exact ⟨q + 1, v1, v1, by omega, by go_num, rfl, rfl, HFX.out, HBC.out⟩
                      | (repeat apply Exists.intro
                         apply And.intro
                         case right => (repeat' apply And.intro) <;> rfl
                         case left => first | exact ⟨q + 1, v1, v1, by omega, by go_num, rfl, rfl, HFX.out, HBC.out⟩ | exact ⟨q + 1, by omega, by go_num, v1, rfl, v1, rfl, HFX.out, HBC.out⟩)
                    case measure => simp [intOf]; omega
                  · have HF := HNX3.out
                    rw [if_neg hk, HSF.out] at HF
                    cases last
                    · obtain ⟨db, hdb⟩ : ∃ db, durR X ⟨o0, o1, o2, false, o4, o5, o6, o7⟩ = db := ⟨_, rfl⟩
                      rw [hdb] at HF HDO
                      have HFX := Lib.hid HF
                      unfold Opr.agg at HDO
                      simp only at HDO
                      clear HF hdb
                      go_wp2_with fail
                      refine HDO.out.mono ?_
                      rintro r w3 ⟨rfl, hb3⟩
                      have HB3 := Lib.hid (HBC.out.trans (hb3.mono HBC.out.size))
                      clear hb3 d0 d1 d2 d3 d4 d5 d6 d7 y1
                      cases db
                      · go_wp2
                        go_roundw
                        case rel =>
                          first
                          | exact ⟨q + 1, v1, e1, by omega, by go_num, rfl, rfl, by rw [HFX.out]; rfl, HB3.out⟩
                          | (repeat apply Exists.intro
                             apply And.intro
                             case right => (repeat' apply And.intro) <;> rfl
                             case left => first | exact ⟨q + 1, v1, e1, by omega, by go_num, rfl, rfl, by rw [HFX.out]; rfl, HB3.out⟩ | exact ⟨q + 1, by omega, by go_num, v1, rfl, e1, rfl, by rw [HFX.out]; rfl, HB3.out⟩)
                        case measure => simp [intOf]; omega
                      · go_wp2
                        go_ret2
                        exact ⟨by rw [HEQ.out, HFX.out]; rfl, HB1.out.trans (HB3.out.mono HB1.out.size)⟩
                    · have HFX := Lib.hid HF
                      clear HF
                      go_wp2
                      go_roundw
                      case rel =>
                        first
                        | exact ⟨q + 1, v1, e1, by omega, by go_num, rfl, rfl, by rw [HFX.out]; rfl, HBC.out⟩
                        | (repeat apply Exists.intro
                           apply And.intro
                           case right => (repeat' apply And.intro) <;> rfl
                           case left => first | exact ⟨q + 1, v1, e1, by omega, by go_num, rfl, rfl, by rw [HFX.out]; rfl, HBC.out⟩ | exact ⟨q + 1, by omega, by go_num, v1, rfl, e1, rfl, by rw [HFX.out]; rfl, HBC.out⟩)
                      case measure => simp [intOf]; omega
                · have he' : (o2 != v1) = true := by simpa using he
                  have HF : Hid (ex = none) := by
                    unfold Hid
                    rw [HNX2.out, show (o2 == v1) = false by simpa using he]
                    rfl
                  clear he
                  go_wp2
                  go_ret2
                  exact ⟨by rw [HEQ.out, HF.out]; rfl, HB1.out.trans (HBC.out.mono HB1.out.size)⟩
              · have hnx3 := HNX2.out
                simp only [Bool.not_true, Bool.false_and, Bool.false_eq_true, if_false, if_true] at hnx3
                have HNX3 := Lib.hid hnx3
                clear hnx3
                by_cases hk : (q : Int) < kept
                · have HF := HNX3.out
                  rw [if_pos hk] at HF
                  have HFX := Lib.hid HF
                  clear HF
                  go_wp2
                  go_roundw
                  case rel =>
                    first
                    | exact ⟨q + 1, o2, o2, by omega, by go_num, rfl, rfl, HFX.out, HBC.out⟩
                    | (repeat apply Exists.intro
                       apply And.intro
                       case right => (repeat' apply And.intro) <;> rfl
                       case left => first | exact ⟨q + 1, o2, o2, by omega, by go_num, rfl, rfl, HFX.out, HBC.out⟩ | exact ⟨q + 1, by omega, by go_num, o2, rfl, o2, rfl, HFX.out, HBC.out⟩)
                  case measure => simp [intOf]; omega
                · have HF := HNX3.out
                  rw [if_neg hk, HSF.out] at HF
                  cases last
                  · obtain ⟨db, hdb⟩ : ∃ db, durR X ⟨o0, o1, o2, true, o4, o5, o6, o7⟩ = db := ⟨_, rfl⟩
                    rw [hdb] at HF HDO
                    have HFX := Lib.hid HF
                    unfold Opr.agg at HDO
                    simp only at HDO
                    clear HF hdb
                    go_wp2_with fail
                    refine HDO.out.mono ?_
                    rintro r w3 ⟨rfl, hb3⟩
                    have HB3 := Lib.hid (HBC.out.trans (hb3.mono HBC.out.size))
                    clear hb3 d0 d1 d2 d3 d4 d5 d6 d7 y1
                    cases db
                    · go_wp2
                      go_roundw
                      case rel =>
                        first
                        | exact ⟨q + 1, o2, e1, by omega, by go_num, rfl, rfl, by rw [HFX.out]; rfl, HB3.out⟩
                        | (repeat apply Exists.intro
                           apply And.intro
                           case right => (repeat' apply And.intro) <;> rfl
                           case left => first | exact ⟨q + 1, o2, e1, by omega, by go_num, rfl, rfl, by rw [HFX.out]; rfl, HB3.out⟩ | exact ⟨q + 1, by omega, by go_num, o2, rfl, e1, rfl, by rw [HFX.out]; rfl, HB3.out⟩)
                      case measure => simp [intOf]; omega
                    · go_wp2
                      go_ret2
                      exact ⟨by rw [HEQ.out, HFX.out]; rfl, HB1.out.trans (HB3.out.mono HB1.out.size)⟩
                  · have HFX := Lib.hid HF
                    clear HF
                    go_wp2
                    go_roundw
                    case rel =>
                      first
                      | exact ⟨q + 1, o2, e1, by omega, by go_num, rfl, rfl, by rw [HFX.out]; rfl, HBC.out⟩
                      | (repeat apply Exists.intro
                         apply And.intro
                         case right => (repeat' apply And.intro) <;> rfl
                         case left => first | exact ⟨q + 1, o2, e1, by omega, by go_num, rfl, rfl, by rw [HFX.out]; rfl, HBC.out⟩ | exact ⟨q + 1, by omega, by go_num, o2, rfl, e1, rfl, by rw [HFX.out]; rfl, HBC.out⟩)
                    case measure => simp [intOf]; omega
        · obtain rfl : n = ids.length := by omega
          have HF : Hid (ex = some e1) := by unfold Hid; rw [HEX.out, List.drop_eq_nil_of_le (by rw [HXL.out]; exact Nat.le_refl _)]; rfl
          clear hb
          go_wp2
          go_ret2
          exact ⟨by rw [HEQ.out, HF.out]; rfl, HBW.out⟩
end Go.Proofs.YtcgbnlhloopnfaaDoor
namespace Go.Proofs.YtcgbnlhloopnfaaDoor
open Go.RowKit

def accM (os : List Opr) (cuts i : Nat) (r : List (List Int × Int)) : Option Int → Bool
  | none => false
  | some v => accR os cuts (i + 1) v r
theorem accR_step {os : List Opr} {cuts i : Nat} {v : Int} {x : List Int × Int} {r : List (List Int × Int)} : accR os cuts i v (x :: r) = accM os cuts i r (expR (eraO os i) (i == cuts) x.1 x.2 v) := by
  unfold expR
  rw [accR]
  by_cases h : keptOk (i == cuts) (x.1, x.2) = true
  · rw [if_pos h, if_pos h]
    cases followR (eraO os i) (fun o => !(i == cuts) && durR (eraO os i) o) x.2 v x.1 <;> rfl
  · rw [if_neg h, if_neg h]
    rfl
set_option maxHeartbeats 8000000 in
set_option maxRecDepth 100000 in
theorem raccepts_any (l : List Ev) (xs : List (List Int × Int)) (A Aw : Option Addr) (c cw B : Nat) (w : World) (h : EvS w B A l) (hW : WinS w B Aw xs) (hB : B ≤ w.heap.size) (hlen : l.length ≤ 100000) (hlx : ∀ x ∈ xs, x.1.length ≤ 100000) (hxl : xs.length ≤ 100000) :
    Calls Tryd.prog 17 #[.slice A l.length c, .slice Aw xs.length cw] w (AccP l xs w) := by
  have HON := Lib.hid (one_any l A c B w h hB hlen)
  unfold AccP
  have hcb : cutsL l ≤ 100000 := Nat.le_trans List.countP_le_length hlen
  cases hone : oneL l
  case false =>
    rw [hone] at HON
    simp only [Bool.false_eq_true, if_false]
    clear h hcb hone hW hlx hxl
    go_enter Tryd.func17, Tryd.ntmps17
    go_wp2_with fail
    refine HON.out.mono ?_
    rintro r w1 ⟨rfl, hb1⟩
    go_wp2
    go_ret2
    exact ⟨hb1, rfl⟩
  case true =>
    have hv : validL l = true := by
      unfold oneL at hone
      rcases hv : validL l with _ | _
      · rw [hv] at hone; cases hone
      · rfl
    rw [hone] at HON
    simp only [if_true]
    have HER := Lib.hid (fun W (hW' : Below w.heap.size w W) => eras_any l A c B W (h.below' hW' hB) (Nat.le_trans hB hW'.size) hlen hv)
    unfold ErasP at HER
    have hol : (rawOps l).length ≤ 100000 := Nat.le_trans (rawTo_bd l l.length).1 hlen
    have HND := Lib.hid (nd_ids hv)
    have HOL := Lib.hid hol
    have HWI := Lib.hid hW
    have HLX := Lib.hid hlx
    clear h hone hv hol hW hlx
    obtain ⟨os, hos⟩ : ∃ os, rawOps l = os := ⟨_, rfl⟩
    obtain ⟨cuts, hcuts⟩ : ∃ n, cutsL l = n := ⟨_, rfl⟩
    rw [hos] at HND HOL
    rw [hcuts] at hcb
    simp only [hos, hcuts] at HER ⊢
    clear hos hcuts
    rw [acc_eq HND.out]
    obtain ⟨acc, hacc⟩ : ∃ acc, (decide (xs.length = cuts + 1) && accR os cuts 0 0 xs) = acc := ⟨_, rfl⟩
    have HAC := Lib.hid hacc
    simp only [hacc]
    clear hacc
    go_enter Tryd.func17, Tryd.ntmps17
    go_wp2_with fail
    refine HON.out.mono ?_
    rintro r w0 ⟨rfl, hb0⟩
    have HB0 := Lib.hid hb0
    clear hb0
    go_wp2_with fail
    refine (HER.out _ HB0.out).mono ?_
    rintro r w1 ⟨⟨g, cap, rfl, her⟩, hb1⟩
    have HM := Lib.hid her
    have HB1 := Lib.hid (HB0.out.trans (hb1.mono HB0.out.size))
    clear her hb1 HER HON
    by_cases hxc : xs.length = cuts + 1
    case neg =>
      have hne : ((xs.length : Int) != (cuts : Int) + 1) = true := by simp; omega
      have hne2 : ((xs.length : Int) != ((cuts + 1 : Nat) : Int)) = true := by simp; omega
      have HF : Hid (acc = false) := by unfold Hid; rw [← HAC.out, show decide (xs.length = cuts + 1) = false by simpa using hxc]; rfl
      go_wp2
      go_ret2
      exact ⟨HB1.out, by rw [HF.out]; rfl⟩
    case pos =>
      have hne : ((xs.length : Int) != (cuts : Int) + 1) = false := by simp; omega
      have hne2 : ((xs.length : Int) != ((cuts + 1 : Nat) : Int)) = false := by simp; omega
      have HAA : Hid (accR os cuts 0 0 xs = acc) := by unfold Hid; rw [← HAC.out, show decide (xs.length = cuts + 1) = true by simpa using hxc]; rfl
      have HXC := Lib.hid hxc
      clear HAC
      go_wp2_with fail
      clear hne hne2 hxc
      go_loopw [7, 8] (fun s7 s8 wr => ∃ (i : Nat) (v : Int), i ≤ cuts + 1 ∧ s8 = .int .i64 i ∧ s7 = .int .i64 v ∧ accR os cuts i v (xs.drop i) = acc ∧ Below w1.heap.size w1 wr) (fun _ s8 _ => cuts + 1 - (intOf s8).toNat)
      case atStart => exact ⟨0, 0, by omega, rfl, rfl, by simpa using HAA.out, Below.refl _ _⟩
      case round =>
        obtain ⟨i, v, hi, rfl, rfl, hac, hb⟩ := hrel
        have HA := Lib.hid hac
        have HB := Lib.hid hb
        have HBW := Lib.hid (HB1.out.trans (hb.mono HB1.out.size))
        have hzr := hb.size
        clear hac hb
        by_cases hlt : i < cuts + 1
        · have hix : i < xs.length := by rw [HXC.out]; exact hlt
          obtain ⟨x, hx⟩ : ∃ x, xs[i]? = some x := ⟨_, List.getElem?_eq_getElem hix⟩
          have HDR : Hid (xs.drop i = x :: xs.drop (i + 1)) := by unfold Hid; rw [List.drop_eq_getElem_cons hix]; congr 1; exact Option.some.inj ((List.getElem?_eq_getElem hix).symm.trans hx)
          obtain ⟨Ae, ce, hat⟩ := HM.out.at_ hlt
          have HAT := Lib.hid hat
          have hXl : (eraO os i).length ≤ 100000 := Nat.le_trans (List.length_filter_le _ _) HOL.out
          have hXn : ((eraO os i).map (·.id)).Nodup := List.Nodup.sublist (List.Sublist.map _ List.filter_sublist) HND.out
          obtain ⟨xo, xk⟩ := x
          have HXL := Lib.hid (HLX.out _ (List.mem_of_getElem? hx))
          obtain ⟨bw, ow, Ai, ci, rfl, hbw, hwx⟩ := HWI.out.at_ hx
          have HWX : Hid (∀ W, Below w.heap.size w W → W.cell? ⟨bw, ow + i * 2, none⟩ = some (.slice Ai xo.length ci) ∧ W.cell? ⟨bw, ow + i * 2 + 1, none⟩ = some (.int .i64 xk) ∧ IntS W B Ai xo) := fun W hW => hwx W _ hW hB
          obtain ⟨lb, hlb⟩ : ∃ lb, (i == cuts) = lb := ⟨_, rfl⟩
          obtain ⟨fr, hfr⟩ : ∃ fr, expR (eraO os i) (i == cuts) xo xk v = fr := ⟨_, rfl⟩
          have HAF : Hid (acc = accM os cuts i (xs.drop (i + 1)) fr) := by unfold Hid; rw [← HA.out, HDR.out, accR_step, hfr]
          rw [hlb] at hfr
          have hlbI : ((i : Int) == (cuts : Int)) = lb := by rw [← hlb, Bool.eq_iff_iff]; simp; omega
          have HFO : Hid (∀ W, Below w1.heap.size w1 W → Calls Tryd.prog 34 #[.slice Ae (eraO os i).length ce, .agg #[.slice Ai xo.length ci, .int .i64 xk], .int .i64 v, .bool lb] W fun r w' => r = resF fr ∧ Below W.heap.size W w') := (fun W (hW : Below w1.heap.size w1 W) => hfr ▸ explains_any hXn lb xo xk v Ae Ai ce ci W.heap.size W ((HAT.out W hW).2.reads) ((HWX.out W (HB1.out.trans (hW.mono HB1.out.size))).2.2.more (Nat.le_trans hB (HB1.out.trans (hW.mono HB1.out.size)).size)) (Nat.le_refl _) hXl HXL.out)
          clear hlb hfr hx hwx hat hXn
          have hil : (i : Int) < (cuts : Int) + 1 := by omega
          have hixl : (i : Int) < (xs.length : Int) := by omega
          have hsub : IntKind.i64.wrap ((cuts : Int) + 1 - 1) = (cuts : Int) := by rw [show (cuts : Int) + 1 - 1 = cuts by omega]; exact IntWalk.i64_in _ (by omega)
          generalize (eraO os i).length = xl at *
          go_upto_region 11 with (fail)
          have hbg := fun d xs' => HB.out.trans ((below_regrown wr d xs').mono hzr)
          have y0 := fun d xs' => (HAT.out _ (hbg d xs')).1
          have u0 := fun d xs' => (HWX.out _ (HB1.out.trans ((hbg d xs').mono HB1.out.size))).1
          have u1 := fun d xs' => (HWX.out _ (HB1.out.trans ((hbg d xs').mono HB1.out.size))).2.1
          have HFW := Lib.hid (fun d xs' => HFO.out _ (hbg d xs'))
          clear hbg
          cases fr
          · refine quiet_below (by kernel_rfl) (by kernel_rfl) ?_
            repeat (go_big_quiet_step ((go_at_call 34; exact Calls.regrown_of (HFW.out _ _))))
            refine wpQuiet_nil ?_
            intro W3 hb3
            clear y0 u0 u1
            have HB3 := Lib.hid (HB1.out.trans ((HB.out.trans (hb3.mono hzr)).mono HB1.out.size))
            go_wp2
            go_ret2
            exact ⟨HB3.out, by rw [HAF.out]; rfl⟩
          · refine quiet_below (by kernel_rfl) (by kernel_rfl) ?_
            repeat (go_big_quiet_step ((go_at_call 34; exact Calls.regrown_of (HFW.out _ _))))
            refine wpQuiet_nil ?_
            intro W3 hb3
            clear y0 u0 u1
            have HB3 := Lib.hid (HB.out.trans (hb3.mono hzr))
            go_wp2
            go_roundw
            case rel => exact ⟨i + 1, _, by omega, by go_num, rfl, HAF.out.symm, HB3.out⟩
            case measure => simp [intOf]; omega
        · obtain rfl : i = cuts + 1 := by omega
          have HF : Hid (acc = true) := by unfold Hid; rw [← HA.out, List.drop_eq_nil_of_le (by rw [HXC.out]; exact Nat.le_refl _)]; rfl
          go_wp2
          go_ret2
          exact ⟨HBW.out, by rw [HF.out]; rfl⟩
end Go.Proofs.YtcgbnlhloopnfaaDoor
