/- Walk of a visit of the search: the closure of from. -/
import Derived.Test.YtcgbnlhloopnfaaGFnI
namespace Go.Proofs.Ytcgbnlhloopnfaa
open Go.RowKit
variable [BaseW]

set_option maxHeartbeats 8000000 in
set_option maxRecDepth 100000 in
theorem visit_any {os : List Opr} {cuts sb mb eb ce k : Nat} {LF L : List Lit} {v : Int} {out : List (List Int × Int)} {fb me c1 c2 c3 : Nat} {Ao As : Option Addr} {co cs : Nat} (hids : (os.map (·.id)).Nodup) (hk : k ≤ cuts) (hcuts : cuts ≤ 100000) (hv : v ∈ valsO os)
    (hlen : (eraX os k).length ≤ 16) (hL : ∀ s, StOk (eraX os k) s → pKey s.1 s.2 ∈ L) (hLn : L.length < maxLen) (hne : mb ≠ me) (hout : out.length = k)
    (hnx : ∀ v' out' ov ff W, v' ∈ valsO os → out'.length = k + 1 → SInv W os cuts sb mb eb ce LF out' ov ff →
      Calls Try.prog 55 #[.pointer (some ⟨sb, 0, none⟩), .int .i64 ((k : Int) + 1), .int .i64 v'] W fun r w' => FromP os cuts sb mb eb ce LF (k + 1) v' out' W r w')
    (s : St) (p : List Nat) (A : Option Addr) (n c : Nat) (w : World) (hs : StOk (eraX os k) s) (hp : Path (eraX os k) v (0, -1) p s) (hj : JW os cuts sb mb eb ce LF L k v out fb me c1 c2 c3 Ao As co cs w) (hO : OwS w 0 3 1 (.slice A n c) ((idsOf (eraX os k) p).map icell)) :
    Calls Try.prog 73 #[s.agg, .slice A n c, .pointer (some ⟨c1, 0, none⟩), .pointer (some ⟨c2, 0, none⟩), .pointer (some ⟨c3, 0, none⟩)] w
      fun r w' => VisP [sb, mb, me] (JW os cuts sb mb eb ce LF L k v out fb me c1 c2 c3 Ao As co cs) (DoneW os cuts sb mb eb ce LF k v out) (VisS os cuts k v) s w r w' := by
  obtain ⟨ov, ff, fe, hJ⟩ := hj
  obtain ⟨S, l⟩ := s
  have hmp := hp.miss
  have hX0 : missS (eraX os k) 0 ≤ (eraX os k).length := by unfold missS; exact Nat.le_trans List.countP_le_length (by simp)
  have hpl : p.length + missS (eraX os k) S ≤ 16 := by simp only at hmp; omega
  have hnp : n = p.length := by
    obtain ⟨-, h2, -⟩ := ord_cells hO
    rw [h2]; simp [idsOf]
  have hcovq : covS (eraX os k) (fun i => (sfX os k)[i]?.getD false) S = covS (eraX os k) (safeX os k) S := covS_congr fun i hi => sfX_at hi
  have HC : Hid (∀ W, FinV W fb me (eraX os k) (sfX os k) (k == cuts) v Ao As co cs → (∀ W2, Below W.heap.size W W2 → W2.cell? ⟨c1, 0, none⟩ = some (.pointer (some ⟨fb, 0, none⟩))) → Calls Try.prog 74 #[.pointer (some ⟨fb, 0, none⟩), .agg #[.int .i64 (S : Int), .int .i64 l], .func (.func 75) #[] #[.pointer (some ⟨c1, 0, none⟩)]] W
      fun r w' => r = .returned (.bool (covS (eraX os k) (fun i => (sfX os k)[i]?.getD false) S)) ∧ Below W.heap.size W w') :=
      fun W hW hy => covs_any c1 fb me (fun i => (sfX os k)[i]?.getD false) (S, l) W hW hs.1 hlen fun i hi W2 hb => saf_any c1 fb me i W2 (hy W2 hb) (hW.below hb) hi
  rw [hcovq] at HC
  have HJ := Lib.hid hJ
  have HO := Lib.hid hO
  have HSt := Lib.hid hs
  have HP := Lib.hid hp
  have HNX := Lib.hid hnx
  have HL := Lib.hid hL
  have HLn := Lib.hid hLn
  have HNP := Lib.hid hnp
  have HOUT := Lib.hid hout
  have hn16 : n ≤ 16 := by omega
  clear hmp hX0 hcovq hJ hO hs hp hnx hL hLn hnp hout
  obtain ⟨cv, hcv⟩ : ∃ cv, covS (eraX os k) (safeX os k) S = cv := ⟨_, rfl⟩
  rw [hcv] at HC
  have HCV := Lib.hid hcv
  clear hcv
  have HJ0 := Lib.hid (HJ.out.below (below_laid (o := .cells #[.int .i64 (S : Int), .int .i64 l] 132)))
  have hx0 : (w.alloc (.cells #[.int .i64 (S : Int), .int .i64 l] 132)).heap[w.heap.size]? = some (.cells #[.int .i64 (S : Int), .int .i64 l] 132) := heap_new_at _ _ rfl
  have HX0 := Lib.hid hx0
  obtain ⟨j1, j2, j3⟩ := HJ0.out.cells
  obtain ⟨y0, y1⟩ := stBox hx0
  unfold St.agg
  simp only
  go_enter Try.func73, Try.ntmps73
  go_wp2_with fail
  refine (HC.out _ HJ0.out.f (fun W2 hb => (HJ0.out.below hb).cells.1)).mono ?_
  rintro r w1 ⟨rfl, hb1⟩
  have HJ1 := Lib.hid (HJ0.out.below hb1)
  have HX1 := Lib.hid (keptB HX0.out hb1)
  have HB1 := Lib.hid ((below_laid (o := .cells #[.int .i64 (S : Int), .int .i64 l] 132)).trans (hb1.mono (by simp)))
  clear HJ0 HX0 hx0 j1 j2 j3 y0 y1 hb1 HC
  cases cv
  case false =>
    go_wp2
    go_ret
    exact ⟨false, rfl, .of HB1.out, fun h => absurd h (by simp), fun _ => ⟨⟨ov, ff, fe, HJ1.out⟩, fun hvis => absurd (HCV.out.symm.trans hvis.1) (by simp)⟩⟩
  case true =>
    have HCL := Lib.hid (clone_ord w1 (HO.out.below HB1.out) (by omega))
    go_wp2_with fail
    refine HCL.out.mono ?_
    rintro r w2 ⟨v2, rfl, ho2, hb2⟩
    obtain ⟨A2, n2, cap2, rfl⟩ := ho2.isSlice
    have hz2 := hb2.size
    have hb2' := hb2.alloc hb2.size (.cells #[.slice A2 n2 cap2] 29)
    have HJ3 := Lib.hid (HJ1.out.below hb2')
    have HX3 := Lib.hid (keptB HX1.out hb2')
    have HV3 : Hid (Var1 (w2.alloc (.cells #[.slice A2 n2 cap2] 29)) w2.heap.size (.slice A2 n2 cap2) 29) := heap_new_at _ _ rfl
    have HO3 := Lib.hid (ho2.alloc (.cells #[.slice A2 n2 cap2] 29))
    have HB3 := Lib.hid hb2'
    have hz3 : w1.heap.size ≤ (w2.alloc (.cells #[.slice A2 n2 cap2] 29)).heap.size := hb2'.size
    have HZ3 := Lib.hid hz3
    have HZ2 := Lib.hid hz2
    go_upto_region 4 with (fail)
    clear ho2 hb2 hb2' hz3 hz2
    go_cut [33] (fun s33 wx => ComQ os cuts k v p (S, l) w1.heap.size me w2.heap.size L (w2.alloc (.cells #[.slice A2 n2 cap2] 29)) s33 wx)
    case first =>
      have HCP := Lib.hid (complete_any fb me w2.heap.size w1.heap.size hlen HL.out HLn.out HZ2.out 17 (S, l) (idsOf (eraX os k) p) (.slice A2 n2 cap2) fe _ (by simp only; omega) HSt.out HJ3.out.f HZ3.out HV3.out HO3.out HJ3.out.m HJ3.out.sd (by simp [idsOf]; omega))
      obtain ⟨j1, j2, j3⟩ := HJ3.out.cells
      obtain ⟨y0, y1⟩ := stBox HX3.out
      unfold St.agg at HCP
      simp only at HCP
      generalize w2.alloc _ = w3 at *
      go_wp2_with fail
      refine HCP.out.mono ?_
      rintro r w5 ⟨b, ov5, f5, rfl, hp5⟩
      have HP5 := Lib.hid hp5
      clear hp5 j1 j2 j3 y0 y1 HCP
      cases b
      case false =>
        go_wp2_with fail
        go_meet
        exact ⟨true, ov5, f5, rfl, HP5.out.bel, HP5.out.var, HP5.out.map, HP5.out.sound, fun _ hvis => (HP5.out.no rfl).1 hvis.2.1, fun h => absurd h (by simp)⟩
      case true =>
        obtain ⟨q, u, p1, p2, p3, p4⟩ := HP5.out.yes rfl
        rw [show idsOf (eraX os k) p ++ idsOf (eraX os k) q = idsOf (eraX os k) (p ++ q) by simp [idsOf]] at p4
        obtain ⟨A5, c5, rfl, -, -⟩ := p4.form
        have HP1 := Lib.hid p1
        have HP2 := Lib.hid p2
        have HP3 := Lib.hid p3
        have HP4 := Lib.hid p4
        obtain ⟨m5, hm5⟩ : ∃ m5, p.length + q.length = m5 := ⟨_, rfl⟩
        rw [show ((idsOf (eraX os k) (p ++ q)).map icell).length = m5 by simp [idsOf]; exact hm5] at HP4 HP5
        have HM5 := Lib.hid hm5
        have hJ5 := HJ1.out.com hne ((BelR.of HB3.out (Nat.le_refl _)).trans HP5.out.bel) HP5.out.map HP5.out.sound
        obtain ⟨f0, f1, f2, f3, f4⟩ := hJ5.f.cells
        obtain ⟨j1, j2, j3⟩ := hJ5.cells
        have v5 : w5.cell? ⟨w2.heap.size, 0, none⟩ = some (.slice A5 m5 c5) := by rw [cell_of_row _ _ _ _ _ _ HP5.out.var]; rfl
        clear p1 p2 p3 p4 hJ5 hm5 f0 f1 f3 f4
        obtain ⟨lb, hlb⟩ : ∃ lb, (k == cuts) = lb := ⟨_, rfl⟩
        rw [hlb] at f2
        have HLB := Lib.hid hlb
        clear hlb
        cases lb
        case false =>
          go_wp2_with fail
          go_meet
          exact ⟨false, _, f5, rfl, HP5.out.bel, HP5.out.var, HP5.out.map, HP5.out.sound, fun h => absurd h (by simp), fun _ => ⟨q, u, HP1.out, HP2.out, fun hkc => absurd HLB.out (by simp [hkc]), HP4.out⟩⟩
        case true =>
          by_cases hq : m5 = n
          · have hq1 : ((m5 : Int) != (n : Int)) = false := by simp [hq]
            have HQ := Lib.hid hq
            clear hq
            go_wp2_with fail
            go_meet
            exact ⟨false, _, f5, rfl, HP5.out.bel, HP5.out.var, HP5.out.map, HP5.out.sound, fun h => absurd h (by simp), fun _ => ⟨q, u, HP1.out, HP2.out, fun _ => List.eq_nil_of_length_eq_zero (by have h1 := HM5.out; have h2 := HQ.out; have h3 := HNP.out; omega), HP4.out⟩⟩
          · have hq1 : ((m5 : Int) != (n : Int)) = true := by simp; omega
            have HQ := Lib.hid hq
            clear hq
            go_wp2_with fail
            go_meet
            exact ⟨true, _, f5, rfl, HP5.out.bel, HP5.out.var, HP5.out.map, HP5.out.sound, fun _ hvis => HQ.out (by
              have h0 := HP3.out (hvis.2.2.1 (by simpa using HLB.out))
              rw [← HM5.out, h0, HNP.out]
              rfl), fun h => absurd h (by simp)⟩
    case rest =>
      obtain ⟨x, ov5, f5, rfl, hb5, hv5, hm5, hs5, hx5, hy5⟩ := hcut
      have hb15 := (BelR.of (rb := me) HB3.out (Nat.le_refl _)).trans hb5
      have HJ5 := Lib.hid (HJ1.out.com hne hb15 hm5 hs5)
      have HX5 := Lib.hid (cells_stay HX1.out hb15 HJ1.out.m.isMap)
      have HF5 : Hid (FrE [sb, mb, me] 138 w wc) := (FrE.of HB1.out).trans (FrE.ofBelR hb15 (by simp))
      have HXX := Lib.hid hx5
      have HYY := Lib.hid hy5
      have HV5 := Lib.hid hv5
      clear hb15 hb5 hv5 hm5 hs5 hx5 hy5 HJ3 HX3 HV3 HO3 HB3 HZ3
      cases x
      case true =>
        go_wp2
        go_ret
        exact ⟨false, rfl, HF5.out, fun h => absurd h (by simp), fun _ => ⟨⟨ov, ff, f5, HJ5.out⟩, HXX.out (by simp)⟩⟩
      case false =>
        obtain ⟨q, u, p1, p2, p3, p4⟩ := HYY.out (by simp)
        obtain ⟨A5, c5, rfl, -, -⟩ := p4.form
        rw [show ((idsOf (eraX os k) (p ++ q)).map icell).length = (idsOf (eraX os k) (p ++ q)).length by simp] at p4 HV5
        obtain ⟨ids, hids5⟩ : ∃ ids, idsOf (eraX os k) (p ++ q) = ids := ⟨_, rfl⟩
        rw [hids5] at p4 HV5
        have HIDS := Lib.hid hids5
        obtain ⟨es, e1, e2, e3⟩ := HJ5.out.s.out
        obtain ⟨Aw, nw, cw, rfl⟩ := e2.isSlice
        have HP1 := Lib.hid p1
        have HP2 := Lib.hid p2
        have HP3 := Lib.hid p3
        have HP4 := Lib.hid (p4.mono (Nat.zero_le _))
        have HE1 := Lib.hid e1
        have HE2 := Lib.hid e2
        have HE3 := Lib.hid e3
        have hel : es.length ≤ 100000 := by
          have h1 := HOUT.out
          rw [← e1, List.length_map] at h1
          omega
        have HEL := Lib.hid hel
        obtain ⟨sb0, sb1, sb2⟩ := HJ5.out.s.cells
        obtain ⟨j1, j2, j3⟩ := HJ5.out.cells
        have v5 : wc.cell? ⟨w2.heap.size, 0, none⟩ = some (.slice A5 ids.length c5) := by rw [cell_of_row _ _ _ _ _ _ HV5.out]; rfl
        have hsl : sb < wc.heap.size := (Array.getElem?_eq_some_iff.1 HJ5.out.s.blk).1
        have hc1l : c1 < wc.heap.size := (Array.getElem?_eq_some_iff.1 HJ5.out.x1).1
        have hc2l : c2 < wc.heap.size := (Array.getElem?_eq_some_iff.1 HJ5.out.x2).1
        have hv5l : w2.heap.size < wc.heap.size := (Array.getElem?_eq_some_iff.1 HV5.out).1
        clear p1 p2 p3 p4 e1 e2 e3 hel hids5 HYY HXX
        go_upto_region 6 with (fail)
        go_cut [7] (fun s7 wx => s7 = .bool false ∧ ∃ ov6, JV os cuts sb mb eb ce LF L k v (out ++ [(ids, (n : Int))]) fb me c1 c2 c3 Ao As co cs wx ov6 ff f5 ∧ FrE [sb, mb] 138 wc wx)
        case first =>
          go_region_law (refine step_ap1 (by rfl) (.tmp 38) (.tmp 43) _ (by rfl) elemEra (by rfl) (HE2.out.drewN 1) (eraRow (.slice A5 ids.length c5, (ids, (n : Int)))) _ (by rfl) wc.heap.size (by rfl) (by simp) (by intro u hu; simp [eraRow] at hu; rcases hu with rfl | rfl <;> rfl) (by have := HEL.out; simp [maxLen]; omega) (by have := HEL.out; simp; omega) (by have := HJ5.out.s.bb; simp; omega) ?_; intro v6 w6 hown6 hg6 hv6; obtain ⟨A6, n6, c6, rfl⟩ := hown6.isSlice; have hg6' := grow_drewN (grow_alloc hg6); have hb6 : w6.heap[sb]? = some (.cells #[.slice (some ⟨eb, 0, none⟩) (cuts + 1) ce, .map (some mb), .slice Aw nw cw] 100 (0, 0)) := (hg6'.block sb (by omega) (HE2.out.notRow HJ5.out.s.blk (by decide))).trans HJ5.out.s.blk; have d0 := (cell_of_row w6 sb 2 _ _ _ hb6).trans (show _ = some (Value.slice Aw nw cw) from rfl); have y0 := frozen_of_row w6 sb 2 _ _ hb6; have hc26 : w6.heap[c2]? = some (.cells #[.pointer (some ⟨sb, 0, none⟩)] 97 (0, 0)) := (hg6'.block c2 (by omega) (HE2.out.notRow HJ5.out.x2 (by decide))).trans HJ5.out.x2; have j26 := (cell_of_row w6 c2 0 _ _ _ hc26).trans (show _ = some (Value.pointer (some ⟨sb, 0, none⟩)) from rfl))
          all_goals
            go_wp2_with fail
            go_meet
            obtain ⟨z1, z2⟩ := HJ5.out.s.setOut (out' := out ++ [(ids, (n : Int))]) hg6' (es := es ++ [(.slice A5 ids.length c5, (ids, (n : Int)))]) (by simp [HE1.out]) (by simpa using hown6) (by
              intro x hx
              rcases List.mem_append.1 hx with hx | hx
              · exact HE3.out x hx
              · simp at hx
                subst hx
                exact ⟨⟨_, _, rfl⟩, HP4.out⟩)
            exact ⟨rfl, _, HJ5.out.other hne z2 z1, z2⟩
        case rest =>
          obtain ⟨rfl, ov6, hj6, hf6⟩ := hcut
          have HJ6 := Lib.hid hj6
          have HF6 : Hid (FrE [sb, mb, me] 138 w wc) := HF5.out.trans (FrE.sub hf6 (by intro q hq; simp at hq ⊢; rcases hq with rfl | rfl <;> simp))
          have HX6 := Lib.hid (hf6.cells_keep HX5.out (HJ5.out.notIn HX5.out (by decide)) (by decide))
          clear hj6 hf6 sb0 sb1 sb2 j1 j2 j3 v5
          obtain ⟨j1, j2, j3⟩ := HJ6.out.cells
          obtain ⟨y0, y1⟩ := stBox HX6.out
          have G := fun d xs => HJ6.out.below (below_regrown wc d xs)
          have R := fun d xs => (G d xs).cells
          have Y := fun d xs => stBox (keptB HX6.out (below_regrown wc d xs))
          have HVL := Lib.hid (fun d xs => val_any fb me (S, l) (Sort.grow (redrawn wc d) xs) (G d xs).f HSt.out.2.2)
          unfold St.agg at HVL
          simp only at HVL
          have hvm := valS_mem (k := k) (l := l) hv
          have HVM := Lib.hid hvm
          obtain ⟨v', hv'⟩ : ∃ v', valS (eraX os k) v l = v' := ⟨_, rfl⟩
          rw [hv'] at HVL
          have HV' := Lib.hid hv'
          have hwr : IntKind.i64.wrap ((k : Int) + 1) = (k : Int) + 1 := IntWalk.i64_in _ (by omega)
          clear G hvm hv'
          go_upto_region 7 with (fail)
          refine quiet_tail 6 (by kernel_rfl) (by kernel_rfl) ?_
          simp only [List.take_succ_cons, List.take_zero, List.drop_succ_cons, List.drop_zero]
          repeat (go_big_quiet_step ((go_at_call 78; exact Calls.regrown_of (HVL.out _ _))))
          refine wpQuiet_nil ?_
          intro w7 hb7
          have HJ7 := Lib.hid (HJ6.out.below hb7)
          have HX7 := Lib.hid (keptB HX6.out hb7)
          have HF7 := Lib.hid (HF6.out.trans (.of hb7))
          clear R Y j1 j2 j3 y0 y1 hb7 HVL hwr
          go_wp2_with fail
          refine (HNX.out v' _ ov6 ff w7 (by rw [← HV'.out]; exact HVM.out) (by rw [List.length_append, HOUT.out]; rfl) HJ7.out.s).mono ?_
          rintro r w8 ⟨b, rfl, hf8, hd8, hn8⟩
          have HF8 := Lib.hid hf8
          have HD8 := Lib.hid hd8
          have HN8 := Lib.hid hn8
          have HF98 : Hid (FrE [sb, mb, me] 138 w w8) := HF7.out.trans (FrE.sub hf8 (by intro q hq; simp at hq ⊢; rcases hq with rfl | rfl <;> simp))
          clear hf8 hd8 hn8
          cases b
          case true =>
            go_wp2
            go_ret
            refine ⟨true, rfl, HF98.out, fun _ => ?_, fun h => absurd h (by simp)⟩
            obtain ⟨wl, ov8, ff8, l1, l2, l3⟩ := HD8.out (by simp)
            refine ⟨(ids, (n : Int)) :: wl, ov8, ff8, by simp; omega, ?_, by rw [List.append_assoc] at l3; exact l3⟩
            rw [← HIDS.out, HNP.out]
            exact acc_cons hids HP.out HCV.out HP1.out HP2.out HP3.out (by rw [HV'.out]; exact l2)
          case false =>
            obtain ⟨hne8, ov8, ff8, hs8⟩ := HN8.out (by simp)
            have HNE := Lib.hid hne8
            have HJ8 := Lib.hid (HJ7.out.other hne HF8.out hs8)
            clear hne8 hs8
            obtain ⟨es8, e1, e2, e3⟩ := HJ8.out.s.out
            obtain ⟨A8, cap8, rfl, -, -⟩ := e2.form
            have hl8 : (es8.map eraRow).length = k + 1 := by
              rw [List.length_map, ← List.length_map (f := Prod.snd), e1, List.length_append, HOUT.out]
              rfl
            obtain ⟨b8, o8, rfl, -⟩ := e2.reads.2 (by rw [hl8]; omega)
            have hc8 : k + 1 ≤ cap8 := by
              have := e2.form
              obtain ⟨_, _, he, h1, -⟩ := this
              injection he with _ _ he
              rw [hl8] at h1
              omega
            rw [hl8] at e2 HJ8
            have hsh := OwS.short e2 (m := k) (by rw [hl8]; omega)
            have HSH : Hid (OwS w8 BaseW.b 138 2 (.slice (some ⟨b8, o8, none⟩) k cap8) ((es8.take k).map eraRow)) := by unfold Hid; rw [List.map_take]; exact hsh
            have HE8 : Hid ((es8.take k).map Prod.snd = out) := by
              unfold Hid
              rw [List.map_take, e1, List.take_append_of_le_length (by rw [HOUT.out]; exact Nat.le_refl _), List.take_of_length_le (by rw [HOUT.out]; exact Nat.le_refl _)]
            have HR8 : Hid (∀ x ∈ es8.take k, OrdV w8 x.1 x.2.1) := fun x hx => e3 x (List.mem_of_mem_take hx)
            clear e1 e2 e3 hl8 hsh
            obtain ⟨sb0, sb1, sb2⟩ := HJ8.out.s.cells
            obtain ⟨j1, j2, j3⟩ := HJ8.out.cells
            have d1 : w8.drew.cell? ⟨sb, 2, none⟩ = some (.slice (some ⟨b8, o8, none⟩) (k + 1) cap8) := sb2
            have d2 : w8.drew.cell? ⟨c2, 0, none⟩ = some (.pointer (some ⟨sb, 0, none⟩)) := j2
            have d3 : w8.drew.frozen? ⟨sb, 2, none⟩ = false := frozen_of_row _ _ _ _ _ (show w8.drew.heap[sb]? = _ from HJ8.out.s.blk)
            have hsub : ((k : Int) + 1 - 1) = (k : Int) := by omega
            have hle8 : (k : Int) ≤ (cap8 : Int) := by omega
            have hge8 : (0 : Int) ≤ (k : Int) := by omega
            have hwr8 : IntKind.i64.wrap (k : Int) = (k : Int) := IntWalk.i64_in _ (by omega)
            go_upto_region 9 with (fail)
            refine still_tail_drew 14 (by kernel_rfl) (by kernel_rfl) ?_
            simp only [List.take_succ_cons, List.take_zero, List.drop_succ_cons, List.drop_zero]
            repeat still_step
            refine wpStill_nil ?_
            clear hsub hle8 hge8 hwr8
            obtain ⟨z1, z2⟩ := HJ8.out.s.setOut (out' := out) (w' := w8.drew) ⟨rfl, rfl, rfl, Nat.le_refl _, fun _ _ _ => rfl⟩ (ov' := .slice (some ⟨b8, o8, none⟩) k cap8) HE8.out HSH.out HR8.out
            have HZ1 := Lib.hid z1
            have HZ2 := Lib.hid z2
            clear z1 z2
            go_wp2
            go_ret
            refine ⟨false, rfl, HF98.out.trans (FrE.sub HZ2.out (by intro q hq; simp at hq ⊢; rcases hq with rfl | rfl <;> simp)), fun h => absurd h (by simp), fun _ => ⟨⟨_, _, _, HJ8.out.other hne HZ2.out HZ1.out⟩, fun hvis => HNE.out ?_⟩⟩
            rw [← HV'.out]
            exact hvis.2.2.2
end Go.Proofs.Ytcgbnlhloopnfaa
