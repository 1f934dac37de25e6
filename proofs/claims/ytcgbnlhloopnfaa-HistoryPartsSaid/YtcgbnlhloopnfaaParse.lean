/- Walk of history.parse. -/
import Derived.Test.YtcgbnlhloopnfaaParseA
import Derived.Test.YtcgbnlhloopnfaaParseH
import Derived.RegionTactic
import Derived.BigRegion
import Derived.Carry
namespace Go.Proofs.Ytcgbnlhloopnfaa
open Go.RowKit

theorem elemInt : Elem Try.prog 29 3 1 8 := Elem.mk (z := .int .i64 0) Try.underlying29 (by kernel_rfl) (by decide) rfl
theorem keyedInt : Maps.Keyed Try.prog 3 := Maps.int_keyed Try.underlying3
theorem zeroPtrOp (w : World) : (zeroValue 64).run Try.prog w = .ok (ptrC.val ptrC.zero) w := by kernel_rfl

def WfOp (l : List Ev) : Prop := ∀ e ∈ l, (Lit.int .i64 e.op).wf = true
def idCell (o : Opr) : List Value := [.int .i64 o.id]
def ParseSome (w : World) (os : List Opr) (r : Ending) (w' : World) : Prop :=
  ∃ v mb ps, r = .returned (.tuple #[.map (some mb), v, .bool true]) ∧ HP w' w.heap.size mb os ps ∧ w.heap.size ≤ mb ∧ OwS w' w.heap.size 3 1 v (os.map idCell) ∧ Below w.heap.size w w'
def ParsePost (l : List Ev) (w : World) (r : Ending) (w' : World) : Prop :=
  match parseL l with
  | none => r = .returned (.tuple #[.map none, .slice none 0 0, .bool false]) ∧ Below w.heap.size w w'
  | some os => ParseSome w os r w'
theorem ParsePost.none_ {l : List Ev} {w w' : World} (h : parseL l = none) (hb : Below w.heap.size w w') : ParsePost l w (.returned (.tuple #[.map none, .slice none 0 0, .bool false])) w' := by
  unfold ParsePost; rw [h]; exact ⟨rfl, hb⟩
theorem ParsePost.some_ {l : List Ev} {w w' : World} {os : List Opr} {r : Ending} (h : parseL l = some os) (hb : ParseSome w os r w') : ParsePost l w r w' := by
  unfold ParsePost; rw [h]; exact hb

/-- the relation at the head of the loop -/
def ParseRel (l : List Ev) (w : World) (v er i : Value) (wr : World) : Prop :=
  ∃ (k : Nat) (st : List Opr × Int) (ps : List Nat), k ≤ l.length ∧ i = .int .i64 k ∧ er = .int .i64 st.2 ∧ parseTo l k = some st ∧ HP wr w.heap.size w.heap.size st.1 ps ∧ OwS wr w.heap.size 3 1 v (st.1.map idCell) ∧ Below w.heap.size w wr

set_option maxHeartbeats 2000000 in
set_option maxRecDepth 100000 in
theorem parse_any (l : List Ev) (A : Option Addr) (c B : Nat) (w : World) (h : EvS w B A l) (hB : B ≤ w.heap.size) (hlen : l.length ≤ 1000000) (hwf : WfOp l) :
    Calls Try.prog 38 #[.slice A l.length c] w (ParsePost l w) := by
  have hmm := @run_makeMap Try.prog
  go_enter Try.func38, Try.ntmps38
  go_wp2
  go_loopw [6, 7, 14] (ParseRel l w) (fun _ _ i _ => l.length - (intOf i).toNat)
  case atStart => exact ⟨0, ([], 0), [], by omega, rfl, rfl, rfl, HP.made _ _, OwS.nil _ _ _ _, (Below.refl _ _).alloc (Nat.le_refl _) _⟩
  case round =>
    obtain ⟨k, st, ps, hk, rfl, rfl, hst, hp, hown, hb⟩ := hrel
    obtain ⟨os, era⟩ := st
    have hinv := PInv.to hst
    have hera0 := hinv.era0
    have herak := hinv.erak
    simp only at hera0 herak hp hown
    have HST := Lib.hid hst
    have HINV := Lib.hid hinv
    have HP0 := Lib.hid hp
    clear hst hinv
    by_cases hlt : k < l.length
    · obtain ⟨b, off, e, rfl, hbB, he, c0, c1, c2, c3, c4, c5⟩ := EvS.at_ (h.below' hb hB) (k := k) hlt
      have hzw := hb.size
      have hbw : b < wr.heap.size := by omega
      have hwfe : (Lit.int .i64 e.op).wf = true := hwf e (List.mem_of_getElem? he)
      have HE := Lib.hid he
      clear he
      obtain ⟨f, hf, hfx⟩ := hp.map
      have hlook := fun o => (hf.alloc (w := wr) o).look keyedInt Try.underlying60 (zeroPtrOp _) (Maps.keyOf_int_mk Try.underlying3 hwfe) trivial
      rw [hfx e.op] at hlook
      have HF := Lib.hid hf
      have HFX := Lib.hid hfx
      have HW := Lib.hid hwfe
      clear hf hfx hwfe hp
      by_cases h1 : e.kind = 1
      · have h1' : (e.kind == 1) = true := by simp [h1]
        rcases hfo : findO os e.op with _ | o
        · rw [lookI_none hfo] at hlook
          change ∀ o, (Instr.lookup _ _ _ _).run _ _ = Result.ok (Value.pointer none) _ at hlook
          have HPR := Lib.hid (fun w => proper_any e w)
          have HSTEP := Lib.hid (show pStep l k (os, era) e = if properB e then some (os ++ [Opr.of e era k], era) else none by simp [pStep, h1, hfo])
          have HFO := Lib.hid hfo
          clear hfo h1
          generalize properB e = pb at *
          go_wp2_with fail
          refine (HPR.out _).mono ?_
          rintro r w1 ⟨rfl, hb1⟩
          obtain ⟨hc1, hf1⟩ := bcell hb1
          have hb1' : Below w.heap.size w w1 := (hb.alloc hb.size _).trans (hb1.mono (by simp; omega))
          have hp1 : HP w1 w.heap.size w.heap.size os ps := (HP0.out.alloc _).below hb1
          have hown1 := (hown.alloc (.cells #[.int .i64 e.kind, .int .i64 e.op, .bool e.write, .int .i64 e.reg, .int .i64 e.val, .bool e.barrier] 56)).below hb1
          have hz1 : w.heap.size ≤ w1.heap.size := hb1'.size
          have hlen1 := HINV.out.len
          simp only at hlen1
          cases pb
          · have HN := Lib.hid (parseL_none HST.out HE.out (by rw [HSTEP.out]; rfl))
            go_wp2
            go_ret3
            exact ParsePost.none_ HN.out hb1'
          · have HP1 := Lib.hid hp1
            obtain ⟨f1, hm1, hx1⟩ := hp1.map
            have HX1 := Lib.hid hx1
            clear hp1 hx1
            go_wp2_with (at_mapUpdate; refine wpList_putG rfl (.tmp 34) (.tmp 36) (.tmp 50) _ rfl keyedInt Try.underlying60 rfl (hm1.alloc _) (by unfold maxLen; omega) _ (.int .i64 e.op) rfl (Maps.keyOf_int_mk Try.underlying3 HW.out) trivial (some (w1.heap.size, 0)) rfl ?_)
            intro w2 hm2 hg2
            have hp2 := HP1.out.add (o := Opr.of e era k) hz1 HFO.out HX1.out rfl hm2 hg2
            have hown2 := (hown1.alloc _).kept hg2 (.inr (OwS.ne_map hown1 hm1))
            have hb2 : Below w.heap.size w w2 := (hb1'.alloc hz1 _).grown hg2 (by simp; omega) (by intro g hg; cases hg; exact Nat.le_refl _)
            have hz2 := hb2.size
            have HP2 := Lib.hid hp2
            have b1 : w2.cell? ⟨wr.heap.size, 1, none⟩ = some (.int .i64 e.op) := by
              have hml := HF.out.lt
              refine (World.cell?_of_block (hg2.block wr.heap.size (by have := hb1.size; simp at this ⊢; omega) (by simp; omega))).trans ?_
              rw [World.cell?_alloc_past _ _ _ (by have := hb1.size; simp at this ⊢; omega), hc1 _ _ (by simp)]
              exact World.cell?_alloc_at _ _ _ _ rfl
            clear hm2 hg2 hp2
            go_wp2_with (at_builtin; refine wpList_ap1 rfl (.tmp 51) (.tmp 54) _ rfl elemInt rfl hown2 (idCell (Opr.of e era k)) _ rfl _ rfl (by simp) (by intro u hu; simp [idCell] at hu; subst hu; rfl) (by simp [maxLen]; omega) (by simp; omega) hz2 ?_)
            intro v3 w3 hown3 hg3 _
            have hp3 := (HP2.out.alloc _).app (hown2.alloc _) (by decide) hg3
            have hb3 : Below w.heap.size w w3 := (hb2.alloc hz2 _).grown hg3 (by simp; omega) (fun g hg => (hown2.lt hg).1)
            clear hg3
            go_wp2
            go_roundw
            case rel => exact ⟨k + 1, (os ++ [Opr.of e era k], era), ps ++ [w1.heap.size], by omega, by go_num, rfl, by rw [parseTo_at HST.out HE.out, HSTEP.out]; rfl, hp3, by simpa using hown3, hb3⟩
            case measure => simp [intOf]; omega
        · obtain ⟨i, g, hi, hg, hl, hid⟩ := lookI_some hfo HP0.out.len
          rw [hl] at hlook
          change ∀ o, (Instr.lookup _ _ _ _).run _ _ = Result.ok (Value.pointer (some ⟨g, 0, none⟩)) _ at hlook
          have HN := Lib.hid (parseL_none HST.out HE.out (by simp [pStep, h1, hfo]))
          clear hfo hi hg hl hid h1
          go_wp2_with fail
          go_ret3
          exact ParsePost.none_ HN.out (hb.alloc hb.size _)
      have h1' : (e.kind == 1) = false := by simp [h1]
      by_cases h2 : e.kind = 2
      · have h2' : (e.kind == 2) = true := by simp [h2]
        rcases hfo : findO os e.op with _ | o
        · rw [lookI_none hfo] at hlook
          change ∀ o, (Instr.lookup _ _ _ _).run _ _ = Result.ok (Value.pointer none) _ at hlook
          have HN := Lib.hid (parseL_none HST.out HE.out (by simp [pStep, h2, hfo]))
          clear hfo h1 h2
          go_wp2_with fail
          go_quiet (fail)
          go_wp2
          go_ret3
          exact ParsePost.none_ HN.out (below_drewN (hb.alloc hb.size _) _)
        · obtain ⟨i, g, hi, hg, hl, hid⟩ := lookI_some hfo HP0.out.len
          rw [hl] at hlook
          change ∀ o, (Instr.lookup _ _ _ _).run _ _ = Result.ok (Value.pointer (some ⟨g, 0, none⟩)) _ at hlook
          obtain ⟨hgb, hblk⟩ := HP0.out.blk i o g hi hg
          have hgl : g < wr.heap.size := (Array.getElem?_eq_some_iff.1 hblk).1
          have d2 : wr.cell? ⟨g, 2, none⟩ = some (.int .i64 o.val) := by rw [cell_of_row _ _ _ _ _ _ hblk]; rfl
          have d5 : wr.cell? ⟨g, 5, none⟩ = some (.int .i64 o.era) := by rw [cell_of_row _ _ _ _ _ _ hblk]; rfl
          have d6 : wr.cell? ⟨g, 6, none⟩ = some (.int .i64 o.call) := by rw [cell_of_row _ _ _ _ _ _ hblk]; rfl
          have d7 : wr.cell? ⟨g, 7, none⟩ = some (.int .i64 o.done) := by rw [cell_of_row _ _ _ _ _ _ hblk]; rfl
          have HSTEP := Lib.hid (show pStep l k (os, era) e = pDone l k (os, era) e o by simp [pStep, h2, hfo])
          have HBLK := Lib.hid hblk
          have HI := Lib.hid hi
          have HG := Lib.hid hg
          have HID := Lib.hid hid
          clear hfo h1 h2 hblk hi hg hl hid
          by_cases hd : 0 ≤ o.done
          · have HN := Lib.hid (parseL_none HST.out HE.out (by rw [HSTEP.out, pDone_done hd]))
            go_wp2_with fail
            go_quiet (fail)
            go_wp2
            go_ret3
            exact ParsePost.none_ HN.out (below_drewN (hb.alloc hb.size _) _)
          have hd' : decide (0 ≤ o.done) = false := by simpa using hd
          by_cases hera : o.era = era
          · have hera' : (o.era != era) = false := by simp [hera]
            obtain ⟨cn, hcn⟩ := Int.eq_ofNat_of_zero_le (HINV.out.call o (List.mem_of_getElem? HI.out)).1
            have hck : cn < k := by have := (HINV.out.call o (List.mem_of_getElem? HI.out)).2; omega
            rw [hcn] at d6
            obtain ⟨b', off', e', hbe, _, he', f0, f1, f2, f3, f4, f5⟩ := EvS.at_ (h.below' hb hB) (k := cn) (by omega)
            cases hbe
            have HD := Lib.hid (HSTEP.out.trans (pDone_at (l := l) (i := k) (st := (os, era)) (e := e) hd hera hcn he'))
            have HA := Lib.hid (fun w => answers_any e e' w)
            have hfr7 : wr.frozen? ⟨g, 7, none⟩ = false := frozen_of_row _ _ _ _ _ HBLK.out
            have hfr2 : wr.frozen? ⟨g, 2, none⟩ = false := frozen_of_row _ _ _ _ _ HBLK.out
            have hckl : (cn : Int) < (l.length : Int) := by omega
            clear hera he' hcn HSTEP
            generalize ansOk e e' = ab at *
            go_wp2_with fail
            refine still_tail_drew 26 (by kernel_rfl) (by kernel_rfl) ?_
            simp only [List.take_succ_cons, List.take_zero, List.drop_succ_cons, List.drop_zero]
            repeat still_step
            refine wpStill_nil ?_
            go_wp2_with fail
            refine (HA.out _).mono ?_
            rintro r w1 ⟨rfl, hb1⟩
            have hbx : Below (wr.alloc (.cells #[.int .i64 e.kind, .int .i64 e.op, .bool e.write, .int .i64 e.reg, .int .i64 e.val, .bool e.barrier] 56)).heap.size (wr.alloc (.cells #[.int .i64 e.kind, .int .i64 e.op, .bool e.write, .int .i64 e.reg, .int .i64 e.val, .bool e.barrier] 56)) w1 := ⟨hb1.os, hb1.tape, hb1.output, hb1.size, hb1.block⟩
            have HP1 := Lib.hid ((HP0.out.alloc _).below hbx)
            have hown1 := (hown.alloc _).below hbx
            have hb1' : Below w.heap.size w w1 := (hb.alloc hb.size _).trans (hbx.mono (by simp; omega))
            have g2 : w1.cell? ⟨g, 2, none⟩ = some (.int .i64 o.val) := by rw [hbx.cell (by simp; omega), World.cell?_alloc_past _ _ _ hgl]; exact d2
            have g7 : w1.cell? ⟨g, 7, none⟩ = some (.int .i64 o.done) := by rw [hbx.cell (by simp; omega), World.cell?_alloc_past _ _ _ hgl]; exact d7
            have gf2 : w1.frozen? ⟨g, 2, none⟩ = false := by rw [hbx.frozen (by simp; omega), World.frozen?_alloc_past _ _ _ hgl]; exact hfr2
            have gf7 : w1.frozen? ⟨g, 7, none⟩ = false := by rw [hbx.frozen (by simp; omega), World.frozen?_alloc_past _ _ _ hgl]; exact hfr7
            have b4 : w1.cell? ⟨wr.heap.size, 4, none⟩ = some (.int .i64 e.val) := by rw [hbx.cell (by simp)]; exact World.cell?_alloc_at _ _ _ _ rfl
            have hne : g ≠ wr.heap.size := by omega
            clear d2 d5 d6 d7 hfr2 hfr7 hb1 hbx c0 c1 c2 c3 c4 c5 f0 f1 f2 f3 f4 f5 hlook
            cases ab
            · have HN := Lib.hid (parseL_none HST.out HE.out HD.out)
              go_wp2
              go_ret3
              exact ParsePost.none_ HN.out hb1'
            · go_wp2
              go_region
              all_goals (try go_wp2)
              have hp2 := HP1.out.fin HINV.out.ids HI.out HG.out HID.out (e := e) (k := k)
              obtain ⟨_, hblk1⟩ := HP1.out.blk i o g HI.out HG.out
              have hgne := hown1.blk_ne hblk1 (by decide)
              have hgb' : w.heap.size ≤ g := hgb
              go_roundw
              case rel => exact ⟨k + 1, (os.map (Opr.fin e k), era), ps, by omega, by go_num, rfl, by rw [parseTo_at HST.out HE.out, HD.out]; rfl, hp2.kept (row := none) ⟨rfl, rfl, rfl, Nat.le_refl _, fun _ _ _ => rfl⟩ (by simp) (by simp), by
                have := (hown1.far (p := ⟨g, 7, none⟩) hgne (.int .i64 k)).far (p := ⟨g, 2, none⟩) hgne (.int .i64 e.val)
                have hids : (os.map (Opr.fin e k)).map idCell = os.map idCell := by
                  rw [List.map_map]
                  apply List.map_congr_left
                  intro a _
                  simp [idCell, fin_id]
                rw [hids]
                exact this, ((hb1'.setCell hgb' _).setCell hgb' _).drew⟩
              case measure => simp [intOf]; omega
          · have hera' : (o.era != era) = true := by simp [hera]
            have HN := Lib.hid (parseL_none HST.out HE.out (by rw [HSTEP.out, pDone_era hera]))
            clear hera
            go_wp2_with fail
            go_quiet (fail)
            go_wp2
            go_ret3
            exact ParsePost.none_ HN.out (below_drewN (hb.alloc hb.size _) _)
      have h2' : (e.kind == 2) = false := by simp [h2]
      by_cases h3 : e.kind = 3
      · have h3' : (e.kind == 3) = true := by simp [h3]
        have HSTEP := Lib.hid (show pStep l k (os, era) e = if e = Ev.cut then some (os, era + 1) else none by simp [pStep, h3])
        have HK := Lib.hid h3
        clear h1 h2 h3
        by_cases hcut : e = Ev.cut
        · have e1 : e.op = 0 := by rw [hcut]; rfl
          have e2 : e.write = false := by rw [hcut]; rfl
          have e3 : e.reg = 0 := by rw [hcut]; rfl
          have e4 : e.val = 0 := by rw [hcut]; rfl
          have e5 : e.barrier = false := by rw [hcut]; rfl
          have HT := Lib.hid (HSTEP.out.trans (if_pos hcut))
          clear hcut
          simp only [e1] at hlook
          go_wp2
          go_roundw
          case rel => exact ⟨k + 1, (os, era + 1), ps, by omega, by go_num, rfl, by rw [parseTo_at HST.out HE.out, HT.out], HP0.out.alloc _, hown.alloc _, hb.alloc hb.size _⟩
          case measure => simp [intOf]; omega
        · have HN := Lib.hid (parseL_none HST.out HE.out (HSTEP.out.trans (if_neg hcut)))
          have HC := Lib.hid hcut
          clear hcut
          go_wp2
          all_goals first
            | (go_ret3; exact ParsePost.none_ HN.out (hb.alloc hb.size _))
            | (exfalso; exact HC.out (cut_of HK.out (by assumption) (by simp_all) (by assumption) (by assumption) (by simp_all)))
      · have h3' : (e.kind == 3) = false := by simp [h3]
        have HN := Lib.hid (parseL_none HST.out HE.out (by simp [pStep, h1, h2, h3]))
        clear h1 h2 h3
        go_wp2
        go_ret3
        exact ParsePost.none_ HN.out (hb.alloc hb.size _)
    · obtain rfl : k = l.length := by omega
      go_wp2
      go_ret3
      exact ParsePost.some_ (by unfold parseL; rw [HST.out]; rfl) ⟨_, _, ps, rfl, HP0.out, Nat.le_refl _, hown, hb⟩
end Go.Proofs.Ytcgbnlhloopnfaa
