/- Walk of tegularef46's search: run. -/
import Derived.Test.YtcgbnlhloopnfaaDoorGTab
namespace Go.Proofs.YtcgbnlhloopnfaaDoor
open Go.RowKit

/-- the tables while their rows are made -/
def RunC (w wx : World) (sb : Nat) (E X : List Opr) (st : Int) (Ae Ax : Option Addr) (ce cx : Nat) (nr ng : Nat) : Prop := ∃ vr vg R G, RunV w wx sb E X st Ae Ax ce cx vr vg nr ng (X.length + 1) R G (fun _ _ => false) (fun _ _ => false)
/-- what the three first loops keep: at set S, last l, operation i -/
def LoopV (w : World) (sb : Nat) (E X : List Opr) (st : Int) (Ae Ax : Option Addr) (ce cx gr gg cr cg N : Nat) (R G : Nat → Nat) (S l i : Nat) (wr : World) : Prop := ∃ tr, FillV X st tr S l i ∧ RunV w wr sb E X st Ae Ax ce cx (.slice (some ⟨gr, 0, none⟩) N cr) (.slice (some ⟨gg, 0, none⟩) N cg) N N (X.length + 1) R G tr (fun _ _ => false)
def Loop2 (w : World) (sb : Nat) (E X : List Opr) (st : Int) (Ae Ax : Option Addr) (ce cx gr gg cr cg N : Nat) (R G : Nat → Nat) (s : Value) (wr : World) : Prop := ∃ S : Nat, S ≤ N ∧ s = .int .i64 S ∧ LoopV w sb E X st Ae Ax ce cx gr gg cr cg N R G S 0 0 wr
def Loop3 (w : World) (sb : Nat) (E X : List Opr) (st : Int) (Ae Ax : Option Addr) (ce cx gr gg cr cg N : Nat) (R G : Nat → Nat) (S : Nat) (s : Value) (wr : World) : Prop := ∃ l : Nat, l ≤ X.length + 1 ∧ s = .int .i64 l ∧ LoopV w sb E X st Ae Ax ce cx gr gg cr cg N R G S l 0 wr
def Loop4 (w : World) (sb : Nat) (E X : List Opr) (st : Int) (Ae Ax : Option Addr) (ce cx gr gg cr cg N : Nat) (R G : Nat → Nat) (S l : Nat) (s : Value) (wr : World) : Prop := ∃ i : Nat, i ≤ X.length ∧ s = .int .i64 i ∧ LoopV w sb E X st Ae Ax ce cx gr gg cr cg N R G S l i wr
/-- what the last loops keep: the second table is filled from the top, at set S, last l -/
def LoopW (w : World) (sb : Nat) (E X : List Opr) (st : Int) (Ae Ax : Option Addr) (ce cx gr gg cr cg N : Nat) (R G : Nat → Nat) (tr : Nat → Nat → Bool) (S l : Nat) (wr : World) : Prop := ∃ tg, GoodV X st tr tg S l ∧ RunV w wr sb E X st Ae Ax ce cx (.slice (some ⟨gr, 0, none⟩) N cr) (.slice (some ⟨gg, 0, none⟩) N cg) N N (X.length + 1) R G tr tg
def Loop5 (w : World) (sb : Nat) (E X : List Opr) (st : Int) (Ae Ax : Option Addr) (ce cx gr gg cr cg N : Nat) (R G : Nat → Nat) (tr : Nat → Nat → Bool) (s : Value) (wr : World) : Prop := ∃ m : Nat, m ≤ N ∧ s = .int .i64 ((m : Int) - 1) ∧ LoopW w sb E X st Ae Ax ce cx gr gg cr cg N R G tr m 0 wr
def Loop6 (w : World) (sb : Nat) (E X : List Opr) (st : Int) (Ae Ax : Option Addr) (ce cx gr gg cr cg N : Nat) (R G : Nat → Nat) (tr : Nat → Nat → Bool) (S : Nat) (s : Value) (wr : World) : Prop := ∃ l : Nat, l ≤ X.length + 1 ∧ s = .int .i64 l ∧ LoopW w sb E X st Ae Ax ce cx gr gg cr cg N R G tr (S + 1) l wr
def Loop7 (w : World) (sb : Nat) (E X : List Opr) (st : Int) (Ae Ax : Option Addr) (ce cx gr gg cr cg N : Nat) (R G : Nat → Nat) (tr tg : Nat → Nat → Bool) (S l : Nat) (s t : Value) (wr : World) : Prop := ∃ (i : Nat) (b : Bool), i ≤ X.length ∧ s = .bool b ∧ t = .int .i64 i ∧ (tr S l = true → foundB X st tg S l i = b) ∧ RunV w wr sb E X st Ae Ax ce cx (.slice (some ⟨gr, 0, none⟩) N cr) (.slice (some ⟨gg, 0, none⟩) N cg) N N (X.length + 1) R G tr tg
set_option maxHeartbeats 8000000 in
set_option maxRecDepth 100000 in
theorem rrun_any {sb : Nat} {E X : List Opr} {st : Int} {Ae Ax : Option Addr} {ce cx : Nat} (w : World) (h : SrO w sb E X st Ae Ax ce cx (.slice none 0 0) (.slice none 0 0)) (hX : X.length ≤ 15) (hv : ∀ o ∈ X, 0 ≤ o.done → o.call ≤ o.done) :
    Calls Tryd.prog 50 #[.pointer (some ⟨sb, 0, none⟩)] w fun r w' => r = .returned (.tuple #[]) ∧ ∃ vr vg R G tr tg, RunV w w' sb E X st Ae Ax ce cx vr vg (2 ^ X.length) (2 ^ X.length) (X.length + 1) R G tr tg ∧
      (∀ S l, tr S l = true ↔ Reach X st S l) ∧ GoodV X st tr tg 0 0 := by
  have HS0 := Lib.hid h
  obtain ⟨N, hN⟩ : ∃ N, 2 ^ X.length = N := ⟨_, rfl⟩
  have hNb : N ≤ 32768 := by
    have := Nat.pow_le_pow_right (show 0 < 2 by decide) hX
    rw [hN] at this
    simpa using this
  have hNp : 0 < N := by rw [← hN]; exact Nat.two_pow_pos _
  have hsh : wrap64 ((2 : Int) ^ X.length) = (N : Int) := by
    rw [show ((2 : Int) ^ X.length) = (N : Int) by rw [← hN]; push_cast; rfl, IntWalk.wrap64_in _ (by omega)]
  have HN := Lib.hid hN
  rw [hN]
  clear h hN
  go_enter Tryd.func50, Tryd.ntmps50
  obtain ⟨c0, c1, c2, -, -, -⟩ := HS0.out.srv
  go_wp2
  go_loopw [3] (fun s3 wr => ∃ S : Nat, S ≤ N ∧ s3 = .int .i64 S ∧ RunC w wr sb E X st Ae Ax ce cx S S) (fun s3 _ => N - (intOf s3).toNat)
  case atStart => exact ⟨0, by omega, rfl, _, _, fun _ => 0, fun _ => 0, BelR.refl _ _ _, HS0.out, TabV.nil _ _ _ _ _, TabV.nil _ _ _ _ _, fun k k' hk => absurd hk (by omega), .inl rfl⟩
  case round =>
    obtain ⟨S, hS, rfl, vr, vg, R, G, hr⟩ := hrel
    have HR := Lib.hid hr
    obtain ⟨c3, c4, f3, f4⟩ := hr.sr.cells
    have hsl := hr.sr.lt
    obtain ⟨Ar, cr, hvr, -, -⟩ := hr.r.top.form
    obtain ⟨Ag, cg, hvg, -, -⟩ := hr.g.top.form
    rw [topV_len] at hvr hvg
    subst hvr hvg
    clear hr c0 c1 c2
    by_cases hlt : S < N
    · have hsN : (S : Int) < (N : Int) := by omega
      have hz : w.heap.size ≤ wr.heap.size := HR.out.fr.size
      have hw1 : IntKind.i64.wrap ((X.length : Int) + 1) = ((X.length + 1 : Nat) : Int) := by rw [IntWalk.i64_in _ (by omega)]; push_cast; rfl
      have hmk : ∀ W : World, (Instr.makeSlice 52 (.int .i64 ((X.length : Int) + 1)) (.int .i64 ((X.length : Int) + 1))).run Tryd.prog W = .ok (.slice (some ⟨W.heap.size, 0, none⟩) (X.length + 1) (X.length + 1)) (W.alloc (.cells (madeCells #[.bool false] (X.length + 1)) 4)) := fun W => by
        have := make_bools W (X.length + 1) (by omega)
        rwa [show ((X.length + 1 : Nat) : Int) = (X.length : Int) + 1 by push_cast; rfl] at this
      have hb1 : Below wr.heap.size wr ((wr.drew).alloc (.cells (madeCells #[.bool false] (X.length + 1)) 4)) := ((Below.refl wr.heap.size wr).drew).alloc (Nat.le_refl _) _
      have hR1 := Lib.hid (HR.out.below hb1)
      have hrow := Lib.hid (row_made (wr.drew) w.heap.size (X.length + 1) hz (by simp [maxLen]; omega))
      go_upto_region 4 with (fail)
      go_cut [3] (fun s3 wx => s3 = .int .i64 (S : Int) ∧ RunC w wx sb E X st Ae Ax ce cx (S + 1) S)
      case first =>
        go_region_law (refine step_ap1 (by rfl) (.tmp 30) (.tmp 34) _ (by rfl) elemBools (by rfl) ((HR.out.r.top.drew).alloc _) [rowV (X.length + 1) wr.heap.size] _ (by rfl) (wr.heap.size + 1) (by rfl) (by simp) (by intro u hu; simp at hu; subst hu; rfl) (by rw [topV_len]; simp [maxLen]; omega) (by rw [topV_len]; omega) (by simp; omega) ?_; intro v6 w6 hown6 hg6 hv6; obtain ⟨A6, n6, q6, rfl⟩ := hown6.isSlice; have hs6 := hR1.out.sr.kept (grow_alloc hg6) hR1.out.r.top (by decide) (by decide); obtain ⟨c6, -, f6, -⟩ := hs6.cells)
        all_goals
          have hz6 : RunC w (w6.setCell ⟨sb, 3, none⟩ (.slice A6 n6 q6)) sb E X st Ae Ax ce cx (S + 1) S := ⟨_, _, _, _, hR1.out.newR hrow.out (fun k hk => Nat.ne_of_lt (HR.out.r.row_lt hk).2) (fun k hk => Nat.ne_of_lt (HR.out.g.row_lt hk).2) (grow_alloc hg6) hown6 (hv6.imp id fun h => ⟨_, h, by simp⟩)⟩
          go_wp2_with fail
          go_meet
          exact ⟨rfl, hz6⟩
      case rest =>
        obtain ⟨rfl, vr, vg, R, G, hr⟩ := hcut
        clear HR hR1 hrow hb1 c3 c4 f3 f4 hsl hz
        have HR := Lib.hid hr
        obtain ⟨c3, c4, f3, f4⟩ := hr.sr.cells
        have hsl := hr.sr.lt
        obtain ⟨Ar, cr, hvr, -, -⟩ := hr.r.top.form
        obtain ⟨Ag, cg, hvg, -, -⟩ := hr.g.top.form
        rw [topV_len] at hvr hvg
        subst hvr hvg
        clear hr
        have hz : w.heap.size ≤ wc.heap.size := HR.out.fr.size
        have hb1 : Below wc.heap.size wc (wc.drew.alloc (.cells (madeCells #[.bool false] (X.length + 1)) 4)) := ((Below.refl wc.heap.size wc).drew).alloc (Nat.le_refl _) _
        have hR1 := Lib.hid (HR.out.below hb1)
        have hrow := Lib.hid (row_made wc.drew w.heap.size (X.length + 1) hz (by simp [maxLen]; omega))
        go_upto_region 5 with (fail)
        go_region_law (refine step_ap1 (by rfl) (.tmp 42) (.tmp 46) _ (by rfl) elemBools (by rfl) ((HR.out.g.top.drew).alloc _) [rowV (X.length + 1) wc.heap.size] _ (by rfl) (wc.heap.size + 1) (by rfl) (by simp) (by intro u hu; simp at hu; subst hu; rfl) (by rw [topV_len]; simp [maxLen]; omega) (by rw [topV_len]; omega) (by simp; omega) ?_; intro v6 w6 hown6 hg6 hv6; obtain ⟨A6, n6, q6, rfl⟩ := hown6.isSlice; have hs6 := hR1.out.sr.kept (grow_alloc hg6) hR1.out.g.top (by decide) (by decide); obtain ⟨-, c6, -, f6⟩ := hs6.cells)
        all_goals
          have hz6 : RunC w (w6.setCell ⟨sb, 4, none⟩ (.slice A6 n6 q6)) sb E X st Ae Ax ce cx (S + 1) (S + 1) := ⟨_, _, _, _, hR1.out.newG hrow.out (fun k hk => Nat.ne_of_lt (HR.out.r.row_lt hk).2) (fun k hk => Nat.ne_of_lt (HR.out.g.row_lt hk).2) (grow_alloc hg6) hown6 (hv6.imp id fun h => ⟨_, h, by simp⟩)⟩
          generalize w6.setCell ⟨sb, 4, none⟩ (.slice A6 n6 q6) = w7 at *
          have HZ := Lib.hid hz6
          clear hs6 c6 f6 hown6 hg6 hv6 hz6
          go_wp2
          go_roundw
          case rel => exact ⟨S + 1, by omega, by go_num, HZ.out⟩
          case measure => simp [intOf]; omega
    · obtain rfl : N = S := by omega
      clear hlt c3 c4 f3 f4 hsl
      have hr := HR.out
      clear HR
      obtain ⟨gr, kr, hAr, e0, e1⟩ := hr.r.cells (k := 0) hNp
      obtain ⟨gg, kg, hAg, -, -⟩ := hr.g.cells (k := 0) hNp
      obtain ⟨e2, e3⟩ := e1 0 (by omega)
      injection hAr with hAr h1 h2
      subst hAr h2
      injection hAg with hAg h3 h4
      subst hAg h4
      clear h1 h3 e1
      obtain ⟨c3, c4, -, -⟩ := hr.sr.cells
      have hr2 := Lib.hid (hr.setR hNp (Nat.succ_pos _) true)
      clear hr
      have hXp : (0 : Int) < (X.length : Int) + 1 := by omega
      go_upto_region 7 with (fail)
      have hfv := FillV.init X st
      generalize upd2 (fun _ _ => false) 0 0 true = tr at *
      have HF1 := Lib.hid hfv
      generalize wr.setCell ⟨R 0, 0, none⟩ (.bool true) = w1 at *
      clear e0 e2 e3 c3 c4 hfv
      go_wp2
      go_loopw [4, 5, 6, 7, 8] (fun s4 _ _ _ _ wr => Loop2 w sb E X st Ae Ax ce cx gr gg cr cg N R G s4 wr) (fun s4 _ _ _ _ _ => N - (intOf s4).toNat)
      case atStart => exact ⟨0, by omega, rfl, tr, HF1.out, hr2.out⟩
      case round =>
        clear hr2 HF1
        obtain ⟨S, hS, rfl, tr, hf, hr⟩ := hrel
        have HF := Lib.hid hf
        have HR := Lib.hid hr
        clear hf hr
        by_cases hlt : S < N
        · have hsN : (S : Int) < (N : Int) := by omega
          go_wp2
          generalize wr = wo at *
          go_loopw [5, 6, 7, 8] (fun s5 _ _ _ wr => Loop3 w sb E X st Ae Ax ce cx gr gg cr cg N R G S s5 wr) (fun s5 _ _ _ _ => X.length + 1 - (intOf s5).toNat)
          case atStart => exact ⟨0, by omega, rfl, tr, HF.out, HR.out⟩
          case round =>
            clear HF HR
            obtain ⟨l, hl, rfl, tr, hf, hr⟩ := hrel
            have HF := Lib.hid hf
            have HR := Lib.hid hr
            clear hf hr
            by_cases hll : l ≤ X.length
            · have hlI : (l : Int) ≤ (X.length : Int) := by omega
              go_wp2
              generalize wr = wo at *
              go_loopw [6, 7, 8] (fun s6 _ _ wr => Loop4 w sb E X st Ae Ax ce cx gr gg cr cg N R G S l s6 wr) (fun s6 _ _ _ => X.length - (intOf s6).toNat)
              case atStart => exact ⟨0, by omega, rfl, tr, HF.out, HR.out⟩
              case round =>
                clear HF HR
                obtain ⟨i, hi, rfl, tr, hf, hr⟩ := hrel
                have HF := Lib.hid hf
                have HR := Lib.hid hr
                obtain ⟨c3, -, -, -⟩ := hr.sr.cells
                obtain ⟨g', k', hA', e0, e1⟩ := hr.r.cells (k := S) hlt
                injection hA' with hA' h1 h2
                injection hA' with hA'
                injection hA' with hA' _ _
                subst hA' h2
                obtain ⟨e2, -⟩ := e1 l (by omega)
                clear hf hr h1 e1
                have hlm : (l : Int) < (X.length : Int) + 1 := by omega
                by_cases hil : i < X.length
                · have hiI : (i : Int) < (X.length : Int) := by omega
                  have HNX := Lib.hid (rnext_any S l i wr HR.out.sr.srv (Nat.le_refl _) (by omega) (by omega) hll hil)
                  rcases htb : tr S l with _ | _
                  · rw [htb] at e2
                    have HF2 := Lib.hid ((HF.out.skips htb X.length).nextL)
                    clear htb
                    go_wp2
                    go_roundw
                    case rel => exact ⟨l + 1, by omega, by go_num, tr, HF2.out, HR.out⟩
                    case measure => simp [intOf]; omega
                  · rw [htb] at e2
                    rcases hnx : nxtR X st S l i with _ | l'
                    · rw [hnx] at HNX
                      simp only [nresR] at HNX
                      have HF2 := Lib.hid (HF.out.skip fun _ => hnx)
                      clear htb hnx
                      go_wp2_with fail
                      refine (HNX.out).mono ?_
                      rintro r w2 ⟨rfl, hb2⟩
                      have HR2 := Lib.hid (HR.out.below hb2)
                      clear hb2 c3 e0 e2
                      go_wp2
                      go_roundw
                      case rel =>
                        have HT : Loop4 w sb E X st Ae Ax ce cx gr gg cr cg N R G S l (.int .i64 ((i : Int) + 1)) w2 := ⟨i + 1, by omega, by go_num, tr, HF2.out, HR2.out⟩
                        try simp only [hsh]
                        first
                        | exact HT
                        | (repeat apply Exists.intro)
                          apply And.intro
                          case right => (repeat' apply And.intro) <;> rfl
                          case left => exact HT
                      case measure => simp [intOf]; omega
                    · have hl1 := nxt_le hil hll hnx
                      have hor : S ||| 2 ^ i < N := by rw [← HN.out]; exact or_lt (by rw [HN.out]; exact hlt) hil
                      rw [hnx] at HNX
                      simp only [nresR] at HNX
                      have HF2 := Lib.hid (HF.out.step hv hil htb hnx)
                      have hob := or_bit' S i (by omega) (by omega)
                      have hob2 : bits .or .i64 (S : Int) (IntKind.i64.wrap ((2 : Int) ^ i)) = ((S ||| 2 ^ i : Nat) : Int) := by
                        have hp : (2 : Nat) ^ i < 2 ^ 16 := Nat.pow_lt_pow_right (by decide) (by omega)
                        have e : ((2 : Int) ^ i) = ((2 ^ i : Nat) : Int) := by push_cast; rfl
                        have hq := hob
                        rw [e] at hq ⊢
                        generalize 2 ^ i = pw at *
                        rw [IntWalk.wrap64_in _ (by omega)] at hq
                        rw [IntWalk.i64_in _ (by omega)]
                        exact hq
                      clear htb hnx
                      generalize S ||| 2 ^ i = S1 at *
                      have horI : (S1 : Int) < (N : Int) := by omega
                      have hl1I : (l' : Int) < (X.length : Int) + 1 := by omega
                      go_wp2_with fail
                      refine (HNX.out).mono ?_
                      rintro r w2 ⟨rfl, hb2⟩
                      have hr2 := HR.out.below hb2
                      have HR2 := Lib.hid hr2
                      clear hb2 c3 e0 e2
                      obtain ⟨c3, -, -, -⟩ := hr2.sr.cells
                      obtain ⟨g', k', hA', e0, e1⟩ := hr2.r.cells (k := S1) hor
                      injection hA' with hA' h1 h2
                      injection hA' with hA'
                      injection hA' with hA' _ _
                      subst hA' h2
                      obtain ⟨e2, e3⟩ := e1 l' (by omega)
                      clear hr2 h1 e1
                      have HR3 := Lib.hid ((HR2.out.setR hor (show l' < X.length + 1 by omega) true).below ((Below.refl _ _).drew))
                      go_upto_region 18 with (fail)
                      go_region_law (fail)
                      all_goals
                        generalize (w2.setCell ⟨R S1, l', none⟩ (.bool true)).drew = w3 at *
                        clear c3 e0 e2 e3
                        go_wp2
                        go_roundw
                        case rel =>
                          have HT : Loop4 w sb E X st Ae Ax ce cx gr gg cr cg N R G S l (.int .i64 ((i : Int) + 1)) w3 := ⟨i + 1, by omega, by go_num, _, HF2.out, HR3.out⟩
                          try simp only [hsh]
                          first
                          | exact HT
                          | (repeat apply Exists.intro)
                            apply And.intro
                            case right => (repeat' apply And.intro) <;> rfl
                            case left => exact HT
                        case measure => simp [intOf]; omega
                · obtain rfl : i = X.length := by omega
                  have HF2 := Lib.hid HF.out.nextL
                  clear e0 e2 c3
                  go_wp2
                  go_roundw
                  case rel => exact ⟨l + 1, by omega, by go_num, tr, HF2.out, HR.out⟩
                  case measure => simp [intOf]; omega
            · obtain rfl : l = X.length + 1 := by omega
              have hlI : ¬ (((X.length + 1 : Nat) : Int) ≤ (X.length : Int)) := by omega
              have HF2 := Lib.hid HF.out.nextS
              go_wp2
              go_roundw
              case rel => exact ⟨S + 1, by omega, by go_num, tr, HF2.out, HR.out⟩
              case measure => simp [intOf]; omega
        · obtain rfl : N = S := by omega
          have hrf : ∀ S l, tr S l = true ↔ Reach X st S l := by
            have := HF.out
            rw [← HN.out] at this
            exact this.full hv
          have HRF := Lib.hid hrf
          have hg0 : GoodV X st tr (fun _ _ => false) N 0 := fun S l hS _ ho _ => by rw [HN.out] at hS; omega
          have HG := Lib.hid hg0
          have hwn : IntKind.i64.wrap ((N : Int) - 1) = (N : Int) - 1 := IntWalk.i64_in _ (by omega)
          clear HF hrf hg0
          go_wp2
          generalize wr = wo at *
          go_loopw [9, 10, 11, 12, 13, 14] (fun s9 _ _ _ _ _ wr => Loop5 w sb E X st Ae Ax ce cx gr gg cr cg N R G tr s9 wr) (fun s9 _ _ _ _ _ _ => (intOf s9 + 1).toNat)
          case atStart => exact ⟨N, Nat.le_refl _, rfl, _, HG.out, HR.out⟩
          case round =>
            clear HG HR
            obtain ⟨m, hm, rfl, tg, hg, hr⟩ := hrel
            have HG := Lib.hid hg
            have HR := Lib.hid hr
            clear hg hr
            by_cases hm0 : m = 0
            · subst hm0
              have hge : ¬ ((0 : Int) ≤ ((0 : Nat) : Int) - 1) := by omega
              go_wp2
              go_end0
              exact ⟨rfl, _, _, _, _, tr, tg, HR.out, HRF.out, HG.out⟩
            · obtain ⟨S, rfl⟩ : ∃ S, m = S + 1 := ⟨m - 1, by omega⟩
              have hS1 : ((S + 1 : Nat) : Int) - 1 = (S : Int) := by omega
              rw [hS1]
              have hS0 : (0 : Int) ≤ (S : Int) := by omega
              have hlt : S < N := by omega
              go_wp2
              generalize wr = wo at *
              go_loopw [10, 11, 12, 13, 14] (fun s10 _ _ _ _ wr => Loop6 w sb E X st Ae Ax ce cx gr gg cr cg N R G tr S s10 wr) (fun s10 _ _ _ _ _ => X.length + 1 - (intOf s10).toNat)
              case atStart => exact ⟨0, by omega, rfl, tg, HG.out, HR.out⟩
              case round =>
                clear HG HR
                obtain ⟨l, hl, rfl, tg, hg, hr⟩ := hrel
                have HG := Lib.hid hg
                have HR := Lib.hid hr
                clear hg hr
                by_cases hll : l ≤ X.length
                · have hlI : (l : Int) ≤ (X.length : Int) := by omega
                  have HCM := Lib.hid (rcompl_any S wr HR.out.sr.srv (Nat.le_refl _) (by omega) (by omega))
                  go_wp2_with fail
                  refine (HCM.out).mono ?_
                  rintro r w2 ⟨rfl, hb2⟩
                  have HR2 := Lib.hid (HR.out.below hb2)
                  clear HR HCM hb2
                  go_wp2
                  generalize w2 = wo2 at *
                  go_loopw [11, 12, 13, 14] (fun s11 s12 _ _ wr => Loop7 w sb E X st Ae Ax ce cx gr gg cr cg N R G tr tg S l s11 s12 wr) (fun _ s12 _ _ _ => X.length - (intOf s12).toNat)
                  case atStart => exact ⟨0, covS X (ansQ X) S, Nat.zero_le _, rfl, rfl, fun _ => found_zero, HR2.out⟩
                  case round =>
                    clear HR2
                    obtain ⟨i, b, hi, rfl, rfl, hf, hr⟩ := hrel
                    have HF := Lib.hid hf
                    have HR := Lib.hid hr
                    obtain ⟨c3, c4, -, -⟩ := hr.sr.cells
                    obtain ⟨g', k', hA', e0, e1⟩ := hr.r.cells (k := S) hlt
                    injection hA' with hA' h1 h2
                    injection hA' with hA'
                    injection hA' with hA' _ _
                    subst hA' h2
                    obtain ⟨e2, -⟩ := e1 l (by omega)
                    have hSN : S < 2 ^ X.length := by rw [HN.out]; exact hlt
                    have HSN := Lib.hid hSN
                    clear hf hr h1 e1 hSN
                    have hlm : (l : Int) < (X.length : Int) + 1 := by omega
                    have hsN : (S : Int) < (N : Int) := by omega
                    by_cases hil : i < X.length
                    · have hiI : (i : Int) < (X.length : Int) := by omega
                      cases b
                      · rcases htb : tr S l with _ | _
                        · rw [htb] at e2
                          have HX : Hid (tr S l = true → (false = true ↔ Compl X st (S, (l : Int) - 1))) := fun h => by rw [htb] at h; cases h
                          clear htb
                          obtain ⟨g2, k2, hA2, e3, e4⟩ := HR.out.g.cells (k := S) hlt
                          injection hA2 with hA2 h3 h4
                          injection hA2 with hA2
                          injection hA2 with hA2 _ _
                          subst hA2 h4
                          obtain ⟨e5, e6⟩ := e4 l (by omega)
                          have HR3 := Lib.hid (HR.out.setG hlt (show l < X.length + 1 by omega) false)
                          have HG3 := Lib.hid (HG.out.put (b := false) HX.out)
                          clear h3 e4
                          go_upto_region 31 with (fail)
                          go_upto_region 24 with (fail)
                          generalize wr.setCell ⟨G S, l, none⟩ (.bool false) = w3 at *
                          clear c3 c4 e0 e2 e3 e5 e6
                          go_wp2
                          go_roundw
                          case rel => exact ⟨l + 1, by omega, by go_num, _, HG3.out, HR3.out⟩
                          case measure => simp [intOf]; omega
                        · rw [htb] at e2
                          have HNX := Lib.hid (rnext_any S l i wr HR.out.sr.srv (Nat.le_refl _) (by omega) (by omega) hll hil)
                          have HFZ := Lib.hid (found_succ (HF.out htb))
                          rcases hnx : nxtR X st S l i with _ | l'
                          · rw [hnx] at HNX HFZ
                            simp only [nresR] at HNX
                            clear htb hnx
                            go_wp2_with fail
                            refine (HNX.out).mono ?_
                            rintro r w2 ⟨rfl, hb2⟩
                            have HR2 := Lib.hid (HR.out.below hb2)
                            clear hb2 c3 c4 e0 e2
                            go_wp2_with fail
                            go_quiet (fail)
                            generalize hwd : w2.drewN _ = w3
                            have hwb : Below w2.heap.size w2 w3 := by rw [← hwd]; exact below_drewN (Below.refl _ _) _
                            have HR3 := Lib.hid (HR2.out.below hwb)
                            clear hwb
                            clear hwd
                            go_wp2
                            go_roundw
                            case rel => exact ⟨i + 1, false, by omega, rfl, by go_num, fun _ => HFZ.out, HR3.out⟩
                            case measure => simp [intOf]; omega
                          · have hl1 := nxt_le hil hll hnx
                            have hor : S ||| 2 ^ i < N := by rw [← HN.out]; exact or_lt HSN.out hil
                            rw [hnx] at HNX HFZ
                            simp only [nresR] at HNX
                            have hob := or_bit' S i (by omega) (by omega)
                            have hob2 : bits .or .i64 (S : Int) (IntKind.i64.wrap ((2 : Int) ^ i)) = ((S ||| 2 ^ i : Nat) : Int) := by
                              have hp : (2 : Nat) ^ i < 2 ^ 16 := Nat.pow_lt_pow_right (by decide) (by omega)
                              have e : ((2 : Int) ^ i) = ((2 ^ i : Nat) : Int) := by push_cast; rfl
                              have hq := hob
                              rw [e] at hq ⊢
                              generalize 2 ^ i = pw at *
                              rw [IntWalk.wrap64_in _ (by omega)] at hq
                              rw [IntWalk.i64_in _ (by omega)]
                              exact hq
                            have HFZ2 : Hid (foundB X st tg S l (i + 1) = tg (S ||| 2 ^ i) l') := HFZ.out
                            clear htb hnx HFZ
                            generalize S ||| 2 ^ i = S1 at *
                            have horI : (S1 : Int) < (N : Int) := by omega
                            have hl1I : (l' : Int) < (X.length : Int) + 1 := by omega
                            go_wp2_with fail
                            refine (HNX.out).mono ?_
                            rintro r w2 ⟨rfl, hb2⟩
                            have hr2 := HR.out.below hb2
                            have HR2 := Lib.hid hr2
                            clear hb2 c3 c4 e0 e2
                            obtain ⟨-, c4, -, -⟩ := hr2.sr.cells
                            obtain ⟨g2, k2, hA2, e0, e1⟩ := hr2.g.cells (k := S1) hor
                            injection hA2 with hA2 h1 h2
                            injection hA2 with hA2
                            injection hA2 with hA2 _ _
                            subst hA2 h2
                            obtain ⟨e2, -⟩ := e1 l' (by omega)
                            clear hr2 h1 e1
                            go_wp2_with fail
                            go_quiet (fail)
                            generalize hwd : w2.drewN _ = w3
                            have hwb : Below w2.heap.size w2 w3 := by rw [← hwd]; exact below_drewN (Below.refl _ _) _
                            have HR3 := Lib.hid (HR2.out.below hwb)
                            clear hwb
                            clear hwd c4 e0 e2
                            go_wp2
                            go_roundw
                            case rel => exact ⟨i + 1, tg S1 l', by omega, rfl, by go_num, fun _ => HFZ2.out, HR3.out⟩
                            case measure => simp [intOf]; omega
                      · have HX : Hid (tr S l = true → (true = true ↔ Compl X st (S, (l : Int) - 1))) := fun h => by
                          rw [← found_iff hv HSN.out hll HRF.out HG.out h, found_mono hi (HF.out h)]
                        obtain ⟨g2, k2, hA2, e3, e4⟩ := HR.out.g.cells (k := S) hlt
                        injection hA2 with hA2 h3 h4
                        injection hA2 with hA2
                        injection hA2 with hA2 _ _
                        subst hA2 h4
                        obtain ⟨e5, e6⟩ := e4 l (by omega)
                        have HR3 := Lib.hid (HR.out.setG hlt (show l < X.length + 1 by omega) true)
                        have HG3 := Lib.hid (HG.out.put (b := true) HX.out)
                        clear h3 e4
                        go_upto_region 31 with (fail)
                        go_upto_region 24 with (fail)
                        generalize wr.setCell ⟨G S, l, none⟩ (.bool true) = w3 at *
                        clear c3 c4 e0 e2 e3 e5 e6
                        go_wp2
                        go_roundw
                        case rel => exact ⟨l + 1, by omega, by go_num, _, HG3.out, HR3.out⟩
                        case measure => simp [intOf]; omega
                    · obtain rfl : i = X.length := by omega
                      have HX : Hid (tr S l = true → (b = true ↔ Compl X st (S, (l : Int) - 1))) := fun h => by
                        rw [← found_iff hv HSN.out hll HRF.out HG.out h, HF.out h]
                      obtain ⟨g2, k2, hA2, e3, e4⟩ := HR.out.g.cells (k := S) hlt
                      injection hA2 with hA2 h3 h4
                      injection hA2 with hA2
                      injection hA2 with hA2 _ _
                      subst hA2 h4
                      obtain ⟨e5, e6⟩ := e4 l (by omega)
                      have HR3 := Lib.hid (HR.out.setG hlt (show l < X.length + 1 by omega) b)
                      have HG3 := Lib.hid (HG.out.put (b := b) HX.out)
                      clear h3 e4
                      go_upto_region 31 with (fail)
                      go_upto_region 24 with (fail)
                      generalize wr.setCell ⟨G S, l, none⟩ (.bool b) = w3 at *
                      clear c3 c4 e0 e2 e3 e5 e6
                      go_wp2
                      go_roundw
                      case rel => exact ⟨l + 1, by omega, by go_num, _, HG3.out, HR3.out⟩
                      case measure => simp [intOf]; omega
                · obtain rfl : l = X.length + 1 := by omega
                  have hlI : ¬ (((X.length + 1 : Nat) : Int) ≤ (X.length : Int)) := by omega
                  have HG2 := Lib.hid HG.out.down
                  go_wp2
                  go_roundw
                  case rel => exact ⟨S, by omega, rfl, _, HG2.out, HR.out⟩
                  case measure => simp [intOf]
end Go.Proofs.YtcgbnlhloopnfaaDoor
