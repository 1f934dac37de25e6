/- Walks of tegularef09.Reader: New, fail, Uint, Bytes, Left, Done. -/
import Derived.Test.YtjgjofepedcfnaaGreatRsE
namespace Go.Proofs.YtjgjofepedcfnaaGreat
open Go.RowKit
set_option maxHeartbeats 1000000 in
set_option maxRecDepth 100000 in
theorem nFail {p q : Nat} {T : TypeId} {s : Rst} (w : World) (h : RdX p q T s w) :
  Calls Tryz.prog 117 #[.pointer (some ⟨p, 0, none⟩)] w fun e w' => e = .returned (.int .i64 5) ∧ RdP p q T none w w' := by
 obtain ⟨A, c, p0, p1, f0, f1, -⟩ := h.cells
 have HB := Lib.hid h.bad
 clear h
 go_enter Tryz.func117, Tryz.ntmps117
 go_wp2
 go_ret
 exact ⟨rfl, HB.out⟩
theorem nLeft {p q : Nat} {T : TypeId} {s : Rst} (w : World) (h : RdX p q T s w) :
  Calls Tryz.prog 72 #[.pointer (some ⟨p, 0, none⟩)] w fun e w' => e = .returned (.int .i64 ((rdL s).length : Int)) ∧ w' = w := by
 obtain ⟨A, c, p0, p1, -⟩ := h.cells
 clear h
 go_enter Tryz.func72, Tryz.ntmps72
 go_wp2
 go_ret
 exact ⟨rfl, rfl⟩
theorem nDone {p q : Nat} {T : TypeId} {s : Rst} (w : World) (h : RdX p q T s w) :
  Calls Tryz.prog 74 #[.pointer (some ⟨p, 0, none⟩)] w fun e w' => e = .returned (.int .i64 (rdD s : Int)) ∧ w' = w := by
 obtain ⟨A, c, p0, p1, -⟩ := h.cells
 clear h
 rcases s with _ | l
 ·have HD : Hid (rdD none = 5) := rfl
  rw [HD.out]
  simp only [rdL, Option.getD, Option.isNone] at p0 p1
  go_enter Tryz.func74, Tryz.ntmps74
  go_wp2
  go_ret
  exact ⟨rfl, rfl⟩
 ·simp only [rdL, Option.getD, Option.isNone] at p0 p1
  rcases l with _ | ⟨x, l⟩
  ·have HD : Hid (rdD (some []) = 0) := rfl
   rw [HD.out]
   simp only [List.length_nil] at p0
   go_enter Tryz.func74, Tryz.ntmps74
   go_wp2
   go_ret
   exact ⟨rfl, rfl⟩
  ·have HD : Hid (rdD (some (x :: l)) = 5) := rfl
   rw [HD.out]
   have hI : (0 : Int) < ((x :: l).length : Int) := by simp
   generalize x :: l = l2 at *
   clear HD
   go_enter Tryz.func74, Tryz.ntmps74
   go_wp2
   go_ret
   exact ⟨rfl, rfl⟩
theorem add_step {i n c : Nat} (hi : i ≤ 9) (hn : n < 2 ^ (7 * i)) (h9 : i = 9 → c ≤ 1) : IntKind.u64.wrap ((n : Int) + IntKind.u64.wrap ((c : Int) % 128 * 2 ^ (7 * i))) = ((n + c % 128 * 2 ^ (7 * i) : Nat) : Int) := by
 have hb : n + c % 128 * 2 ^ (7 * i) < 18446744073709551616 := by
  by_cases h : i = 9
  ·subst h
   have := h9 rfl
   have : c % 128 ≤ 1 := by omega
   have : c % 128 * 2 ^ (7 * 9) ≤ 1 * 2 ^ (7 * 9) := Nat.mul_le_mul_right _ this
   omega
  ·have := (step_lt (c := c) (by omega : i < 9) hn).2
   omega
 have e1 : (c : Int) % 128 * 2 ^ (7 * i) = ((c % 128 * 2 ^ (7 * i) : Nat) : Int) := by push_cast; rfl
 rw [e1]
 generalize c % 128 * 2 ^ (7 * i) = x at *
 have e2 : ∀ y : Nat, y < 18446744073709551616 → IntKind.u64.wrap (y : Int) = (y : Int) := fun y hy => by
  simp [IntKind.wrap, IntKind.bits, IntKind.signed]
  omega
 rw [e2 x (by omega), ← Int.natCast_add, e2 _ hb]
set_option maxHeartbeats 2000000 in
set_option maxRecDepth 100000 in
theorem nUint {p q : Nat} {T : TypeId} {s : Rst} (w : World) (h : RdX p q T s w) (hl : (rdL s).length ≤ 1000000) (hc : ∀ x ∈ rdL s, x < 256) :
  Calls Tryz.prog 71 #[.pointer (some ⟨p, 0, none⟩)] w fun e w' => e = .returned (.tuple #[.int .u64 ((rdU s).1 : Int), .int .i64 ((rdU s).2.1 : Int)]) ∧ RdP p q T (rdU s).2.2 w w' := by
 obtain ⟨R, hR⟩ : ∃ R, rdU s = R := ⟨_, rfl⟩
 have HR : Hid (rdG 0 0 (some ((rdL s).drop 0)) = R) := by
  rw [Hid, ← hR]
  rcases s with _ | l <;> rfl
 rw [hR]
 obtain ⟨m, er, s'⟩ := R
 simp only
 have H0 : Hid (RdP p q T s w w) := ⟨h, Agr.refl _ _⟩
 have HC := Lib.hid hc
 obtain ⟨l, hll⟩ : ∃ l, rdL s = l := ⟨_, rfl⟩
 have HLL := Lib.hid hll
 rw [hll] at hl HC HR
 clear h hR hc hll
 go_enter Tryz.func71, Tryz.ntmps71
 go_wp2
 go_loopw [4, 5] (fun s4 s5 wr => ∃ (i n : Nat), i ≤ 9 ∧ i ≤ l.length ∧ s5 = .int .i64 i ∧ s4 = .int .u64 (n : Int) ∧ n < 2 ^ (7 * i) ∧ rdG i n (some (l.drop i)) = (m, er, s') ∧ RdP p q T s w wr) (fun _ s5 _ => 10 - (intOf s5).toNat)
 case atStart => exact ⟨0, 0, by omega, by omega, rfl, rfl, by decide, HR.out, H0.out⟩
 case round =>
  obtain ⟨i, n, hi, hil, rfl, rfl, hn, hg, hp⟩ := hrel
  have HX := Lib.hid hp
  have hiI : (i : Int) < 10 := by omega
  obtain ⟨A, ca, p0, p1, f0, f1, hA, hlc, hne⟩ := hp.1.cells
  rw [HLL.out] at p0 hA hlc
  have HF := Lib.hid (nFail wr HX.out.1)
  clear hp HR H0
  by_cases hin : i < l.length
  case neg =>
   have hinI : ¬ (i : Int) < (l.length : Int) := by omega
   have hg2 : (0, 5, none) = (m, er, s') := by rw [← hg, List.drop_of_length_le (by omega)]; rfl
   injection hg2 with e1 hg2
   injection hg2 with e2 e3
   subst e1 e2 e3
   clear hg hn hA hlc hne hin
   go_wp2_with fail
   refine HF.out.mono ?_
   rintro e w2 ⟨rfl, hy⟩
   have HY : Hid (RdP p q T none w w2) := ⟨hy.1, HX.out.2.trans hy.2⟩
   clear hy HF HX
   go_wp2
   go_ret2
   exact ⟨rfl, HY.out⟩
  case pos =>
   have hinI : (i : Int) < (l.length : Int) := by omega
   have hin0 : ¬ (i : Int) < 0 := by omega
   obtain ⟨c, hx⟩ : ∃ c, l[i]? = some c := ⟨_, List.getElem?_eq_getElem hin⟩
   have hc0 : c < 256 := HC.out c (List.mem_of_getElem? hx)
   obtain ⟨b, o, rfl, hb, hcell⟩ := BytS.at_ hA hx
   rw [drop_at hx] at hg
   obtain ⟨A2, hs2, hb2, he2⟩ := cut_drop (c := ca) .i64 (some ⟨b, o, none⟩) (by omega : i + 1 ≤ l.length) hlc
   have hn2 : q ≤ p ∧ ∀ a, A2 = some a → q ≤ a.block ∧ a.block < p := ⟨hne.1, fun a ha => by obtain ⟨b, hb, e⟩ := he2 a ha; rw [e]; exact hne.2 b hb⟩
   obtain ⟨l0, hl0⟩ : ∃ l0, s = some l0 := by
    rcases s with _ | l0
    ·rw [← HLL.out] at hin; simp [rdL] at hin
    ·exact ⟨l0, rfl⟩
   have HP : Hid (RdP p q T (some (l.drop (i + 1))) w (wr.setCell ⟨p, 0, none⟩ (.slice A2 (l.drop (i + 1)).length (ca - (i + 1))))) := by
    have hq := HX.out.1
    rw [hl0] at hq
    have := hq.next (hb2 wr _ hA) hn2 (by rw [List.length_drop]; omega : (l.drop (i + 1)).length ≤ ca - (i + 1))
    exact ⟨this.1, HX.out.2.trans this.2⟩
   have hs3 : ∀ W : World, (Instr.slice 26 (.slice (some ⟨b, o, none⟩) l.length ca) (some (.int .i64 ((i : Int) + 1))) none none).run Tryz.prog W = .ok (.slice A2 (l.drop (i + 1)).length (ca - (i + 1))) W := fun W => by have := hs2 W; rw [Int.natCast_add] at this; exact this
   obtain ⟨l2, hl2⟩ : ∃ l2, l.drop (i + 1) = l2 := ⟨_, rfl⟩
   have HL2 := Lib.hid hl2
   rw [hl2] at hg HP
   simp only [hl2] at hs3
   clear hl2
   have hcv := fun W => conv_u8u64 (c : Int) (by omega) (by omega) W
   have hmd : Int.tmod (c : Int) 128 = (c : Int) % 128 := by rw [Int.tmod_eq_emod_of_nonneg (by omega)]
   have hor := fun h => add_step (c := c) hi hn h
   clear hs2 hb2 he2 hn2 hl0 hA hlc hne hx
   by_cases h9 : i = 9
   case pos =>
    have h9b : ((i : Int) == 9) = true := by rw [beq_iff_eq]; omega
    have hiI0 : (0 : Int) < (i : Int) := by omega
    by_cases hc1 : 1 < c
    case pos =>
     have hcI : (1 : Int) < (c : Int) := by omega
     have hg2 : (0, 5, none) = (m, er, s') := by rw [← hg]; simp [rdG, uvD, hc1, h9]
     injection hg2 with e1 hg2
     injection hg2 with e2 e3
     subst e1 e2 e3
     clear hg hor hn HP h9
     go_wp2_with fail
     refine HF.out.mono ?_
     rintro e w2 ⟨rfl, hy⟩
     have HY : Hid (RdP p q T none w w2) := ⟨hy.1, HX.out.2.trans hy.2⟩
     clear hy HF HX
     go_wp2
     go_ret2
     exact ⟨rfl, HY.out⟩
    case neg =>
     have hcI : ¬ (1 : Int) < (c : Int) := by omega
     have hcI2 : (c : Int) < 128 := by omega
     have ho := hor (fun _ => by omega)
     by_cases hcz : c = 0
     case pos =>
      subst hcz
      have hg2 : (0, 5, none) = (m, er, s') := by rw [← hg]; simp [rdG, uvD, h9]
      injection hg2 with e1 hg2
      injection hg2 with e2 e3
      subst e1 e2 e3
      clear hg hor hn HP h9
      go_wp2_with fail
      refine HF.out.mono ?_
      rintro e w2 ⟨rfl, hy⟩
      have HY : Hid (RdP p q T none w w2) := ⟨hy.1, HX.out.2.trans hy.2⟩
      clear hy HF HX
      go_wp2
      go_ret2
      exact ⟨rfl, HY.out⟩
     case neg =>
      have hc0b : ((c : Int) == 0) = false := by rw [beq_eq_false_iff_ne]; omega
      have hg2 : (n + c % 128 * 2 ^ (7 * i), 0, some l2) = (m, er, s') := by rw [← hg]; simp [rdG, uvD, hc1, hcz, h9, show c < 128 by omega]
      generalize n + c % 128 * 2 ^ (7 * i) = N at *
      injection hg2 with e1 hg2
      injection hg2 with e2 e3
      subst e1 e2 e3
      clear hg hor hn HF h9
      go_wp2
      go_ret2
      exact ⟨rfl, HP.out⟩
   case neg =>
    have h9b : ((i : Int) == 9) = false := by rw [beq_eq_false_iff_ne]; omega
    have ho := hor (fun h => absurd h h9)
    have hst := (step_lt (c := c) (by omega : i < 9) hn).1
    have hud : ¬ 9 < i := by omega
    by_cases hc8 : c < 128
    case pos =>
     have hcI2 : (c : Int) < 128 := by omega
     by_cases hz : c = 0 ∧ 0 < i
     case pos =>
      obtain ⟨rfl, hi0⟩ := hz
      have hiI0 : (0 : Int) < (i : Int) := by omega
      have hg2 : (0, 5, none) = (m, er, s') := by rw [← hg]; simp [rdG, uvD, hi0, h9]
      injection hg2 with e1 hg2
      injection hg2 with e2 e3
      subst e1 e2 e3
      clear hg hor hn hst HP
      go_wp2_with fail
      refine HF.out.mono ?_
      rintro e w2 ⟨rfl, hy⟩
      have HY : Hid (RdP p q T none w w2) := ⟨hy.1, HX.out.2.trans hy.2⟩
      clear hy HF HX
      go_wp2
      go_ret2
      exact ⟨rfl, HY.out⟩
     case neg =>
      have hg2 : (n + c % 128 * 2 ^ (7 * i), 0, some l2) = (m, er, s') := by rw [← hg]; simp only [rdG, uvD, if_neg hud, if_neg (fun h => h9 h.1 : ¬ (i = 9 ∧ 1 < c)), if_pos hc8, if_neg hz]
      generalize n + c % 128 * 2 ^ (7 * i) = N at *
      injection hg2 with e1 hg2
      injection hg2 with e2 e3
      subst e1 e2 e3
      clear hg hor hn HF hst
      by_cases hcz : c = 0
      case pos =>
       have hc0b : ((c : Int) == 0) = true := by rw [beq_iff_eq]; omega
       have hiI0 : ¬ (0 : Int) < (i : Int) := by omega
       clear hcz hz
       go_wp2
       go_ret2
       exact ⟨rfl, HP.out⟩
      case neg =>
       have hc0b : ((c : Int) == 0) = false := by rw [beq_eq_false_iff_ne]; omega
       by_cases hi0 : 0 < i
       case pos =>
        have hiI0 : (0 : Int) < (i : Int) := by omega
        go_wp2
        go_ret2
        exact ⟨rfl, HP.out⟩
       case neg =>
        have hiI0 : ¬ (0 : Int) < (i : Int) := by omega
        clear hi0
        go_wp2
        go_ret2
        exact ⟨rfl, HP.out⟩
    case neg =>
     have hcI2 : ¬ (c : Int) < 128 := by omega
     have HG : Hid (rdG (i + 1) (n + c % 128 * 2 ^ (7 * i)) (some l2) = (m, er, s')) := by
      rw [Hid, ← hg]
      simp only [rdG, uvD, if_neg hud, if_neg (fun h => h9 h.1 : ¬ (i = 9 ∧ 1 < c)), if_neg hc8]
     have HST := Lib.hid hst
     generalize n + c % 128 * 2 ^ (7 * i) = N at *
     clear hg hor hn hst HF HP
     go_wp2
     go_roundw
     case rel => exact ⟨i + 1, N, by omega, by omega, by go_num, rfl, HST.out, by rw [HL2.out]; exact HG.out, HX.out⟩
     case measure => simp [intOf] <;> omega
set_option maxHeartbeats 1000000 in
set_option maxRecDepth 100000 in
theorem nNew {A : Option Addr} {B c : Nat} {l : List Nat} (w : World) (h : BytS w B A l) (hB : B ≤ w.heap.size) (hn : l.length ≤ 1000000) :
  Calls Tryz.prog 70 #[.slice A l.length c] w fun e w' => ∃ p, e = .returned (.pointer (some ⟨p, 0, none⟩)) ∧ w.heap.size ≤ p ∧ RdX p w.heap.size 172 (some l) w' ∧ Below w.heap.size w w' := by
 have HLS := Lib.hid h
 clear h
 go_enter Tryz.func70, Tryz.ntmps70
 have hz : OwS (w.alloc (.cells #[] 5)) w.heap.size 5 1 (.slice (some ⟨w.heap.size, 0, none⟩) 0 0) [] := OwS.lit (by simp) (heap_alloc_new w _) rfl rfl (by decide) (Nat.le_refl _)
 have hrr : BytS (w.alloc (.cells #[] 5)) w.heap.size A l := (HLS.out.below' (below_laid.mono hB) (Nat.le_refl _)).more hB
 go_wp2_with (at_builtin; refine wpList_apS rfl (.tmp 3) (.tmp 4) _ rfl elemByte rfl hz w.heap.size _ _ c (l.map u8C) rfl hrr (by simp) (u8C_all l) (by simp [maxLen]; omega) (by simp; omega) (by simp) ?_)
 intro v1 w1 hown1 hg1 _
 have hb : Below w.heap.size w w1 := ((Below.refl w.heap.size w).alloc (Nat.le_refl _) _).grown hg1 (by simp) (fun k h => (hz.lt h).1)
 have ho : OwS w1 w.heap.size 5 1 v1 (l.map u8C) := by simpa using hown1
 have HO := Lib.hid ho
 obtain ⟨A1, c1, rfl, hlc, -⟩ := ho.form
 rw [List.length_map] at HO hlc ⊢
 have hzz := hb.size
 have HR : Hid (RdX w1.heap.size w.heap.size 172 (some l) (w1.alloc (.cells #[.slice A1 l.length c1, .bool false] 172))) :=
  ⟨A1, c1, heap_alloc_new w1 _, byt_keep HO.out.reads below_laid, ⟨hzz, fun a e => by have := HO.out.lt (k := a.block) (by rw [e]; rfl); omega⟩, hlc⟩
 have HB := Lib.hid (hb.alloc hzz (.cells #[.slice A1 l.length c1, .bool false] 172))
 have HZ := Lib.hid hzz
 clear ho hb hlc HO hown1 hg1 hz hrr HLS
 go_wp2
 go_ret
 exact ⟨w1.heap.size, rfl, HZ.out, HR.out, HB.out⟩
set_option maxHeartbeats 1000000 in
set_option maxRecDepth 100000 in
theorem nBytes {p q : Nat} {T : TypeId} {s : Rst} (w : World) (h : RdX p q T s w) (hl : (rdL s).length ≤ 1000000) (hc : ∀ x ∈ rdL s, x < 256) :
  Calls Tryz.prog 73 #[.pointer (some ⟨p, 0, none⟩)] w fun e w' => (∃ A c, e = .returned (.tuple #[.slice A (rdB s).1.length c, .int .i64 ((rdB s).2.1 : Int)]) ∧ BytS w' w'.heap.size A (rdB s).1 ∧ (q ≤ p ∧ ∀ a, A = some a → w.heap.size ≤ a.block) ∧ (rdB s).1.length ≤ c) ∧ RdP p q T (rdB s).2.2 w w' := by
 have HU := Lib.hid (nUint w h hl hc)
 unfold rdB
 rcases rdU_or s hc with hr | ⟨m, l', hr, hm2, hl2, -⟩
 ·rw [hr] at HU ⊢
  rw [if_neg (by simp)]
  clear h hr hl hc
  go_enter Tryz.func73, Tryz.ntmps73
  go_wp2_with fail
  refine HU.out.mono ?_
  rintro e w1 ⟨rfl, hp⟩
  have HP := Lib.hid hp
  clear hp HU
  go_wp2
  go_ret2
  exact ⟨⟨none, 0, rfl, RdS.nil _ _ _ _, ⟨HP.out.1.qp, by simp⟩, Nat.le_refl _⟩, HP.out⟩
 ·rw [hr] at HU ⊢
  rw [if_pos rfl]
  simp only [rdT] at HU ⊢
  have hll : l'.length ≤ 1000000 := by omega
  have hcv := fun W => conv_iu64 (l'.length : Int) (by omega) (by omega) W
  clear h hr hl hc hl2
  by_cases hlm : l'.length < m
  ·rw [if_pos hlm]
   have hI : (l'.length : Int) < (m : Int) := by omega
   clear hlm
   go_enter Tryz.func73, Tryz.ntmps73
   go_wp2_with fail
   refine HU.out.mono ?_
   rintro e w1 ⟨rfl, hp⟩
   have HP := Lib.hid hp
   obtain ⟨A, c, p0, -⟩ := hp.1.cells
   simp only [rdL, Option.getD] at p0
   have HF := Lib.hid (nFail w1 hp.1)
   clear hp HU
   go_wp2_with fail
   refine HF.out.mono ?_
   rintro e w2 ⟨rfl, hy⟩
   have HY : Hid (RdP p q T none w w2) := ⟨hy.1, HP.out.2.trans hy.2⟩
   clear hy HF HP p0
   go_wp2
   go_ret2
   exact ⟨⟨none, 0, rfl, RdS.nil _ _ _ _, ⟨HY.out.1.qp, by simp⟩, Nat.le_refl _⟩, HY.out⟩
  ·rw [if_neg hlm]
   have hI : ¬ (l'.length : Int) < (m : Int) := by omega
   obtain ⟨l1, hq1⟩ : ∃ l1, l'.take m = l1 := ⟨_, rfl⟩
   obtain ⟨l2, hq2⟩ : ∃ l2, l'.drop m = l2 := ⟨_, rfl⟩
   have HQ1 := Lib.hid hq1
   have HQ2 := Lib.hid hq2
   simp only [hq1, hq2]
   clear hq1 hq2
   go_enter Tryz.func73, Tryz.ntmps73
   go_wp2_with fail
   refine HU.out.mono ?_
   rintro e w1 ⟨rfl, hp⟩
   have HP := Lib.hid hp
   obtain ⟨A, c, p0, p1, f0, f1, hA, hlc, hne⟩ := hp.1.cells
   simp only [rdL, Option.getD] at p0 hA hlc
   have hpl := hp.1.lt
   obtain ⟨A1, hs1, hb1⟩ := cut_first (c := c) A (by omega : m ≤ l'.length) hlc
   obtain ⟨A2, hs2, hb2, he2⟩ := cut_drop (c := c) .u64 A (by omega : m ≤ l'.length) hlc
   have hn2 : q ≤ p ∧ ∀ a, A2 = some a → q ≤ a.block ∧ a.block < p := ⟨hne.1, fun a ha => by obtain ⟨b, hb, e⟩ := he2 a ha; rw [e]; exact hne.2 b hb⟩
   have hz : OwS (w1.alloc (.cells #[] 5)) w1.heap.size 5 1 (.slice (some ⟨w1.heap.size, 0, none⟩) 0 0) [] := OwS.lit (by simp) (heap_alloc_new w1 _) rfl rfl (by decide) (Nat.le_refl _)
   have hrr : BytS (w1.alloc (.cells #[] 5)) w1.heap.size A1 (l'.take m) := (hb1 w1 _ hA).below' below_laid (Nat.le_refl _)
   have hl1 : (l'.take m).length ≤ 1000000 := by rw [List.length_take]; omega
   have hl3 : (l'.drop m).length ≤ c - m := by rw [List.length_drop]; omega
   have HD := Lib.hid (hb2 w1 _ hA)
   have q0 : (w1.alloc (.cells #[] 5)).cell? ⟨p, 0, none⟩ = some (.slice A l'.length c) := (below_laid.cell (p := ⟨p, 0, none⟩) hpl).trans p0
   rw [HQ1.out] at hrr hl1
   rw [HQ2.out] at hl3 HD
   simp only [HQ1.out] at hs1
   simp only [HQ2.out] at hs2
   have HN2 := Lib.hid hn2
   have HL3 := Lib.hid hl3
   clear hp HU hA hlc hne hb1 hb2 he2 hn2 hl3 hlm
   go_wp2_with (at_builtin; refine wpList_apS rfl (.tmp 25) (.tmp 31) _ rfl elemByte rfl hz w1.heap.size _ _ c (l1.map u8C) rfl hrr (by simp) (u8C_all l1) (by simp [maxLen]; omega) (by simp; omega) (by simp) ?_)
   intro v5 w5 hown5 hg5 _
   have hb : Below w1.heap.size w1 w5 := ((Below.refl w1.heap.size w1).alloc (Nat.le_refl _) _).grown hg5 (by simp) (fun k h => (hz.lt h).1)
   have ho : OwS w5 w1.heap.size 5 1 v5 (l1.map u8C) := by simpa using hown5
   have HO := Lib.hid ho
   obtain ⟨A5, c5, rfl, hlc5, -⟩ := ho.form
   rw [List.length_map] at HO hlc5 ⊢
   have hq := HP.out.1.call hb
   obtain ⟨-, -, -, -, g0, -⟩ := hq.cells
   have p5 : w5.cell? ⟨p, 0, none⟩ = some (.slice A l'.length c) := (hb.cell (p := ⟨p, 0, none⟩) hpl).trans p0
   have hnx := hq.next (byt_keep HD.out hb) HN2.out HL3.out
   have HY : Hid (RdP p q T (some l2) w (w5.setCell ⟨p, 0, none⟩ (.slice A2 l2.length (c - m)))) := ⟨hnx.1, (HP.out.2.call hb).trans hnx.2⟩
   have HA : Hid (BytS (w5.setCell ⟨p, 0, none⟩ (.slice A2 l2.length (c - m))) (w5.setCell ⟨p, 0, none⟩ (.slice A2 l2.length (c - m))).heap.size A5 l1) := RdS.stb (F := fun k => k = p) HO.out.reads (fun a e => by have := (HO.out.lt (k := a.block) (by rw [e]; rfl)).1; omega) _ hnx.2
   have HNE : Hid (q ≤ p ∧ ∀ a, A5 = some a → w.heap.size ≤ a.block) := ⟨hq.qp, fun a e => by have := (HO.out.lt (k := a.block) (by rw [e]; rfl)).1; have := HP.out.2.size; omega⟩
   have HLC := Lib.hid hlc5
   clear hown5 hg5 hz hrr ho hlc5 hq hnx hb p0 p1 f0 f1 HP HD HN2 HL3 q0 hs1
   go_wp2
   go_ret2
   exact ⟨⟨A5, c5, rfl, HA.out, HNE.out, HLC.out⟩, HY.out⟩
end Go.Proofs.YtjgjofepedcfnaaGreat
