/- Walk of tegulalaw23.PlanSpares. -/
import Derived.Test.YteglnekkkhpikaaGreatLpT
namespace Go.Proofs.YteglnekkkhpikaaGreat
open Go.RowKit

/-- a small layout with 400 spare blocks -/
def small4 (n : Nat) : LayD := ⟨(smallL n).disks, (smallL n).gs, (smallL n).tiles, 400⟩
theorem small4_ok (n : Nat) : LayX (small4 n) ∧ (small4 n).G ≤ 105 ∧ (small4 n).tiles ≤ 5 := by
  obtain ⟨w, r, lam, h, hw1, hw2, hr, hl1, hl2, hn, hd1, hd2⟩ := small_des n
  have h5 := des_lay (t := 1 + n / 16 % 5) (s := 400) h ⟨by omega, by omega⟩ ⟨hw1, by omega⟩ (by omega) (by omega) ⟨by omega, by omega⟩ (by omega)
  have e1 : (small4 n).w = w := h5.2.1
  have e2 : (small4 n).r = r := h5.2.2
  refine ⟨⟨h5.1, lam, hl1, ?_⟩, ?_, ?_⟩
  · rw [e1, e2]; exact h
  · show (1 + n / 16 % 5) * (smallDes n).2.length ≤ 105
    exact Nat.mul_le_mul (show 1 + n / 16 % 5 ≤ 5 by omega) hn
  · show 1 + n / 16 % 5 ≤ 5
    omega
theorem des_pair {d w r lam : Nat} {gs : List (List Nat)} (h : desB d w r lam gs = true) : ∀ a b : Nat, a < d → b < d → a ≠ b → (gs.countP fun g => g.contains a && g.contains b) = lam := by
  unfold desB at h
  simp only [Bool.and_eq_true, List.all_eq_true, decide_eq_true_eq, beq_iff_eq, List.mem_range, Bool.or_eq_true] at h
  intro a b ha hb hab
  rcases (h.2 a ha).2 b hb with h1 | h1
  · exact absurd h1 hab
  · exact h1
theorem des_lam {d w r lam : Nat} {gs : List (List Nat)} (h : desB d w r lam gs = true) (hd : 2 ≤ d) : lam ≤ r := by
  have h1 := des_pair h 0 1 (by omega) (by omega) (by decide)
  unfold desB at h
  simp only [Bool.and_eq_true, List.all_eq_true, decide_eq_true_eq, beq_iff_eq, List.mem_range, Bool.or_eq_true] at h
  have h2 := (h.2 0 (by omega)).1
  have h3 := count_and (fun g : List Nat => g.contains 0) (fun g => g.contains 1) gs
  omega
theorem w_le {L : LayD} (ok : LayOk L) : L.w ≤ L.disks := by
  obtain ⟨row, h1, h2, h3, h4⟩ := row_of ok 0
  have := sub_len (l1 := row) (h3.imp fun {a b} hab e => by omega) (List.nodup_range (n := L.disks)) (fun x hx => List.mem_range.2 (h4 x hx))
  rw [List.length_range, h2] at this
  exact this
/-- a rebuild that goes through, as the reference's recursion -/
theorem rebOk_G {L : LayD} {hf : List Mv → Nat → List Nat} {dead : List Bool} {r : List (Nat × Nat)} {now fin : List Mv} {new : List Tsk} (h : RebOk L hf dead r now new fin) : ∀ out : List Tsk, rebG L hf dead r now out = (out ++ new, 0) := by
  induction h with
  | nil now => intro out; simp [rebG]
  | cons h1 h2 h3 ih =>
    intro out
    unfold rebG
    rw [h1]
    simp only
    rw [h2]
    simp only
    rw [ih]
    simp
/-- how many of the tasks put their piece on a disk -/
def cntD (ts : List Tsk) (x : Nat) : Nat := (ts.filter fun t => t.to.disk == (x : Int)).length
def cntL (D : Nat) (ts : List Tsk) : List Nat := (List.range D).map fun x => cntD ts x
theorem cntL_at {D : Nat} {ts : List Tsk} {x : Nat} (h : x < D) : (cntL D ts)[x]? = some (cntD ts x) := by
  unfold cntL
  rw [List.getElem?_map, List.getElem?_range h]
  rfl
theorem cntD_le (ts : List Tsk) (x : Nat) : cntD ts x ≤ ts.length := List.length_filter_le _ _
theorem cntL_step {D : Nat} {ts : List Tsk} {i tn : Nat} {t : Tsk} (ht : ts[i]? = some t) (he : t.to.disk = (tn : Int)) : (cntL D (ts.take i)).set tn (cntD (ts.take i) tn + 1) = cntL D (ts.take (i + 1)) := by
  apply List.ext_getElem?
  intro x
  by_cases hx : x < D
  · rw [cntL_at hx]
    have e : cntD (ts.take (i + 1)) x = cntD (ts.take i) x + if x = tn then 1 else 0 := by
      unfold cntD
      rw [List.take_add_one, ht, List.filter_append, List.length_append]
      congr 1
      simp only [Option.toList_some, List.filter_cons, List.filter_nil, he]
      by_cases h : x = tn
      · subst h; simp
      · rw [if_neg h, if_neg]
        · rfl
        · simp; omega
    rw [e]
    by_cases h : x = tn
    · subst h
      rw [List.getElem?_set_self (by unfold cntL; simpa using hx), if_pos rfl]
    · rw [List.getElem?_set_ne (fun h2 => h h2.symm), cntL_at hx, if_neg h]
      rfl
  · rw [List.getElem?_eq_none (by unfold cntL; simp; omega), List.getElem?_eq_none (by unfold cntL; simp; omega)]
theorem cntL_nil (D : Nat) : cntL D [] = List.replicate D 0 := by
  unfold cntL cntD
  apply List.ext_getElem?
  intro x
  by_cases hx : x < D
  · rw [List.getElem?_map, List.getElem?_range hx, List.getElem?_replicate, if_pos hx]
    rfl
  · rw [List.getElem?_eq_none (by simp; omega), List.getElem?_eq_none (by simp; omega)]
def SpR (D : Nat) (ts : List Tsk) (S : Nat) (w9 : World) (s15 : Value) (wr : World) : Prop := ∃ i : Nat, i ≤ ts.length ∧ s15 = .int .i64 i ∧ OwS wr S 3 1 (.slice (some ⟨S, 0, none⟩) D D) (rowsI (cntL D (ts.take i))) ∧ Below S w9 wr
theorem OwS.setI {w : World} {base n cap g : Nat} {t : TypeId} {l : List Nat} (h : OwS w base t 1 (.slice (some ⟨g, 0, none⟩) n cap) (rowsI l)) {k : Nat} (hk : k < l.length) (b : Nat) {b' : Int} (hb : b' = (b : Int)) : OwS (w.setCell ⟨g, k, none⟩ (.int .i64 b')) base t 1 (.slice (some ⟨g, 0, none⟩) n cap) (rowsI (l.set k b)) := by
  subst hb
  have hr : (rowsI l)[k]? = some [.int .i64 (l[k] : Int)] := by unfold rowsI nInts; rw [List.getElem?_map, List.getElem?_map, List.getElem?_eq_getElem hk]; rfl
  obtain ⟨h0, -⟩ := h.set hr (j := 0) (by omega) (.int .i64 (b : Int))
  simp only [Nat.mul_one, Nat.add_zero, List.set_cons_zero] at h0
  unfold rowsI nInts at h0 ⊢
  rw [List.map_set, List.map_set]
  exact h0
theorem OwS.atI {w : World} {base n cap g : Nat} {t : TypeId} {l : List Nat} (h : OwS w base t 1 (.slice (some ⟨g, 0, none⟩) n cap) (rowsI l)) {k x : Nat} (hk : l[k]? = some x) : w.cell? ⟨g, k, none⟩ = some (.int .i64 (x : Int)) ∧ w.frozen? ⟨g, k, none⟩ = false := by
  have hr : (rowsI l)[k]? = some [.int .i64 (x : Int)] := by unfold rowsI nInts; rw [List.getElem?_map, List.getElem?_map, hk]; rfl
  have h2 := h.cell hr (j := 0) rfl
  rw [Nat.mul_one, Nat.add_zero] at h2
  exact ⟨h2, h.frozen k⟩
set_option maxHeartbeats 8000000 in
set_option maxRecDepth 100000 in
theorem planspares_any (n : Nat) (hn : n < 65536) (x : Nat) (hx256 : x < 256) (w : World) :
    Calls Tryz.prog 7 #[.int .u16 (n : Int), .int .u8 (x : Int)] w fun r w' => r = .returned (.bool true) ∧ Below w.heap.size w w' := by
  have HA := Lib.hid (fun W => awakeP_any W)
  have HSM := Lib.hid (fun W => small_any n hn W)
  have HSL : Hid (∀ (w1 w2 : World) (r : Ending), SmlP n w1 r w2 → ∃ A c, r = .returned (layAgg (smallL n) A c) ∧ GsV w2 w2.heap.size A (smallL n).gs ∧ Below w1.heap.size w1 w2) := fun w1 w2 r h => h
  have hs4 := small4_ok n
  have HX : Hid (LayX (small4 n)) := hs4.1
  have hG := hs4.2.1
  have htl := hs4.2.2
  have HCE : Hid ((smallL n).disks = (small4 n).disks ∧ (smallL n).n = (small4 n).n ∧ (smallL n).tiles = (small4 n).tiles ∧ (smallL n).gs = (small4 n).gs ∧ (small4 n).spare = 400) := ⟨rfl, rfl, rfl, rfl, rfl⟩
  unfold layAgg at HSL
  generalize SmlP n = SP at HSM HSL
  clear hn hs4
  obtain ⟨L0, hL0⟩ : ∃ L0, smallL n = L0 := ⟨_, rfl⟩
  obtain ⟨L, hL⟩ : ∃ L, small4 n = L := ⟨_, rfl⟩
  simp only [hL0, hL] at HX HSL HCE hG htl
  have hdk := HX.out.ok.disks
  have hw16 := HX.out.ok.w
  have hwl := w_le HX.out.ok
  clear hL hL0
  have HDD : Hid (∀ W, Calls Tryz.prog 11 #[.int .i64 (L.disks : Int), .agg #[.int .u8 (x : Int), .int .u16 0]] W fun r w' => DeadP L.disks x 0 W r w') := fun W => dead_any L.disks x 0 W hdk hx256 (by decide)
  obtain ⟨e, he⟩ : ∃ e, x % L.disks = e := ⟨_, rfl⟩
  have hed : e < L.disks := by rw [← he]; exact Nat.mod_lt _ (by omega)
  have HDE : Hid (∀ W r W', DeadP L.disks x 0 W r W' → ∃ (a : Addr), r = .returned (.tuple #[.slice (some a) L.disks L.disks, .int .i64 (e : Int)]) ∧ OwS W' W.heap.size 4 1 (.slice (some a) L.disks L.disks) ((oneD L.disks e).map fun b => [.bool b]) ∧ Below W.heap.size W W') := fun W r W' h => by
    obtain ⟨a, l, h1, -, -, h3, h4, h5⟩ := h
    have := h3 rfl
    subst this
    rw [he] at h1 h4
    exact ⟨a, h1, h4, h5⟩
  have hol : (oneD L.disks e).length = L.disks := by unfold oneD; simp
  have HOE : Hid ((oneD L.disks e)[e]? = some true) := by
    unfold oneD
    rw [List.getElem?_set_self (by simpa using hed)]
    rfl
  have HRE : Hid (planL L [] (e : Int) (oneD L.disks e) = refG L [] (oneD L.disks e) (onL L [] (e : Int)) [] []) := by
    rw [planL_reb HX.out.ok (ok_nil L) hol]
    unfold rebL
    rw [if_neg (by simp; omega), if_neg (by simp [HOE.out])]
    rfl
  have HOL := Lib.hid hol
  generalize DeadP L.disks x 0 = DP at HDD HDE
  clear he hx256 hol
  go_enter Tryz.func7, Tryz.ntmps7
  go_wp2_with fail
  refine (HA.out w).mono ?_
  rintro r w1 ⟨rfl, hb1⟩
  have HB1 := Lib.hid hb1
  clear hb1 HA
  go_wp2_with fail
  refine (HSM.out w1).mono ?_
  rintro r w2 hsm
  obtain ⟨A, c, rfl, hg2, hb2⟩ := HSL.out w1 w2 r hsm
  rw [HCE.out.2.2.2.1] at hg2
  have HG2 := Lib.hid hg2
  have HB2 := Lib.hid (HB1.out.trans (hb2.mono HB1.out.size))
  clear hsm hg2 hb2 HSL HSM HB1
  go_upto_region 5 with (fail)
  generalize hW3 : w2.alloc _ = w3
  have HI3 : Hid (LwI w w2.heap.size L A c w3) := by
    refine ⟨?_, ?_, ?_⟩
    · rw [← hW3]; exact HB2.out.trans (below_laid.mono HB2.out.size)
    · unfold LayB
      rw [← hW3, ← HCE.out.1, ← HCE.out.2.1, ← HCE.out.2.2.1, HCE.out.2.2.2.2]
      exact heap_alloc_new w2 _
    · rw [← hW3]; exact (HG2.out.below below_laid (Nat.le_refl _)).more (by simp)
  clear hW3 HG2 HB2
  generalize w2.heap.size = X at *
  have hww := fun (W : World) (h : LwI w X L A c W) => r21width (L := L) (A := A) (B := W.heap.size) (c := c) W HX.out h.gs (Nat.le_refl _)
  unfold layAgg at hww
  have HWW := Lib.hid hww
  have X3 := fun d xs => (HI3.out.below (below_regrown w3 d xs)).lay.cells
  have KW := Lib.hid (fun d xs => HWW.out (Sort.grow (redrawn w3 d) xs) (HI3.out.below (below_regrown w3 d xs)))
  clear hww
  have hpr := fun (W : World) (h : LwI w X L A c W) (a : Addr) (hD : BoolS W W.heap.size (some a) (oneD L.disks e)) => prebuild_any (L := L) (A := A) (Am := none) (Ad := some a) (B := W.heap.size) (c := c) (cm := 0) (cd := L.disks) (ms := []) (dead := oneD L.disks e) (e : Int) W HX.out h.gs (RdS.nil _ _ _ _) (by simp) hD (Nat.le_refl _) (by simp) (by rw [HOL.out]; omega)
  simp only [HRE.out, HOL.out] at hpr
  unfold layAgg at hpr
  by_cases hwd : L.w = L.disks
  case pos =>
    have h11 := spares_none HX.out.ok hwd hed
    simp only [h11] at hpr
    have HPR := Lib.hid hpr
    have f1 : ((L.w : Int) == (L.disks : Int)) = true := by rw [hwd]; simp
    have f1' : ((L.w : Int) = (L.disks : Int)) := by omega
    clear hpr h11 hwd
    refine quiet_below (by kernel_rfl) (by kernel_rfl) ?_
    repeat (go_big_quiet_step (first | (go_at_call 17; exact Calls.regrown_of (KW.out _ _))))
    refine wpQuiet_nil ?_
    intro w4 hb4
    have HI4 := Lib.hid (HI3.out.below hb4)
    clear X3 KW hb4 HI3 f1 f1'
    obtain ⟨l0, l1, l2, l3⟩ := HI4.out.lay.cells
    go_wp2_with fail
    refine (HDD.out w4).mono ?_
    rintro r w5 hdp
    obtain ⟨ad, rfl, hown, hb5⟩ := HDE.out w4 r w5 hdp
    have HI5 := Lib.hid (HI4.out.below hb5)
    have hd5 : BoolS w5 w5.heap.size (some ad) (oneD L.disks e) := hown.reads
    have HC5 := Lib.hid (HPR.out w5 HI5.out ad hd5)
    clear hdp hown hb5 hd5 HPR HI4 l0 l1 l2 l3
    obtain ⟨l0, l1, l2, l3⟩ := HI5.out.lay.cells
    go_wp2_with fail
    refine HC5.out.mono ?_
    rintro r w6 ⟨⟨v6, rfl, ht6⟩, hb6⟩
    obtain ⟨A6, c6, rfl⟩ := ht6.form
    have HE := Lib.hid (HI5.out.below hb6).bel
    simp only [List.length_nil]
    clear ht6 hb6
    go_wp2
    go_ret
    exact ⟨rfl, HE.out⟩
  case neg =>
    obtain ⟨lam, hl1, hdes⟩ := HX.out.des
    have hlt : L.w < L.disks := by omega
    obtain ⟨new, fin, hrb⟩ := spares_through HX.out.ok hlt (d := e) (by
      have h1 := on_len HX.out.ok (ok_nil L) e
      have h2 := HCE.out.2.2.2.2
      omega)
    have HLW := Lib.hid (fun x hx => spares_law HX.out.ok (des_pair hdes) hed hrb x hx)
    have hrt := reb_tasks HX.out.ok hrb (ok_nil L) on_isP (onL_inc HX.out.ok (ok_nil L) (e : Int)) (fun _ _ _ => rfl)
    have HTK := Lib.hid hrt.2.1
    have hnl : new.length ≤ 105 := by
      have h1 : (new.map fun t => (t.g, t.p)).length = (onL L [] (e : Int)).length := by rw [hrt.1]
      rw [List.length_map] at h1
      have h2 := on_len HX.out.ok (ok_nil L) e
      omega
    have hrf := rebOk_G hrb []
    have hrg : refG L [] (oneD L.disks e) (onL L [] (e : Int)) [] [] = (new, 0) := by
      have := rebOk_G hrb []
      rw [List.nil_append] at this
      exact this
    simp only [hrg] at hpr
    have HPR := Lib.hid hpr
    have HCK := Lib.hid (fun (W : World) hv hB => check7_any (A := A) (B := W.heap.size) (c := c) W hdes hv hB HX.out.ok.disks ⟨by omega, hw16.2⟩ HX.out.ok.n.2 hl1)
    have hlr := des_lam hdes hdk.1
    have f1 : ((L.w : Int) == (L.disks : Int)) = false := by rw [beq_eq_false_iff_ne]; omega
    have f1' : ¬ ((L.w : Int) = (L.disks : Int)) := by omega
    clear hpr hrb hrt hrf hrg hdes hl1
    refine quiet_below (by kernel_rfl) (by kernel_rfl) ?_
    repeat (go_big_quiet_step (first | (go_at_call 17; exact Calls.regrown_of (KW.out _ _))))
    refine wpQuiet_nil ?_
    intro w4 hb4
    have HI4 := Lib.hid (HI3.out.below hb4)
    clear X3 KW hb4 HI3 f1 f1' hwd
    obtain ⟨l0, l1, l2, l3⟩ := HI4.out.lay.cells
    go_wp2_with fail
    refine (HDD.out w4).mono ?_
    rintro r w5 hdp
    obtain ⟨ad, rfl, hown, hb5⟩ := HDE.out w4 r w5 hdp
    have HI5 := Lib.hid (HI4.out.below hb5)
    have hd5 : BoolS w5 w5.heap.size (some ad) (oneD L.disks e) := hown.reads
    have HC5 := Lib.hid (HPR.out w5 HI5.out ad hd5)
    clear hdp hown hb5 hd5 HPR HI4 l0 l1 l2 l3
    obtain ⟨l0, l1, l2, l3⟩ := HI5.out.lay.cells
    go_wp2_with fail
    refine HC5.out.mono ?_
    rintro r w6 ⟨⟨v6, rfl, ht6⟩, hb6⟩
    obtain ⟨A6, c6, rfl⟩ := ht6.form
    have HT6 : Hid (TskS w6 w6.heap.size A6 new) := ht6.reads
    have HI6 := Lib.hid (HI5.out.below hb6)
    simp only
    clear ht6 hb6 HC5 HI5 l0 l1 l2 l3
    have hmk : ∀ W : World, (Instr.makeSlice 48 (.int .i64 (L.disks : Int)) (.int .i64 (L.disks : Int))).run Tryz.prog W = .ok (.slice (some ⟨W.heap.size, 0, none⟩) L.disks L.disks) (W.alloc (.cells (madeCells #[.int .i64 0] L.disks) 3)) := fun W => make_intsS W L.disks (by omega)
    obtain ⟨l0, l1, l2, l3⟩ := HI6.out.lay.cells
    go_upto_region 12 with (fail)
    generalize hW7 : w6.alloc _ = w7
    have HO7 : Hid (OwS w7 w6.heap.size 3 1 (.slice (some ⟨w6.heap.size, 0, none⟩) L.disks L.disks) (rowsI (cntL L.disks []))) := by rw [← hW7, cntL_nil]; exact made_zeros w6 L.disks (by omega)
    have hb7 : Below w6.heap.size w6 w7 := by rw [← hW7]; exact below_laid
    have HI7 := Lib.hid (HI6.out.below hb7)
    have HT7 : Hid (TskS w7 w6.heap.size A6 new) := HT6.out.below hb7 (Nat.le_refl _)
    have HB7 := Lib.hid hb7
    have HL6 := Lib.hid HI6.out.lay
    have HW6 := Lib.hid HI6.out.bel
    have HG6 := Lib.hid HI6.out.gs
    have hX6 : X < w6.heap.size := HI6.out.lay.lt
    have hS7 : w6.heap.size < w7.heap.size := (HO7.out.lt rfl).2
    clear hW7 hb7 hmk HT6 l0 l1 l2 l3 HI6
    have HBW : Hid (∀ W, Below w6.heap.size w7 W → LwI w X L A c W) := fun W h => by
      have h2 := HB7.out.trans h
      exact ⟨HW6.out.trans (h2.mono HW6.out.size), HL6.out.below h2 hX6, (HG6.out.below h2 (Nat.le_refl _)).more h2.size⟩
    clear HI7 HL6 HW6 HG6
    generalize w6.heap.size = S at *
    go_wp2
    go_loopw [15] (fun s15 wr => SpR L.disks new S w7 s15 wr) (fun s15 _ => new.length - (intOf s15).toNat)
    case atStart => exact ⟨0, by omega, rfl, HO7.out, Below.refl _ _⟩
    case round =>
      obtain ⟨i, hi, rfl, hown, hb⟩ := hrel
      have HOI := Lib.hid hown
      have HBI := Lib.hid hb
      clear hown hb
      by_cases hin : i < new.length
      case pos =>
        have hiI : (i : Int) < (new.length : Int) := by omega
        obtain ⟨t, ht⟩ := at_some hin
        have hto := (HTK.out t (List.mem_of_getElem? ht)).to
        obtain ⟨b1, o1, Af, cf, rfl, -, -, -, -, -, x3, -⟩ := (HT7.out.below HBI.out (Nat.le_refl _)).at_ ht
        unfold toOk at hto
        simp only [Bool.and_eq_true, decide_eq_true_eq] at hto
        obtain ⟨tn, htn⟩ : ∃ tn : Nat, t.to.disk = (tn : Int) := ⟨t.to.disk.toNat, by omega⟩
        have htl : tn < L.disks := by omega
        rw [htn] at x3
        have HST := Lib.hid (cntL_step (D := L.disks) ht htn)
        obtain ⟨y0, yf⟩ := HOI.out.atI (cntL_at (ts := new.take i) htl)
        have hcl : cntD (new.take i) tn ≤ 105 := Nat.le_trans (cntD_le _ _) (Nat.le_trans (List.length_take_le _ _) (by omega))
        have HOS := Lib.hid (fun b' hb' => HOI.out.setI (k := tn) (by unfold cntL; simpa using htl) (cntD (new.take i) tn + 1) (b' := b') hb')
        have f1 : decide ((tn : Int) < 0) = false := by rw [decide_eq_false_iff_not]; omega
        have f2 : decide (L.disks ≤ tn) = false := by rw [decide_eq_false_iff_not]; omega
        have f3 : decide ((L.disks : Int) ≤ (tn : Int)) = false := by rw [decide_eq_false_iff_not]; omega
        have htI : (tn : Int) < (L.disks : Int) := by omega
        obtain ⟨cn, hcn⟩ : ∃ cn, cntD (new.take i) tn = cn := ⟨_, rfl⟩
        rw [hcn] at y0 hcl HST HOS
        clear ht hto htn hcn
        go_wp2
        go_roundw
        case rel => exact ⟨i + 1, by omega, by go_num, by rw [← HST.out]; exact HOS.out _ (by push_cast; rfl), HBI.out.setCell (Nat.le_refl _) _⟩
        case measure => simp [intOf] <;> omega
      case neg =>
        have hiI : ¬ (i : Int) < (new.length : Int) := by omega
        have hti : new.take i = new := List.take_of_length_le (by omega)
        rw [hti] at HOI
        have HIW := Lib.hid (HBW.out wr HBI.out)
        have HOW := Lib.hid HOI.out
        obtain ⟨l0, l1, l2, l3⟩ := HIW.out.lay.cells
        have hck := HCK.out wr HIW.out.gs (Nat.le_refl _)
        have HCK2 : Hid (Calls Tryz.prog 25 #[.agg #[.int .i64 (L.disks : Int), .slice A L.n c]] wr fun e w' => e = .returned (.tuple #[.int .i64 (L.r : Int), .int .i64 (lam : Int), .bool true]) ∧ Below wr.heap.size wr w') := hck
        clear hck HCK hti HOI
        obtain ⟨wo, rfl⟩ : ∃ wo : World, wo = wr := ⟨_, rfl⟩
        go_wp2_with fail
        refine HCK2.out.mono ?_
        rintro r w9 ⟨rfl, hb9⟩
        have HI9 := Lib.hid (HIW.out.below hb9)
        have HO9 := Lib.hid (HOW.out.below hb9)
        clear hb9 HCK2 HIW HOW l0 l1 l2 l3
        have hrb : L.r ≤ 65536 := by
          have h1 := HX.out.ok.blocks
          unfold LayD.blocks LayD.homes at h1
          have h2 : 1 * L.r ≤ L.tiles * L.r := Nat.mul_le_mul_right _ HX.out.ok.tiles.1
          omega
        have k1 : IntKind.i64.wrap ((L.r : Int) - (lam : Int)) = ((L.r - lam : Nat) : Int) := by rw [IntWalk.i64_in _ (by omega)]; omega
        obtain ⟨rl, hrl⟩ : ∃ rl, L.r - lam = rl := ⟨_, rfl⟩
        rw [hrl] at k1
        have hrl2 : rl ≤ 65536 := by omega
        have hprod : L.tiles * rl ≤ 5 * 65536 := Nat.mul_le_mul htl hrl2
        have k2 : IntKind.i64.wrap ((L.tiles : Int) * (rl : Int)) = ((L.tiles * rl : Nat) : Int) := by rw [show (L.tiles : Int) * (rl : Int) = ((L.tiles * rl : Nat) : Int) by simp]; exact IntWalk.i64_in _ (by omega)
        have HLA : Hid (∀ y, y < L.disks → cntD new y ≤ L.tiles * rl ∧ (y = e → cntD new y = 0)) := fun y hy => by
          have h := HLW.out y hy
          rw [hrl] at h
          exact h
        have K1 := Lib.hid k1
        have K2 := Lib.hid k2
        generalize L.tiles * rl = pr at *
        clear k1 k2 hrl HLW
        go_wp2
        go_loopw [19] (fun s19 wr => CntR L.disks w9 s19 wr) (fun s19 _ => L.disks - (intOf s19).toNat)
        case atStart => exact ⟨0, by omega, rfl, Below.refl _ _⟩
        case round =>
          obtain ⟨y, hy, rfl, hb⟩ := hrel
          have HBY := Lib.hid hb
          have HIY := Lib.hid (HI9.out.below hb)
          have HOY := Lib.hid (HO9.out.below hb)
          clear hb
          by_cases hyd : y < L.disks
          case pos =>
            have hyI : (y : Int) < (L.disks : Int) := by omega
            obtain ⟨q0, -⟩ := HOY.out.atI (cntL_at (ts := new) hyd)
            obtain ⟨l0, l1, l2, l3⟩ := HIY.out.lay.cells
            have hle := (HLA.out y hyd).1
            have f1 : decide ((pr : Int) < (cntD new y : Int)) = false := by rw [decide_eq_false_iff_not]; omega
            have f2 : decide (pr < cntD new y) = false := by rw [decide_eq_false_iff_not]; omega
            have k1 := K1.out
            have k2 := K2.out
            generalize cntD new y = cy at *
            go_upto_region 22 with (fail)
            go_quiet (fail)
            have HBZ : Hid (∀ q, Below w9.heap.size w9 (wr.drewN q)) := fun q => below_drewN HBY.out q
            clear k1 k2 f1 f2 q0 l0 l1 l2 l3
            go_wp2
            go_roundw
            case rel => exact ⟨y + 1, by omega, by go_num, HBZ.out _⟩
            case measure => simp [intOf] <;> omega
          case neg =>
            have hyI : ¬ (y : Int) < (L.disks : Int) := by omega
            obtain ⟨q0, -⟩ := HOY.out.atI (cntL_at (ts := new) hed)
            have h0 := (HLA.out e hed).2 rfl
            rw [h0] at q0
            have HE := Lib.hid HIY.out.bel
            have heI : (e : Int) < (L.disks : Int) := by omega
            clear h0
            go_wp2
            go_ret
            exact ⟨rfl, HE.out⟩
end Go.Proofs.YteglnekkkhpikaaGreat
