/- Walk of tegularef22.Used.
Walks of tegularef22: With, Same.
Walks of tegularef22: Same, Apply. -/
import Derived.Test.YteglnekkkhpikaaGreatSpY
namespace Go.Proofs.YteglnekkkhpikaaGreat
open Go.RowKit

def usedP (L : LayD) (ms : List Mv) (d : Int) (k : Nat) : List Int := ((List.range k).map fun i => ((L.homes + i : Nat) : Int)).filter fun b => ms.any fun m => m.to == ⟨d, b⟩
def usedQ (L : LayD) (ms : List Mv) (d : Int) (k j : Nat) : List Int := usedP L ms d k ++ if (ms.take j).any (fun m => m.to == ⟨d, ((L.homes + k : Nat) : Int)⟩) then [((L.homes + k : Nat) : Int)] else []
section
variable {L : LayD} {ms : List Mv} {d : Int} {k j : Nat}
theorem usedP_all : usedP L ms d L.spare = usedL L ms d := rfl
theorem usedP_len (L : LayD) (ms : List Mv) (d : Int) (k : Nat) : (usedP L ms d k).length ≤ k := Nat.le_trans (List.length_filter_le _ _) (by simp)
theorem usedQ_zero : usedQ L ms d k 0 = usedP L ms d k := by simp [usedQ]
theorem usedQ_all : usedQ L ms d k ms.length = usedP L ms d (k + 1) := by
  unfold usedQ usedP
  rw [List.take_length, List.range_succ, List.map_append, List.filter_append]
  congr 1
  simp only [List.map_cons, List.map_nil, List.filter_cons, List.filter_nil]
theorem usedQ_len (L : LayD) (ms : List Mv) (d : Int) (k j : Nat) : (usedQ L ms d k j).length ≤ k + 1 := by
  unfold usedQ
  have := usedP_len L ms d k
  split <;> simp <;> omega
theorem usedQ_hit (hs : ms.Pairwise fun a b => a.to ≠ b.to) {m : Mv} (hm : ms[j]? = some m) (ht : m.to = ⟨d, ((L.homes + k : Nat) : Int)⟩) : usedQ L ms d k (j + 1) = usedQ L ms d k j ++ [((L.homes + k : Nat) : Int)] := by
  unfold usedQ
  obtain ⟨hj, rfl⟩ := List.getElem?_eq_some_iff.1 hm
  have h1 : (ms.take j).any (fun m => m.to == ⟨d, ((L.homes + k : Nat) : Int)⟩) = false := by
    rw [List.any_eq_false]
    intro x hx h
    rw [List.mem_take_iff_getElem] at hx
    obtain ⟨i, hi, rfl⟩ := hx
    have := List.pairwise_iff_getElem.1 hs i j (by omega) hj (by omega)
    rw [ht] at this
    exact this (by simpa using h)
  have h2 : (ms.take (j + 1)).any (fun m => m.to == ⟨d, ((L.homes + k : Nat) : Int)⟩) = true := by
    rw [List.take_add_one, hm, List.any_append, h1]
    simp [ht]
  rw [h1, h2]
  simp
theorem usedQ_miss {m : Mv} (hm : ms[j]? = some m) (ht : m.to ≠ ⟨d, ((L.homes + k : Nat) : Int)⟩) : usedQ L ms d k (j + 1) = usedQ L ms d k j := by
  unfold usedQ
  rw [List.take_add_one, hm, List.any_append]
  have : ((some m).toList.any fun m => m.to == ⟨d, ((L.homes + k : Nat) : Int)⟩) = false := by simpa using ht
  rw [this, Bool.or_false]
end
theorem LayB.grown {w w' : World} {X : Nat} {L : LayD} {A : Option Addr} {c base size : Nat} {e : TypeId} {v : Value} {rows : List (List Value)} (h : LayB w X L A c) (ho : OwS w base e size v rows) (hne : e ≠ 31) (hg : w.grownBy w' v.ownBlock) : LayB w' X L A c :=
  (hg.block _ h.lt (fun he => ho.blk_ne h hne he.symm)).trans h
def Usd1 (w : World) (L : LayD) (ms : List Mv) (d : Int) (A : Option Addr) (c : Nat) (s7 s8 : Value) (wr : World) : Prop :=
  ∃ k : Nat, k ≤ L.spare ∧ s8 = .int .i64 ((L.homes + k : Nat) : Int) ∧ OwS wr w.heap.size 3 1 s7 ((usedP L ms d k).map icell) ∧ Below w.heap.size w wr ∧ LayB wr w.heap.size L A c
def Usd2 (w : World) (L : LayD) (ms : List Mv) (d : Int) (A : Option Addr) (c k : Nat) (s7 s9 : Value) (wr : World) : Prop :=
  ∃ j : Nat, j ≤ ms.length ∧ s9 = .int .i64 j ∧ OwS wr w.heap.size 3 1 s7 ((usedQ L ms d k j).map icell) ∧ Below w.heap.size w wr ∧ LayB wr w.heap.size L A c
set_option maxHeartbeats 4000000 in
set_option maxRecDepth 100000 in
theorem r22used {L : LayD} {A Am : Option Addr} {B c cm : Nat} {ms : List Mv} (d : Int) (w : World) (hx : LayX L) (hv : GsV w B A L.gs) (hM : MvS w B Am ms) (hB : B ≤ w.heap.size) (hlen : ms.length ≤ 1000000) (hs : ms.Pairwise fun a b => a.to ≠ b.to) :
    Calls Tryz.prog 57 #[layAgg L A c, .slice Am ms.length cm, .int .i64 d] w fun r w' => (∃ v, r = .returned v ∧ OwS w' w.heap.size 3 1 v ((usedL L ms d).map icell)) ∧ Below w.heap.size w w' := by
  have HV := Lib.hid hv
  have HM := Lib.hid hM
  have HS := Lib.hid hs
  have HCH := Lib.hid (fun W hv hB => r21homes (L := L) (A := A) (B := B) (c := c) W hx hv hB)
  have HCB := Lib.hid (fun W hv hB => r21blocks (L := L) (A := A) (B := B) (c := c) W hx hv hB)
  have hbk := hx.ok.blocks
  have hbk2 : (L.blocks : Int) = (L.homes : Int) + (L.spare : Int) := by unfold LayD.blocks; simp
  have hsp : L.homes + L.spare ≤ 65536 := hbk
  unfold layAgg at *
  clear hv hM hs hbk
  go_enter Tryz.func57, Tryz.ntmps57
  go_wp2_with fail
  have hl0 := LayB.made w L A c
  have hb0 : Below w.heap.size w (w.alloc (.cells #[.int .i64 L.disks, .slice A L.n c, .int .i64 L.tiles, .int .i64 L.spare] 31)) := below_laid
  generalize w.alloc _ = w0 at *
  have hB0 : B ≤ w0.heap.size := Nat.le_trans hB hb0.size
  refine (HCH.out w0 (HV.out.below hb0 hB) hB0).mono ?_
  rintro r w1 ⟨rfl, hb1⟩
  have H0 : Hid (Usd1 w L ms d A c (.slice none 0 0) (.int .i64 L.homes) w1) := ⟨0, by omega, by simp, OwS.nil _ _ _ _, hb0.trans (hb1.mono hb0.size), hl0.below hb1 hl0.lt⟩
  clear hb0 hb1 hl0 hB0
  go_wp2
  go_loopw [7, 8, 9] (fun s7 s8 _ wr => Usd1 w L ms d A c s7 s8 wr) (fun _ s8 _ _ => L.blocks - (intOf s8).toNat)
  case atStart => exact H0.out
  case round =>
    clear H0
    obtain ⟨k, hk, rfl, hown, hb, hl⟩ := hrel
    obtain ⟨A7, c7, rfl, -, -⟩ := hown.form
    generalize hn7 : (List.map icell (usedP L ms d k)).length = n7 at *
    have HO := Lib.hid hown
    have HB := Lib.hid hb
    have HL := Lib.hid hl
    obtain ⟨c0, c1, c2, c3⟩ := hl.cells
    have hB1 : B ≤ wr.heap.size := Nat.le_trans hB hb.size
    clear hown hb hl hn7
    go_wp2_with fail
    refine (HCB.out wr (HV.out.below HB.out hB) hB1).mono ?_
    rintro r w2 ⟨rfl, hb2⟩
    have HB2 := Lib.hid (HB.out.trans (hb2.mono HB.out.size))
    have HL2 := Lib.hid (HL.out.below hb2 HL.out.lt)
    have HO2 := Lib.hid (HO.out.below hb2)
    clear hb2 c0 c1 c2 c3 hB1 HB HL HO
    by_cases hks : k < L.spare
    · have hkI : (L.homes : Int) + (k : Int) < (L.blocks : Int) := by omega
      go_wp2
      go_loopw [7, 9] (fun s7 s9 wr => Usd2 w L ms d A c k s7 s9 wr) (fun _ s9 _ => ms.length - (intOf s9).toNat)
      case atStart => exact ⟨0, by omega, rfl, by rw [usedQ_zero]; exact HO2.out, HB2.out, HL2.out⟩
      case round =>
        clear HO2 HB2 HL2
        obtain ⟨j, hj, rfl, hown, hb, hl⟩ := hrel
        obtain ⟨A8, c8, rfl, -, -⟩ := hown.form
        rw [List.length_map] at hown ⊢
        have hlq := usedQ_len L ms d k j
        have HO := Lib.hid hown
        have HB := Lib.hid hb
        have HL := Lib.hid hl
        clear hown hl
        by_cases hjn : j < ms.length
        · have hjI : (j : Int) < (ms.length : Int) := by omega
          obtain ⟨m, hm⟩ := at_some hjn
          obtain ⟨b, off, rfl, -, q0, q1, q2, q3⟩ := MvS.at_ (HM.out.below' hb hB) hm
          have HHT : Hid (m.to.disk = d → m.to.block = ((L.homes + k : Nat) : Int) → usedQ L ms d k (j + 1) = usedQ L ms d k j ++ [((L.homes + k : Nat) : Int)]) := fun h1 h2 => usedQ_hit HS.out hm (by cases hq : m.to; rw [hq] at h1 h2; simp at h1 h2; rw [h1, h2]; simp)
          have HMS : Hid ((m.to.disk ≠ d ∨ m.to.block ≠ ((L.homes + k : Nat) : Int)) → usedQ L ms d k (j + 1) = usedQ L ms d k j) := fun h => usedQ_miss hm (fun he => by rw [he] at h; rcases h with h | h <;> exact h rfl)
          clear hm
          by_cases e1 : m.to.disk = d
          · by_cases e2 : m.to.block = ((L.homes + k : Nat) : Int)
            · have HQ := Lib.hid (HHT.out e1 e2)
              have f1 : (m.to.disk == d) = true := by simpa using e1
              have f2 : (m.to.block == (L.homes : Int) + (k : Int)) = true := by simpa using e2
              have hsz := hb.size
              clear e1 e2 hb
              go_wp2_with (at_builtin; refine wpList_ap1 rfl (.tmp 33) (.tmp 35) _ rfl elemIntS rfl HO.out (icell ((L.homes : Int) + (k : Int))) _ (by rfl) wr.heap.size (by rfl) (by rfl) (icellOneS _) (by simp [maxLen]; omega) (by simp; omega) hsz ?_)
              rintro v1 w3 hown1 hg1 -
              have HO1 : Hid (OwS w3 w.heap.size 3 1 v1 ((usedQ L ms d k (j + 1)).map icell)) := by
                rw [Hid, HQ.out, List.map_append]
                simpa using hown1
              have HB1 : Hid (Below w.heap.size w w3) := (HB.out.alloc HB.out.size _).grown hg1 (by simp; omega) (fun g hg => (HO.out.lt hg).1)
              have HL1 : Hid (LayB w3 w.heap.size L A c) := (HL.out.below below_laid HL.out.lt).grown (HO.out.alloc _) (by decide) hg1
              clear hown1 hg1
              go_wp2
              go_roundw
              case rel => exact ⟨j + 1, by omega, by go_num, HO1.out, HB1.out, HL1.out⟩
              case measure => simp [intOf] <;> omega
            · have HQ := Lib.hid (HMS.out (.inr e2))
              have f1 : (m.to.disk == d) = true := by simpa using e1
              have f2 : (m.to.block == (L.homes : Int) + (k : Int)) = false := by simpa using e2
              clear e1 e2 hb
              go_wp2
              go_roundw
              case rel => exact ⟨j + 1, by omega, by go_num, by rw [HQ.out]; exact HO.out, HB.out, HL.out⟩
              case measure => simp [intOf] <;> omega
          · have HQ := Lib.hid (HMS.out (.inl e1))
            have f1 : (m.to.disk == d) = false := by simpa using e1
            clear e1 hb
            go_wp2
            go_roundw
            case rel => exact ⟨j + 1, by omega, by go_num, by rw [HQ.out]; exact HO.out, HB.out, HL.out⟩
            case measure => simp [intOf] <;> omega
        · have hjI : ¬ (j : Int) < (ms.length : Int) := by omega
          have HQ : Hid (usedQ L ms d k j = usedP L ms d (k + 1)) := by rw [Hid, show j = ms.length by omega, usedQ_all]
          clear hb
          go_wp2
          go_roundw
          case rel => exact ⟨k + 1, by omega, by go_num, by rw [← HQ.out]; exact HO.out, HB.out, HL.out⟩
          case measure => simp [intOf] <;> omega
    · have hkI : ¬ (L.homes : Int) + (k : Int) < (L.blocks : Int) := by omega
      have HQ : Hid (usedP L ms d k = usedL L ms d) := by rw [Hid, show k = L.spare by omega, usedP_all]
      go_wp2
      go_ret
      exact ⟨⟨_, rfl, by rw [← HQ.out]; exact HO2.out⟩, HB2.out⟩
end Go.Proofs.YteglnekkkhpikaaGreat
namespace Go.Proofs.YteglnekkkhpikaaGreat
open Go.RowKit

theorem elemMv : Elem Tryz.prog 33 62 4 32 := Elem.mk (z := .agg #[.int .i64 0, .int .i64 0, .int .i64 0, .int .i64 0]) Tryz.underlying33 (by kernel_rfl) (by decide) rfl
theorem withM_len (ms : List Mv) (m : Mv) : (withM ms m).length ≤ ms.length + 1 := withL_len m ms _
def WithR (w : World) (ms : List Mv) (m : Mv) (s5 s6 s7 : Value) (wr : World) : Prop :=
  ∃ (k : Nat) (put : Bool) (out : List Mv), k ≤ ms.length ∧ s6 = .bool put ∧ s7 = .int .i64 k ∧ out ++ withL m put (ms.drop k) = withM ms m ∧ OwS wr (w.heap.size + 1) 62 4 s5 (out.map Mv.cells) ∧ Below w.heap.size w wr ∧ MvB wr w.heap.size m
theorem MvB.made (w : World) (m : Mv) : MvB (w.alloc (.cells #[.int .i64 m.g, .int .i64 m.p, .int .i64 m.to.disk, .int .i64 m.to.block] 62)) w.heap.size m := heap_alloc_new w _
theorem MvB.grown {w w' : World} {X : Nat} {m : Mv} {o : Option Nat} (h : MvB w X m) (hg : w.grownBy w' o) (hne : o ≠ some X) : MvB w' X m := (hg.block _ h.lt (fun he => hne he.symm)).trans h
set_option maxHeartbeats 4000000 in
set_option maxRecDepth 100000 in
theorem r22with {Am : Option Addr} {B cm : Nat} {ms : List Mv} (m : Mv) (w : World) (hM : MvS w B Am ms) (hB : B ≤ w.heap.size) (hlen : ms.length ≤ 100000) :
    Calls Tryz.prog 36 #[.slice Am ms.length cm, m.agg] w fun r w' => (∃ v, r = .returned v ∧ OwS w' w.heap.size 62 4 v ((withM ms m).map Mv.cells)) ∧ Below w.heap.size w w' := by
  have HM := Lib.hid hM
  have HWL := Lib.hid (withM_len ms m)
  have HW0 : Hid (withM ms m = withL m (m.to.disk == -1) ms) := rfl
  unfold Mv.agg
  clear hM
  obtain ⟨put0, hput⟩ : ∃ put0, (m.to.disk == -1) = put0 := ⟨_, rfl⟩
  go_enter Tryz.func36, Tryz.ntmps36
  go_wp2
  have hmb := MvB.made w m
  have hb0 : Below w.heap.size w (w.alloc (.cells #[.int .i64 m.g, .int .i64 m.p, .int .i64 m.to.disk, .int .i64 m.to.block] 62)) := below_laid
  generalize w.alloc _ = w0 at *
  rw [hput] at HW0
  have H0 : Hid (WithR w ms m (.slice none 0 0) (.bool put0) (.int .i64 0) w0) := ⟨0, put0, [], by omega, rfl, rfl, by rw [HW0.out]; simp, OwS.nil _ _ _ _, hb0, hmb⟩
  clear hb0 hmb hput
  go_loopw [5, 6, 7, 8] (fun s5 s6 s7 _ wr => WithR w ms m s5 s6 s7 wr) (fun _ _ s7 _ _ => ms.length - (intOf s7).toNat)
  case atStart => exact H0.out
  case round =>
    clear H0 HW0
    obtain ⟨k, put, out, hk, rfl, rfl, heq, hown, hb, hmb⟩ := hrel
    obtain ⟨A5, c5, rfl, -, -⟩ := hown.form
    rw [List.length_map] at hown ⊢
    have hol : out.length ≤ ms.length + 1 := by
      have := HWL.out
      rw [← heq, List.length_append] at this
      omega
    have HO := Lib.hid hown
    have HB := Lib.hid hb
    have HMB := Lib.hid hmb
    have HEQ := Lib.hid heq
    clear heq
    by_cases hkn : k < ms.length
    · have hkI : (k : Int) < (ms.length : Int) := by omega
      obtain ⟨x, hxk⟩ := at_some hkn
      obtain ⟨b, off, rfl, -, q0, q1, q2, q3⟩ := MvS.at_ (HM.out.below' hb hB) hxk
      have hdrop : ms.drop k = x :: ms.drop (k + 1) := by
        obtain ⟨h1, rfl⟩ := List.getElem?_eq_some_iff.1 hxk
        exact List.drop_eq_getElem_cons h1
      have HDR := Lib.hid hdrop
      have hsz := hb.size
      have hwl : w.heap.size < wr.heap.size := hmb.lt
      have hmx : MvB (wr.alloc (.cells #[.int .i64 x.g, .int .i64 x.p, .int .i64 x.to.disk, .int .i64 x.to.block] 62)) wr.heap.size x := MvB.made wr x
      have hm1 : MvB (wr.alloc (.cells #[.int .i64 x.g, .int .i64 x.p, .int .i64 x.to.disk, .int .i64 x.to.block] 62)) w.heap.size m := hmb.below below_laid hmb.lt
      have hb1 : Below w.heap.size w (wr.alloc (.cells #[.int .i64 x.g, .int .i64 x.p, .int .i64 x.to.disk, .int .i64 x.to.block] 62)) := hb.trans (below_laid.mono hb.size)
      have ho1 := hown.alloc (.cells #[.int .i64 x.g, .int .i64 x.p, .int .i64 x.to.disk, .int .i64 x.to.block] 62)
      clear hxk hdrop hown hb hmb
      go_upto_region 7 with (fail)
      have hMne : (Value.slice A5 out.length c5).ownBlock ≠ some wr.heap.size := fun he => by
        have := (HO.out.lt (k := wr.heap.size) he).2
        omega
      generalize wr.heap.size = M at *
      generalize wr.alloc _ = w1 at *
      clear HO HB HMB q0 q1 q2 q3
      have HO := Lib.hid ho1
      have HB := Lib.hid hb1
      have HM1 := Lib.hid hm1
      have HMX := Lib.hid hmx
      have HNE := Lib.hid hMne
      obtain ⟨x0, x1, x2, x3⟩ := hmx.cells
      obtain ⟨m0, m1, m2, m3⟩ := hm1.cells
      have hb1s := hb1.size
      have hMl : M < w1.heap.size := hmx.lt
      have hXl : w.heap.size < w1.heap.size := hm1.lt
      clear ho1 hb1 hm1 hmx hMne
      have HKEY : Hid (x.g = m.g → x.p = m.p → withL m put (ms.drop k) = withL m put (ms.drop (k + 1))) := fun h1 h2 => by rw [HDR.out]; simp [withL, h1, h2]
      have HINS : Hid (¬ (x.g = m.g ∧ x.p = m.p) → (put = false ∧ (m.g < x.g ∨ (x.g = m.g ∧ m.p < x.p))) → withL m put (ms.drop k) = m :: x :: withL m true (ms.drop (k + 1))) := fun h1 h2 => by rw [HDR.out]; simp only [withL]; rw [if_neg h1, if_pos h2]
      have HNIN : Hid (¬ (x.g = m.g ∧ x.p = m.p) → ¬ (put = false ∧ (m.g < x.g ∨ (x.g = m.g ∧ m.p < x.p))) → withL m put (ms.drop k) = x :: withL m put (ms.drop (k + 1))) := fun h1 h2 => by rw [HDR.out]; simp only [withL]; rw [if_neg h1, if_neg h2]
      by_cases hkey : x.g = m.g ∧ x.p = m.p
      · have f1 : (x.g == m.g) = true := by simpa using hkey.1
        have f2 : (x.p == m.p) = true := by simpa using hkey.2
        have HR := Lib.hid (HKEY.out hkey.1 hkey.2)
        clear hkey
        go_wp2
        go_roundw
        case rel => exact ⟨k + 1, put, out, by omega, rfl, by go_num, by rw [← HR.out]; exact HEQ.out, HO.out, HB.out, HM1.out⟩
        case measure => simp [intOf] <;> omega
      · go_cut [34] (fun s34 wx => s34 = .bool false ∧ wx = w1)
        case first =>
          by_cases e1 : x.g = m.g
          · have f1 : (x.g == m.g) = true := by simpa using e1
            have f2 : (x.p == m.p) = false := by simpa using fun h => hkey ⟨e1, h⟩
            clear e1 hkey
            go_wp2_with fail
            go_meet
            exact ⟨rfl, rfl⟩
          · have f1 : (x.g == m.g) = false := by simpa using e1
            clear e1 hkey
            go_wp2_with fail
            go_meet
            exact ⟨rfl, rfl⟩
        obtain ⟨rfl, rfl⟩ := hcut
        go_upto_region 8 with (fail)
        obtain ⟨ins, hins⟩ : ∃ ins, decide (put = false ∧ (m.g < x.g ∨ (x.g = m.g ∧ m.p < x.p))) = ins := ⟨_, rfl⟩
        have HINB := Lib.hid hins
        go_cut [57] (fun s57 wx => s57 = .bool ins ∧ wx = wc)
        case first =>
          cases put
          · rcases (show m.g < x.g ∨ (¬ m.g < x.g ∧ x.g ≠ m.g) ∨ (¬ m.g < x.g ∧ x.g = m.g ∧ m.p < x.p) ∨ (¬ m.g < x.g ∧ x.g = m.g ∧ ¬ m.p < x.p) by omega) with e1 | ⟨e1, e2⟩ | ⟨e1, e2, e3⟩ | ⟨e1, e2, e3⟩
            · obtain rfl : ins = true := by rw [← hins, decide_eq_true_iff]; exact ⟨rfl, .inl e1⟩
              have f1 : decide (m.g < x.g) = true := by rw [decide_eq_true_iff]; exact e1
              clear e1 hins hkey
              go_wp2_with fail
              go_meet
              exact ⟨rfl, rfl⟩
            · obtain rfl : ins = false := by rw [← hins, decide_eq_false_iff_not]; omega
              have f1 : decide (m.g < x.g) = false := by rw [decide_eq_false_iff_not]; exact e1
              have f2 : (x.g == m.g) = false := by simpa using e2
              clear e1 e2 hins hkey
              go_wp2_with fail
              go_meet
              exact ⟨rfl, rfl⟩
            · obtain rfl : ins = true := by rw [← hins, decide_eq_true_iff]; exact ⟨rfl, .inr ⟨e2, e3⟩⟩
              have f1 : decide (m.g < x.g) = false := by rw [decide_eq_false_iff_not]; exact e1
              have f2 : (x.g == m.g) = true := by simpa using e2
              have f3 : decide (m.p < x.p) = true := by rw [decide_eq_true_iff]; exact e3
              clear e1 e2 e3 hins hkey
              go_wp2_with fail
              go_meet
              exact ⟨rfl, rfl⟩
            · obtain rfl : ins = false := by rw [← hins, decide_eq_false_iff_not]; omega
              have f1 : decide (m.g < x.g) = false := by rw [decide_eq_false_iff_not]; exact e1
              have f2 : (x.g == m.g) = true := by simpa using e2
              have f3 : decide (m.p < x.p) = false := by rw [decide_eq_false_iff_not]; exact e3
              clear e1 e2 e3 hins hkey
              go_wp2_with fail
              go_meet
              exact ⟨rfl, rfl⟩
          · obtain rfl : ins = false := by rw [← hins]; simp
            clear hins hkey
            go_wp2_with fail
            go_meet
            exact ⟨rfl, rfl⟩
        obtain ⟨rfl, rfl⟩ := hcut
        cases ins
        · have HR := Lib.hid (HNIN.out hkey (by have := HINB.out; rwa [decide_eq_false_iff_not] at this))
          clear hins hkey
          go_wp2_with (at_builtin; refine wpList_ap1 rfl (.tmp 62) (.tmp 64) _ rfl elemMv rfl HO.out x.cells _ (by rfl) wc.heap.size (by rfl) (by rfl) (Mv.one x) (by simp [maxLen]; omega) (by simp; omega) (by omega) ?_)
          rintro v1 w3 hown1 hg1 -
          have HO1 : Hid (OwS w3 (w.heap.size + 1) 62 4 v1 ((out ++ [x]).map Mv.cells)) := by
            rw [Hid, List.map_append]
            exact hown1
          have HB1 : Hid (Below w.heap.size w w3) := (HB.out.alloc HB.out.size _).grown hg1 (by simp; omega) (fun g hg => by have := (HO.out.lt hg).1; omega)
          have HM2 : Hid (MvB w3 w.heap.size m) := (HM1.out.below below_laid HM1.out.lt).grown hg1 (fun he => by have := (HO.out.lt he).1; omega)
          clear hown1 hg1
          go_wp2
          go_roundw
          case rel => exact ⟨k + 1, put, out ++ [x], by omega, rfl, by go_num, by rw [← HEQ.out, HR.out]; simp, HO1.out, HB1.out, HM2.out⟩
          case measure => simp [intOf] <;> omega
        · have HR := Lib.hid (HINS.out hkey (by have := HINB.out; rwa [decide_eq_true_iff] at this))
          clear hins hkey
          go_wp2_with (at_builtin; refine wpList_ap1 rfl (.tmp 58) (.tmp 60) _ rfl elemMv rfl HO.out m.cells _ (by rfl) wc.heap.size (by rfl) (by rfl) (Mv.one m) (by simp [maxLen]; omega) (by simp; omega) (by omega) ?_)
          rintro v1 w3 hown1 hg1 hvb
          have hown1' : OwS w3 (w.heap.size + 1) 62 4 v1 ((out ++ [m]).map Mv.cells) := by
            rw [List.map_append]
            exact hown1
          have hB1 : Below w.heap.size w w3 := (HB.out.alloc HB.out.size _).grown hg1 (by simp; omega) (fun g hg => by have := (HO.out.lt hg).1; omega)
          have hM2 : MvB w3 w.heap.size m := (HM1.out.below below_laid HM1.out.lt).grown hg1 (fun he => by have := (HO.out.lt he).1; omega)
          have hX2 : MvB w3 M x := (HMX.out.below below_laid HMX.out.lt).grown hg1 HNE.out
          obtain ⟨A6, c6, rfl, -, -⟩ := hown1'.form
          have e6 : ((out ++ [m]).map Mv.cells).length = out.length + 1 := by simp
          rw [e6] at hown1' ⊢
          clear e6
          have hz3 : w.heap.size + 1 ≤ w3.heap.size := by have := hM2.lt; omega
          obtain ⟨x0', x1', x2', x3'⟩ := hX2.cells
          have HO1 := Lib.hid hown1'
          have HB1 := Lib.hid hB1
          have HM2 := Lib.hid hM2
          clear hown1 hown1' hg1 hvb hB1 hM2 hX2
          go_wp2_with (at_builtin; refine wpList_ap1 rfl (.tmp 62) (.tmp 64) _ rfl elemMv rfl HO1.out x.cells _ (by rfl) w3.heap.size (by rfl) (by rfl) (Mv.one x) (by simp [maxLen]; omega) (by simp; omega) hz3 ?_)
          rintro v2 w4 hown2 hg2 -
          have HO2 : Hid (OwS w4 (w.heap.size + 1) 62 4 v2 ((out ++ [m, x]).map Mv.cells)) := by
            rw [Hid, List.map_append]
            simpa using hown2
          have HB3 : Hid (Below w.heap.size w w4) := (HB1.out.alloc HB1.out.size _).grown hg2 (by simp; omega) (fun g hg => by have := (HO1.out.lt hg).1; omega)
          have HM3 : Hid (MvB w4 w.heap.size m) := (HM2.out.below below_laid HM2.out.lt).grown hg2 (fun he => by have := (HO1.out.lt he).1; omega)
          clear hown2 hg2
          go_wp2
          go_roundw
          case rel => exact ⟨k + 1, true, out ++ [m, x], by omega, rfl, by go_num, by rw [← HEQ.out, HR.out]; simp, HO2.out, HB3.out, HM3.out⟩
          case measure => simp [intOf] <;> omega
    · have hkI : ¬ (k : Int) < (ms.length : Int) := by omega
      have hdr : ms.drop k = [] := List.drop_eq_nil_of_le (by omega)
      obtain ⟨m0, m1, m2, m3⟩ := hmb.cells
      have hsz := hb.size
      have hXl : w.heap.size < wr.heap.size := hmb.lt
      cases put
      · have HR : Hid (withM ms m = out ++ [m]) := by rw [Hid, ← HEQ.out, hdr]; simp [withL]
        clear hdr hown hb hmb
        go_wp2_with (at_builtin; refine wpList_ap1 rfl (.tmp 68) (.tmp 70) _ rfl elemMv rfl HO.out m.cells _ (by rfl) wr.heap.size (by rfl) (by rfl) (Mv.one m) (by simp [maxLen]; omega) (by simp; omega) (by omega) ?_)
        rintro v1 w3 hown1 hg1 -
        have HO1 : Hid (OwS w3 (w.heap.size + 1) 62 4 v1 ((withM ms m).map Mv.cells)) := by
          rw [Hid, HR.out, List.map_append]
          exact hown1
        have HB1 : Hid (Below w.heap.size w w3) := (HB.out.alloc HB.out.size _).grown hg1 (by simp; omega) (fun g hg => by have := (HO.out.lt hg).1; omega)
        clear hown1 hg1
        go_wp2
        go_ret
        exact ⟨⟨_, rfl, HO1.out.mono (by omega)⟩, HB1.out⟩
      · have HR : Hid (withM ms m = out) := by rw [Hid, ← HEQ.out, hdr]; simp [withL]
        clear hdr hown hb hmb
        go_wp2
        go_ret
        exact ⟨⟨_, rfl, by rw [HR.out]; exact HO.out.mono (by omega)⟩, HB.out⟩
end Go.Proofs.YteglnekkkhpikaaGreat
namespace Go.Proofs.YteglnekkkhpikaaGreat
open Go.RowKit

set_option maxHeartbeats 2000000 in
set_option maxRecDepth 100000 in
theorem r22same {A1 A2 : Option Addr} {B1 B2 c1 c2 : Nat} {a b : List Mv} (w : World) (h1 : MvS w B1 A1 a) (h2 : MvS w B2 A2 b) (hl1 : a.length ≤ 1000000) (_hl2 : b.length ≤ 1000000) (hB1 : B1 ≤ w.heap.size) (hB2 : B2 ≤ w.heap.size) :
    Calls Tryz.prog 15 #[.slice A1 a.length c1, .slice A2 b.length c2] w fun r w' => r = .returned (.bool (decide (a = b))) ∧ Below w.heap.size w w' := by
  have H1 := Lib.hid h1
  have H2 := Lib.hid h2
  clear h1 h2
  by_cases hl : a.length = b.length
  · have HLE := Lib.hid hl
    rw [← hl]
    have hlI : ((a.length : Int) != (a.length : Int)) = false := by simp
    clear hl
    go_enter Tryz.func15, Tryz.ntmps15
    go_wp2
    go_loopw [5] (fun s5 wr => ∃ k : Nat, k ≤ a.length ∧ s5 = .int .i64 k ∧ (∀ j : Nat, j < k → a[j]? = b[j]?) ∧ Below w.heap.size w wr) (fun s5 _ => a.length - (intOf s5).toNat)
    case atStart => exact ⟨0, by omega, rfl, fun j hj => absurd hj (by omega), Below.refl _ _⟩
    case round =>
      obtain ⟨k, hk, rfl, heq, hb⟩ := hrel
      have HEQ := Lib.hid heq
      have HB := Lib.hid hb
      clear heq
      by_cases hka : k < a.length
      · have hkI : (k : Int) < (a.length : Int) := by omega
        obtain ⟨x, hx⟩ := at_some hka
        obtain ⟨y, hy⟩ := at_some (l := b) (i := k) (by have := HLE.out; omega)
        obtain ⟨b1, o1, rfl, -, x0, x1, x2, x3⟩ := MvS.at_ (H1.out.below' hb hB1) hx
        obtain ⟨b2, o2, rfl, -, y0, y1, y2, y3⟩ := MvS.at_ (H2.out.below' hb hB2) hy
        have HNE : Hid (x ≠ y → decide (a = b) = false) := fun h => by
          rw [decide_eq_false_iff_not]
          intro e
          subst e
          rw [hx] at hy
          cases hy
          exact h rfl
        have HNX : Hid (x = y → ∀ j : Nat, j < k + 1 → a[j]? = b[j]?) := fun h j hj => by
          rcases Nat.lt_or_eq_of_le (Nat.le_of_lt_succ hj) with hj | rfl
          · exact HEQ.out j hj
          · rw [hx, hy, h]
        clear hx hy hb
        obtain ⟨xg, xp, xd, xb⟩ := x
        obtain ⟨yg, yp, yd, yb⟩ := y
        simp only at x0 x1 x2 x3 y0 y1 y2 y3
        by_cases e1 : xg = yg
        · by_cases e2 : xp = yp
          · by_cases e3 : xd = yd
            · by_cases e4 : xb = yb
              · have HR := Lib.hid (HNX.out (by rw [e1, e2, e3, e4]))
                subst e1 e2 e3 e4
                go_wp2_with fail
                go_quiet (fail)
                go_wp2
                go_roundw
                case rel => exact ⟨k + 1, by omega, by go_num, HR.out, below_drewN HB.out _⟩
                case measure => simp [intOf] <;> omega
              · have HR := Lib.hid (HNE.out (by simp [e4]))
                have f4 : (xb == yb) = false := by simpa using e4
                subst e1 e2 e3
                clear e4
                go_wp2_with fail
                go_quiet (fail)
                go_wp2
                go_ret
                exact ⟨ret_bool (by rw [HR.out]), below_drewN HB.out _⟩
            · have HR := Lib.hid (HNE.out (by simp [e3]))
              have f4 : (xd == yd) = false := by simpa using e3
              subst e1 e2
              clear e3
              go_wp2_with fail
              go_quiet (fail)
              go_wp2
              go_ret
              exact ⟨ret_bool (by rw [HR.out]), below_drewN HB.out _⟩
          · have HR := Lib.hid (HNE.out (by simp [e2]))
            have f4 : (xp == yp) = false := by simpa using e2
            subst e1
            clear e2
            go_wp2_with fail
            go_quiet (fail)
            go_wp2
            go_ret
            exact ⟨ret_bool (by rw [HR.out]), below_drewN HB.out _⟩
        · have HR := Lib.hid (HNE.out (by simp [e1]))
          have f4 : (xg == yg) = false := by simpa using e1
          clear e1
          go_wp2_with fail
          go_quiet (fail)
          go_wp2
          go_ret
          exact ⟨ret_bool (by rw [HR.out]), below_drewN HB.out _⟩
      · have hkI : ¬ (k : Int) < (a.length : Int) := by omega
        have HR : Hid (decide (a = b) = true) := by
          rw [Hid, decide_eq_true_iff]
          apply List.ext_getElem?
          intro j
          by_cases hj : j < k
          · exact HEQ.out j hj
          · rw [List.getElem?_eq_none (by omega), List.getElem?_eq_none (by have := HLE.out; omega)]
        clear hb
        go_wp2
        go_ret
        exact ⟨ret_bool (by rw [HR.out]), HB.out⟩
  · have hlI : ((a.length : Int) == (b.length : Int)) = false := by simp; omega
    have HR : Hid (decide (a = b) = false) := by rw [Hid, decide_eq_false_iff_not]; intro e; exact hl (by rw [e])
    clear hl
    go_enter Tryz.func15, Tryz.ntmps15
    go_wp2
    go_ret
    exact ⟨ret_bool (by rw [HR.out]), Below.refl _ _⟩
theorem OwS.rds {w : World} {B : Nat} {A : Option Addr} {n c : Nat} {ms : List Mv} (h : OwS w B 62 4 (.slice A n c) (ms.map Mv.cells)) : n = ms.length ∧ MvS w w.heap.size A ms := by
  refine ⟨?_, h.reads⟩
  obtain ⟨A', c', he, -⟩ := h.form
  rw [List.length_map] at he
  injection he
set_option maxHeartbeats 2000000 in
set_option maxRecDepth 100000 in
theorem r22apply {L : LayD} {A Am : Option Addr} {B c cm : Nat} {ms : List Mv} (m : Mv) (w : World) (hx : LayX L) (hv : GsV w B A L.gs) (hM : MvS w B Am ms) (hB : B ≤ w.heap.size) (hlen : ms.length ≤ 100000) :
    Calls Tryz.prog 29 #[layAgg L A c, .slice Am ms.length cm, m.agg] w fun r w' => (∃ v, r = .returned (.tuple #[v, .int .i64 (applyL L ms m).2]) ∧ OwS w' w.heap.size 62 4 v ((applyL L ms m).1.map Mv.cells)) ∧ Below w.heap.size w w' := by
  have HV := Lib.hid hv
  have HM := Lib.hid hM
  have HCI := Lib.hid (fun W hv hB => r21is (L := L) (A := A) (B := B) (c := c) m.g m.p W hx hv hB)
  have HCW := Lib.hid (fun W hM hB => r22with (Am := Am) (B := B) (cm := cm) (ms := ms) m W hM hB hlen)
  have HCV := Lib.hid (fun (Ax : Option Addr) (Bx cx : Nat) (W : World) hv hM hB => r22valid (L := L) (A := A) (Am := Ax) (B := Bx) (c := c) (cm := cx) (ms := withM ms m) W hx hv hM hB (by have := withM_len ms m; omega))
  have HAP : Hid (applyL L ms m = if isP L m.g m.p = false then ([], 2) else if m.to.disk = -1 ∧ (withM ms m).length = ms.length then ([], 9) else if validM L (withM ms m) then (withM ms m, 0) else ([], 1)) := rfl
  have HWL := Lib.hid (withM_len ms m)
  unfold layAgg at *
  unfold Mv.agg at *
  clear hv hM
  generalize applyL L ms m = res at *
  go_enter Tryz.func29, Tryz.ntmps29
  go_wp2_with fail
  have hl0 := (LayB.made w L A c).below (below_laid (o := .cells #[.int .i64 m.g, .int .i64 m.p, .int .i64 m.to.disk, .int .i64 m.to.block] 62)) (by simp)
  have hm0 : MvB ((w.alloc (.cells #[.int .i64 L.disks, .slice A L.n c, .int .i64 L.tiles, .int .i64 L.spare] 31)).alloc (.cells #[.int .i64 m.g, .int .i64 m.p, .int .i64 m.to.disk, .int .i64 m.to.block] 62)) (w.heap.size + 1) m := by
    have := MvB.made (w.alloc (.cells #[.int .i64 L.disks, .slice A L.n c, .int .i64 L.tiles, .int .i64 L.spare] 31)) m
    simpa using this
  have hb0 : Below w.heap.size w ((w.alloc (.cells #[.int .i64 L.disks, .slice A L.n c, .int .i64 L.tiles, .int .i64 L.spare] 31)).alloc (.cells #[.int .i64 m.g, .int .i64 m.p, .int .i64 m.to.disk, .int .i64 m.to.block] 62)) := (below_laid (w := w)).trans ((below_laid (w := w.alloc _)).mono (by simp))
  generalize (w.alloc _).alloc _ = w0 at *
  have hB0 : B ≤ w0.heap.size := Nat.le_trans hB hb0.size
  refine (HCI.out w0 (HV.out.below hb0 hB) hB0).mono ?_
  rintro r w1 ⟨rfl, hb1⟩
  have HB1 := Lib.hid (hb0.trans (hb1.mono hb0.size))
  have HL1 := Lib.hid (hl0.below hb1 hl0.lt)
  have hm1 := hm0.below hb1 hm0.lt
  have HM1 := Lib.hid hm1
  obtain ⟨m0, m1, m2, m3⟩ := hm1.cells
  clear hb0 hb1 hl0 hm0 hm1 hB0
  obtain ⟨ip, hip⟩ : ∃ ip, isP L m.g m.p = ip := ⟨_, rfl⟩
  rw [hip] at HAP ⊢
  clear hip
  cases ip
  · have HR : Hid (res = ([], 2)) := by rw [Hid, HAP.out]; simp
    go_wp2
    go_ret2
    exact ⟨⟨_, by rw [HR.out]; rfl, by rw [HR.out]; exact OwS.nil _ _ _ _⟩, HB1.out⟩
  · go_wp2_with fail
    refine (HCW.out w1 (HM.out.below' HB1.out hB) (Nat.le_trans hB HB1.out.size)).mono ?_
    rintro r w2 ⟨⟨v, rfl, hown⟩, hb2⟩
    obtain ⟨A8, c8, rfl, -, -⟩ := hown.form
    rw [List.length_map] at hown ⊢
    have HO := Lib.hid hown
    have HB2 := Lib.hid (HB1.out.trans (hb2.mono HB1.out.size))
    have hl2 := HL1.out.below hb2 HL1.out.lt
    have hm2 := HM1.out.below hb2 HM1.out.lt
    obtain ⟨n0, n1, n2, n3⟩ := hm2.cells
    obtain ⟨l0, l1, l2, l3⟩ := hl2.cells
    have HZ : Hid (w.heap.size ≤ w1.heap.size) := HB1.out.size
    clear hown hb2 hl2 hm2 m0 m1 m2 m3
    have hwl := HWL.out
    generalize hnl : (withM ms m).length = nl at *
    have HNL := Lib.hid hnl
    clear hnl
    by_cases h1 : m.to.disk = -1 ∧ nl = ms.length
    · have HR : Hid (res = ([], 9)) := by rw [Hid, HAP.out]; simp [h1]
      have f1 : (m.to.disk == -1) = true := by simpa using h1.1
      obtain rfl := h1.2
      clear h1
      go_wp2
      go_ret2
      exact ⟨⟨_, by rw [HR.out]; rfl, by rw [HR.out]; exact OwS.nil _ _ _ _⟩, HB2.out⟩
    · have HAP2 : Hid (res = if validM L (withM ms m) then (withM ms m, 0) else ([], 1)) := by rw [Hid, HAP.out, if_neg (by simp), if_neg h1]
      have HCV2 := Lib.hid (HCV.out A8 w2.heap.size c8 w2 ((HV.out.below HB2.out hB).more (Nat.le_trans hB HB2.out.size)) HO.out.rds.2 (Nat.le_refl _))
      obtain ⟨vv, hvv⟩ : ∃ vv, validM L (withM ms m) = vv := ⟨_, rfl⟩
      rw [hvv] at HAP2 HCV2
      clear hvv
      go_upto_region 4 with (fail)
      go_cut [29] (fun s29 wx => s29 = .bool false ∧ wx = w2)
      case first =>
        by_cases e1 : m.to.disk = -1
        · have f1 : (m.to.disk == -1) = true := by simpa using e1
          have f2 : (nl == ms.length) = false := by simpa using fun h => h1 ⟨e1, h⟩
          have f3 : ((nl : Int) == (ms.length : Int)) = false := by simpa using fun h => h1 ⟨e1, by omega⟩
          clear e1 h1
          go_wp2_with fail
          go_meet
          exact ⟨rfl, rfl⟩
        · have f1 : (m.to.disk == -1) = false := by simpa using e1
          clear e1 h1
          go_wp2_with fail
          go_meet
          exact ⟨rfl, rfl⟩
      obtain ⟨rfl, rfl⟩ := hcut
      clear h1
      go_wp2_with fail
      refine HCV2.out.mono ?_
      rintro r w3 ⟨rfl, hb3⟩
      have HB3 := Lib.hid (HB2.out.trans (hb3.mono HB2.out.size))
      have HO3 := Lib.hid (HO.out.below hb3)
      clear hb3
      cases vv
      · have HR : Hid (res = ([], 1)) := by rw [Hid, HAP2.out]; simp
        go_wp2
        go_ret2
        exact ⟨⟨_, by rw [HR.out]; rfl, by rw [HR.out]; exact OwS.nil _ _ _ _⟩, HB3.out⟩
      · have HR : Hid (res = (withM ms m, 0)) := by rw [Hid, HAP2.out]; simp
        go_wp2
        go_ret2
        exact ⟨⟨_, by rw [HR.out]; rfl, by rw [HR.out]; exact HO3.out.mono HZ.out⟩, HB3.out⟩
end Go.Proofs.YteglnekkkhpikaaGreat
