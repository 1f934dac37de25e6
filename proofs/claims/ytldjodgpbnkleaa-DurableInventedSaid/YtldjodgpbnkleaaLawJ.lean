/- Walk of tegulalaw47's DurableInvented: it answers true, whatever the script and the number. -/
import Derived.Test.YtldjodgpbnkleaaStoQ
import Derived.Test.YtldjodgpbnkleaaStoF
import Derived.Test.YtldjodgpbnkleaaInvB
import Derived.Test.YtldjodgpbnkleaaLawB
namespace Go.Proofs.Ytldjodgpbnkleaa
open Go.RowKit

def rdE' (e : Ev) : Bool := e.kind == 2 && !e.write && !e.barrier
def rdsTo (l : List Ev) (k : Nat) : List Int := ((List.range k).filter fun i => match l[i]? with | some e => rdE' e | none => false).map Int.ofNat
theorem rdsTo_succ {l : List Ev} {k : Nat} {e : Ev} (h : l[k]? = some e) : rdsTo l (k + 1) = rdsTo l k ++ (if rdE' e then [(k : Int)] else []) := by
  unfold rdsTo
  rw [List.range_succ, List.filter_append, List.map_append]
  congr 1
  simp only [List.filter_cons, List.filter_nil, h]
  split <;> rfl
theorem rdsTo_len (l : List Ev) (k : Nat) : (rdsTo l k).length ≤ k := by
  unfold rdsTo
  rw [List.length_map]
  exact Nat.le_trans (List.length_filter_le _ _) (by simp)
theorem rdsTo_mem {l : List Ev} {k : Nat} {x : Int} (h : x ∈ rdsTo l k) : ∃ (i : Nat) (e : Ev), x = i ∧ i < k ∧ l[i]? = some e ∧ rdE' e = true := by
  unfold rdsTo at h
  obtain ⟨i, hi, rfl⟩ := List.mem_map.1 h
  obtain ⟨h1, h2⟩ := List.mem_filter.1 hi
  have h3 := List.mem_range.1 h1
  rcases he : l[i]? with _ | e
  · rw [he] at h2; cases h2
  · rw [he] at h2
    exact ⟨i, e, rfl, h3, he, h2⟩
theorem icell_one (x : Int) : ∀ u ∈ icell x, u.oneCell' = true := by
  intro u hu
  simp [icell] at hu
  subst hu
  rfl
theorem rdE_iff {e : Ev} : rdE' e = true ↔ e.kind = 2 ∧ e.write = false ∧ e.barrier = false := by
  simp [rdE', and_assoc]

set_option maxHeartbeats 4000000 in
set_option maxRecDepth 100000 in
theorem durableinvented_any (acts : List ActN) (hby : ∀ a ∈ acts, a.kind < 256 ∧ a.reg < 256 ∧ a.which < 256) (A : Option Addr) (c which : Nat) (hwh : which < 256) (w : World) (h : RdS w w.heap.size 3 A (acts.map ActN.cells)) :
    Calls Try.prog 7 #[.slice A acts.length c, .int .u8 which] w fun e w' => e = .returned (.bool true) ∧ Below w.heap.size w w' := by
  have HA := Lib.hid (awake_any w)
  by_cases hl : 80 < acts.length
  · have hl' : (80 : Int) < (acts.length : Int) := by omega
    clear h hby
    go_enter Try.func7, Try.ntmps7
    go_wp2_with fail
    refine HA.out.mono ?_
    rintro r w1 ⟨rfl, hb1⟩
    go_wp2
    go_ret
    exact ⟨rfl, hb1⟩
  have hl' : ¬ (80 : Int) < (acts.length : Int) := by omega
  have HST := Lib.hid (fun w1 (hb : Below w.heap.size w w1) => storage_any acts hby A c w.heap.size w1 (h.below' hb (Nat.le_refl _)) hb.size (by omega))
  have hbd := sbd_to acts acts.length (Nat.le_refl _)
  have hln := hbd.l
  have hwf := sto_wf acts (by omega)
  have HINV := Lib.hid (fun (i : Nat) (e : Ev) (he : (stoTo acts acts.length).l[i]? = some e) (hr : rdE' e = true) => inv_law (sok_to acts acts.length) (by have := hbd.n; omega) he (rdE_iff.1 hr).1 (rdE_iff.1 hr).2.1 (rdE_iff.1 hr).2.2)
  generalize (stoTo acts acts.length).l = l at *
  have hl80 : l.length ≤ 80 := by omega
  have kw := fun W => conv_u8 (which : Int) (by omega) (by omega) W
  clear h hby hln hl hbd
  go_enter Try.func7, Try.ntmps7
  go_wp2_with fail
  refine HA.out.mono ?_
  rintro r w1 ⟨rfl, hb1⟩
  have hz1 := hb1.size
  go_wp2_with fail
  refine (HST.out _ hb1).mono ?_
  rintro r w2 ⟨v2, rfl, hown2, hb2⟩
  have hb12 := hb1.trans (hb2.mono hz1)
  have hz2 := hb12.size
  have hz12 := hb2.size
  obtain ⟨A2, c2, rfl, -, -⟩ := hown2.form
  rw [List.length_map] at hown2 ⊢
  clear hb2 HST
  go_wp2
  go_loopw [6, 7] (fun s i wr => ∃ k : Nat, k ≤ l.length ∧ i = .int .i64 k ∧ OwS wr w2.heap.size 3 1 s ((rdsTo l k).map icell) ∧ Below w2.heap.size w2 wr) (fun _ i _ => l.length - (intOf i).toNat)
  case atStart => exact ⟨0, by omega, rfl, OwS.nil _ _ _ _, Below.refl _ _⟩
  case round =>
    obtain ⟨k, hk, rfl, hown, hb⟩ := hrel
    have hz := hb.size
    have hlr := rdsTo_len l k
    have oe := hown2.below hb
    by_cases hlt : k < l.length
    · obtain ⟨g2, c2', hv, -, hg2⟩ := oe.pos (by rw [List.length_map]; omega)
      injection hv with hv1 hv2 hv3
      subst hv1
      clear hv2 hv3
      obtain ⟨e, he⟩ : ∃ e, l[k]? = some e := ⟨l[k], List.getElem?_eq_getElem hlt⟩
      have hrow : (l.map Ev.cells)[k]? = some e.cells := by rw [List.getElem?_map, he]; rfl
      have e0 := oe.cell hrow (j := 0) rfl
      have e2 := oe.cell hrow (j := 2) rfl
      have e5 := oe.cell hrow (j := 5) rfl
      simp only [Nat.add_zero] at e0
      have hkl : (k : Int) < (l.length : Int) := by omega
      have HRS := Lib.hid (rdsTo_succ he)
      obtain ⟨ek, eo, ew, er, ev, eb⟩ := e
      simp only at e0 e2 e5
      clear hrow he oe
      by_cases hk2 : ek = 2
      · subst hk2
        cases ew
        · cases eb
          · have HR : Hid (rdsTo l (k + 1) = rdsTo l k ++ [(k : Int)]) := HRS.out
            clear HRS
            go_wp2_with (at_builtin; refine wpList_ap1 rfl (.tmp 46) (.tmp 48) _ rfl elemInt rfl hown (icell k) _ rfl _ rfl (by simp) (icell_one _) (by simp [maxLen]; omega) (by simp; omega) hz ?_)
            intro v3 w3 hown3 hg3 _
            have hb3 : Below w2.heap.size w2 w3 := (hb.alloc hz _).grown hg3 (by simp; omega) (fun g hg => (hown.lt hg).1)
            clear hg3
            go_wp2
            go_roundw
            case rel => exact ⟨k + 1, by omega, by go_num, by rw [HR.out]; simpa using hown3, hb3⟩
            case measure => simp [intOf]; omega
          · have HR : Hid (rdsTo l (k + 1) = rdsTo l k) := by unfold Hid; rw [HRS.out]; simp [rdE']
            clear HRS
            go_wp2
            go_roundw
            case rel => exact ⟨k + 1, by omega, by go_num, by rw [HR.out]; exact hown, hb⟩
            case measure => simp [intOf]; omega
        · have HR : Hid (rdsTo l (k + 1) = rdsTo l k) := by unfold Hid; rw [HRS.out]; simp [rdE']
          clear HRS
          go_wp2
          go_roundw
          case rel => exact ⟨k + 1, by omega, by go_num, by rw [HR.out]; exact hown, hb⟩
          case measure => simp [intOf]; omega
      · have hkb : (ek == 2) = false := by simpa using hk2
        have HR : Hid (rdsTo l (k + 1) = rdsTo l k) := by unfold Hid; rw [HRS.out]; simp [rdE', hk2]
        clear HRS hk2
        go_wp2
        go_roundw
        case rel => exact ⟨k + 1, by omega, by go_num, by rw [HR.out]; exact hown, hb⟩
        case measure => simp [intOf]; omega
    · obtain rfl : k = l.length := by omega
      have hmem := fun x (hx : x ∈ rdsTo l l.length) => rdsTo_mem hx
      generalize rdsTo l l.length = rs at *
      obtain ⟨Ar, cr, rfl, -, -⟩ := hown.form
      rw [List.length_map] at hown ⊢
      have hfin := hb12.trans (hb.mono hz2)
      by_cases h0 : rs.length = 0
      · have h0' : ((rs.length : Int) == 0) = true := by simpa using h0
        clear h0 hmem
        go_wp2
        go_ret
        exact ⟨rfl, hfin⟩
      · have h0' : ((rs.length : Int) == 0) = false := by simpa using h0
        obtain ⟨q, hq⟩ : ∃ q, q = which % rs.length := ⟨_, rfl⟩
        have hqn : q < rs.length := by rw [hq]; exact Nat.mod_lt _ (by omega)
        have hx : rs[q]? = some rs[q] := List.getElem?_eq_getElem hqn
        obtain ⟨i, e, hxi, hil, he, hre⟩ := hmem _ (List.getElem_mem hqn)
        rw [hxi] at hx
        clear hxi
        have hrq : ((which : Int) % (rs.length : Int)) = (q : Int) := by rw [hq]; simp
        have hxr : (rs.map icell)[q]? = some (icell (i : Int)) := by rw [List.getElem?_map, hx]; rfl
        obtain ⟨gr, crr, hv, -, hgr⟩ := hown.pos (by rw [List.length_map]; omega)
        injection hv with hv1 hv2 hv3
        subst hv1
        clear hv2 hv3
        have cq := hown.cell hxr (j := 0) rfl
        rw [Nat.mul_one, Nat.add_zero] at cq
        obtain ⟨g2, c2', hv, hg2b, hg2⟩ := oe.pos (by rw [List.length_map]; omega)
        injection hv with hv1 hv2 hv3
        subst hv1
        clear hv2 hv3
        have hrow : (l.map Ev.cells)[i]? = some e.cells := by rw [List.getElem?_map, he]; rfl
        have hset := oe.set hrow (j := 4) (by decide) (.int .i64 1000)
        have hmap : (l.map Ev.cells).set i (e.cells.set 4 (.int .i64 1000)) = (l.set i (chgE e 1000)).map Ev.cells := by
          rw [List.map_set]
          rfl
        rw [hmap] at hset
        have hbs : Below w.heap.size w (wr.setCell ⟨g2, i * 6 + 4, none⟩ (.int .i64 1000)) := hfin.setCell (by show w.heap.size ≤ g2; omega) _
        have hlaw := HINV.out i e he hre
        have hwf2 : WfE (l.set i (chgE e 1000)) := by
          intro e' h'
          rcases List.mem_or_eq_of_mem_set h' with h' | rfl
          · exact hwf e' h'
          · have := hwf e (List.mem_of_getElem? he)
            exact ⟨this.1, this.2.1, by show (Lit.int .i64 1000).wf = true; decide⟩
        have HC := Lib.hid (fun A c W (h : EvS W W.heap.size A (l.set i (chgE e 1000))) => by have := check_any (l.set i (chgE e 1000)) A c W.heap.size W h (Nat.le_refl _) (by rw [List.length_set]; omega) hwf2; unfold ChkPost at this; rw [hlaw, List.length_set] at this; exact this)
        have HSR := Lib.hid hset.1
        have HBS := Lib.hid hbs
        have HCE : ∀ w5 : World, Below (wr.setCell ⟨g2, i * 6 + 4, none⟩ (.int .i64 1000)).heap.size (wr.setCell ⟨g2, i * 6 + 4, none⟩ (.int .i64 1000)) w5 → w5.cell? ⟨g2, i * 6 + 1, none⟩ = some (.int .i64 e.op) := fun w5 hb5 => by
          have := (hset.1.below hb5).cell (k := i) (j := 1) (r := (chgE e 1000).cells) (u := .int .i64 e.op) (by rw [List.getElem?_map, List.getElem?_set_self (by omega)]; rfl) rfl
          exact this
        have HCE2 := Lib.hid HCE
        have fz := oe.frozen (i * 6 + 4)
        have c4 := oe.cell hrow (j := 4) rfl
        have hii : (i : Int) < (l.length : Int) := by omega
        have hqi : (q : Int) < (rs.length : Int) := by omega
        clear HCE hset hbs hlaw hwf2 hmap hrow he hre hx hxr hmem hq HINV hwf oe hown2 hown h0 hfin
        have ht1 : Int.tmod (which : Int) (rs.length : Int) = (q : Int) := by rw [Int.tmod_eq_emod_of_nonneg (by omega), hrq]
        go_wp2_with fail
        refine (HC.out _ _ _ (HSR.out.reads)).mono ?_
        rintro r w3 ⟨va, rfl, howna, hb3⟩
        have ce := HCE2.out w3 hb3
        have hb4 := HBS.out.trans (hb3.mono HBS.out.size)
        obtain ⟨ga, ca, rfl, -, hga⟩ := howna.pos (by simp)
        have a0 := howna.cell (k := 0) (j := 0) rfl rfl
        have a1 := howna.cell (k := 0) (j := 1) rfl rfl
        have a2 := howna.cell (k := 0) (j := 2) rfl rfl
        simp only [Nat.zero_mul, Nat.zero_add] at a0 a1 a2
        clear howna
        go_wp2_with fail
        go_quiet (fail)
        go_wp2
        go_ret
        exact ⟨rfl, below_drewN hb4 _⟩
end Go.Proofs.Ytldjodgpbnkleaa
