/- Walk of tegulalaw46's LinearRuns: it answers true for every script. -/
import Derived.Test.YtcgbnlhloopnfaaDoorRgQ
import Derived.Test.YtcgbnlhloopnfaaDoorLimA
namespace Go.Proofs.YtcgbnlhloopnfaaDoor
open Go.RowKit

theorem insAll_same {xs : List Int} {u : Int} (h : ∀ x ∈ xs, x = u) : (insAll xs).length ≤ 1 := by
  have h2 := (insAll_gen xs [] List.Pairwise.nil)
  rcases hq : insAll xs with _ | ⟨a, _ | ⟨b, r⟩⟩
  · simp
  · simp
  · exfalso
    have h3 : (insAll xs).Pairwise (· < ·) := h2.1
    have h4 : ∀ x, x ∈ insAll xs ↔ x ∈ ([] : List Int) ∨ x ∈ xs := h2.2
    rw [hq] at h3 h4
    have ha := h a (by simpa using (h4 a).1 (by simp))
    have hb := h b (by simpa using (h4 b).1 (by simp))
    have := (List.pairwise_cons.1 h3).1 b (by simp)
    omega
theorem wf_small {x : Int} (h0 : 0 ≤ x) (h1 : x < 100000) : (Lit.int .i64 x).wf = true := by
  obtain ⟨n, rfl⟩ := Int.eq_ofNat_of_zero_le h0
  exact small_wf n (by omega)
/-- the numbers in a register's history are small -/
def RgSm (k : Nat) (s : RgS) : Prop := (∀ e ∈ s.l, 0 ≤ e.op ∧ e.op ≤ k ∧ e.reg = 0 ∧ 0 ≤ e.val ∧ e.val ≤ k) ∧ (∀ o ∈ s.ops, 0 ≤ o.e.op ∧ o.e.op ≤ k ∧ o.e.reg = 0 ∧ 0 ≤ o.e.val ∧ o.e.val ≤ k ∧ 0 ≤ o.res ∧ o.res ≤ k) ∧ (∀ v ∈ s.vals, 0 ≤ v ∧ v ≤ k) ∧ s.n ≤ k
theorem rgsm_mono {k k' : Nat} {s : RgS} (h : RgSm k s) (hk : k ≤ k') : RgSm k' s := by
  obtain ⟨h1, h2, h3, h4⟩ := h
  refine ⟨fun e he => ?_, fun o ho => ?_, fun v hv => ?_, by omega⟩
  · have := h1 e he; omega
  · have := h2 o ho; omega
  · have := h3 v hv; omega
theorem getD_small {k : Nat} {vs : List Int} (h : ∀ v ∈ vs, 0 ≤ v ∧ v ≤ k) (i : Nat) : 0 ≤ (vs[i]?).getD 0 ∧ (vs[i]?).getD 0 ≤ k := by
  rcases hq : vs[i]? with _ | v
  · simp
  · exact h v (List.mem_of_getElem? hq)
theorem rgsm_step {k : Nat} {s : RgS} (h : RgSm k s) (a : RgA) : RgSm (k + 1) (rgStep s a) := by
  have hm := rgsm_mono h (Nat.le_succ k)
  obtain ⟨h1, h2, h3, h4⟩ := hm
  have hn : s.n ≤ k := h.2.2.2
  unfold rgStep
  split
  · have he : 0 ≤ (rgEv (a.kind % 8) s.n).op ∧ (rgEv (a.kind % 8) s.n).op ≤ ((k + 1 : Nat) : Int) ∧ (rgEv (a.kind % 8) s.n).reg = 0 ∧ 0 ≤ (rgEv (a.kind % 8) s.n).val ∧ (rgEv (a.kind % 8) s.n).val ≤ ((k + 1 : Nat) : Int) := by
      simp only [rgEv]
      refine ⟨by omega, by omega, trivial, ?_, ?_⟩ <;> (split <;> omega)
    refine ⟨fun e hm => ?_, fun o hm => ?_, h3, by simp [rgCall]; omega⟩
    · rcases List.mem_append.1 hm with hm | hm
      · exact h1 e hm
      · simp only [List.mem_singleton] at hm
        subst hm
        exact he
    · rcases List.mem_append.1 hm with hm | hm
      · exact h2 o hm
      · simp only [List.mem_singleton] at hm
        subst hm
        exact ⟨he.1, he.2.1, he.2.2.1, he.2.2.2.1, he.2.2.2.2, by simp, by simp; omega⟩
  · split
    · unfold rgExec
      split
      · exact ⟨h1, h2, h3, h4⟩
      · rename_i o ho
        split
        · exact ⟨h1, h2, h3, h4⟩
        · have ho' := h2 o (List.mem_of_getElem? ho)
          have hr : 0 ≤ rgRes s o ∧ rgRes s o ≤ ((k + 1 : Nat) : Int) := by
            unfold rgRes rgLast
            split
            · exact ⟨ho'.2.2.2.1, ho'.2.2.2.2.1⟩
            · exact getD_small h3 _
          refine ⟨h1, fun p hp => ?_, fun v hv => ?_, h4⟩
          · rcases List.mem_or_eq_of_mem_set hp with hp | rfl
            · exact h2 p hp
            · exact ⟨ho'.1, ho'.2.1, ho'.2.2.1, ho'.2.2.2.1, ho'.2.2.2.2.1, hr⟩
          · unfold rgVals at hv
            split at hv
            · rcases List.mem_append.1 hv with hv | hv
              · exact h3 v hv
              · simp only [List.mem_singleton] at hv
                subst hv
                exact hr
            · exact h3 v hv
    · split
      · unfold rgDone
        split
        · exact ⟨h1, h2, h3, h4⟩
        · rename_i o ho
          split
          · have ho' := h2 o (List.mem_of_getElem? ho)
            refine ⟨fun e he => ?_, fun p hp => ?_, h3, h4⟩
            · rcases List.mem_append.1 he with he | he
              · exact h1 e he
              · simp only [List.mem_singleton] at he
                subst he
                refine ⟨ho'.1, ho'.2.1, ho'.2.2.1, ?_, ?_⟩ <;> (simp only [doneE]; split <;> omega)
            · rcases List.mem_or_eq_of_mem_set hp with hp | rfl
              · exact h2 p hp
              · exact ho'
          · exact ⟨h1, h2, h3, h4⟩
      · refine ⟨fun e he => ?_, fun p hp => by simp [rgCut] at hp, fun v hv => ?_, h4⟩
        · rcases List.mem_append.1 he with he | he
          · exact h1 e he
          · simp only [List.mem_singleton] at he
            subst he
            simp [Ev.cut]
            omega
        · simp only [rgCut, List.mem_singleton] at hv
          subst hv
          exact getD_small h3 _
theorem rg_small (sc : List RgA) : ∀ k, RgSm k (rgTo sc k) := by
  intro k
  induction k with
  | zero => exact ⟨by simp [rgTo, rg0], by simp [rgTo, rg0], by simp [rgTo, rg0], Nat.le_refl _⟩
  | succ k ih =>
    rcases hk : sc[k]? with _ | a
    · simp only [rgTo, hk]
      exact rgsm_mono ih (Nat.le_succ k)
    · rw [rgTo_succ hk]
      exact rgsm_step ih a
/-- a register's history may be given to Find -/
theorem rg_ok (sc : List RgA) (k : Nat) (hk : k ≤ 1000) : FindOk (rgTo sc k).l ∧ ExpL (rgTo sc k).l := by
  obtain ⟨h1, h2, h3⟩ := rg_law sc k
  obtain ⟨s1, -, -, -⟩ := rg_small sc k
  have hl := (rgTo_n sc k).2
  refine ⟨⟨?_, by omega, fun e he => ?_, fun e he => ?_, fun e he => ?_⟩, h2⟩
  · unfold oneL
    rw [h1]
    have : opsOr (rgTo sc k).l = rawOps (rgTo sc k).l := by unfold opsOr; rw [h1]; rfl
    rw [this]
    have h4 : (insAll (regsO (rawOps (rgTo sc k).l))).length ≤ 1 := insAll_same (u := 0) fun x hx => by
      unfold regsO at hx
      obtain ⟨p, hp, rfl⟩ := List.mem_map.1 hx
      exact (h3 p (List.mem_filter.1 hp).1).1
    simp [h4]
  · have := s1 e he; exact wf_small (by omega) (by omega)
  · have := s1 e he; exact wf_small (by omega) (by omega)
  · have := s1 e he; exact wf_small (by omega) (by omega)
/-- linear accepts an explanation that it has found -/
theorem acc_yes {l : List Ev} {wl : List (List Int × Int)} (ho : FindOk l) (ha : AccL l wl) (A Aw : Option Addr) (c cw B : Nat) (w : World) (h : EvS w B A l) (hW : WinS w B Aw wl) (hB : B ≤ w.heap.size) (hlx : ∀ x ∈ wl, x.1.length ≤ 100000) (hxl : wl.length ≤ 100000) :
    Calls Tryd.prog 19 #[.slice A l.length c, .slice Aw wl.length cw] w fun r w' => r = .returned (.tuple #[.bool true, .int .i64 0]) ∧ Below w.heap.size w w' := by
  refine (accepts_any l wl A Aw c cw B w h hW hB ho.2.1 hlx hxl ho.2.2.1 ho.2.2.2.1).mono ?_
  intro r w' ⟨hb, hr⟩
  rw [ho.1] at hr
  simp only [if_true] at hr
  rw [ha.2, show decide (wl.length = cutsL l + 1) = true by simpa using ha.1] at hr
  exact ⟨hr, hb⟩
theorem out_winS {w : World} {b : Nat} {A : Option Addr} {n c : Nat} {wl : List (List Int × Int)} (h : @OutS ⟨b⟩ w (.slice A n c) wl) : WinS w w.heap.size A wl := by
  obtain ⟨es, rfl, h2, h3⟩ := h
  exact out_win h3 (Below.refl _ _) h2.reads
set_option maxHeartbeats 8000000 in
set_option maxRecDepth 100000 in
theorem linearruns_any (sc : List RgA) (hby : ∀ a ∈ sc, a.kind < 256 ∧ a.which < 256) (A : Option Addr) (c : Nat) (w : World) (h : RdS w w.heap.size 2 A (sc.map RgA.cells)) (hc : CutG w) :
    Calls Tryd.prog 5 #[.slice A sc.length c] w fun e w' => e = .returned (.bool true) ∧ Below w.heap.size w w' := by
  have HA := Lib.hid (awake46_any w hc)
  clear hc
  by_cases hlen : sc.length ≤ 60
  case neg =>
    have hlen' : (sc.length : Int) > 60 := by omega
    clear h hby
    generalize sc.length = sl at *
    go_enter Tryd.func5, Tryd.ntmps5
    go_wp2_with fail
    refine HA.out.mono ?_
    rintro r w1 ⟨rfl, hb1⟩
    go_wp2
    go_ret
    exact ⟨rfl, hb1⟩
  case pos =>
    have hlen' : ¬ (sc.length : Int) > 60 := by omega
    have HRG := Lib.hid (fun W (hW : Below w.heap.size w W) => register_any sc hby A c w.heap.size W (h.below hW) hW.size (by omega))
    obtain ⟨hfo, hex⟩ := rg_ok sc sc.length (by omega)
    have hll : (rgTo sc sc.length).l.length ≤ 60 := by have := (rgTo_n sc sc.length).2; omega
    generalize (rgTo sc sc.length).l = l at *
    unfold LayE at HRG
    have hv := one_valid hfo.1
    have HMO := Lib.hid (fun A2 c2 W (hE : EvS W W.heap.size A2 l) => most_any l A2 c2 W.heap.size W hE (Nat.le_refl _) (by omega) hv)
    have HFB : Hid (mostL l ≤ 14 → ∀ A2 c2 B W (_ : EvS W B A2 l) (_ : B ≤ W.heap.size), Calls Tryd.prog 15 #[.slice A2 l.length c2] W fun r w' => (∃ ov wl, r = .returned (.tuple #[ov, .bool true, .int .i64 0]) ∧ AccL l wl ∧ @OutS ⟨W.heap.size⟩ w' ov wl) ∧ Below W.heap.size W w') := fun hm A2 c2 B W hE hB => find_yes hfo (most_big (by omega)) hex A2 c2 B W hE hB
    have HAC : Hid (∀ (wl : List (List Int × Int)), AccL l wl → ∀ A2 Aw c2 cw B W (_ : EvS W B A2 l) (_ : WinS W B Aw wl) (_ : B ≤ W.heap.size), Calls Tryd.prog 19 #[.slice A2 l.length c2, .slice Aw wl.length cw] W fun r w' => r = .returned (.tuple #[.bool true, .int .i64 0]) ∧ Below W.heap.size W w') :=
      fun wl ha A2 Aw c2 cw B W hE hW hB => acc_yes hfo ha A2 Aw c2 cw B W hE hW hB (fun x hx => by have := acc_small hv wl 0 0 ha.2 x hx; omega) (by have := ha.1; have h2 : cutsL l ≤ l.length := List.countP_le_length; omega)
    clear h hby hfo hex hv
    generalize sc.length = sl at *
    go_enter Tryd.func5, Tryd.ntmps5
    go_wp2_with fail
    refine HA.out.mono ?_
    rintro r w1 ⟨rfl, hb1⟩
    have HB1 := Lib.hid hb1
    clear hb1
    go_wp2_with fail
    refine (HRG.out _ HB1.out).mono ?_
    rintro r w2 ⟨v2, rfl, hown2, hb2⟩
    have HB2 := Lib.hid (HB1.out.trans (hb2.mono HB1.out.size))
    obtain ⟨A2, c2, rfl, -, -⟩ := hown2.form
    rw [List.length_map]
    have HE2 := Lib.hid (show EvS w2 w2.heap.size A2 l from hown2.reads)
    clear hown2 hb2
    have HMX := Lib.hid (HMO.out A2 c2 w2 HE2.out)
    by_cases hmo : mostL l ≤ 14
    case neg =>
      have hmo' : (mostL l : Int) > 14 := by omega
      clear hmo HMO HFB
      generalize mostL l = mo at *
      go_wp2_with fail
      refine HMX.out.mono ?_
      rintro r w3 ⟨rfl, hb3⟩
      go_wp2
      go_ret
      exact ⟨rfl, HB2.out.trans (hb3.mono HB2.out.size)⟩
    case pos =>
      have hmo' : ¬ (mostL l : Int) > 14 := by omega
      have HFX := Lib.hid (HFB.out hmo)
      clear hmo HMO HFB
      generalize mostL l = mo at *
      go_wp2_with fail
      refine HMX.out.mono ?_
      rintro r w3 ⟨rfl, hb3⟩
      have HB3 := Lib.hid (HB2.out.trans (hb3.mono HB2.out.size))
      have HE3 := Lib.hid (show EvS w3 w2.heap.size A2 l from HE2.out.below hb3)
      have hz23 := hb3.size
      clear hb3 HMX
      generalize hln : l.length = ln at *
      clear hln
      go_wp2_with fail
      refine (HFX.out A2 c2 _ _ HE3.out hz23).mono ?_
      rintro r w4 ⟨⟨ov, wl, rfl, hac, hou⟩, hb4⟩
      obtain ⟨A4, c4, rfl⟩ := hou.isSlice
      have HB4 := Lib.hid (HB3.out.trans (hb4.mono HB3.out.size))
      have HE4 := Lib.hid (show EvS w4 w4.heap.size A2 l from (HE3.out.below' hb4 hz23).more (Nat.le_trans hz23 hb4.size))
      have HAX := Lib.hid (HAC.out wl hac A2 A4 c2 c4 w4.heap.size w4 HE4.out (out_winS hou) (Nat.le_refl _))
      clear hac hou hb4 HAC HFX
      generalize wl.length = wn at *
      go_wp2_with fail
      refine HAX.out.mono ?_
      rintro r w5 ⟨rfl, hb5⟩
      go_wp2
      go_ret
      exact ⟨rfl, HB4.out.trans (hb5.mono HB4.out.size)⟩
end Go.Proofs.YtcgbnlhloopnfaaDoor
