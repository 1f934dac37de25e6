/- history.Registers and history.Pending, whatever Valid says. -/
import Derived.Test.YtcgbnlhloopnfaaHValB
import Derived.Test.YtcgbnlhloopnfaaPendC
namespace Go.Proofs.Ytcgbnlhloopnfaa
open Go.RowKit Go.Maps Go.Sort Go.Shelf

set_option maxHeartbeats 4000000 in
set_option maxRecDepth 100000 in
theorem registers_none (l : List Ev) (A : Option Addr) (c B : Nat) (w : World) (h : EvS w B A l) (hB : B ≤ w.heap.size) (hlen : l.length ≤ 1000000) (hwf : WfOp l) (hos : parseL l = none) :
    Calls Try.prog 14 #[.slice A l.length c] w (LayI w []) := by
  have HP := Lib.hid (parse_any l A c B w h hB hlen hwf)
  unfold ParsePost at HP
  simp only [hos] at HP
  have hmm := @run_makeMap Try.prog
  clear hos h
  go_enter Try.func14, Try.ntmps14
  go_wp2_with fail
  refine HP.out.mono ?_
  rintro r w1 ⟨rfl, hb1⟩
  have hz1 := hb1.size
  have hrg := run_range_nilMap (P := Try.prog) (w1.alloc (.map #[] 0)) 60 3 64 Try.underlying60
  have hnx : ∀ ty, (Instr.next (.pointer (some ⟨(w1.alloc (.map #[] 0)).heap.size, 0, none⟩)) false ty).run Try.prog ((w1.alloc (.map #[] 0)).alloc (.mapIter none 0 #[] 0)) = _ := fun ty => run_next_nilMap _ ty 0 0 #[]
  have HSET := Lib.hid (((World.ownsMap_made w1 Try.prog 3 boolR).alloc (.mapIter none 0 #[] 0)))
  have hbw : Below w.heap.size w ((w1.alloc (.map #[] 0)).alloc (.mapIter none 0 #[] 0)) := (hb1.alloc hz1 _).alloc (by simp; omega) _
  have hzw := hbw.size
  have HKC := Lib.hid (keys_call (some w1.heap.size) ((w1.alloc (.map #[] 0)).alloc (.mapIter none 0 #[] 0)))
  have hsc := sorted_call w1.heap.size _ (.map [] : DataW Unit) boolR ((w1.alloc (.map #[] 0)).alloc (.mapIter none 0 #[] 0)) HSET.out (by simp [Maps.size]) (by simp [Maps.size])
  have e2 : ((w1.alloc (.map #[] 0)).alloc (.mapIter none 0 #[] 0)).heap.size = w1.heap.size + 1 + 1 := by simp
  rw [e2] at hsc
  have HSC := Lib.hid hsc
  clear hsc e2
  have hbf : ∀ w2, Below (((w1.alloc (.map #[] 0)).alloc (.mapIter none 0 #[] 0)).alloc (.cells #[.map (some w1.heap.size)] 63)).heap.size (((w1.alloc (.map #[] 0)).alloc (.mapIter none 0 #[] 0)).alloc (.cells #[.map (some w1.heap.size)] 63)) w2 → Below w.heap.size w w2 := fun w2 hb2 => (hbw.alloc hzw _).trans (hb2.mono (by simp; omega))
  have HBF := Lib.hid hbf
  clear HSET hbf
  have e1 : (w1.alloc (.map #[] 0)).heap.size = w1.heap.size + 1 := by simp
  rw [e1] at hrg hnx
  go_wp2
  refine wp_loop_rounds 1 ?_
  rw [rounds_succ]
  go_wp2_with fail
  refine HKC.out.mono ?_
  rintro s w2 ⟨rfl, rfl⟩
  go_wp2_with fail
  refine HSC.out.mono ?_
  rintro s w2 ⟨v', ss, rfl, hss, hrow, hnil, hb2⟩
  have hss0 : ss = [] := List.eq_nil_of_length_eq_zero (by have := hss.length_eq; simpa [intKeys] using this)
  have hb3 := HBF.out _ hb2
  have HROW := Lib.hid hrow
  obtain rfl := hnil.2 hss0
  clear hss hb2 HBF hrow
  go_wp2
  go_ret
  exact ⟨_, rfl, OwS.nil _ _ _ _, hb3⟩

theorem registers_any (l : List Ev) (A : Option Addr) (c B : Nat) (w : World) (h : EvS w B A l) (hB : B ≤ w.heap.size) (hlen : l.length ≤ 1000000) (hwf : WfOp l) (hwr : WfReg l) :
    Calls Try.prog 14 #[.slice A l.length c] w (LayI w (insAll (regsO (opsOr l)))) := by
  have hp := parse_eq l
  unfold opsOr
  cases hv : validL l
  · rw [hv] at hp
    exact registers_none l A c B w h hB hlen hwf hp
  · rw [hv] at hp
    exact registers_some l A c B w h hB hlen hwf hwr _ hp

set_option maxHeartbeats 4000000 in
set_option maxRecDepth 100000 in
theorem pending_none (l : List Ev) (A : Option Addr) (c B : Nat) (w : World) (h : EvS w B A l) (hB : B ≤ w.heap.size) (hlen : l.length ≤ 1000000) (hwf : WfOp l) (hos : parseL l = none) :
    Calls Try.prog 16 #[.slice A l.length c] w (LayI w []) := by
  have HP := Lib.hid (parse_any l A c B w h hB hlen hwf)
  unfold ParsePost at HP
  simp only [hos] at HP
  clear hos
  have hrg : ∀ W : World, (Instr.range 60 (.map none)).run Try.prog W = _ := fun W => run_range_nilMap W 60 3 64 Try.underlying60
  have hnx : ∀ (W : World) (ty : TypeId), (Instr.next (.pointer (some ⟨W.heap.size, 0, none⟩)) false ty).run Try.prog (W.alloc (.mapIter none 0 #[] 0)) = _ := fun W ty => run_next_nilMap W ty 0 0 #[]
  go_enter Try.func16, Try.ntmps16
  go_wp2_with fail
  refine HP.out.mono ?_
  rintro r w1 ⟨rfl, hb1⟩
  have hz1 := hb1.size
  clear HP
  go_wp2
  go_loopw [6, 20] (fun n i wr => ∃ k : Nat, k ≤ l.length ∧ i = .int .i64 k ∧ n = .int .i64 (cutsN l k) ∧ Below w1.heap.size w1 wr) (fun _ i _ => l.length - (intOf i).toNat)
  case atStart => exact ⟨0, by omega, rfl, rfl, Below.refl _ _⟩
  case round =>
    obtain ⟨k, hk, rfl, rfl, hb⟩ := hrel
    have hz := hb.size
    have hbd := cutsN_rng l k
    have hbw : Below w.heap.size w wr := hb1.trans (hb.mono hz1)
    by_cases hlt : k < l.length
    · obtain ⟨b', off', e, rfl, hbB, he, c0, c1, c2', c3, c4, c5⟩ := EvS.at_ (h.below' hbw hB) (k := k) hlt
      have HCS := Lib.hid (cutsN_succ he)
      clear he
      have hbl : b' < wr.heap.size := by omega
      by_cases h3 : e.kind = 3
      · rw [if_pos h3] at HCS
        have h3' : (e.kind == 3) = true := by simp [h3]
        clear h3
        go_wp2
        go_roundw
        case rel => exact ⟨k + 1, by omega, by go_num, by rw [HCS.out], hb.alloc hz _⟩
        case measure => simp [intOf]; omega
      · rw [if_neg h3] at HCS
        have h3' : (e.kind == 3) = false := by simp [h3]
        clear h3
        go_wp2
        go_roundw
        case rel => exact ⟨k + 1, by omega, by go_num, by rw [HCS.out]; simp, hb.alloc hz _⟩
        case measure => simp [intOf]; omega
    · obtain rfl : k = l.length := by omega
      clear h hlt hk
      have HS := Lib.hid (Try.slices_Sort_int_none none 0 (wr.alloc (.mapIter none 0 #[] 0)))
      have hrg := hrg wr
      have hnx := hnx wr
      rename World => wm
      go_wp2
      refine wp_loop_rounds 1 ?_
      rw [rounds_succ]
      go_wp2_with fail
      refine HS.out.mono ?_
      rintro s w2 ⟨rfl, rfl⟩
      go_wp2
      go_ret
      exact ⟨_, rfl, OwS.nil _ _ _ _, hbw.alloc (by omega) _⟩

theorem pend_any (l : List Ev) (A : Option Addr) (c B : Nat) (w : World) (h : EvS w B A l) (hB : B ≤ w.heap.size) (hlen : l.length ≤ 1000000) (hwf : WfOp l) :
    Calls Try.prog 16 #[.slice A l.length c] w (LayI w (insAll (pendTo l (opsOr l)))) := by
  have hp := parse_eq l
  unfold opsOr
  cases hv : validL l
  · rw [hv] at hp
    exact pending_none l A c B w h hB hlen hwf hp
  · rw [hv] at hp
    have hp : parseL l = some (rawOps l) := hp
    refine (pending_any l A c B w h hB hlen hwf _ hp).mono ?_
    rintro r w' ⟨v, ks, rfl, hks, hpw, ho, hb⟩
    have h2 : pendI (rawOps l) (cutsN l l.length) = pendTo l (rawOps l) := by
      unfold pendI pendTo
      congr 1
      exact List.filter_congr fun o ho => by unfold pendB refPend; rw [pend_cut hp ho]
    obtain ⟨hids, -⟩ := parseL_ids hp
    have hnd : (pendI (rawOps l) (cutsN l l.length)).Nodup := by unfold pendI; exact List.Nodup.sublist (List.Sublist.map _ List.filter_sublist) hids
    have h3 : ks = insAll (pendTo l (rawOps l)) := insAll_is hpw (hks.nodup_iff.2 hnd) fun x => by rw [← h2]; exact hks.mem_iff
    rw [h3] at ho
    exact ⟨v, rfl, ho, hb⟩
end Go.Proofs.Ytcgbnlhloopnfaa
