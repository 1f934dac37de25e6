/- Parts of a list of records in memory; All at a state in a box; one record of own writes. No program is walked here. -/
import Derived.Test.YtjgjofepedcfnaaGreatRqX
import Derived.Test.YtjgjofepedcfnaaGreatRqU
namespace Go.Proofs.YtjgjofepedcfnaaGreat
open Go.RowKit
theorem RdS.drop' {w : World} {B size b off : Nat} {rows : List (List Value)} (h : RdS w B size (some ⟨b, off, none⟩) rows) (k : Nat) : RdS w B size (some ⟨b, off + k * size, none⟩) (rows.drop k) := by
 refine ⟨fun r hr => h.1 r (List.mem_of_mem_drop hr), fun hn => ?_⟩
 rw [List.length_drop] at hn
 obtain ⟨b', off', he, hb, hc⟩ := h.2 (by omega)
 cases he
 refine ⟨b, off + k * size, rfl, hb, fun i r hr j v hv => ?_⟩
 rw [List.getElem?_drop] at hr
 have := hc (k + i) r hr j v hv
 rw [show off + k * size + i * size + j = off + (k + i) * size + j by rw [Nat.add_mul]; omega]
 exact this
theorem zip_take' {α β : Type} : ∀ (k : Nat) (a : List α) (b : List β), (a.take k).zip (b.take k) = (a.zip b).take k
 | 0, a, b => by simp
 | k + 1, [], b => by simp
 | k + 1, a :: xs, [] => by simp
 | k + 1, a :: xs, b :: ys => by simp only [List.take_succ_cons, List.zip_cons_cons]; rw [zip_take' k xs ys]
theorem zip_drop' {α β : Type} : ∀ (k : Nat) (a : List α) (b : List β), (a.drop k).zip (b.drop k) = (a.zip b).drop k
 | 0, a, b => by simp
 | k + 1, [], b => by simp
 | k + 1, a :: xs, [] => by simp
 | k + 1, a :: xs, b :: ys => by simp only [List.drop_succ_cons, List.zip_cons_cons]; rw [zip_drop' k xs ys]
section
variable {w : World} {B : Nat} {A : Option Addr} {rs : List Rcd}
theorem RcsS.take (h : RcsS w B A rs) (k : Nat) : RcsS w B A (rs.take k) := by
 obtain ⟨vs, h1, h2, h3⟩ := h
 refine ⟨vs.take k, by simp [h1], ?_, fun i p r hp hr => ?_⟩
 ·rw [zip_take', List.map_take]
  exact RdS.take h2 k
 ·rw [List.getElem?_take] at hp hr
  split at hp
  ·rename_i hi
   rw [if_pos hi] at hr
   exact h3 i p r hp hr
  ·cases hp
theorem RcsS.drop {b off : Nat} (h : RcsS w B (some ⟨b, off, none⟩) rs) (k : Nat) : RcsS w B (some ⟨b, off + k * 5, none⟩) (rs.drop k) := by
 obtain ⟨vs, h1, h2, h3⟩ := h
 refine ⟨vs.drop k, by simp [h1], ?_, fun i p r hp hr => ?_⟩
 ·rw [zip_drop', List.map_drop]
  exact RdS.drop' h2 k
 ·rw [List.getElem?_drop] at hp hr
  exact h3 (k + i) p r hp hr
theorem RcsS.addr (h : RcsS w B A rs) (hn : 0 < rs.length) : ∃ b off, A = some ⟨b, off, none⟩ := by
 obtain ⟨vs, h1, h2, h3⟩ := h
 obtain ⟨b, off, e, -⟩ := h2.2 (by simp [h1]; omega)
 exact ⟨b, off, e⟩
theorem rcs_one {At : Option Addr} {ct : Nat} {ts : List Pw} (h : PwS w w.heap.size At ts) : RcsS (w.alloc (.cells #[.int .u64 0, .int .u64 1, .slice At ts.length ct, .slice none 0 0, .slice none 0 0] 28)) (w.heap.size + 1) (some ⟨w.heap.size, 0, none⟩) [oneR ts] := by
 refine ⟨[((At, ct), (none, 0), (none, 0))], rfl, ⟨fun r hr => ?_, fun _ => ⟨w.heap.size, 0, rfl, by omega, fun i r hi j u hj => ?_⟩⟩, fun i p r hp hr => ?_⟩
 ·simp only [List.zip_cons_cons, List.zip_nil_right, List.map_cons, List.map_nil, List.mem_cons, List.not_mem_nil, or_false] at hr
  rw [hr]
  rfl
 ·have hb := heap_alloc_new w (.cells #[.int .u64 0, .int .u64 1, .slice At ts.length ct, .slice none 0 0, .slice none 0 0] 28)
  rw [cell_of_row _ _ _ _ _ _ hb]
  match i, hi with
  | 0, hi =>
   simp only [List.zip_cons_cons, List.zip_nil_right, List.map_cons, List.getElem?_cons_zero, Option.some.injEq] at hi
   subst hi
   rw [show 0 + 0 * 5 + j = j by omega, show (#[.int .u64 0, .int .u64 1, .slice At ts.length ct, .slice none 0 0, .slice none 0 0] : Array Value) = (rcRow (((At, ct), (none, 0), (none, 0)), oneR ts)).toArray from rfl, List.getElem?_toArray]
   exact hj
 ·match i, hp with
  | 0, hp =>
   simp only [List.getElem?_cons_zero, Option.some.injEq] at hp hr
   subst hp hr
   exact ⟨RdS.more (RdS.below' h below_laid (Nat.le_refl _)) (by omega), RdS.nil _ _ _ _, RdS.nil _ _ _ _⟩
end
theorem LxI.all {w W : World} {X c D cq : Nat} {L : LayD} {A Aq : Option Addr} {T : TypeId} {a b d : Value} {S : St} {rs : List Rcd} (hI : LxI w X L A c W) (hx : LayX L) (hB : Bx W D T a b d S) (hpw : ∀ m ∈ S.ms, PlWf m.to) (hrs : RcsS W W.heap.size Aq rs) (hro : ∀ r ∈ rs, RcdOk r) (hlen : rs.length ≤ 10) (hf : StF S) :
  Calls Tryz.prog 24 #[.agg #[.int .i64 L.disks, .slice A L.n c, .int .i64 L.tiles, .int .i64 L.spare], .agg #[a, b, d], .slice Aq rs.length cq] W fun e w' => AllV (fun k => k < W.heap.size) (allR L S rs).1 (allR L S rs).2 (allW rs) w' e ∧ Below W.heap.size W w' := by
 have h := rAll (c := c) (cr := cq) W hx hI.gs hB.st hpw hrs hro (Nat.le_refl _) hlen hf.n1 hf.n2 hf.n3
 unfold layAgg at h
 exact h.mono fun e w' hh => ⟨hh.1.v, hh.2⟩
theorem parts_len {rs : List Rcd} {k : Nat} {t1 t2 t : List Pw} (h : SrtW (allW rs) t) : (SrtW (allW (rs.take k)) t1 → t1.length ≤ t.length) ∧ (SrtW (allW (rs.drop k)) t2 → t2.length ≤ t.length) := by
 refine ⟨fun h1 => srt_len h1 h fun x hx => ?_, fun h2 => srt_len h2 h fun x hx => ?_⟩
 ·unfold allW at *
  obtain ⟨r, hr, hx⟩ := List.mem_flatMap.1 hx
  exact List.mem_flatMap.2 ⟨r, List.mem_of_mem_take hr, hx⟩
 ·unfold allW at *
  obtain ⟨r, hr, hx⟩ := List.mem_flatMap.1 hx
  exact List.mem_flatMap.2 ⟨r, List.mem_of_mem_drop hr, hx⟩
theorem allW_one (ts : List Pw) : allW [oneR ts] = ts := by simp [allW, oneR]
theorem one_ok {rs : List Rcd} {ts : List Pw} (h : ∀ r ∈ rs, RcdOk r) (hb : ∀ r ∈ rs, rcdB r = true) (hn : rs.length ≤ 10) (hs : SrtW (allW rs) ts) : ∀ r ∈ [oneR ts], RcdOk r := by
 intro r hr
 rw [List.mem_singleton] at hr
 subst hr
 refine ⟨by show 1 < _; decide, ?_, by show 0 ≤ _; decide, by show 0 ≤ _; decide, fun x hx => ?_⟩
 ·show ts.length ≤ _
  have h1 := allWs_len hb
  have h2 := srtW_len hs
  omega
 ·have hx2 := (lastW_some ((hs.1 x).1 hx)).1
  unfold allW at hx2
  obtain ⟨r, hr, hx3⟩ := List.mem_flatMap.1 hx2
  exact (h r hr).dok x hx3
theorem AllV.less {E E' : Nat → Prop} {S : St} {er : Int} {ws : List Pw} {w' : World} {e : Ending} (h : AllV E S er ws w' e) (hE : ∀ k, E' k → E k) : AllV E' S er ws w' e := by
 obtain ⟨v', A, ts, c, he, h1, h2, h3⟩ := h
 exact ⟨v', A, ts, c, he, Stb.mono h1 fun k _ => hE k, Stb.mono h2 fun k _ => hE k, h3⟩
end Go.Proofs.YtjgjofepedcfnaaGreat
