/- Arguments of the laws of layer 50, opened: a list of records, a record, a state. -/
import Derived.Test.YtjgjofepedcfnaaGreatGRs
import Derived.Test.YtjgjofepedcfnaaGreatGRo
import Derived.Test.YtjgjofepedcfnaaGreatRqH
namespace Go.Proofs.YtjgjofepedcfnaaGreat
open Go.ChangeShapes Go.WideShapes Go.Deep Go.RowKit
section
variable {H : Type} {enc : TypeId × Value → H} {w : World} {base : Nat} {spare : Nat → Bool} {held : Bool} {n : Nat} {cs : List Value} {x : DataW H × List MemPlace}
theorem open_rowsR {α : Type} [Inhabited α] {t e : TypeId} {size : Nat} (F : α → List Value) (Q : α → Prop) (ht : Tryz.prog.underlying t = some (.slice e)) (hce : Tryz.prog.cellsOf e = size) (hF : ∀ x, (F x).length = size) (hp : 0 < size)
  (hone : ∀ (n : Nat) (cs : List Value) (x : DataW H × List MemPlace), DataW.trod enc Tryz.prog w base spare held n e cs = some x → ∃ a, cs = F a ∧ Q a)
  (h : DataW.trod enc Tryz.prog w base spare held n t cs = some x) : ∃ (l : List α) (A : Option Addr) (c : Nat), cs = [.slice A l.length c] ∧ RdS w w.heap.size size A (l.map F) ∧ (∀ a ∈ l, Q a) ∧ l.length ≤ c ∧ c ≤ maxLen := by
 rcases open_slice ht h with ⟨hcs, -⟩ | ⟨a, len, cap, m, k, D, Pl, hcs, hb, hl, hm, hmm, hx, hi⟩
 ·exact ⟨[], none, 0, hcs, RdS.nil _ _ _ _, by simp, by simp, by simp⟩
 ·rw [hce] at hi
  have hle : len ≤ m := by rw [hmm]; split <;> omega
  have hE : ∀ i, ∃ e : α, i < len → (∀ j v, (F e)[j]? = some v → w.cell? (a.add (i * size + j)) = some v) ∧ Q e := fun i => by
   by_cases him : i < len
   ·obtain ⟨cs', hc, hti⟩ := hi i (by omega)
    obtain ⟨e, rfl, hw⟩ := hone _ _ _ hti
    obtain ⟨_, hcl, hat⟩ := World.cells?_some hc
    refine ⟨e, fun _ => ⟨fun j v hj => ?_, hw⟩⟩
    have hj6 : j < size := by have := (List.getElem?_eq_some_iff.1 hj).1; rwa [hF] at this
    rw [← Go.Deep.add_add, hat j hj6, hj]
   ·exact ⟨default, fun h => absurd h him⟩
  obtain ⟨f, hf⟩ := Classical.axiomOfChoice hE
  refine ⟨(List.range len).map f, some a, cap, by simpa using hcs, ⟨fun r hr => ?_, fun h0 => ?_⟩, fun e he => ?_, by simpa using hl, hm⟩
  ·obtain ⟨x, -, rfl⟩ := List.mem_map.1 hr
   exact hF x
  ·have h0' : 0 < len := by simpa using h0
   obtain ⟨v0, hv0⟩ : ∃ v0, (F (f 0))[0]? = some v0 := ⟨_, List.getElem?_eq_getElem (by rw [hF]; exact hp)⟩
   have hc0 := (hf 0 h0').1 0 _ hv0
   obtain ⟨b, off, spot⟩ := a
   have hspot : spot = none := by simpa [Addr.add] using World.cell?_spot hc0
   subst hspot
   refine ⟨b, off, rfl, by simpa [Addr.add] using block_lt_of_cell hc0, fun i r hr j v hj => ?_⟩
   have hil : i < len := by
    have := (List.getElem?_eq_some_iff.1 hr).1
    simpa using this
   have hrr : r = F (f i) := by
    rw [List.getElem?_map, List.getElem?_map, List.getElem?_range hil] at hr
    simpa using hr.symm
   subst hrr
   have := (hf i hil).1 j v hj
   rw [show (⟨b, off, none⟩ : Addr).add (i * size + j) = ⟨b, off + (i * size + j), none⟩ from Addr.add_lit _ _ _] at this
   rw [Nat.add_assoc]
   exact this
  ·obtain ⟨i, hi', rfl⟩ := List.mem_map.1 he
   exact (hf i (by simpa using hi')).2
theorem open_bysR (h : DataW.trod enc Tryz.prog w base spare held n 26 cs = some x) : ∃ (l : List Nat) (A : Option Addr) (c : Nat), cs = [.slice A l.length c] ∧ BytS w w.heap.size A l ∧ (∀ b ∈ l, b < 256) ∧ l.length ≤ c ∧ c ≤ maxLen :=
 open_rowsR u8C _ Tryz.underlying26 cells_byteS (fun _ => rfl) (by decide) (fun n cs x h => by
  obtain ⟨b, e, -, hw⟩ := DataW.trod_int Tryz.underlying5 h
  cases e
  obtain ⟨x, rfl, hx⟩ := byte_nat hw
  exact ⟨x, rfl, hx⟩) h
structure RcdIn (r : Rcd) : Prop where
 gen : r.gen < 18446744073709551616
 seq : r.seq < 18446744073709551616
 ws : ∀ x ∈ r.ws, x.v < 18446744073709551616 ∧ x.d.ok
 nt : ∀ x ∈ r.nt, x < 256
 ms : ∀ m ∈ r.ms, MvWfS m
theorem RcdIn.ok {r : Rcd} (h : RcdIn r) (h1 : r.ws.length ≤ 1000000) (h2 : r.ms.length ≤ 1000000) (h3 : r.nt.length ≤ 1000000) : RcdOk r := ⟨h.seq, h1, h2, h3, fun x hx => (h.ws x hx).2⟩
end
end Go.Proofs.YtjgjofepedcfnaaGreat
