/- Arguments of the laws of layer 50, opened: a list of records, a record, a state. -/
import Derived.Test.YtjgjofepedcfnaaGreatGRs
import Derived.Test.YtjgjofepedcfnaaGreatGRo
import Derived.Test.YtjgjofepedcfnaaGreatRqH
namespace Go.Proofs.YtjgjofepedcfnaaGreat
open Go.ChangeShapes Go.WideShapes Go.Deep Go.RowKit
theorem long_nat {n : Int} (h : (Lit.int .u64 n).wf = true) : ∃ m : Nat, n = m ∧ m < 18446744073709551616 := by
 rw [Lit.wf_int_iff, IntKind.min_u64, IntKind.max_u64] at h
 exact ⟨n.toNat, by omega, by omega⟩
theorem fiveR {α : Type} {l : List α} (h : l.length = 5) : ∃ a b c d e, l = [a, b, c, d, e] := by
 match l, h with
 | [a, b, c, d, e], _ => exact ⟨a, b, c, d, e, rfl⟩
theorem eightR {α : Type} {l : List α} (h : l.length = 8) : ∃ a b c d e f g i, l = [a, b, c, d, e, f, g, i] := by
 match l, h with
 | [a, b, c, d, e, f, g, i], _ => exact ⟨a, b, c, d, e, f, g, i, rfl⟩
theorem elevenR {α : Type} {l : List α} (h : l.length = 11) : ∃ x y z m, l = x :: y :: z :: m ∧ m.length = 8 := by
 match l, h with
 | x :: y :: z :: m, h => exact ⟨x, y, z, m, rfl, by simpa using h⟩
theorem cells_block : Tryz.prog.cellsOf 62 = 8 := by kernel_rfl
theorem cells_u64R : Tryz.prog.cellsOf 23 = 1 := by kernel_rfl
theorem cells_pw : Tryz.prog.cellsOf 64 = 11 := by kernel_rfl
theorem cells_rcd : Tryz.prog.cellsOf 28 = 5 := by kernel_rfl
theorem cells_pwsR : Tryz.prog.cellsOf 24 = 1 := by kernel_rfl
theorem cells_mvsR : Tryz.prog.cellsOf 25 = 1 := by kernel_rfl
theorem cells_bysR : Tryz.prog.cellsOf 26 = 1 := by kernel_rfl
section
variable {H : Type} {enc : TypeId × Value → H} {w : World} {base : Nat} {spare : Nat → Bool} {held : Bool} {n : Nat} {cs : List Value} {x : DataW H × List MemPlace}
theorem open_rowsR {α : Type} [Inhabited α] {t e : TypeId} {size : Nat} (F : α → List Value) (Q : α → Prop) (ht : Tryz.prog.underlying t = some (.slice e)) (hce : Tryz.prog.cellsOf e = size) (hF : ∀ x, (F x).length = size) (hp : 0 < size)
  (hone : ∀ (n : Nat) (cs : List Value) (x : DataW H × List MemPlace), DataW.trod enc Tryz.prog w base spare held n e cs = some x → ∃ a, cs = F a ∧ Q a)
  (h : DataW.trod enc Tryz.prog w base spare held n t cs = some x) : ∃ (l : List α) (A : Option Addr) (c : Nat), cs = [.slice A l.length c] ∧ RdS w w.heap.size size A (l.map F) ∧ (∀ a ∈ l, Q a) ∧ l.length ≤ c ∧ c ≤ maxLen := by
 rcases open_slice ht h with ⟨hcs, -⟩ | ⟨a, len, cap, m, k, D, Pl, hcs, hb, hl, hm, hmm, hx, hi⟩
 ·exact ⟨[], none, 0, hcs, RdS.nil _ _ _ _, by simp, by simp, by simp⟩
 ·rw [hce] at hi
  have hle : len ≤ m := by rw [hmm]; split <;> omega
  have hE : ∀ i, ∃ e : α, i < len → (∀ j v, (F e)[j]? = some v → w.cell? (a.add (i * size + j)) = some v) ∧ Q e := fun i => by
   by_cases him : i < len
   ·obtain ⟨cs', hc, hti⟩ := hi i (by omega)
    obtain ⟨e, rfl, hw⟩ := hone _ _ _ hti
    obtain ⟨_, hcl, hat⟩ := World.cells?_some hc
    refine ⟨e, fun _ => ⟨fun j v hj => ?_, hw⟩⟩
    have hj6 : j < size := by have := (List.getElem?_eq_some_iff.1 hj).1; rwa [hF] at this
    rw [← Go.Deep.add_add, hat j hj6, hj]
   ·exact ⟨default, fun h => absurd h him⟩
  obtain ⟨f, hf⟩ := Classical.axiomOfChoice hE
  refine ⟨(List.range len).map f, some a, cap, by simpa using hcs, ⟨fun r hr => ?_, fun h0 => ?_⟩, fun e he => ?_, by simpa using hl, hm⟩
  ·obtain ⟨x, -, rfl⟩ := List.mem_map.1 hr
   exact hF x
  ·have h0' : 0 < len := by simpa using h0
   obtain ⟨v0, hv0⟩ : ∃ v0, (F (f 0))[0]? = some v0 := ⟨_, List.getElem?_eq_getElem (by rw [hF]; exact hp)⟩
   have hc0 := (hf 0 h0').1 0 _ hv0
   obtain ⟨b, off, spot⟩ := a
   have hspot : spot = none := by simpa [Addr.add] using World.cell?_spot hc0
   subst hspot
   refine ⟨b, off, rfl, by simpa [Addr.add] using block_lt_of_cell hc0, fun i r hr j v hj => ?_⟩
   have hil : i < len := by
    have := (List.getElem?_eq_some_iff.1 hr).1
    simpa using this
   have hrr : r = F (f i) := by
    rw [List.getElem?_map, List.getElem?_map, List.getElem?_range hil] at hr
    simpa using hr.symm
   subst hrr
   have := (hf i hil).1 j v hj
   rw [show (⟨b, off, none⟩ : Addr).add (i * size + j) = ⟨b, off + (i * size + j), none⟩ from Addr.add_lit _ _ _] at this
   rw [Nat.add_assoc]
   exact this
  ·obtain ⟨i, hi', rfl⟩ := List.mem_map.1 he
   exact (hf i (by simpa using hi')).2
theorem open_bysR (h : DataW.trod enc Tryz.prog w base spare held n 26 cs = some x) : ∃ (l : List Nat) (A : Option Addr) (c : Nat), cs = [.slice A l.length c] ∧ BytS w w.heap.size A l ∧ (∀ b ∈ l, b < 256) ∧ l.length ≤ c ∧ c ≤ maxLen :=
 open_rowsR u8C _ Tryz.underlying26 cells_byteS (fun _ => rfl) (by decide) (fun n cs x h => by
  obtain ⟨b, e, -, hw⟩ := DataW.trod_int Tryz.underlying5 h
  cases e
  obtain ⟨x, rfl, hx⟩ := byte_nat hw
  exact ⟨x, rfl, hx⟩) h
theorem open_mvsR (h : DataW.trod enc Tryz.prog w base spare held n 25 cs = some x) : ∃ (l : List Mv) (A : Option Addr) (c : Nat), cs = [.slice A l.length c] ∧ MvS w w.heap.size A l ∧ (∀ m ∈ l, MvWfS m) ∧ l.length ≤ c ∧ c ≤ maxLen := by
 haveI : Inhabited Mv := ⟨⟨0, 0, ⟨0, 0⟩⟩⟩
 exact open_rowsR Mv.cells _ Tryz.underlying25 cells_move (fun _ => rfl) (by decide) (fun n cs x h => open_move1 h) h
set_option maxRecDepth 100000 in
theorem open_blockR (h : DataW.trod enc Tryz.prog w base spare held n 62 cs = some x) : ∃ d : Blk, cs = d.cells ∧ d.ok := by
 obtain ⟨xs, m, -, -, hcl, hxl, hel⟩ := DataW.trod_array Tryz.underlying62 h
 rw [cells_block] at hcl
 obtain ⟨v0, v1, v2, v3, v4, v5, v6, v7, rfl⟩ := eightR hcl
 obtain ⟨y0, y1, y2, y3, y4, y5, y6, y7, rfl⟩ := eightR (show xs.length = 8 from hxl)
 have one : ∀ (k : Nat) (v : Value) (y : DataW H × List MemPlace), DataW.trod enc Tryz.prog w base spare held m 5 [v] = some y → ∃ b : Nat, v = .int .u8 b ∧ b < 256 := fun k v y hh => by
  obtain ⟨b, e, -, hw⟩ := DataW.trod_int Tryz.underlying5 hh
  cases e
  obtain ⟨x, rfl, hx⟩ := byte_nat hw
  exact ⟨x, rfl, hx⟩
 have h0 : DataW.trod enc Tryz.prog w base spare held m 5 (([v0, v1, v2, v3, v4, v5, v6, v7].drop (0 * Tryz.prog.cellsOf 5)).take (Tryz.prog.cellsOf 5)) = some y0 := hel 0 (by omega)
 have h1 : DataW.trod enc Tryz.prog w base spare held m 5 (([v0, v1, v2, v3, v4, v5, v6, v7].drop (1 * Tryz.prog.cellsOf 5)).take (Tryz.prog.cellsOf 5)) = some y1 := hel 1 (by omega)
 have h2 : DataW.trod enc Tryz.prog w base spare held m 5 (([v0, v1, v2, v3, v4, v5, v6, v7].drop (2 * Tryz.prog.cellsOf 5)).take (Tryz.prog.cellsOf 5)) = some y2 := hel 2 (by omega)
 have h3 : DataW.trod enc Tryz.prog w base spare held m 5 (([v0, v1, v2, v3, v4, v5, v6, v7].drop (3 * Tryz.prog.cellsOf 5)).take (Tryz.prog.cellsOf 5)) = some y3 := hel 3 (by omega)
 have h4 : DataW.trod enc Tryz.prog w base spare held m 5 (([v0, v1, v2, v3, v4, v5, v6, v7].drop (4 * Tryz.prog.cellsOf 5)).take (Tryz.prog.cellsOf 5)) = some y4 := hel 4 (by omega)
 have h5 : DataW.trod enc Tryz.prog w base spare held m 5 (([v0, v1, v2, v3, v4, v5, v6, v7].drop (5 * Tryz.prog.cellsOf 5)).take (Tryz.prog.cellsOf 5)) = some y5 := hel 5 (by omega)
 have h6 : DataW.trod enc Tryz.prog w base spare held m 5 (([v0, v1, v2, v3, v4, v5, v6, v7].drop (6 * Tryz.prog.cellsOf 5)).take (Tryz.prog.cellsOf 5)) = some y6 := hel 6 (by omega)
 have h7 : DataW.trod enc Tryz.prog w base spare held m 5 (([v0, v1, v2, v3, v4, v5, v6, v7].drop (7 * Tryz.prog.cellsOf 5)).take (Tryz.prog.cellsOf 5)) = some y7 := hel 7 (by omega)
 rw [cells_byteS] at h0 h1 h2 h3 h4 h5 h6 h7
 obtain ⟨b0, rfl, g0⟩ := one 0 v0 y0 h0
 obtain ⟨b1, rfl, g1⟩ := one 1 v1 y1 h1
 obtain ⟨b2, rfl, g2⟩ := one 2 v2 y2 h2
 obtain ⟨b3, rfl, g3⟩ := one 3 v3 y3 h3
 obtain ⟨b4, rfl, g4⟩ := one 4 v4 y4 h4
 obtain ⟨b5, rfl, g5⟩ := one 5 v5 y5 h5
 obtain ⟨b6, rfl, g6⟩ := one 6 v6 y6 h6
 obtain ⟨b7, rfl, g7⟩ := one 7 v7 y7 h7
 refine ⟨⟨b0, b1, b2, b3, b4, b5, b6, b7⟩, rfl, fun x hx => ?_⟩
 simp only [Blk.l, List.mem_cons, List.not_mem_nil, or_false] at hx
 rcases hx with rfl | rfl | rfl | rfl | rfl | rfl | rfl | rfl <;> assumption
set_option maxRecDepth 100000 in
theorem open_pwR (h : DataW.trod enc Tryz.prog w base spare held n 64 cs = some x) : ∃ m : Pw, cs = m.cells ∧ m.v < 18446744073709551616 ∧ m.d.ok := by
 obtain ⟨ys, m, -, -, hlen, hyl, hel⟩ := DataW.trod_struct Tryz.underlying64 h
 rw [cells_pw] at hlen
 obtain ⟨v0, v1, v2, vd, rfl, hd⟩ := elevenR hlen
 obtain ⟨y0, y1, y2, y3, rfl⟩ := fourS (show ys.length = 4 from hyl)
 have h0 : DataW.trod enc Tryz.prog w base spare held m 3 (((v0 :: v1 :: v2 :: vd).drop 0).take (Tryz.prog.cellsOf 3)) = some y0 := hel 0 _ rfl
 have h1 : DataW.trod enc Tryz.prog w base spare held m 3 (((v0 :: v1 :: v2 :: vd).drop 1).take (Tryz.prog.cellsOf 3)) = some y1 := hel 1 _ rfl
 have h2 : DataW.trod enc Tryz.prog w base spare held m 23 (((v0 :: v1 :: v2 :: vd).drop 2).take (Tryz.prog.cellsOf 23)) = some y2 := hel 2 _ rfl
 have h3 : DataW.trod enc Tryz.prog w base spare held m 62 (((v0 :: v1 :: v2 :: vd).drop 3).take (Tryz.prog.cellsOf 62)) = some y3 := hel 3 _ rfl
 rw [cells_intS] at h0 h1
 rw [cells_u64R] at h2
 rw [cells_block] at h3
 have e3 : ((v0 :: v1 :: v2 :: vd).drop 3).take 8 = vd := by
  show vd.take 8 = vd
  exact List.take_of_length_le (by omega)
 rw [e3] at h3
 obtain ⟨n0, e0, -, -⟩ := DataW.trod_int Tryz.underlying3 h0
 obtain ⟨n1, e1, -, -⟩ := DataW.trod_int Tryz.underlying3 h1
 obtain ⟨n2, e2, -, w2⟩ := DataW.trod_int Tryz.underlying23 h2
 obtain ⟨d, rfl, hok⟩ := open_blockR h3
 cases e0; cases e1; cases e2
 obtain ⟨v, rfl, hv⟩ := long_nat w2
 exact ⟨⟨n0, n1, v, d⟩, rfl, hv, hok⟩
theorem open_pwsR (h : DataW.trod enc Tryz.prog w base spare held n 24 cs = some x) : ∃ (l : List Pw) (A : Option Addr) (c : Nat), cs = [.slice A l.length c] ∧ PwS w w.heap.size A l ∧ (∀ m ∈ l, m.v < 18446744073709551616 ∧ m.d.ok) ∧ l.length ≤ c ∧ c ≤ maxLen := by
 haveI : Inhabited Pw := ⟨⟨0, 0, 0, ⟨0, 0, 0, 0, 0, 0, 0, 0⟩⟩⟩
 exact open_rowsR Pw.cells _ Tryz.underlying24 cells_pw (fun _ => rfl) (by decide) (fun n cs x h => open_pwR h) h
structure RcdIn (r : Rcd) : Prop where
 gen : r.gen < 18446744073709551616
 seq : r.seq < 18446744073709551616
 ws : ∀ x ∈ r.ws, x.v < 18446744073709551616 ∧ x.d.ok
 nt : ∀ x ∈ r.nt, x < 256
 ms : ∀ m ∈ r.ms, MvWfS m
set_option maxRecDepth 100000 in
theorem open_rcdC (h : DataW.trod enc Tryz.prog w base spare held n 28 cs = some x) : ∃ q : RAd × Rcd, cs = rcRow q ∧ PwS w w.heap.size q.1.1.1 q.2.ws ∧ MvS w w.heap.size q.1.2.1.1 q.2.ms ∧ BytS w w.heap.size q.1.2.2.1 q.2.nt ∧ RcdIn q.2 := by
 obtain ⟨ys, m, -, -, hlen, hyl, hel⟩ := DataW.trod_struct Tryz.underlying28 h
 rw [cells_rcd] at hlen
 obtain ⟨v0, v1, v2, v3, v4, rfl⟩ := fiveR hlen
 obtain ⟨y0, y1, y2, y3, y4, rfl⟩ := fiveR (show ys.length = 5 from hyl)
 have h0 : DataW.trod enc Tryz.prog w base spare held m 23 (([v0, v1, v2, v3, v4].drop 0).take (Tryz.prog.cellsOf 23)) = some y0 := hel 0 _ rfl
 have h1 : DataW.trod enc Tryz.prog w base spare held m 23 (([v0, v1, v2, v3, v4].drop 1).take (Tryz.prog.cellsOf 23)) = some y1 := hel 1 _ rfl
 have h2 : DataW.trod enc Tryz.prog w base spare held m 24 (([v0, v1, v2, v3, v4].drop 2).take (Tryz.prog.cellsOf 24)) = some y2 := hel 2 _ rfl
 have h3 : DataW.trod enc Tryz.prog w base spare held m 25 (([v0, v1, v2, v3, v4].drop 3).take (Tryz.prog.cellsOf 25)) = some y3 := hel 3 _ rfl
 have h4 : DataW.trod enc Tryz.prog w base spare held m 26 (([v0, v1, v2, v3, v4].drop 4).take (Tryz.prog.cellsOf 26)) = some y4 := hel 4 _ rfl
 rw [cells_u64R] at h0 h1
 rw [cells_pwsR] at h2
 rw [cells_mvsR] at h3
 rw [cells_bysR] at h4
 obtain ⟨n0, e0, -, w0⟩ := DataW.trod_int Tryz.underlying23 h0
 obtain ⟨n1, e1, -, w1⟩ := DataW.trod_int Tryz.underlying23 h1
 obtain ⟨ws, Aw, cw, e2, g2, k2, -⟩ := open_pwsR (cs := [v2]) h2
 obtain ⟨ms, Am, cm, e3, g3, k3, -⟩ := open_mvsR (cs := [v3]) h3
 obtain ⟨nt, An, cn, e4, g4, k4, -⟩ := open_bysR (cs := [v4]) h4
 cases e0; cases e1; cases e2; cases e3; cases e4
 obtain ⟨gen, rfl, hg⟩ := long_nat w0
 obtain ⟨seq, rfl, hs⟩ := long_nat w1
 exact ⟨(((Aw, cw), (Am, cm), (An, cn)), ⟨gen, seq, ws, ms, nt⟩), rfl, g2, g3, g4, ⟨hg, hs, k2, k4, k3⟩⟩
theorem open_rcdsR (h : DataW.trod enc Tryz.prog w base spare held n 22 cs = some x) : ∃ (l : List Rcd) (A : Option Addr) (c : Nat), cs = [.slice A l.length c] ∧ RcsS w w.heap.size A l ∧ (∀ r ∈ l, RcdIn r) ∧ l.length ≤ c ∧ c ≤ maxLen := by
 haveI : Inhabited (RAd × Rcd) := ⟨(((none, 0), (none, 0), (none, 0)), ⟨0, 0, [], [], []⟩)⟩
 obtain ⟨l, A, c, h1, h2, h3, h4, h5⟩ := open_rowsR rcRow (fun q => PwS w w.heap.size q.1.1.1 q.2.ws ∧ MvS w w.heap.size q.1.2.1.1 q.2.ms ∧ BytS w w.heap.size q.1.2.2.1 q.2.nt ∧ RcdIn q.2) Tryz.underlying22 cells_rcd (fun _ => rfl) (by decide) (fun n cs x h => open_rcdC h) h
 have hz : (l.map Prod.fst).zip (l.map Prod.snd) = l := by
  clear h1 h2 h3 h4
  induction l with
  | nil => rfl
  | cons a l ih => simp only [List.map_cons, List.zip_cons_cons, ih]
 refine ⟨l.map Prod.snd, A, c, by rw [List.length_map]; exact h1, ⟨l.map Prod.fst, by simp, by rw [hz]; exact h2, fun i p r hp hr => ?_⟩, fun r hr => ?_, by rw [List.length_map]; exact h4, h5⟩
 ·rw [List.getElem?_map] at hp hr
  rcases hq : l[i]? with _ | q
  ·rw [hq] at hp; cases hp
  ·rw [hq] at hp hr
   cases hp
   cases hr
   have := h3 q (List.mem_of_getElem? hq)
   exact ⟨this.1, this.2.1, this.2.2.1⟩
 ·obtain ⟨q, hq, rfl⟩ := List.mem_map.1 hr
  exact (h3 q hq).2.2.2
end
end Go.Proofs.YtjgjofepedcfnaaGreat
