/- An argument of the laws of layer 23, opened: which disks are dead (a number of 8 bits and one of 16). -/
import Derived.Test.YteglnekkkhpikaaGreatGSmk
import Derived.Test.YteglnekkkhpikaaGreatGSmm
namespace Go.Proofs.YteglnekkkhpikaaGreat
open Go.ChangeShapes Go.WideShapes Go.Deep Go.RowKit

theorem cells_fail : Tryz.prog.cellsOf 25 = 2 := by kernel_rfl
set_option maxRecDepth 100000 in
theorem open_failS {H : Type} {enc : TypeId × Value → H} {w : World} {r : Reach} {base b0 : Nat} {spare : Nat → Bool} {held : Bool} {v : Value} {d : DataW H} {p : List MemPlace}
    (hv : Value.okWide Tryz.prog w r b0 25 v) (h : DataW.Trod enc Tryz.prog w base spare held 25 v d p) : ∃ (x y : Nat), v = .agg #[.int .u8 (x : Int), .int .u16 (y : Int)] ∧ x < 256 ∧ y < 65536 := by
  obtain ⟨cs, rfl, hsz⟩ := okWide_structS Tryz.underlying25 hv
  rw [cells_fail] at hsz
  obtain ⟨fuel, hf⟩ := h
  obtain ⟨ys, m, -, -, hlen, hyl, hel⟩ := DataW.trod_struct Tryz.underlying25 hf
  obtain ⟨cl⟩ := cs
  obtain ⟨v0, v1, rfl⟩ := twoS (show cl.length = 2 from hsz)
  obtain ⟨y0, y1, rfl⟩ := twoS (show ys.length = 2 from hyl)
  have h0 : DataW.trod enc Tryz.prog w base spare held m 5 (([v0, v1].drop 0).take (Tryz.prog.cellsOf 5)) = some y0 := hel 0 _ rfl
  rw [cells_byteS] at h0
  have h1 : DataW.trod enc Tryz.prog w base spare held m 22 (([v0, v1].drop 1).take (Tryz.prog.cellsOf 22)) = some y1 := hel 1 _ rfl
  rw [cells_wordS] at h1
  obtain ⟨n0, e0, -, w0⟩ := DataW.trod_int Tryz.underlying5 h0
  obtain ⟨n1, e1, -, w1⟩ := DataW.trod_int Tryz.underlying22 h1
  cases e0; cases e1
  obtain ⟨x, rfl, hx⟩ := byte_nat w0
  obtain ⟨y, rfl, hy⟩ := word_nat w1
  exact ⟨x, y, rfl, hx, hy⟩
end Go.Proofs.YteglnekkkhpikaaGreat
