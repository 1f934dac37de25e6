/- The package variable 'small' as it is laid; no goroutine; the row of WholeRoots, lifted. -/
import Derived.Test.YtopoefcklipaeaaGreatDoorRows
import Derived.Test.YtopoefcklipaeaaGreatDoorRtL
import Derived.Test.YtopoefcklipaeaaGreatDoorGWg
import Derived.Test.YtopoefcklipaeaaGreatDoorAwE
import Derived.WalkKit
import Derived.ProofKit
import Derived.LaidMore
import Derived.OpenShut
import Derived.ChangeOld
import Derived.Below
import Derived.Stop.Joined
import Derived.SevenTiedAt
namespace Go.Proofs.YtopoefcklipaeaaGreatDoor.wholeRootsDone
open Go Go.ChangeShapes Go.WideShapes Go.ChangeAt Go.WideMaps Go.WideElems Go.RowKit Go.Proofs.YtopoefcklipaeaaGreatDoor
abbrev laidL : List (String × DataW Unit) := [("unicode/utf8.acceptRanges", Rows.laid_unicode_utf8_acceptRanges), ("tegula/tegulatop.small", Rows.laid_tegula_tegulatop_small), ("unicode/utf8.first", Rows.laid_unicode_utf8_first)]
theorem gSmall : Tryz.prog.globalNamed "tegula/tegulatop.small" = some 0 := by kernel_rfl
theorem gSmallType : (Tryz.prog.globals[0]?).map (·.type) = some 110 := by kernel_rfl
theorem fiveG {α : Type} {l : List α} (h : l.length = 5) : ∃ a b c d e, l = [a, b, c, d, e] := by
 match l, h with
 | [a, b, c, d, e], _ => exact ⟨a, b, c, d, e, rfl⟩
theorem cells_geo : Tryz.prog.cellsOf 110 = 5 := by kernel_rfl
theorem cells_int : Tryz.prog.cellsOf 3 = 1 := by kernel_rfl
set_option maxRecDepth 100000 in
theorem geo_of_laid {W : World} (h : laidMetH Tryz.prog laidL W) : ∃ t, W.heap[0]? = some (.cells Go.Proofs.Aw.geoVals t (0, 0)) := by
 rw [MakeChecks.laidMetH_plain _ _ _ (by kernel_rfl)] at h
 obtain ⟨ps, ⟨g9, t9, cs9, f9, p9, q9, -, -, -, -, hr, hps9⟩, -, hcell⟩ := h
 obtain ⟨g0, t0, cs0, f0, p0, q0, hg0, ht0, hv0, hd0, -, hps0⟩ := hr
 obtain rfl := Option.some.inj (gSmall.symm.trans hg0)
 obtain rfl := Option.some.inj (gSmallType.symm.trans ht0)
 obtain ⟨ys, m, -, hx, hlen, hyl, hf⟩ := DataW.trod_struct Tryz.underlying110 hd0
 rw [cells_geo] at hlen
 obtain ⟨cl⟩ := cs0
 obtain ⟨v0, v1, v2, v3, v4, rfl⟩ := fiveG (show cl.length = 5 from hlen)
 obtain ⟨y0, y1, y2, y3, y4, rfl⟩ := fiveG (show ys.length = 5 from hyl)
 have h0 : DataW.trod _ Tryz.prog W 0 _ false m 3 (([v0, v1, v2, v3, v4].drop 0).take (Tryz.prog.cellsOf 3)) = some y0 := hf 0 _ rfl
 have h1 : DataW.trod _ Tryz.prog W 0 _ false m 3 (([v0, v1, v2, v3, v4].drop 1).take (Tryz.prog.cellsOf 3)) = some y1 := hf 1 _ rfl
 have h2 : DataW.trod _ Tryz.prog W 0 _ false m 3 (([v0, v1, v2, v3, v4].drop 2).take (Tryz.prog.cellsOf 3)) = some y2 := hf 2 _ rfl
 have h3 : DataW.trod _ Tryz.prog W 0 _ false m 3 (([v0, v1, v2, v3, v4].drop 3).take (Tryz.prog.cellsOf 3)) = some y3 := hf 3 _ rfl
 have h4 : DataW.trod _ Tryz.prog W 0 _ false m 3 (([v0, v1, v2, v3, v4].drop 4).take (Tryz.prog.cellsOf 3)) = some y4 := hf 4 _ rfl
 rw [cells_int] at h0 h1 h2 h3 h4
 obtain ⟨n0, e0, k0, -⟩ := DataW.trod_int Tryz.underlying3 h0
 obtain ⟨n1, e1, k1, -⟩ := DataW.trod_int Tryz.underlying3 h1
 obtain ⟨n2, e2, k2, -⟩ := DataW.trod_int Tryz.underlying3 h2
 obtain ⟨n3, e3, k3, -⟩ := DataW.trod_int Tryz.underlying3 h3
 obtain ⟨n4, e4, k4, -⟩ := DataW.trod_int Tryz.underlying3 h4
 cases e0; cases e1; cases e2; cases e3; cases e4
 subst k0; subst k1; subst k2; subst k3; subst k4
 simp only [Prod.mk.injEq] at hx
 have hx1 := hx.1
 unfold Rows.laid_tegula_tegulatop_small at hx1
 simp at hx1
 obtain ⟨rfl, rfl, rfl, rfl, rfl⟩ := hx1
 have hmem : MemPlace.cell 0 0 ∈ ps := by
  rw [hps9, hps0]
  simp [MemPlace.row]
 obtain ⟨⟨c, t, hh⟩, -⟩ := hcell 0 0 hmem
 simp only [World.var?, hg0, Option.bind_some, hh, Option.some.injEq] at hv0
 exact ⟨t, by rw [hh, hv0]; rfl⟩
theorem no_goes : Tryz.prog.funcs.any Func.goes = false := by kernel_rfl
theorem goes_none {P : Program} (h : P.funcs.any Func.goes = false) {c : OpenClaim} (hc : c.start = .entering) : false = c.goesBy P := by
 have hf : ∀ f, P.goes f = false := fun f => by
  have h1 : ∀ g : Nat, (P.funcs[g]?).any Func.goes = false := fun g => by
   cases hg : P.funcs[g]? with
   | none => rfl
   | some fn =>
    obtain ⟨hlt, he⟩ := Array.getElem?_eq_some_iff.1 hg
    have := Array.any_eq_false.1 h g hlt
    rw [he] at this
    simpa using this
  unfold Program.goes
  rw [h, Bool.and_false, Bool.or_false]
  simp [h1]
 unfold OpenClaim.goesBy Program.goesAt Program.goesFrom
 rw [hc]
 cases P.funcNamed c.func with
 | none => rfl
 | some f => simp [hf]
theorem own : ownKnob Tryz.prog.godebug = none := by kernel_rfl
theorem laidOut : laidOutB Tryz.prog = true := by kernel_rfl
end Go.Proofs.YtopoefcklipaeaaGreatDoor.wholeRootsDone
