/- What the walks of the laws of layer 22 share. -/
import Derived.Test.YtkjjojmidhjjdaaGreatAwkS
import Derived.Test.YtkjjojmidhjjdaaGreatSmC
import Derived.Test.YtkjjojmidhjjdaaGreatSmA
import Derived.Test.YtkjjojmidhjjdaaGreatOpnS
import Derived.BigQuiet
namespace Go.Proofs.YtkjjojmidhjjdaaGreat
open Go.RowKit

theorem wf_small {x : Int} (h0 : 0 ≤ x) (h1 : x < 1000000) : (Lit.int .i64 x).wf = true := by
  rw [Lit.wf_int_iff, IntKind.min_i64, IntKind.max_i64]
  omega
theorem PlWf.ok {L : LayD} (ok : LayOk L) {t : Plc} (h : toOk L t = true) : PlWf t := by
  unfold toOk at h
  simp only [Bool.and_eq_true, decide_eq_true_eq] at h
  have h1 := ok.disks
  have h2 := ok.blocks
  exact ⟨wf_small (by omega) (by omega), wf_small (by omega) (by omega)⟩
theorem wf_moves {L : LayD} {ms : List Mv} (ok : LayOk L) (h : MvOk L ms) : ∀ m ∈ ms, PlWf m.to := fun m hm => PlWf.ok ok (h.to m hm)
/-- a law's world with its layout -/
structure LwI (w : World) (X : Nat) (L : LayD) (A : Option Addr) (c : Nat) (wr : World) : Prop where
  bel : Below w.heap.size w wr
  lay : LayB wr X L A c
  gs : GsV wr wr.heap.size A L.gs
/-- .. and with its moves -/
structure LwJ (w : World) (X : Nat) (L : LayD) (A : Option Addr) (c : Nat) (Am : Option Addr) (ms : List Mv) (wr : World) : Prop extends LwI w X L A c wr where
  mv : MvS wr wr.heap.size Am ms
section
variable {w wr w' : World} {X c : Nat} {L : LayD} {A Am : Option Addr} {ms : List Mv}
theorem LwI.below (h : LwI w X L A c wr) (hb : Below wr.heap.size wr w') : LwI w X L A c w' :=
  ⟨h.bel.trans (hb.mono h.bel.size), h.lay.below hb h.lay.lt, (h.gs.below hb (Nat.le_refl _)).more hb.size⟩
theorem LwJ.below (h : LwJ w X L A c Am ms wr) (hb : Below wr.heap.size wr w') : LwJ w X L A c Am ms w' :=
  ⟨h.toLwI.below hb, (RdS.below' h.mv hb (Nat.le_refl _)).more hb.size⟩
theorem LwI.size (h : LwI w X L A c wr) : w.heap.size ≤ wr.heap.size := h.bel.size
/-- what came in reads as it did -/
theorem LwI.rd (h : LwI w X L A c wr) {size : Nat} {Ar : Option Addr} {rows : List (List Value)} (hR : RdS w w.heap.size size Ar rows) : RdS wr wr.heap.size size Ar rows := (RdS.below' hR h.bel (Nat.le_refl _)).more h.size
end
/-- Small answers, and its layout is laid in a box -/
theorem small_laid {n : Nat} {w w1 w2 : World} {r : Ending} (hb : Below w.heap.size w w1) (h : SmlP n w1 r w2) : ∃ A c, r = .returned (layAgg (smallL n) A c) ∧ Below w.heap.size w w2 ∧ LwI w w2.heap.size (smallL n) A c (w2.alloc (.cells #[.int .i64 ((smallL n).disks : Int), .slice A (smallL n).n c, .int .i64 ((smallL n).tiles : Int), .int .i64 ((smallL n).spare : Int)] 29)) := by
  obtain ⟨A, c, h1, h2, h3⟩ := h
  have hb2 := hb.trans (h3.mono hb.size)
  exact ⟨A, c, h1, hb2, ⟨hb2.trans (below_laid.mono hb2.size), LayB.made w2 _ A c, (h2.below below_laid (Nat.le_refl _)).more (by simp)⟩⟩
/-- Moves of a law -/
theorem moves_call {L : LayD} {w wr : World} {X c cr : Nat} {A Ar : Option Addr} {raw : List Nat} (hx : LayX L) (h : LwI w X L A c wr) (hR : BytR w w.heap.size Ar raw) (h256 : ∀ x ∈ raw, x < 256) (hlen : raw.length ≤ 20) :
    Calls Tryz.prog 7 #[layAgg L A c, .slice Ar raw.length cr] wr fun r w' => ∃ Am cm, r = .returned (.slice Am (movesL L raw).length cm) ∧ LwJ w X L A c Am (movesL L raw) w' := by
  refine (r22moves (L := L) (A := A) (Ar := Ar) (B := wr.heap.size) (c := c) (cr := cr) wr hx h.gs (h.rd hR) h256 (Nat.le_refl _) (by omega)).mono ?_
  rintro r w' ⟨⟨v, rfl, hown⟩, hb⟩
  obtain ⟨A8, c8, rfl, -, -⟩ := hown.form
  rw [List.length_map] at hown ⊢
  exact ⟨A8, c8, rfl, h.below hb, hown.reads⟩
theorem apply_len (L : LayD) (ms : List Mv) (m : Mv) : (applyL L ms m).1.length ≤ ms.length + 1 := by
  have h := withM_len ms m
  unfold applyL
  split
  · exact Nat.zero_le _
  · split
    · exact Nat.zero_le _
    · split
      · exact h
      · exact Nat.zero_le _
theorem small_d13 (n : Nat) : (smallL n).disks ≤ 13 := by
  obtain ⟨w, r, lam, h1, h2, h3, h4, -, -, h5, h6, h7⟩ := small_des n
  exact h7
end Go.Proofs.YtkjjojmidhjjdaaGreat
