/- Walk of tegularef47's Storage: it lays the history of the driven storage. The loop's body is cut into declarations. -/
import Derived.Test.YtldjodgpbnkleaaStoV
namespace Go.Proofs.Ytldjodgpbnkleaa
open Go.RowKit

theorem OwS.fresh {w : World} {base size : Nat} {e : TypeId} {v : Value} {rows : List (List Value)} (h : OwS w base e size v rows) {k : Nat} (hk : w.heap.size ≤ k) : v.ownBlock ≠ some k := by
  intro hv
  have := (h.lt hv).2
  omega
theorem ev_after {wr w3 : World} {o1 o3 : Obj} {e : Ev} {row : Option Nat} (hg : (((wr.alloc o1).alloc (.cells e.cells.toArray 39)).alloc o3).grownBy w3 row) (hrow : row ≠ some (wr.heap.size + 1)) :
    w3.cell? ⟨wr.heap.size + 1, 0, none⟩ = some (.int .i64 e.kind) ∧ w3.cell? ⟨wr.heap.size + 1, 1, none⟩ = some (.int .i64 e.op) ∧ w3.cell? ⟨wr.heap.size + 1, 2, none⟩ = some (.bool e.write) ∧
    w3.cell? ⟨wr.heap.size + 1, 3, none⟩ = some (.int .i64 e.reg) ∧ w3.cell? ⟨wr.heap.size + 1, 4, none⟩ = some (.int .i64 e.val) ∧ w3.cell? ⟨wr.heap.size + 1, 5, none⟩ = some (.bool e.barrier) := by
  have h1 : w3.heap[wr.heap.size + 1]? = some (.cells e.cells.toArray 39) := by
    rw [hg.block (wr.heap.size + 1) (by simp) (fun h => hrow h.symm)]
    have := heap_alloc_new (wr.alloc o1) (.cells e.cells.toArray 39)
    simp only [World.alloc] at *
    rw [Array.getElem?_push_lt (by simp)]
    simpa using this
  refine ⟨?_, ?_, ?_, ?_, ?_, ?_⟩ <;> (rw [cell_of_row _ _ _ _ _ _ h1]; rfl)
theorem OwS.apart {w : World} {base size base' size' g n c : Nat} {e e' : TypeId} {v : Value} {rows rows' : List (List Value)} (h : OwS w base e size v rows) (h' : OwS w base' e' size' (.slice (some ⟨g, 0, none⟩) n c) rows') (hne : e ≠ e') : v.ownBlock ≠ some g := by
  rcases h.ne h' hne with h1 | h1
  · rw [h1]; exact fun e => by cases e
  · exact h1
theorem OwS.reads' {w : World} {base size n c : Nat} {e : TypeId} {A : Option Addr} {rows : List (List Value)} (h : OwS w base e size (.slice A n c) rows) : RdS w w.heap.size size A rows := by
  have hn : n = rows.length := by
    obtain ⟨A', c', h1, -⟩ := h.form
    injection h1
  subst hn
  exact h.reads
theorem OwS.stored2 {w : World} {base g n c : Nat} {e : TypeId} {rows : List (List Value)} (h : OwS w base e 10 (.slice (some ⟨g, 0, none⟩) n c) rows) {q : Nat} {r : List Value} (hr : rows[q]? = some r) (x y : Value) :
    OwS ((w.setCell ⟨g, q * 10 + 6, none⟩ x).setCell ⟨g, q * 10 + 9, none⟩ y) base e 10 (.slice (some ⟨g, 0, none⟩) n c) (rows.set q ((r.set 6 x).set 9 y)) := by
  have h1 := (h.set (k := q) (j := 6) hr (by omega) x).1
  have hq : q < rows.length := (List.getElem?_eq_some_iff.1 hr).1
  have h2 := (h1.set (k := q) (j := 9) (r := r.set 6 x) (List.getElem?_set_self hq) (by omega) y).1
  rwa [List.set_set] at h2
theorem ev_after' {wr w3 : World} {o1 o3 : Obj} {e : Ev} {row : Option Nat} {z : Nat} (hg : (((wr.alloc o1).alloc (.cells e.cells.toArray 39)).alloc o3).grownBy w3 row) (hz : wr.heap.size = z) (hrow : row ≠ some (z + 1)) :
    w3.cell? ⟨z + 1, 0, none⟩ = some (.int .i64 e.kind) ∧ w3.cell? ⟨z + 1, 1, none⟩ = some (.int .i64 e.op) ∧ w3.cell? ⟨z + 1, 2, none⟩ = some (.bool e.write) ∧
    w3.cell? ⟨z + 1, 3, none⟩ = some (.int .i64 e.reg) ∧ w3.cell? ⟨z + 1, 4, none⟩ = some (.int .i64 e.val) ∧ w3.cell? ⟨z + 1, 5, none⟩ = some (.bool e.barrier) := by
  subst hz
  exact ev_after hg hrow
theorem rem_u8 (x m : Nat) : ((x : Int) % (m : Int)) = ((x % m : Nat) : Int) := by simp


def firstLoop : Code → Option Code
  | .loop c => some c
  | .seq a b => match firstLoop a with
    | some c => some c
    | none => firstLoop b
  | .block _ c => firstLoop c
  | .scope c => firstLoop c
  | .cond _ a b => match firstLoop a with
    | some c => some c
    | none => firstLoop b
  | _ => none
noncomputable def stoBody : Code := (Try.f23.body.bind firstLoop).getD .skip
/-- what holds at the head of the loop -/
def StoRel (acts : List ActN) (w : World) (s3 s4 s5 : Value) (k : Nat) (wr : World) : Prop :=
  OwS wr w.heap.size 39 6 s3 ((stoTo acts k).l.map Ev.cells) ∧ OwS wr w.heap.size 94 10 s4 ((stoTo acts k).ops.map SOp.cells) ∧ OwS wr w.heap.size 96 2 s5 ((stoTo acts k).ch.map chCells) ∧ Below w.heap.size w wr
set_option maxRecDepth 1000000 in
def StoI (acts : List ActN) (w : World) (A : Option Addr) (len c : Nat) (a : Act) (wr : World) : Prop :=
  ∃ (u : Nat → Value) (k : Nat), k ≤ len ∧ StoRel acts w (u 3) (u 4) (u 5) k wr ∧ u 6 = .int .i64 (stoTo acts k).safe ∧ u 7 = .int .i64 (stoTo acts k).n ∧ u 8 = .int .i64 k ∧ a = ⟨#[(.slice A len c), undef, .slice none 0 0, (u 3), (u 4), (u 5), (u 6), (u 7), (u 8), u 9, u 10, u 11, u 12, u 13, u 14, u 15, u 16, u 17, u 18, u 19, u 20, u 21, u 22, u 23, u 24, u 25, u 26, u 27, u 28, u 29, u 30, u 31, u 32, u 33, u 34, u 35, u 36, u 37, u 38, u 39, u 40, u 41, u 42, u 43, u 44, u 45, u 46, u 47, u 48, u 49, u 50, u 51, u 52, u 53, u 54, u 55, u 56, u 57, u 58, u 59, u 60, u 61, u 62, u 63, u 64, u 65, u 66, u 67, u 68, u 69, u 70, u 71, u 72, u 73, u 74, u 75, u 76, u 77, u 78, u 79, u 80, u 81, u 82, u 83, u 84, u 85, u 86, u 87, u 88, u 89, u 90, u 91, u 92, u 93, u 94, u 95, u 96, u 97, u 98, u 99, u 100, u 101, u 102, u 103, u 104, u 105, u 106, u 107, u 108, u 109, u 110, u 111, u 112, u 113, u 114, u 115, u 116, u 117, u 118, u 119, u 120, u 121, u 122, u 123, u 124, u 125, u 126, u 127, u 128, u 129, u 130, u 131, u 132, u 133, u 134, u 135, u 136, u 137, u 138, u 139, u 140, u 141, u 142, u 143, u 144, u 145, u 146, u 147, u 148, u 149, u 150, u 151, u 152, u 153, u 154, u 155, u 156, u 157, u 158, u 159, u 160, u 161, u 162, u 163, u 164, u 165, u 166, u 167, u 168, u 169, u 170, u 171, u 172, u 173, u 174, u 175, u 176, u 177, u 178, u 179, u 180, u 181, u 182, u 183, u 184, u 185, u 186, u 187, u 188, u 189, u 190, u 191, u 192, u 193, u 194, u 195, u 196, u 197, u 198, u 199, u 200, u 201, u 202, u 203, u 204, u 205, u 206, u 207, u 208, u 209, u 210, u 211, undef], []⟩
set_option maxRecDepth 1000000 in
theorem sto_mk {acts : List ActN} {w wr : World} {A : Option Addr} {len c : Nat} {a : Act} (k : Nat) (hk : k ≤ len) (hrel : StoRel acts w (a.tmps.getD 3 undef) (a.tmps.getD 4 undef) (a.tmps.getD 5 undef) k wr) (h6 : a.tmps.getD 6 undef = .int .i64 (stoTo acts k).safe) (h7 : a.tmps.getD 7 undef = .int .i64 (stoTo acts k).n) (h8 : a.tmps.getD 8 undef = .int .i64 k)
    (hfr : a = ⟨#[(.slice A len c), undef, .slice none 0 0, a.tmps.getD 3 undef, a.tmps.getD 4 undef, a.tmps.getD 5 undef, a.tmps.getD 6 undef, a.tmps.getD 7 undef, a.tmps.getD 8 undef, a.tmps.getD 9 undef, a.tmps.getD 10 undef, a.tmps.getD 11 undef, a.tmps.getD 12 undef, a.tmps.getD 13 undef, a.tmps.getD 14 undef, a.tmps.getD 15 undef, a.tmps.getD 16 undef, a.tmps.getD 17 undef, a.tmps.getD 18 undef, a.tmps.getD 19 undef, a.tmps.getD 20 undef, a.tmps.getD 21 undef, a.tmps.getD 22 undef, a.tmps.getD 23 undef, a.tmps.getD 24 undef, a.tmps.getD 25 undef, a.tmps.getD 26 undef, a.tmps.getD 27 undef, a.tmps.getD 28 undef, a.tmps.getD 29 undef, a.tmps.getD 30 undef, a.tmps.getD 31 undef, a.tmps.getD 32 undef, a.tmps.getD 33 undef, a.tmps.getD 34 undef, a.tmps.getD 35 undef, a.tmps.getD 36 undef, a.tmps.getD 37 undef, a.tmps.getD 38 undef, a.tmps.getD 39 undef, a.tmps.getD 40 undef, a.tmps.getD 41 undef, a.tmps.getD 42 undef, a.tmps.getD 43 undef, a.tmps.getD 44 undef, a.tmps.getD 45 undef, a.tmps.getD 46 undef, a.tmps.getD 47 undef, a.tmps.getD 48 undef, a.tmps.getD 49 undef, a.tmps.getD 50 undef, a.tmps.getD 51 undef, a.tmps.getD 52 undef, a.tmps.getD 53 undef, a.tmps.getD 54 undef, a.tmps.getD 55 undef, a.tmps.getD 56 undef, a.tmps.getD 57 undef, a.tmps.getD 58 undef, a.tmps.getD 59 undef, a.tmps.getD 60 undef, a.tmps.getD 61 undef, a.tmps.getD 62 undef, a.tmps.getD 63 undef, a.tmps.getD 64 undef, a.tmps.getD 65 undef, a.tmps.getD 66 undef, a.tmps.getD 67 undef, a.tmps.getD 68 undef, a.tmps.getD 69 undef, a.tmps.getD 70 undef, a.tmps.getD 71 undef, a.tmps.getD 72 undef, a.tmps.getD 73 undef, a.tmps.getD 74 undef, a.tmps.getD 75 undef, a.tmps.getD 76 undef, a.tmps.getD 77 undef, a.tmps.getD 78 undef, a.tmps.getD 79 undef, a.tmps.getD 80 undef, a.tmps.getD 81 undef, a.tmps.getD 82 undef, a.tmps.getD 83 undef, a.tmps.getD 84 undef, a.tmps.getD 85 undef, a.tmps.getD 86 undef, a.tmps.getD 87 undef, a.tmps.getD 88 undef, a.tmps.getD 89 undef, a.tmps.getD 90 undef, a.tmps.getD 91 undef, a.tmps.getD 92 undef, a.tmps.getD 93 undef, a.tmps.getD 94 undef, a.tmps.getD 95 undef, a.tmps.getD 96 undef, a.tmps.getD 97 undef, a.tmps.getD 98 undef, a.tmps.getD 99 undef, a.tmps.getD 100 undef, a.tmps.getD 101 undef, a.tmps.getD 102 undef, a.tmps.getD 103 undef, a.tmps.getD 104 undef, a.tmps.getD 105 undef, a.tmps.getD 106 undef, a.tmps.getD 107 undef, a.tmps.getD 108 undef, a.tmps.getD 109 undef, a.tmps.getD 110 undef, a.tmps.getD 111 undef, a.tmps.getD 112 undef, a.tmps.getD 113 undef, a.tmps.getD 114 undef, a.tmps.getD 115 undef, a.tmps.getD 116 undef, a.tmps.getD 117 undef, a.tmps.getD 118 undef, a.tmps.getD 119 undef, a.tmps.getD 120 undef, a.tmps.getD 121 undef, a.tmps.getD 122 undef, a.tmps.getD 123 undef, a.tmps.getD 124 undef, a.tmps.getD 125 undef, a.tmps.getD 126 undef, a.tmps.getD 127 undef, a.tmps.getD 128 undef, a.tmps.getD 129 undef, a.tmps.getD 130 undef, a.tmps.getD 131 undef, a.tmps.getD 132 undef, a.tmps.getD 133 undef, a.tmps.getD 134 undef, a.tmps.getD 135 undef, a.tmps.getD 136 undef, a.tmps.getD 137 undef, a.tmps.getD 138 undef, a.tmps.getD 139 undef, a.tmps.getD 140 undef, a.tmps.getD 141 undef, a.tmps.getD 142 undef, a.tmps.getD 143 undef, a.tmps.getD 144 undef, a.tmps.getD 145 undef, a.tmps.getD 146 undef, a.tmps.getD 147 undef, a.tmps.getD 148 undef, a.tmps.getD 149 undef, a.tmps.getD 150 undef, a.tmps.getD 151 undef, a.tmps.getD 152 undef, a.tmps.getD 153 undef, a.tmps.getD 154 undef, a.tmps.getD 155 undef, a.tmps.getD 156 undef, a.tmps.getD 157 undef, a.tmps.getD 158 undef, a.tmps.getD 159 undef, a.tmps.getD 160 undef, a.tmps.getD 161 undef, a.tmps.getD 162 undef, a.tmps.getD 163 undef, a.tmps.getD 164 undef, a.tmps.getD 165 undef, a.tmps.getD 166 undef, a.tmps.getD 167 undef, a.tmps.getD 168 undef, a.tmps.getD 169 undef, a.tmps.getD 170 undef, a.tmps.getD 171 undef, a.tmps.getD 172 undef, a.tmps.getD 173 undef, a.tmps.getD 174 undef, a.tmps.getD 175 undef, a.tmps.getD 176 undef, a.tmps.getD 177 undef, a.tmps.getD 178 undef, a.tmps.getD 179 undef, a.tmps.getD 180 undef, a.tmps.getD 181 undef, a.tmps.getD 182 undef, a.tmps.getD 183 undef, a.tmps.getD 184 undef, a.tmps.getD 185 undef, a.tmps.getD 186 undef, a.tmps.getD 187 undef, a.tmps.getD 188 undef, a.tmps.getD 189 undef, a.tmps.getD 190 undef, a.tmps.getD 191 undef, a.tmps.getD 192 undef, a.tmps.getD 193 undef, a.tmps.getD 194 undef, a.tmps.getD 195 undef, a.tmps.getD 196 undef, a.tmps.getD 197 undef, a.tmps.getD 198 undef, a.tmps.getD 199 undef, a.tmps.getD 200 undef, a.tmps.getD 201 undef, a.tmps.getD 202 undef, a.tmps.getD 203 undef, a.tmps.getD 204 undef, a.tmps.getD 205 undef, a.tmps.getD 206 undef, a.tmps.getD 207 undef, a.tmps.getD 208 undef, a.tmps.getD 209 undef, a.tmps.getD 210 undef, a.tmps.getD 211 undef, undef], []⟩) : StoI acts w A len c a wr := ⟨fun i => a.tmps.getD i undef, k, hk, hrel, h6, h7, h8, hfr⟩
def StoM (len : Nat) (a : Act) (_ : World) : Nat := len - (intOf (a.tmps.getD 8 undef)).toNat
set_option maxHeartbeats 4000000 in
set_option maxRecDepth 1000000 in
theorem sto_call0z (acts : List ActN) (len : Nat) (hlen : len = acts.length) (w wr : World) (u : Nat → Value) (u3 : Value) (A : Option Addr) (c k : Nat) (hk : k < len) (hl : len ≤ 1000) (b off : Nat) (hA : A = some ⟨b, off, none⟩)
    (l : List Ev) (ops : List SOp) (ch : List (Int × Int)) (safe n kind reg which m : Nat) (Ao : Option Addr) (co : Nat) (Ac : Option Addr) (cc : Nat)
    (hn1 : l.length ≤ k) (hn2 : ops.length ≤ k) (hn3 : ch.length ≤ k) (hn4 : n ≤ k) (hsf : safe ≤ ch.length) (hcc1 : ch.length ≤ cc) (hb1 : kind < 256) (hb2 : reg < 256) (hb3 : which < 256)
    (a0 : wr.cell? ⟨b, off + k * 3, none⟩ = some (.int .u8 kind)) (a1 : wr.cell? ⟨b, off + k * 3 + 1, none⟩ = some (.int .u8 reg)) (a2 : wr.cell? ⟨b, off + k * 3 + 2, none⟩ = some (.int .u8 which))
    (hol : OwS wr w.heap.size 39 6 u3 (l.map Ev.cells)) (hoo : OwS wr w.heap.size 94 10 (.slice Ao m co) (ops.map SOp.cells)) (hoc : OwS wr w.heap.size 96 2 (.slice Ac ch.length cc) (ch.map chCells)) (hb : Below w.heap.size w wr) (hz : w.heap.size ≤ wr.heap.size)
    (HM : Hid (m = ops.length)) (HS : Hid (stoTo acts (k + 1) = stoStep ⟨l, ops, ch, safe, n⟩ ⟨kind, reg, which⟩)) (Q0 : Exit → Act → World → Prop) (hkk : 0 = kind % 8) (hm : m = 0) :
    Code.wp Try.prog stoBody (Exit.then (fun a' w' => StoI acts w A len c a' w' ∧ StoM len a' w' < StoM len ⟨#[(.slice A len c), undef, .slice none 0 0, u3, (.slice Ao m co), (.slice Ac ch.length cc), .int .i64 safe, .int .i64 n, .int .i64 k, u 9, u 10, u 11, u 12, u 13, u 14, u 15, u 16, u 17, u 18, u 19, u 20, u 21, u 22, u 23, u 24, u 25, u 26, u 27, u 28, u 29, u 30, u 31, u 32, u 33, u 34, u 35, u 36, u 37, u 38, u 39, u 40, u 41, u 42, u 43, u 44, u 45, u 46, u 47, u 48, u 49, u 50, u 51, u 52, u 53, u 54, u 55, u 56, u 57, u 58, u 59, u 60, u 61, u 62, u 63, u 64, u 65, u 66, u 67, u 68, u 69, u 70, u 71, u 72, u 73, u 74, u 75, u 76, u 77, u 78, u 79, u 80, u 81, u 82, u 83, u 84, u 85, u 86, u 87, u 88, u 89, u 90, u 91, u 92, u 93, u 94, u 95, u 96, u 97, u 98, u 99, u 100, u 101, u 102, u 103, u 104, u 105, u 106, u 107, u 108, u 109, u 110, u 111, u 112, u 113, u 114, u 115, u 116, u 117, u 118, u 119, u 120, u 121, u 122, u 123, u 124, u 125, u 126, u 127, u 128, u 129, u 130, u 131, u 132, u 133, u 134, u 135, u 136, u 137, u 138, u 139, u 140, u 141, u 142, u 143, u 144, u 145, u 146, u 147, u 148, u 149, u 150, u 151, u 152, u 153, u 154, u 155, u 156, u 157, u 158, u 159, u 160, u 161, u 162, u 163, u 164, u 165, u 166, u 167, u 168, u 169, u 170, u 171, u 172, u 173, u 174, u 175, u 176, u 177, u 178, u 179, u 180, u 181, u 182, u 183, u 184, u 185, u 186, u 187, u 188, u 189, u 190, u 191, u 192, u 193, u 194, u 195, u 196, u 197, u 198, u 199, u 200, u 201, u 202, u 203, u 204, u 205, u 206, u 207, u 208, u 209, u 210, u 211, undef], []⟩ wr) Q0) ⟨#[(.slice A len c), undef, .slice none 0 0, u3, (.slice Ao m co), (.slice Ac ch.length cc), .int .i64 safe, .int .i64 n, .int .i64 k, u 9, u 10, u 11, u 12, u 13, u 14, u 15, u 16, u 17, u 18, u 19, u 20, u 21, u 22, u 23, u 24, u 25, u 26, u 27, u 28, u 29, u 30, u 31, u 32, u 33, u 34, u 35, u 36, u 37, u 38, u 39, u 40, u 41, u 42, u 43, u 44, u 45, u 46, u 47, u 48, u 49, u 50, u 51, u 52, u 53, u 54, u 55, u 56, u 57, u 58, u 59, u 60, u 61, u 62, u 63, u 64, u 65, u 66, u 67, u 68, u 69, u 70, u 71, u 72, u 73, u 74, u 75, u 76, u 77, u 78, u 79, u 80, u 81, u 82, u 83, u 84, u 85, u 86, u 87, u 88, u 89, u 90, u 91, u 92, u 93, u 94, u 95, u 96, u 97, u 98, u 99, u 100, u 101, u 102, u 103, u 104, u 105, u 106, u 107, u 108, u 109, u 110, u 111, u 112, u 113, u 114, u 115, u 116, u 117, u 118, u 119, u 120, u 121, u 122, u 123, u 124, u 125, u 126, u 127, u 128, u 129, u 130, u 131, u 132, u 133, u 134, u 135, u 136, u 137, u 138, u 139, u 140, u 141, u 142, u 143, u 144, u 145, u 146, u 147, u 148, u 149, u 150, u 151, u 152, u 153, u 154, u 155, u 156, u 157, u 158, u 159, u 160, u 161, u 162, u 163, u 164, u 165, u 166, u 167, u 168, u 169, u 170, u 171, u 172, u 173, u 174, u 175, u 176, u 177, u 178, u 179, u 180, u 181, u 182, u 183, u 184, u 185, u 186, u 187, u 188, u 189, u 190, u 191, u 192, u 193, u 194, u 195, u 196, u 197, u 198, u 199, u 200, u 201, u 202, u 203, u 204, u 205, u 206, u 207, u 208, u 209, u 210, u 211, undef], []⟩ wr := by
  subst hA
  have HLEN := Lib.hid hlen
  clear hlen
  have hkl : (k : Int) < (len : Int) := by omega
  obtain ⟨r4, hr4⟩ : ∃ r4, r4 = reg % 4 := ⟨_, rfl⟩
  have hre : ((reg : Int) % 4) = (r4 : Int) := by omega
  have kr := fun W => conv_u8 (r4 : Int) (by omega) (by omega) W
  have kw := fun W => conv_u8 (which : Int) (by omega) (by omega) W
  obtain ⟨q, hq⟩ : ∃ q, q = which % m := ⟨_, rfl⟩
  have hqe : ((which : Int) % (m : Int)) = (q : Int) := by rw [hq]; simp
  have HQ := Lib.hid hq
  have HK := Lib.hid hkk
  have HR := Lib.hid hr4
  clear hq hkk hr4
  subst hm
  have hk8 : (kind : Int) % 8 = ((0 : Nat) : Int) := by have := HK.out; omega
  conv => arg 2; whnf
  have HN : Hid (stoTo acts (k + 1) = stCall ⟨l, ops, ch, safe, n⟩ ⟨1, n, false, r4, 0, false⟩) := by
    unfold Hid
    rw [HS.out]
    simp only [stoStep, ← HK.out, ← HR.out]
    rfl
  clear HS HK HR HQ
  go_wp2_with (at_builtin; refine wpList_ap1 rfl (.tmp 96) (.tmp 98) _ rfl elemEv rfl ((hol.alloc _).alloc _) (Ev.cells ⟨1, n, false, r4, 0, false⟩) _ rfl _ rfl (by simp) (Ev.one _) (by simp [maxLen]; omega) (by simp; omega) (by simp; omega) ?_)
  intro v3 w3 hol3 hg3 _
  have hb3 : Below w.heap.size w w3 := (((hb.alloc hz _).alloc (by simp; omega) _).alloc (by simp; omega) _).grown hg3 (by simp; omega) (fun g hg => (hol.lt hg).1)
  have hoo3 := (((hoo.alloc _).alloc _).alloc _).kept hg3 (hoo.ne hol (by decide))
  have hoc3 := (((hoc.alloc _).alloc _).alloc _).kept hg3 (hoc.ne hol (by decide))
  obtain ⟨e0, e1, e2, e3, e4, e5⟩ := ev_after (e := ⟨1, n, false, r4, 0, false⟩) hg3 (hol.fresh (by omega))
  have hz3 := hb3.size
  simp only at e0 e1 e2 e3 e4 e5
  clear hg3 hol hoo hoc hb a0 a1 a2
  go_wp2_with (at_builtin; refine wpList_ap1 rfl (.tmp 100) (.tmp 103) _ rfl elemOpn rfl hoo3 (SOp.cells ⟨⟨1, n, false, r4, 0, false⟩, false, false, 0, 0⟩) _ rfl _ rfl (by simp) (SOp.one _) (by simp [maxLen]; omega) (by simp; omega) hz3 ?_)
  intro v4 w4 hoo4 hg4 _
  have hb4 : Below w.heap.size w w4 := (hb3.alloc hz3 _).grown hg4 (by simp; omega) (fun g hg => (hoo3.lt hg).1)
  have hol4 := (hol3.alloc _).kept hg4 (hol3.ne hoo3 (by decide))
  have hoc4 := (hoc3.alloc _).kept hg4 (hoc3.ne hoo3 (by decide))
  clear hg4 hol3 hoo3 hoc3 hb3 e0 e1 e2 e3 e4 e5
  go_wp2
  refine ⟨sto_mk (k + 1) (by omega) ⟨by rw [HN.out]; simpa [stCall] using hol4, by rw [HN.out]; simpa [stCall] using hoo4, by rw [HN.out]; simpa [stCall] using hoc4, hb4⟩ (by rw [HN.out]; rfl) (by rw [HN.out]; go_num) (by go_num) rfl, by simp [StoM, intOf]; omega⟩
set_option maxHeartbeats 4000000 in
set_option maxRecDepth 1000000 in
theorem sto_call0p (acts : List ActN) (len : Nat) (hlen : len = acts.length) (w wr : World) (u : Nat → Value) (u3 : Value) (A : Option Addr) (c k : Nat) (hk : k < len) (hl : len ≤ 1000) (b off : Nat) (hA : A = some ⟨b, off, none⟩)
    (l : List Ev) (ops : List SOp) (ch : List (Int × Int)) (safe n kind reg which m : Nat) (Ao : Option Addr) (co : Nat) (Ac : Option Addr) (cc : Nat)
    (hn1 : l.length ≤ k) (hn2 : ops.length ≤ k) (hn3 : ch.length ≤ k) (hn4 : n ≤ k) (hsf : safe ≤ ch.length) (hcc1 : ch.length ≤ cc) (hb1 : kind < 256) (hb2 : reg < 256) (hb3 : which < 256)
    (a0 : wr.cell? ⟨b, off + k * 3, none⟩ = some (.int .u8 kind)) (a1 : wr.cell? ⟨b, off + k * 3 + 1, none⟩ = some (.int .u8 reg)) (a2 : wr.cell? ⟨b, off + k * 3 + 2, none⟩ = some (.int .u8 which))
    (hol : OwS wr w.heap.size 39 6 u3 (l.map Ev.cells)) (hoo : OwS wr w.heap.size 94 10 (.slice Ao m co) (ops.map SOp.cells)) (hoc : OwS wr w.heap.size 96 2 (.slice Ac ch.length cc) (ch.map chCells)) (hb : Below w.heap.size w wr) (hz : w.heap.size ≤ wr.heap.size)
    (HM : Hid (m = ops.length)) (HS : Hid (stoTo acts (k + 1) = stoStep ⟨l, ops, ch, safe, n⟩ ⟨kind, reg, which⟩)) (Q0 : Exit → Act → World → Prop) (hkk : 0 = kind % 8) (hm0 : 0 < m) :
    Code.wp Try.prog stoBody (Exit.then (fun a' w' => StoI acts w A len c a' w' ∧ StoM len a' w' < StoM len ⟨#[(.slice A len c), undef, .slice none 0 0, u3, (.slice Ao m co), (.slice Ac ch.length cc), .int .i64 safe, .int .i64 n, .int .i64 k, u 9, u 10, u 11, u 12, u 13, u 14, u 15, u 16, u 17, u 18, u 19, u 20, u 21, u 22, u 23, u 24, u 25, u 26, u 27, u 28, u 29, u 30, u 31, u 32, u 33, u 34, u 35, u 36, u 37, u 38, u 39, u 40, u 41, u 42, u 43, u 44, u 45, u 46, u 47, u 48, u 49, u 50, u 51, u 52, u 53, u 54, u 55, u 56, u 57, u 58, u 59, u 60, u 61, u 62, u 63, u 64, u 65, u 66, u 67, u 68, u 69, u 70, u 71, u 72, u 73, u 74, u 75, u 76, u 77, u 78, u 79, u 80, u 81, u 82, u 83, u 84, u 85, u 86, u 87, u 88, u 89, u 90, u 91, u 92, u 93, u 94, u 95, u 96, u 97, u 98, u 99, u 100, u 101, u 102, u 103, u 104, u 105, u 106, u 107, u 108, u 109, u 110, u 111, u 112, u 113, u 114, u 115, u 116, u 117, u 118, u 119, u 120, u 121, u 122, u 123, u 124, u 125, u 126, u 127, u 128, u 129, u 130, u 131, u 132, u 133, u 134, u 135, u 136, u 137, u 138, u 139, u 140, u 141, u 142, u 143, u 144, u 145, u 146, u 147, u 148, u 149, u 150, u 151, u 152, u 153, u 154, u 155, u 156, u 157, u 158, u 159, u 160, u 161, u 162, u 163, u 164, u 165, u 166, u 167, u 168, u 169, u 170, u 171, u 172, u 173, u 174, u 175, u 176, u 177, u 178, u 179, u 180, u 181, u 182, u 183, u 184, u 185, u 186, u 187, u 188, u 189, u 190, u 191, u 192, u 193, u 194, u 195, u 196, u 197, u 198, u 199, u 200, u 201, u 202, u 203, u 204, u 205, u 206, u 207, u 208, u 209, u 210, u 211, undef], []⟩ wr) Q0) ⟨#[(.slice A len c), undef, .slice none 0 0, u3, (.slice Ao m co), (.slice Ac ch.length cc), .int .i64 safe, .int .i64 n, .int .i64 k, u 9, u 10, u 11, u 12, u 13, u 14, u 15, u 16, u 17, u 18, u 19, u 20, u 21, u 22, u 23, u 24, u 25, u 26, u 27, u 28, u 29, u 30, u 31, u 32, u 33, u 34, u 35, u 36, u 37, u 38, u 39, u 40, u 41, u 42, u 43, u 44, u 45, u 46, u 47, u 48, u 49, u 50, u 51, u 52, u 53, u 54, u 55, u 56, u 57, u 58, u 59, u 60, u 61, u 62, u 63, u 64, u 65, u 66, u 67, u 68, u 69, u 70, u 71, u 72, u 73, u 74, u 75, u 76, u 77, u 78, u 79, u 80, u 81, u 82, u 83, u 84, u 85, u 86, u 87, u 88, u 89, u 90, u 91, u 92, u 93, u 94, u 95, u 96, u 97, u 98, u 99, u 100, u 101, u 102, u 103, u 104, u 105, u 106, u 107, u 108, u 109, u 110, u 111, u 112, u 113, u 114, u 115, u 116, u 117, u 118, u 119, u 120, u 121, u 122, u 123, u 124, u 125, u 126, u 127, u 128, u 129, u 130, u 131, u 132, u 133, u 134, u 135, u 136, u 137, u 138, u 139, u 140, u 141, u 142, u 143, u 144, u 145, u 146, u 147, u 148, u 149, u 150, u 151, u 152, u 153, u 154, u 155, u 156, u 157, u 158, u 159, u 160, u 161, u 162, u 163, u 164, u 165, u 166, u 167, u 168, u 169, u 170, u 171, u 172, u 173, u 174, u 175, u 176, u 177, u 178, u 179, u 180, u 181, u 182, u 183, u 184, u 185, u 186, u 187, u 188, u 189, u 190, u 191, u 192, u 193, u 194, u 195, u 196, u 197, u 198, u 199, u 200, u 201, u 202, u 203, u 204, u 205, u 206, u 207, u 208, u 209, u 210, u 211, undef], []⟩ wr := by
  subst hA
  have HLEN := Lib.hid hlen
  clear hlen
  have hkl : (k : Int) < (len : Int) := by omega
  obtain ⟨r4, hr4⟩ : ∃ r4, r4 = reg % 4 := ⟨_, rfl⟩
  have hre : ((reg : Int) % 4) = (r4 : Int) := by omega
  have kr := fun W => conv_u8 (r4 : Int) (by omega) (by omega) W
  have kw := fun W => conv_u8 (which : Int) (by omega) (by omega) W
  obtain ⟨q, hq⟩ : ∃ q, q = which % m := ⟨_, rfl⟩
  have hqe : ((which : Int) % (m : Int)) = (q : Int) := by rw [hq]; simp
  have HQ := Lib.hid hq
  have HK := Lib.hid hkk
  have HR := Lib.hid hr4
  clear hq hkk hr4
  have hk8 : (kind : Int) % 8 = ((0 : Nat) : Int) := by have := HK.out; omega
  conv => arg 2; whnf
  have HN : Hid (stoTo acts (k + 1) = stCall ⟨l, ops, ch, safe, n⟩ ⟨1, n, false, r4, 0, false⟩) := by
    unfold Hid
    rw [HS.out]
    simp only [stoStep, ← HK.out, ← HR.out]
    rfl
  clear HS HK HR HQ
  go_wp2_with (at_builtin; refine wpList_ap1 rfl (.tmp 96) (.tmp 98) _ rfl elemEv rfl ((hol.alloc _).alloc _) (Ev.cells ⟨1, n, false, r4, 0, false⟩) _ rfl _ rfl (by simp) (Ev.one _) (by simp [maxLen]; omega) (by simp; omega) (by simp; omega) ?_)
  intro v3 w3 hol3 hg3 _
  have hb3 : Below w.heap.size w w3 := (((hb.alloc hz _).alloc (by simp; omega) _).alloc (by simp; omega) _).grown hg3 (by simp; omega) (fun g hg => (hol.lt hg).1)
  have hoo3 := (((hoo.alloc _).alloc _).alloc _).kept hg3 (hoo.ne hol (by decide))
  have hoc3 := (((hoc.alloc _).alloc _).alloc _).kept hg3 (hoc.ne hol (by decide))
  obtain ⟨e0, e1, e2, e3, e4, e5⟩ := ev_after (e := ⟨1, n, false, r4, 0, false⟩) hg3 (hol.fresh (by omega))
  have hz3 := hb3.size
  simp only at e0 e1 e2 e3 e4 e5
  clear hg3 hol hoo hoc hb a0 a1 a2
  go_wp2_with (at_builtin; refine wpList_ap1 rfl (.tmp 100) (.tmp 103) _ rfl elemOpn rfl hoo3 (SOp.cells ⟨⟨1, n, false, r4, 0, false⟩, false, false, 0, 0⟩) _ rfl _ rfl (by simp) (SOp.one _) (by simp [maxLen]; omega) (by simp; omega) hz3 ?_)
  intro v4 w4 hoo4 hg4 _
  have hb4 : Below w.heap.size w w4 := (hb3.alloc hz3 _).grown hg4 (by simp; omega) (fun g hg => (hoo3.lt hg).1)
  have hol4 := (hol3.alloc _).kept hg4 (hol3.ne hoo3 (by decide))
  have hoc4 := (hoc3.alloc _).kept hg4 (hoc3.ne hoo3 (by decide))
  clear hg4 hol3 hoo3 hoc3 hb3 e0 e1 e2 e3 e4 e5
  go_wp2
  refine ⟨sto_mk (k + 1) (by omega) ⟨by rw [HN.out]; simpa [stCall] using hol4, by rw [HN.out]; simpa [stCall] using hoo4, by rw [HN.out]; simpa [stCall] using hoc4, hb4⟩ (by rw [HN.out]; rfl) (by rw [HN.out]; go_num) (by go_num) rfl, by simp [StoM, intOf]; omega⟩
set_option maxHeartbeats 4000000 in
set_option maxRecDepth 1000000 in
theorem sto_call1z (acts : List ActN) (len : Nat) (hlen : len = acts.length) (w wr : World) (u : Nat → Value) (u3 : Value) (A : Option Addr) (c k : Nat) (hk : k < len) (hl : len ≤ 1000) (b off : Nat) (hA : A = some ⟨b, off, none⟩)
    (l : List Ev) (ops : List SOp) (ch : List (Int × Int)) (safe n kind reg which m : Nat) (Ao : Option Addr) (co : Nat) (Ac : Option Addr) (cc : Nat)
    (hn1 : l.length ≤ k) (hn2 : ops.length ≤ k) (hn3 : ch.length ≤ k) (hn4 : n ≤ k) (hsf : safe ≤ ch.length) (hcc1 : ch.length ≤ cc) (hb1 : kind < 256) (hb2 : reg < 256) (hb3 : which < 256)
    (a0 : wr.cell? ⟨b, off + k * 3, none⟩ = some (.int .u8 kind)) (a1 : wr.cell? ⟨b, off + k * 3 + 1, none⟩ = some (.int .u8 reg)) (a2 : wr.cell? ⟨b, off + k * 3 + 2, none⟩ = some (.int .u8 which))
    (hol : OwS wr w.heap.size 39 6 u3 (l.map Ev.cells)) (hoo : OwS wr w.heap.size 94 10 (.slice Ao m co) (ops.map SOp.cells)) (hoc : OwS wr w.heap.size 96 2 (.slice Ac ch.length cc) (ch.map chCells)) (hb : Below w.heap.size w wr) (hz : w.heap.size ≤ wr.heap.size)
    (HM : Hid (m = ops.length)) (HS : Hid (stoTo acts (k + 1) = stoStep ⟨l, ops, ch, safe, n⟩ ⟨kind, reg, which⟩)) (Q0 : Exit → Act → World → Prop) (hkk : 1 = kind % 8) (hm : m = 0) :
    Code.wp Try.prog stoBody (Exit.then (fun a' w' => StoI acts w A len c a' w' ∧ StoM len a' w' < StoM len ⟨#[(.slice A len c), undef, .slice none 0 0, u3, (.slice Ao m co), (.slice Ac ch.length cc), .int .i64 safe, .int .i64 n, .int .i64 k, u 9, u 10, u 11, u 12, u 13, u 14, u 15, u 16, u 17, u 18, u 19, u 20, u 21, u 22, u 23, u 24, u 25, u 26, u 27, u 28, u 29, u 30, u 31, u 32, u 33, u 34, u 35, u 36, u 37, u 38, u 39, u 40, u 41, u 42, u 43, u 44, u 45, u 46, u 47, u 48, u 49, u 50, u 51, u 52, u 53, u 54, u 55, u 56, u 57, u 58, u 59, u 60, u 61, u 62, u 63, u 64, u 65, u 66, u 67, u 68, u 69, u 70, u 71, u 72, u 73, u 74, u 75, u 76, u 77, u 78, u 79, u 80, u 81, u 82, u 83, u 84, u 85, u 86, u 87, u 88, u 89, u 90, u 91, u 92, u 93, u 94, u 95, u 96, u 97, u 98, u 99, u 100, u 101, u 102, u 103, u 104, u 105, u 106, u 107, u 108, u 109, u 110, u 111, u 112, u 113, u 114, u 115, u 116, u 117, u 118, u 119, u 120, u 121, u 122, u 123, u 124, u 125, u 126, u 127, u 128, u 129, u 130, u 131, u 132, u 133, u 134, u 135, u 136, u 137, u 138, u 139, u 140, u 141, u 142, u 143, u 144, u 145, u 146, u 147, u 148, u 149, u 150, u 151, u 152, u 153, u 154, u 155, u 156, u 157, u 158, u 159, u 160, u 161, u 162, u 163, u 164, u 165, u 166, u 167, u 168, u 169, u 170, u 171, u 172, u 173, u 174, u 175, u 176, u 177, u 178, u 179, u 180, u 181, u 182, u 183, u 184, u 185, u 186, u 187, u 188, u 189, u 190, u 191, u 192, u 193, u 194, u 195, u 196, u 197, u 198, u 199, u 200, u 201, u 202, u 203, u 204, u 205, u 206, u 207, u 208, u 209, u 210, u 211, undef], []⟩ wr) Q0) ⟨#[(.slice A len c), undef, .slice none 0 0, u3, (.slice Ao m co), (.slice Ac ch.length cc), .int .i64 safe, .int .i64 n, .int .i64 k, u 9, u 10, u 11, u 12, u 13, u 14, u 15, u 16, u 17, u 18, u 19, u 20, u 21, u 22, u 23, u 24, u 25, u 26, u 27, u 28, u 29, u 30, u 31, u 32, u 33, u 34, u 35, u 36, u 37, u 38, u 39, u 40, u 41, u 42, u 43, u 44, u 45, u 46, u 47, u 48, u 49, u 50, u 51, u 52, u 53, u 54, u 55, u 56, u 57, u 58, u 59, u 60, u 61, u 62, u 63, u 64, u 65, u 66, u 67, u 68, u 69, u 70, u 71, u 72, u 73, u 74, u 75, u 76, u 77, u 78, u 79, u 80, u 81, u 82, u 83, u 84, u 85, u 86, u 87, u 88, u 89, u 90, u 91, u 92, u 93, u 94, u 95, u 96, u 97, u 98, u 99, u 100, u 101, u 102, u 103, u 104, u 105, u 106, u 107, u 108, u 109, u 110, u 111, u 112, u 113, u 114, u 115, u 116, u 117, u 118, u 119, u 120, u 121, u 122, u 123, u 124, u 125, u 126, u 127, u 128, u 129, u 130, u 131, u 132, u 133, u 134, u 135, u 136, u 137, u 138, u 139, u 140, u 141, u 142, u 143, u 144, u 145, u 146, u 147, u 148, u 149, u 150, u 151, u 152, u 153, u 154, u 155, u 156, u 157, u 158, u 159, u 160, u 161, u 162, u 163, u 164, u 165, u 166, u 167, u 168, u 169, u 170, u 171, u 172, u 173, u 174, u 175, u 176, u 177, u 178, u 179, u 180, u 181, u 182, u 183, u 184, u 185, u 186, u 187, u 188, u 189, u 190, u 191, u 192, u 193, u 194, u 195, u 196, u 197, u 198, u 199, u 200, u 201, u 202, u 203, u 204, u 205, u 206, u 207, u 208, u 209, u 210, u 211, undef], []⟩ wr := by
  subst hA
  have HLEN := Lib.hid hlen
  clear hlen
  have hkl : (k : Int) < (len : Int) := by omega
  obtain ⟨r4, hr4⟩ : ∃ r4, r4 = reg % 4 := ⟨_, rfl⟩
  have hre : ((reg : Int) % 4) = (r4 : Int) := by omega
  have kr := fun W => conv_u8 (r4 : Int) (by omega) (by omega) W
  have kw := fun W => conv_u8 (which : Int) (by omega) (by omega) W
  obtain ⟨q, hq⟩ : ∃ q, q = which % m := ⟨_, rfl⟩
  have hqe : ((which : Int) % (m : Int)) = (q : Int) := by rw [hq]; simp
  have HQ := Lib.hid hq
  have HK := Lib.hid hkk
  have HR := Lib.hid hr4
  clear hq hkk hr4
  subst hm
  have hk8 : (kind : Int) % 8 = ((1 : Nat) : Int) := by have := HK.out; omega
  conv => arg 2; whnf
  have HN : Hid (stoTo acts (k + 1) = stCall ⟨l, ops, ch, safe, n⟩ ⟨1, n, true, r4, (n : Int) + 1, false⟩) := by
    unfold Hid
    rw [HS.out]
    simp only [stoStep, ← HK.out, ← HR.out]
    rfl
  clear HS HK HR HQ
  go_wp2_with (at_builtin; refine wpList_ap1 rfl (.tmp 96) (.tmp 98) _ rfl elemEv rfl ((hol.alloc _).alloc _) (Ev.cells ⟨1, n, true, r4, (n : Int) + 1, false⟩) _ rfl _ rfl (by simp) (Ev.one _) (by simp [maxLen]; omega) (by simp; omega) (by simp; omega) ?_)
  intro v3 w3 hol3 hg3 _
  have hb3 : Below w.heap.size w w3 := (((hb.alloc hz _).alloc (by simp; omega) _).alloc (by simp; omega) _).grown hg3 (by simp; omega) (fun g hg => (hol.lt hg).1)
  have hoo3 := (((hoo.alloc _).alloc _).alloc _).kept hg3 (hoo.ne hol (by decide))
  have hoc3 := (((hoc.alloc _).alloc _).alloc _).kept hg3 (hoc.ne hol (by decide))
  obtain ⟨e0, e1, e2, e3, e4, e5⟩ := ev_after (e := ⟨1, n, true, r4, (n : Int) + 1, false⟩) hg3 (hol.fresh (by omega))
  have hz3 := hb3.size
  simp only at e0 e1 e2 e3 e4 e5
  clear hg3 hol hoo hoc hb a0 a1 a2
  go_wp2_with (at_builtin; refine wpList_ap1 rfl (.tmp 100) (.tmp 103) _ rfl elemOpn rfl hoo3 (SOp.cells ⟨⟨1, n, true, r4, (n : Int) + 1, false⟩, false, false, 0, 0⟩) _ rfl _ rfl (by simp) (SOp.one _) (by simp [maxLen]; omega) (by simp; omega) hz3 ?_)
  intro v4 w4 hoo4 hg4 _
  have hb4 : Below w.heap.size w w4 := (hb3.alloc hz3 _).grown hg4 (by simp; omega) (fun g hg => (hoo3.lt hg).1)
  have hol4 := (hol3.alloc _).kept hg4 (hol3.ne hoo3 (by decide))
  have hoc4 := (hoc3.alloc _).kept hg4 (hoc3.ne hoo3 (by decide))
  clear hg4 hol3 hoo3 hoc3 hb3 e0 e1 e2 e3 e4 e5
  go_wp2
  refine ⟨sto_mk (k + 1) (by omega) ⟨by rw [HN.out]; simpa [stCall] using hol4, by rw [HN.out]; simpa [stCall] using hoo4, by rw [HN.out]; simpa [stCall] using hoc4, hb4⟩ (by rw [HN.out]; rfl) (by rw [HN.out]; go_num) (by go_num) rfl, by simp [StoM, intOf]; omega⟩
set_option maxHeartbeats 4000000 in
set_option maxRecDepth 1000000 in
theorem sto_call1p (acts : List ActN) (len : Nat) (hlen : len = acts.length) (w wr : World) (u : Nat → Value) (u3 : Value) (A : Option Addr) (c k : Nat) (hk : k < len) (hl : len ≤ 1000) (b off : Nat) (hA : A = some ⟨b, off, none⟩)
    (l : List Ev) (ops : List SOp) (ch : List (Int × Int)) (safe n kind reg which m : Nat) (Ao : Option Addr) (co : Nat) (Ac : Option Addr) (cc : Nat)
    (hn1 : l.length ≤ k) (hn2 : ops.length ≤ k) (hn3 : ch.length ≤ k) (hn4 : n ≤ k) (hsf : safe ≤ ch.length) (hcc1 : ch.length ≤ cc) (hb1 : kind < 256) (hb2 : reg < 256) (hb3 : which < 256)
    (a0 : wr.cell? ⟨b, off + k * 3, none⟩ = some (.int .u8 kind)) (a1 : wr.cell? ⟨b, off + k * 3 + 1, none⟩ = some (.int .u8 reg)) (a2 : wr.cell? ⟨b, off + k * 3 + 2, none⟩ = some (.int .u8 which))
    (hol : OwS wr w.heap.size 39 6 u3 (l.map Ev.cells)) (hoo : OwS wr w.heap.size 94 10 (.slice Ao m co) (ops.map SOp.cells)) (hoc : OwS wr w.heap.size 96 2 (.slice Ac ch.length cc) (ch.map chCells)) (hb : Below w.heap.size w wr) (hz : w.heap.size ≤ wr.heap.size)
    (HM : Hid (m = ops.length)) (HS : Hid (stoTo acts (k + 1) = stoStep ⟨l, ops, ch, safe, n⟩ ⟨kind, reg, which⟩)) (Q0 : Exit → Act → World → Prop) (hkk : 1 = kind % 8) (hm0 : 0 < m) :
    Code.wp Try.prog stoBody (Exit.then (fun a' w' => StoI acts w A len c a' w' ∧ StoM len a' w' < StoM len ⟨#[(.slice A len c), undef, .slice none 0 0, u3, (.slice Ao m co), (.slice Ac ch.length cc), .int .i64 safe, .int .i64 n, .int .i64 k, u 9, u 10, u 11, u 12, u 13, u 14, u 15, u 16, u 17, u 18, u 19, u 20, u 21, u 22, u 23, u 24, u 25, u 26, u 27, u 28, u 29, u 30, u 31, u 32, u 33, u 34, u 35, u 36, u 37, u 38, u 39, u 40, u 41, u 42, u 43, u 44, u 45, u 46, u 47, u 48, u 49, u 50, u 51, u 52, u 53, u 54, u 55, u 56, u 57, u 58, u 59, u 60, u 61, u 62, u 63, u 64, u 65, u 66, u 67, u 68, u 69, u 70, u 71, u 72, u 73, u 74, u 75, u 76, u 77, u 78, u 79, u 80, u 81, u 82, u 83, u 84, u 85, u 86, u 87, u 88, u 89, u 90, u 91, u 92, u 93, u 94, u 95, u 96, u 97, u 98, u 99, u 100, u 101, u 102, u 103, u 104, u 105, u 106, u 107, u 108, u 109, u 110, u 111, u 112, u 113, u 114, u 115, u 116, u 117, u 118, u 119, u 120, u 121, u 122, u 123, u 124, u 125, u 126, u 127, u 128, u 129, u 130, u 131, u 132, u 133, u 134, u 135, u 136, u 137, u 138, u 139, u 140, u 141, u 142, u 143, u 144, u 145, u 146, u 147, u 148, u 149, u 150, u 151, u 152, u 153, u 154, u 155, u 156, u 157, u 158, u 159, u 160, u 161, u 162, u 163, u 164, u 165, u 166, u 167, u 168, u 169, u 170, u 171, u 172, u 173, u 174, u 175, u 176, u 177, u 178, u 179, u 180, u 181, u 182, u 183, u 184, u 185, u 186, u 187, u 188, u 189, u 190, u 191, u 192, u 193, u 194, u 195, u 196, u 197, u 198, u 199, u 200, u 201, u 202, u 203, u 204, u 205, u 206, u 207, u 208, u 209, u 210, u 211, undef], []⟩ wr) Q0) ⟨#[(.slice A len c), undef, .slice none 0 0, u3, (.slice Ao m co), (.slice Ac ch.length cc), .int .i64 safe, .int .i64 n, .int .i64 k, u 9, u 10, u 11, u 12, u 13, u 14, u 15, u 16, u 17, u 18, u 19, u 20, u 21, u 22, u 23, u 24, u 25, u 26, u 27, u 28, u 29, u 30, u 31, u 32, u 33, u 34, u 35, u 36, u 37, u 38, u 39, u 40, u 41, u 42, u 43, u 44, u 45, u 46, u 47, u 48, u 49, u 50, u 51, u 52, u 53, u 54, u 55, u 56, u 57, u 58, u 59, u 60, u 61, u 62, u 63, u 64, u 65, u 66, u 67, u 68, u 69, u 70, u 71, u 72, u 73, u 74, u 75, u 76, u 77, u 78, u 79, u 80, u 81, u 82, u 83, u 84, u 85, u 86, u 87, u 88, u 89, u 90, u 91, u 92, u 93, u 94, u 95, u 96, u 97, u 98, u 99, u 100, u 101, u 102, u 103, u 104, u 105, u 106, u 107, u 108, u 109, u 110, u 111, u 112, u 113, u 114, u 115, u 116, u 117, u 118, u 119, u 120, u 121, u 122, u 123, u 124, u 125, u 126, u 127, u 128, u 129, u 130, u 131, u 132, u 133, u 134, u 135, u 136, u 137, u 138, u 139, u 140, u 141, u 142, u 143, u 144, u 145, u 146, u 147, u 148, u 149, u 150, u 151, u 152, u 153, u 154, u 155, u 156, u 157, u 158, u 159, u 160, u 161, u 162, u 163, u 164, u 165, u 166, u 167, u 168, u 169, u 170, u 171, u 172, u 173, u 174, u 175, u 176, u 177, u 178, u 179, u 180, u 181, u 182, u 183, u 184, u 185, u 186, u 187, u 188, u 189, u 190, u 191, u 192, u 193, u 194, u 195, u 196, u 197, u 198, u 199, u 200, u 201, u 202, u 203, u 204, u 205, u 206, u 207, u 208, u 209, u 210, u 211, undef], []⟩ wr := by
  subst hA
  have HLEN := Lib.hid hlen
  clear hlen
  have hkl : (k : Int) < (len : Int) := by omega
  obtain ⟨r4, hr4⟩ : ∃ r4, r4 = reg % 4 := ⟨_, rfl⟩
  have hre : ((reg : Int) % 4) = (r4 : Int) := by omega
  have kr := fun W => conv_u8 (r4 : Int) (by omega) (by omega) W
  have kw := fun W => conv_u8 (which : Int) (by omega) (by omega) W
  obtain ⟨q, hq⟩ : ∃ q, q = which % m := ⟨_, rfl⟩
  have hqe : ((which : Int) % (m : Int)) = (q : Int) := by rw [hq]; simp
  have HQ := Lib.hid hq
  have HK := Lib.hid hkk
  have HR := Lib.hid hr4
  clear hq hkk hr4
  have hk8 : (kind : Int) % 8 = ((1 : Nat) : Int) := by have := HK.out; omega
  conv => arg 2; whnf
  have HN : Hid (stoTo acts (k + 1) = stCall ⟨l, ops, ch, safe, n⟩ ⟨1, n, true, r4, (n : Int) + 1, false⟩) := by
    unfold Hid
    rw [HS.out]
    simp only [stoStep, ← HK.out, ← HR.out]
    rfl
  clear HS HK HR HQ
  go_wp2_with (at_builtin; refine wpList_ap1 rfl (.tmp 96) (.tmp 98) _ rfl elemEv rfl ((hol.alloc _).alloc _) (Ev.cells ⟨1, n, true, r4, (n : Int) + 1, false⟩) _ rfl _ rfl (by simp) (Ev.one _) (by simp [maxLen]; omega) (by simp; omega) (by simp; omega) ?_)
  intro v3 w3 hol3 hg3 _
  have hb3 : Below w.heap.size w w3 := (((hb.alloc hz _).alloc (by simp; omega) _).alloc (by simp; omega) _).grown hg3 (by simp; omega) (fun g hg => (hol.lt hg).1)
  have hoo3 := (((hoo.alloc _).alloc _).alloc _).kept hg3 (hoo.ne hol (by decide))
  have hoc3 := (((hoc.alloc _).alloc _).alloc _).kept hg3 (hoc.ne hol (by decide))
  obtain ⟨e0, e1, e2, e3, e4, e5⟩ := ev_after (e := ⟨1, n, true, r4, (n : Int) + 1, false⟩) hg3 (hol.fresh (by omega))
  have hz3 := hb3.size
  simp only at e0 e1 e2 e3 e4 e5
  clear hg3 hol hoo hoc hb a0 a1 a2
  go_wp2_with (at_builtin; refine wpList_ap1 rfl (.tmp 100) (.tmp 103) _ rfl elemOpn rfl hoo3 (SOp.cells ⟨⟨1, n, true, r4, (n : Int) + 1, false⟩, false, false, 0, 0⟩) _ rfl _ rfl (by simp) (SOp.one _) (by simp [maxLen]; omega) (by simp; omega) hz3 ?_)
  intro v4 w4 hoo4 hg4 _
  have hb4 : Below w.heap.size w w4 := (hb3.alloc hz3 _).grown hg4 (by simp; omega) (fun g hg => (hoo3.lt hg).1)
  have hol4 := (hol3.alloc _).kept hg4 (hol3.ne hoo3 (by decide))
  have hoc4 := (hoc3.alloc _).kept hg4 (hoc3.ne hoo3 (by decide))
  clear hg4 hol3 hoo3 hoc3 hb3 e0 e1 e2 e3 e4 e5
  go_wp2
  refine ⟨sto_mk (k + 1) (by omega) ⟨by rw [HN.out]; simpa [stCall] using hol4, by rw [HN.out]; simpa [stCall] using hoo4, by rw [HN.out]; simpa [stCall] using hoc4, hb4⟩ (by rw [HN.out]; rfl) (by rw [HN.out]; go_num) (by go_num) rfl, by simp [StoM, intOf]; omega⟩
end Go.Proofs.Ytldjodgpbnkleaa
