/- append as one step of a region that draws its order. -/
import Derived.Test.YtcgbnlhloopnfaaMem
import Derived.Deep.RegionLaw
namespace Go.Proofs.Ytcgbnlhloopnfaa
open Go.RowKit
variable {P : Program} {w w' : World} {base size bytes : Nat} {t e : TypeId} {v : Value} {rows : List (List Value)}
/-- append of a slice that reads as rows, as one step -/
theorem oper_apS {o : Oper} {a : Act} {K : Act → World → Prop} {Q : Exit → Act → World → Prop} (s x : Operand) (t : TypeId)
    (ho : o.op = .call { callee := .builtin .append, args := #[s, x], argTypes := #[t, t] }) (E : Elem P t e size bytes)
    (hs : a.eval s = v) (hown : OwS w base e size v rows) (B : Nat) (A : Option Addr) (m c : Nat) (news : List (List Value)) (hx : a.eval x = .slice A m c) (hr : RdS w B size A news) (hm : m = news.length)
    (h1 : ∀ r ∈ news, ∀ u ∈ r, u.oneCell' = true) (h63 : rows.length + news.length ≤ maxLen) (hbytes : (rows.length + news.length) * bytes ≤ 140737488355328) (hbase : base ≤ w.heap.size)
    (h : ∀ v' w', OwS w' base e size v' (rows ++ news) → w.grownBy w' v.ownBlock → (v'.ownBlock = v.ownBlock ∨ v'.ownBlock = some w.heap.size) → K (a.put o.dst v') w') : Oper.wp P o a w K Q := by
  obtain ⟨ht, hsz, i, z, hi, hz, hsize, hby, hzs⟩ := E
  have hone : ∀ u ∈ news.flatten, u.oneCell' = true := by
    intro u hu
    obtain ⟨r, hr, hu⟩ := List.mem_flatten.1 hu
    exact h1 r hr u hu
  have hfl : news.flatten.length = news.length * size := flatten_length hr.1
  have hall : ∀ r ∈ rows ++ news, r.length = size := by
    intro r hrr
    rcases List.mem_append.1 hrr with hrr | hrr
    · exact hown.1 r hrr
    · exact hr.1 r hrr
  by_cases h0 : news.length = 0
  · have hn : news = [] := List.eq_nil_of_length_eq_zero h0
    subst hn
    simp only [List.length_nil] at hm
    subst hm
    have hrun : (Builtin.append_ #[t, t] o.type #[v, .slice A 0 c]).run P w = .ok v w := by
      rcases A with _ | ad
      · rcases hown.2.2 with ⟨rfl, _⟩ | ⟨g, cap, cur, rfl, _, _, hnc, _⟩
        · simp [Builtin.append_, run_underlying ht, sizeOf, typeInfo, hi, Builtin.lenOf, Builtin.firstCells]
        · simp [Builtin.append_, run_underlying ht, sizeOf, typeInfo, hi, Builtin.lenOf, Builtin.firstCells, hnc, storeCells]
      · rcases hown.2.2 with ⟨rfl, hz0⟩ | ⟨g, cap, cur, rfl, _, _, hnc, _⟩
        · simp [Builtin.append_, run_underlying ht, sizeOf, typeInfo, hi, Builtin.lenOf, Builtin.firstCells, loadCells, loadCellsFrom]
        · simp [Builtin.append_, run_underlying ht, sizeOf, typeInfo, hi, Builtin.lenOf, Builtin.firstCells, hnc, storeCells, loadCells, loadCellsFrom]
    unfold Oper.wp execOp
    simp only [ho, resolve, invoke, builtin, Sem.run_bind, Sem.run_pure, Result.andThen_ok, List.map_toArray, List.map_cons, List.map_nil, hs, hx, hrun]
    exact h v w (by simpa using hown) (World.grownBy.refl w _) (.inl rfl)
  · obtain ⟨b, off, rfl, hbB, hc⟩ := hr.2 (by omega)
    have hcells : ∀ j u, news.flatten[j]? = some u → w.cell? ((⟨b, off, none⟩ : Addr).add j) = some u := by
      intro j u hu
      have hj : j < news.length * size := by rw [← hfl]; exact (List.getElem?_eq_some_iff.1 hu).1
      have hq : j / size < news.length := Nat.div_lt_of_lt_mul (by rw [Nat.mul_comm]; exact hj)
      have hmod : j % size < size := Nat.mod_lt _ hsz
      have hrr := List.getElem?_eq_getElem hq
      have hl : (news[j / size]).length = size := hr.1 _ (List.getElem_mem hq)
      have hvv : (news[j / size])[j % size]? = some ((news[j / size])[j % size]'(by omega)) := List.getElem?_eq_getElem (by omega)
      have h2 := hc _ _ hrr _ _ hvv
      have h3 := flatten_get hr.1 _ _ hrr _ _ hvv
      have hdm : j / size * size + j % size = j := by rw [Nat.mul_comm]; exact Nat.div_add_mod j size
      rw [hdm] at h3
      rw [h3] at hu
      cases hu
      rw [Nat.add_assoc, hdm] at h2
      rw [show (⟨b, off, none⟩ : Addr).add j = ⟨b, off + j, none⟩ from Addr.add_lit _ _ _]
      exact h2
    obtain ⟨v', w', hrun, h2, h3, _, h5⟩ := run_append_own_at (P := P) w base t o.type e i z size bytes ht hi hz hsize hby hzs hsz v rows.length rows.flatten hown.2 ⟨b, off, none⟩ news.length c news.flatten hfl hcells hone h63 hbytes hbase
    unfold Oper.wp execOp
    rw [hm] at hx
    simp only [ho, resolve, invoke, builtin, Sem.run_bind, Sem.run_pure, Result.andThen_ok, List.map_toArray, List.map_cons, List.map_nil, hs, hx, hrun]
    exact h v' w' ⟨hall, by simpa using h2⟩ h3 h5

/-- append of a slice that reads as rows, as one step of a region -/
theorem step_apS {ops : Array Oper} {o : Oper} {a : Act} {K : Act → World → Prop} {Q : Exit → Act → World → Prop} {E' : Prop} (hgd : o.guard = none) (s x : Operand) (t : TypeId)
    (ho : o.op = .call { callee := .builtin .append, args := #[s, x], argTypes := #[t, t] }) (E : Elem P t e size bytes)
    (hs : a.eval s = v) (hown : OwS w base e size v rows) (B : Nat) (A : Option Addr) (m c : Nat) (news : List (List Value)) (hx : a.eval x = .slice A m c) (hr : RdS w B size A news) (hm : m = news.length)
    (h1 : ∀ r ∈ news, ∀ u ∈ r, u.oneCell' = true) (h63 : rows.length + news.length ≤ maxLen) (hbytes : (rows.length + news.length) * bytes ≤ 140737488355328) (hbase : base ≤ w.heap.size)
    (h : ∀ v' w', OwS w' base e size v' (rows ++ news) → w.grownBy w' v.ownBlock → (v'.ownBlock = v.ownBlock ∨ v'.ownBlock = some w.heap.size) → K (a.put o.dst v') w') :
    if Region.wanted o (yielded ops a.tmps) = true then Oper.wp P o a w K Q else E' := by
  have hw : Region.wanted o (yielded ops a.tmps) = true := by simp [Region.wanted, hgd]
  rw [if_pos hw]
  exact oper_apS s x t ho E hs hown B A m c news hx hr hm h1 h63 hbytes hbase h

/-- append of one row that lies in the newest block -/
theorem step_ap1 {ops : Array Oper} {o : Oper} {a : Act} {K : Act → World → Prop} {Q : Exit → Act → World → Prop} {E' : Prop} (hgd : o.guard = none) (s x : Operand) (t : TypeId)
    (ho : o.op = .call { callee := .builtin .append, args := #[s, x], argTypes := #[t, t] }) (E : Elem P t e size bytes)
    (hs : a.eval s = v) (hown : OwS w base e size v rows) (cs : List Value) (e' : TypeId) (hcs : cs.length = size) (g : Nat) (hx : a.eval x = .slice (some ⟨g, 0, none⟩) 1 1) (hg : g = w.heap.size)
    (h1 : ∀ u ∈ cs, u.oneCell' = true) (h63 : rows.length + 1 ≤ maxLen) (hbytes : (rows.length + 1) * bytes ≤ 140737488355328) (hbase : base ≤ w.heap.size)
    (h : ∀ v' w', OwS w' base e size v' (rows ++ [cs]) → (w.alloc (.cells cs.toArray e')).grownBy w' v.ownBlock → (v'.ownBlock = v.ownBlock ∨ v'.ownBlock = some (w.heap.size + 1)) → K (a.put o.dst v') w') :
    if Region.wanted o (yielded ops a.tmps) = true then Oper.wp P o a (w.alloc (.cells cs.toArray e')) K Q else E' := by
  have hw : Region.wanted o (yielded ops a.tmps) = true := by simp [Region.wanted, hgd]
  rw [if_pos hw]
  subst hg
  refine oper_apS s x t ho E hs (hown.alloc _) (w.heap.size + 1) _ 1 1 [cs] hx ⟨by simp [hcs], fun _ => ⟨w.heap.size, 0, rfl, by omega, ?_⟩⟩ rfl (by simpa using h1) (by simpa using h63) (by simpa using hbytes) (by simp; omega) ?_
  · intro i r hi j u hj
    match i, hi with
    | 0, hi =>
      simp at hi
      subst hi
      rw [cell_of_row _ w.heap.size _ cs.toArray e' (0, 0) (heap_alloc_new w _)]
      simpa using hj
  · intro v' w' h2 h3 h4
    exact h v' w' h2 h3 (by simpa using h4)
end Go.Proofs.Ytcgbnlhloopnfaa
