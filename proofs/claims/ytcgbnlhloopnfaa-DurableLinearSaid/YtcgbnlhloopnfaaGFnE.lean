/- The finder's complete: what it keeps. Nothing of the program is walked here.
Walk of the finder's complete: a method that calls itself.
What the walk of the finder's prefixes keeps. Nothing of the program is walked here.
Walk of the finder's prefixes: a closure that calls itself through its own variable. -/
import Derived.Test.YtcgbnlhloopnfaaFndD
import Derived.Test.YtcgbnlhloopnfaaGMem
import Derived.Test.YtcgbnlhloopnfaaGPrs
import Derived.Deep.RegionHeld3
namespace Go.Proofs.Ytcgbnlhloopnfaa
open Go.RowKit

/-- a state that may be met -/
def StOk (X : List Opr) (s : St) : Prop := s.1 < 65536 ∧ -1 ≤ s.2 ∧ s.2 < X.length
theorem StOk.next {X : List Opr} {st : Int} {s t : St} {i : Nat} (h : StOk X s) (hi : i < X.length) (hl : X.length ≤ 16) (hn : nextS X st s i = some t) : StOk X t := by
  obtain ⟨-, -, -, rfl⟩ := nextS_some hn
  obtain ⟨h1, h2, h3⟩ := h
  refine ⟨Nat.or_lt_two_pow (n := 16) h1 (Nat.pow_lt_pow_right (by omega) (by omega)), ?_, ?_⟩
  · simp only; split <;> omega
  · simp only; split <;> omega
theorem StOk.wf {X : List Opr} {s : St} (h : StOk X s) (hl : X.length ≤ 16) : (Lit.int .i64 (s.1 : Int)).wf = true ∧ (Lit.int .i64 s.2).wf = true := by
  obtain ⟨h1, h2, h3⟩ := h
  exact ⟨WalkArith.wf_i64 (by omega), WalkArith.wf_i64 (by omega)⟩
/-- the map of the dead ends: what it says is so -/
def SoundF (X : List Opr) (st : Int) (f : Lit → Bool) : Prop := ∀ s, StOk X s → f (pKey s.1 s.2) = true → ¬ Compl X st s
theorem SoundF.put {X : List Opr} {st : Int} {f : Lit → Bool} (h : SoundF X st f) (hl : X.length ≤ 16) {s : St} (hs : StOk X s) (hd : ¬ Compl X st s) : SoundF X st (updK f (pKey s.1 s.2) true) := by
  intro t ht hf
  unfold updK at hf
  by_cases he : pKey t.1 t.2 = pKey s.1 s.2
  · obtain ⟨a1, a2⟩ := ht.wf hl
    obtain ⟨b1, b2⟩ := hs.wf hl
    obtain ⟨e1, e2⟩ := pKey_inj a1 a2 b1 b2 he
    have : t = s := Prod.ext (Int.ofNat_inj.1 e1) e2
    rw [this]; exact hd
  · rw [Maps.sameKey_ne he] at hf
    exact h t ht hf
/-- a variable of one cell -/
def Var1 (w : World) (b : Nat) (v : Value) (t : TypeId) : Prop := w.heap[b]? = some (.cells #[v] t (0, 0))

/-- what complete leaves -/
structure ComPost [BaseW] (X : List Opr) (st : Int) (s : St) (B me ob : Nat) (L : List Lit) (pre : List Int) (w w' : World) (b : Bool) (ov' : Value) (f' : Lit → Bool) : Prop where
  fr : FrE [me, ob] 3 w w'
  bel : BelR B me w w'
  var : Var1 w' ob ov' 29
  map : MapS w' Try.prog 132 me L f'
  sound : SoundF X st f'
  yes : b = true → ∃ p u, Path X st s p u ∧ covS X (ansQ X) u.1 = true ∧ (covS X (ansQ X) s.1 = true → p = []) ∧ OwS w' B 3 1 ov' ((pre ++ idsOf X p).map icell)
  no : b = false → ¬ Compl X st s ∧ OwS w' B 3 1 ov' (pre.map icell)

theorem OwS.notRow {w : World} {base size : Nat} {e' t : TypeId} {v : Value} {rows : List (List Value)} (h : OwS w base e' size v rows) {b : Nat} {cs : Array Value} {fz : Nat × Nat} (hb : w.heap[b]? = some (.cells cs t fz)) (hne : t ≠ e') : some b ≠ v.ownBlock := by
  rcases h.2.2 with ⟨rfl, _⟩ | ⟨g, cap, cur, rfl, _, hh, _⟩
  · simp [Value.ownBlock]
  · intro he
    simp [Value.ownBlock] at he
    subst he
    rw [hh] at hb
    injection hb with hb
    injection hb with _ h2 _
    exact hne h2.symm
theorem OwS.notMap {w : World} {base size : Nat} {e' : TypeId} {v : Value} {rows : List (List Value)} (h : OwS w base e' size v rows) {b : Nat} (hb : ∀ cur e fz, w.heap[b]? ≠ some (.cells cur e fz)) : some b ≠ v.ownBlock := by
  rcases h.2.2 with ⟨rfl, _⟩ | ⟨g, cap, cur, rfl, _, hh, _⟩
  · simp [Value.ownBlock]
  · intro he
    simp [Value.ownBlock] at he
    subst he
    exact hb _ _ _ hh
theorem OwS.rowType {w : World} {base size : Nat} {e' : TypeId} {v : Value} {rows : List (List Value)} (h : OwS w base e' size v rows) : ∀ g, v.ownBlock = some g → ∃ cur f, w.heap[g]? = some (.cells cur e' f) := by
  intro g hg
  rcases h.2.2 with ⟨rfl, _⟩ | ⟨g', cap, cur, rfl, _, hh, _⟩
  · simp [Value.ownBlock] at hg
  · simp [Value.ownBlock] at hg
    subst hg
    exact ⟨cur, _, hh⟩

theorem OwS.rowTypeB {w : World} {base size : Nat} {e' : TypeId} {v : Value} {rows : List (List Value)} (h : OwS w base e' size v rows) (g : Nat) (hg : v.ownBlock = some g) : ∃ cur f, w.heap[g]? = some (.cells cur e' f) ∧ base ≤ g := by
  obtain ⟨cur, f, hh⟩ := h.rowType g hg
  exact ⟨cur, f, hh, (h.lt hg).1⟩
theorem flatten_short {size : Nat} {rows : List (List Value)} (hs : ∀ r ∈ rows, r.length = size) (m : Nat) : (rows.take m).flatten = rows.flatten.take (m * size) := by
  induction rows generalizing m with
  | nil => simp
  | cons x xs ih =>
    cases m with
    | zero => simp
    | succ m =>
      have hx : x.length = size := hs x (by simp)
      simp only [List.take_succ_cons, List.flatten_cons]
      have h1 : x.take ((m + 1) * size) = x := List.take_of_length_le (by rw [hx, Nat.add_mul]; omega)
      rw [ih (fun r hr => hs r (by simp [hr])) m, List.take_append, hx, h1, show (m + 1) * size - size = m * size by rw [Nat.add_mul]; omega]
theorem OwS.short {w : World} {base size n c : Nat} {e : TypeId} {A : Option Addr} {rows : List (List Value)} (h : OwS w base e size (.slice A n c) rows) {m : Nat} (hm : m ≤ rows.length) : OwS w base e size (.slice A m c) (rows.take m) := by
  have hall : ∀ r ∈ rows.take m, r.length = size := fun r hr => h.1 r (List.mem_of_mem_take hr)
  have hfl : (rows.take m).flatten.length = (rows.take m).length * size := flatten_length hall
  have hlen : (rows.take m).length = m := by rw [List.length_take]; omega
  refine ⟨hall, hfl, ?_⟩
  rcases h.2.2 with ⟨hv, h0⟩ | ⟨g, cap, cur, hv, hb, hh, hnc, hcm, hsz, ht⟩
  · injection hv with h1 h2 h3
    subst h1 h2 h3
    have : m = 0 := by omega
    subst this
    exact .inl ⟨rfl, by simp⟩
  · injection hv with h1 h2 h3
    subst h1 h2 h3
    refine .inr ⟨g, _, cur, by rw [hlen], hb, hh, by omega, hcm, hsz, ?_⟩
    have hmr : m * size ≤ rows.length * size := Nat.mul_le_mul_right _ hm
    rw [hlen, flatten_short h.1, ← ht, List.take_take, Nat.min_eq_left hmr]
/-- what stands while complete goes over the operations -/
structure ComInv [BaseW] (X : List Opr) (st : Int) (fb S : Nat) (l : Int) (B me ob : Nat) (L : List Lit) (w wr : World) (pre : List Int) (ovr : Value) (ff : Lit → Bool) : Prop where
  fr : FrE [me, ob] 3 w wr
  bel : BelR B me w wr
  var : Var1 wr ob ovr 29
  own : OwS wr B 3 1 ovr (pre.map icell)
  map : MapS wr Try.prog 132 me L ff
  sound : SoundF X st ff
  bx : wr.heap[w.heap.size]? = some (.cells #[.pointer (some ⟨fb, 0, none⟩)] 126)
  bs : wr.heap[w.heap.size + 1]? = some (.cells #[.int .i64 (S : Int), .int .i64 l] 132)
section
variable [BaseW] {X : List Opr} {st : Int} {fb S : Nat} {l : Int} {B me ob : Nat} {L : List Lit} {w wr w' : World} {pre pre' : List Int} {ovr ov' : Value} {fr fr' : Lit → Bool}
theorem ComInv.below (h : ComInv X st fb S l B me ob L w wr pre ovr fr) (hb : Below wr.heap.size wr w') (hB : B ≤ w.heap.size) : ComInv X st fb S l B me ob L w w' pre ovr fr :=
  ⟨h.fr.trans (.of hb), h.bel.trans (.of hb (Nat.le_trans hB h.fr.size)), keptB h.var hb, h.own.below hb, h.map.below hb, h.sound, keptB h.bx hb, keptB h.bs hb⟩
/-- the order grows by an append, and is stored -/
theorem ComInv.push (h : ComInv X st fb S l B me ob L w wr pre ovr fr) (hB : B ≤ w.heap.size) (hob : B ≤ ob) (hol : ob < w.heap.size) (hml : me < w.heap.size) (hg : wr.grownBy w' ovr.ownBlock) (ho : OwS w' B 3 1 ov' (pre'.map icell)) (hv : ov'.ownBlock = ovr.ownBlock ∨ ∃ k, ov'.ownBlock = some k ∧ wr.heap.size ≤ k) :
    ComInv X st fb S l B me ob L w (w'.setCell ⟨ob, 0, none⟩ ov') pre' ov' fr := by
  have hsz := h.fr.size
  have hn1 : some ob ≠ ovr.ownBlock := h.own.notRow h.var (by decide)
  have hn2 : ov'.ownBlock ≠ some ob := by
    rcases hv with hv | ⟨k, hv, hk⟩
    · rw [hv]; exact hn1.symm
    · rw [hv]; intro he; injection he with he; omega
  have hV : Var1 w' ob ovr 29 := (hg.block ob (by omega) hn1).trans h.var
  have hM : MapS w' Try.prog 132 me L fr := h.map.block (hg.block me (by omega) (h.own.notMap h.map.isMap))
  have hmo : me ≠ ob := fun he => h.map.isMap _ _ _ (he ▸ h.var)
  have ht := (show w.heap.size < wr.heap.size from (Array.getElem?_eq_some_iff.1 h.bx).1)
  have ht2 := (show w.heap.size + 1 < wr.heap.size from (Array.getElem?_eq_some_iff.1 h.bs).1)
  refine ⟨(h.fr.grown hg fun g hgr => .inr (.inr ((h.own.rowTypeB g hgr).imp fun cur => Exists.imp fun f hh => ⟨hh.1, by rw [bE_int]; exact Nat.zero_le _⟩))).setCell (.inl (by simp)) _, (h.bel.grown hg (Nat.le_trans hB hsz) fun k hk => (h.own.lt hk).1).setCell (.inl hob) _, ?_, ho.far hn2 _, ?_, h.sound, ?_, ?_⟩
  · unfold Var1
    rw [heap_setCell_same _ _ _ _ _ _ hV]
    rfl
  · exact hM.block (heap_setCell_other _ _ _ _ hmo)
  · rw [heap_setCell_other _ _ _ _ (by simp; omega), hg.block _ ht (h.own.notRow h.bx (by decide)), h.bx]
  · rw [heap_setCell_other _ _ _ _ (by simp; omega), hg.block _ ht2 (h.own.notRow h.bs (by decide)), h.bs]
/-- the call of itself -/
theorem ComInv.rec_ (h : ComInv X st fb S l B me ob L w wr pre ovr fr) (hol : ob < w.heap.size) (hml : me < w.heap.size) {s : St} {b : Bool} (hp : ComPost X st s B me ob L pre wr w' b ov' fr') (ho : OwS w' B 3 1 ov' (pre'.map icell)) : ComInv X st fb S l B me ob L w w' pre' ov' fr' :=
  ⟨h.fr.trans hp.fr, h.bel.trans hp.bel, hp.var, ho, hp.map, hp.sound, hp.fr.cells_keep h.bx (by simp; omega) (by decide), hp.fr.cells_keep h.bs (by simp; omega) (by decide)⟩
theorem ComInv.fin {sf : List Bool} {last : Bool} {Ao As : Option Addr} {co cs : Nat} (h : ComInv X st fb S l B me ob L w wr pre ovr fr) (hF : FinV w fb me X sf last st Ao As co cs) (hM : ∀ cur e fz, w.heap[me]? ≠ some (.cells cur e fz)) {ov : Value} (hV : Var1 w ob ov 29) : FinV wr fb me X sf last st Ao As co cs :=
  hF.fr h.fr (by decide) (by decide) (by decide) (by
    intro q hq cur e' fz hc
    simp at hq
    rcases hq with rfl | rfl
    · exact absurd hc (hM _ _ _)
    · rw [hV] at hc
      injection hc with hc
      injection hc with _ he _
      subst he
      decide)
end

theorem ComInv.memo [BaseW] {X : List Opr} {st : Int} {fb S : Nat} {l : Int} {B me ob : Nat} {L : List Lit} {w wr w' : World} {pre : List Int} {ovr : Value} {ff : Lit → Bool} (h : ComInv X st fb S l B me ob L w wr pre ovr ff) (hB : B ≤ w.heap.size) (hol : ob < w.heap.size) (hg : wr.grownBy w' (some me)) :
    FrE [me, ob] 3 w w' ∧ BelR B me w w' ∧ Var1 w' ob ovr 29 ∧ OwS w' B 3 1 ovr (pre.map icell) := by
  have hsz := h.fr.size
  have hmo : me ≠ ob := fun he => h.map.isMap _ _ _ (he ▸ h.var)
  refine ⟨h.fr.grown hg fun g hg => .inl (by cases hg; simp), h.bel.trans ⟨hg.os, hg.tape, hg.output, hg.size, fun k hk hne => hg.block k (by omega) (by simpa using hne)⟩, (hg.block ob (by omega) (by simpa using hmo.symm)).trans h.var, h.own.kept hg (.inr (h.own.notMap h.map.isMap).symm)⟩
theorem box_push {w w' : World} {B k ob : Nat} {ovr u : Value} {rows : List (List Value)} {cs : Array Value} {t : TypeId} {fz : Nat × Nat} (hb : w.heap[k]? = some (.cells cs t fz)) (ho : OwS w B 3 1 ovr rows) (ht : t ≠ 3)
    (hg : w.grownBy w' ovr.ownBlock) (hk : k ≠ ob) : (w'.setCell ⟨ob, 0, none⟩ u).heap[k]? = some (.cells cs t fz) := by
  rw [heap_setCell_other _ _ _ _ (by simpa using hk), hg.block _ (Array.getElem?_eq_some_iff.1 hb).1 (ho.notRow hb ht), hb]
theorem icell_one (x : Int) : ∀ u ∈ icell x, u.oneCell' = true := by
  intro u hu
  simp [icell] at hu
  subst hu
  rfl
end Go.Proofs.Ytcgbnlhloopnfaa
namespace Go.Proofs.Ytcgbnlhloopnfaa
open Go.RowKit
variable [BaseW]

set_option maxHeartbeats 8000000 in
set_option maxRecDepth 100000 in
theorem complete_any (fb me ob B : Nat) {X : List Opr} {sf : List Bool} {last : Bool} {st : Int} {Ao As : Option Addr} {co cs : Nat} {L : List Lit} (hlen : X.length ≤ 16) (hL : ∀ s, StOk X s → pKey s.1 s.2 ∈ L) (hLn : L.length < maxLen) (hob : B ≤ ob) :
    ∀ (m : Nat) (s : St) (pre : List Int) (ov : Value) (f : Lit → Bool) (w : World), missS X s.1 < m → StOk X s → FinV w fb me X sf last st Ao As co cs → B ≤ w.heap.size → Var1 w ob ov 29 → OwS w B 3 1 ov (pre.map icell) →
      MapS w Try.prog 132 me L f → SoundF X st f → pre.length + missS X s.1 ≤ 100000 →
      Calls Try.prog 77 #[.pointer (some ⟨fb, 0, none⟩), s.agg, .pointer (some ⟨ob, 0, none⟩)] w
        fun r w' => ∃ b ov' f', r = .returned (.bool b) ∧ ComPost X st s B me ob L pre w w' b ov' f' := by
  intro m
  induction m with
  | zero => intro s _ _ _ _ hm; omega
  | succ m ih =>
    intro s pre ov f w hm hs hF hBw hV hO hM hS hpre
    have HC : Hid (∀ W, FinV W fb me X sf last st Ao As co cs → (∀ W2, Below W.heap.size W W2 → W2.cell? ⟨w.heap.size, 0, none⟩ = some (.pointer (some ⟨fb, 0, none⟩))) → Calls Try.prog 74 #[.pointer (some ⟨fb, 0, none⟩), s.agg, .func (.func 102) #[] #[.pointer (some ⟨w.heap.size, 0, none⟩)]] W
      fun r w' => r = .returned (.bool (covS X (ansQ X) s.1)) ∧ Below W.heap.size W w') :=
      fun W hW hy => cova_any w.heap.size fb me (ansQ X) s W hW hs.1 hlen fun k hk W2 hb => ans_any w.heap.size fb me k W2 (hy W2 hb) (hW.below hb) hk
    have IH := Lib.hid ih
    clear ih
    obtain ⟨S, l⟩ := s
    have hfb : fb < w.heap.size := (Array.getElem?_eq_some_iff.1 hF.blk).1
    have hob2 : ob < w.heap.size := (Array.getElem?_eq_some_iff.1 hV).1
    have hme := hM.lt
    have HF := Lib.hid hF
    have HVr := Lib.hid hV
    have HO := Lib.hid hO
    have HM := Lib.hid hM
    have HSn := Lib.hid hS
    have HSt := Lib.hid hs
    clear hF hV hO hM hS hs
    generalize hcv : covS X (ansQ X) S = cv at *
    unfold St.agg at HC ⊢
    simp only at HC ⊢
    go_enter Try.func77, Try.ntmps77
    go_wp2_with fail
    generalize hWd : (w.alloc _).alloc _ = W
    have hbW : Below w.heap.size w W := by rw [← hWd]; exact below_laid.alloc (by simp) _
    have hx : W.heap[w.heap.size]? = some (.cells #[.pointer (some ⟨fb, 0, none⟩)] 126) := by
      rw [← hWd, Below.heap_alloc _ _ _ (by simp)]; exact heap_new_at _ _ rfl
    have hy : W.heap[w.heap.size + 1]? = some (.cells #[.int .i64 (S : Int), .int .i64 l] 132) := by
      rw [← hWd]; exact heap_new_at _ _ (by simp)
    clear hWd
    refine (HC.out W (HF.out.below hbW) (fun W2 hb => by rw [cell_of_row _ _ _ _ _ _ (keptB hx hb)]; rfl)).mono ?_
    rintro r w1 ⟨rfl, hb1⟩
    have hb01 : Below w.heap.size w w1 := hbW.trans (hb1.mono hbW.size)
    have hx1 := keptB hx hb1
    have hy1 := keptB hy hb1
    clear hx hy hb1 hbW HC
    have hV1 : Var1 w1 ob ov 29 := keptB HVr.out hb01
    cases cv
    case true =>
      have HCV := Lib.hid hcv
      clear hcv
      go_wp2
      go_ret
      exact ⟨true, ov, f, rfl, .of hb01, .of hb01 hBw, hV1, HM.out.below hb01, HSn.out, fun _ => ⟨[], _, .nil _, HCV.out, fun _ => rfl, by simpa [idsOf] using HO.out.below hb01⟩, fun h => by cases h⟩
    case false =>
      obtain ⟨wf1, wf2⟩ := HSt.out.wf hlen
      obtain ⟨hs, HH, hlook⟩ := (HM.out.below hb01).lookOk keyedSt Try.underlying127 zeroBoolK (keyOf_st _ _ wf1 wf2) (pKey_lit _ _)
      obtain ⟨fk, hfk⟩ : ∃ fk, f (pKey (S : Int) l) = fk := ⟨_, rfl⟩
      rw [hfk] at hlook HH
      have HHid := Lib.hid HH
      have HFK := Lib.hid hfk
      have HCV := Lib.hid hcv
      have HV1 := Lib.hid hV1
      clear HH hfk hcv hV1
      obtain ⟨x0, x1⟩ : w1.cell? ⟨w.heap.size, 0, none⟩ = some (.pointer (some ⟨fb, 0, none⟩)) ∧ True := ⟨by rw [cell_of_row _ _ _ _ _ _ hx1]; rfl, trivial⟩
      obtain ⟨y0, y1⟩ := stBox hy1
      obtain ⟨f0, f1, f2, f3, f4⟩ := (HF.out.below hb01).cells
      have HX1 := Lib.hid hx1
      have HY1 := Lib.hid hy1
      clear hx1 hy1
      cases fk
      case true =>
        obtain rfl : hs = true := by
          rcases hs with _ | _
          · exact absurd (HHid.out rfl) (by simp)
          · rfl
        go_wp2_with fail
        go_quiet (fail)
        go_wp2
        go_ret
        exact ⟨false, ov, f, rfl, (FrE.of hb01).drewN _, (BelR.of hb01 hBw).drewN _, HV1.out, (HM.out.below hb01).drewN _, HSn.out, fun h => (by cases h), fun _ => ⟨HSn.out _ HSt.out HFK.out, HO.out.below (below_drewN hb01 _)⟩⟩
      case false =>
        go_wp2_with fail
        go_quiet (fail)
        go_upto_region 4 with (fail)
        go_cut [28] (fun s28 wx => s28 = .bool false ∧ wx = w1.drewN nq)
        case first =>
          cases hs
          all_goals
            go_wp2_with fail
            go_meet
            exact ⟨rfl, rfl⟩
        obtain ⟨rfl, rfl⟩ := hcut
        go_wp2_with fail
        have hF1 := HF.out.below (below_drewN hb01 nq)
        have hbq : Below w.heap.size w (w1.drewN nq) := below_drewN hb01 nq
        have hVq : Var1 (w1.drewN nq) ob ov 29 := HV1.out
        have hOq := HO.out.below hbq
        have hMq := HM.out.below hbq
        have hxq : (w1.drewN nq).heap[w.heap.size]? = some (.cells #[.pointer (some ⟨fb, 0, none⟩)] 126) := HX1.out
        have hyq : (w1.drewN nq).heap[w.heap.size + 1]? = some (.cells #[.int .i64 (S : Int), .int .i64 l] 132) := HY1.out
        generalize w1.drewN nq = wq at *
        have HFQ := Lib.hid hF1
        have HBQ := Lib.hid hbq
        have HVQ := Lib.hid hVq
        have HOQ := Lib.hid hOq
        have HMQ := Lib.hid hMq
        have HXQ := Lib.hid hxq
        have HYQ := Lib.hid hyq
        clear hF1 hbq hVq hOq hMq hxq hyq HX1 HY1 HV1 x0 y0 y1 f0 f1 f2 f3 f4
        go_loopw [35] (fun v wr => ∃ (k : Nat) (ovr : Value) (fr : Lit → Bool), k ≤ X.length ∧ v = .int .i64 k ∧ (∀ i t, i < k → nextS X st (S, l) i = some t → ¬ Compl X st t) ∧ ComInv X st fb S l B me ob L w wr pre ovr fr) (fun v _ => X.length - (intOf v).toNat)
        case atStart => exact ⟨0, ov, f, by omega, rfl, fun i _ hi => absurd hi (by omega), .of HBQ.out, .of HBQ.out hBw, HVQ.out, HOQ.out, HMQ.out, HSn.out, HXQ.out, HYQ.out⟩
        case round =>
          obtain ⟨k, ovr, fr, hk, rfl, hno, hinv⟩ := hrel
          have HN := Lib.hid hno
          have HI := Lib.hid hinv
          have HFin := Lib.hid (hinv.fin HF.out HM.out.isMap HVr.out)
          obtain ⟨f0, f1, f2, f3, f4⟩ := HFin.out.cells
          have x0 : wr.cell? ⟨w.heap.size, 0, none⟩ = some (.pointer (some ⟨fb, 0, none⟩)) := by rw [cell_of_row _ _ _ _ _ _ hinv.bx]; rfl
          obtain ⟨y0, y1⟩ := stBox hinv.bs
          have hsz := hinv.fr.size
          clear hno hinv
          by_cases hlt : k < X.length
          · have HNX := Lib.hid (fun W (hW : Below wr.heap.size wr W) => next_any fb me k (S, l) W (HFin.out.below hW) HSt.out.1 HSt.out.2.2 hlt hlen)
            unfold St.agg at HNX
            simp only at HNX
            rcases hnx : nextS X st (S, l) k with _ | ⟨tS, tl⟩
            · have hR : nextR X st (S, l) k = ((S, l), false) := by unfold nextR; rw [hnx]
              rw [hR] at HNX
              have HNN := Lib.hid hnx
              clear hR hnx
              go_wp2_with fail
              refine (HNX.out _ (Below.refl _ _)).mono ?_
              rintro r w2 ⟨rfl, hb2⟩
              have hba := hb2.alloc hb2.size (.cells #[.int .i64 (S : Int), .int .i64 l] 132)
              go_wp2
              go_roundw
              case rel => exact ⟨k + 1, ovr, fr, by omega, by go_num, fun i t hi hn => by
                rcases Nat.lt_or_eq_of_le (Nat.le_of_lt_succ hi) with hi' | rfl
                · exact HN.out i t hi' hn
                · exact absurd (HNN.out.symm.trans hn) (by simp), HI.out.below hba hBw⟩
              case measure => simp [intOf]; omega
            · have hR : nextR X st (S, l) k = ((tS, tl), true) := by unfold nextR; rw [hnx]
              rw [hR] at HNX
              have HNN := Lib.hid hnx
              have HTok := Lib.hid (HSt.out.next hlt hlen hnx)
              have hmt : missS X tS < missS X S := miss_next hlt hnx
              clear hR hnx
              go_wp2_with fail
              refine (HNX.out _ (Below.refl _ _)).mono ?_
              rintro r w2 ⟨rfl, hb2⟩
              go_upto_region 11 with (fail)
              have hba := hb2.alloc hb2.size (.cells #[.int .i64 (tS : Int), .int .i64 tl] 132)
              have htb : (w2.alloc (.cells #[.int .i64 (tS : Int), .int .i64 tl] 132)).heap[w2.heap.size]? = some (.cells #[.int .i64 (tS : Int), .int .i64 tl] 132) := heap_new_at _ _ rfl
              clear f0 f1 f2 f3 f4 x0 y0 y1
              have HFin3 := Lib.hid (HFin.out.below hba)
              have HI3 := Lib.hid (HI.out.below hba hBw)
              have hz2 := hb2.size
              generalize w2.alloc _ = w3 at *
              obtain ⟨bo, off, rfl⟩ := ops_at HFin3.out.ops (by omega)
              obtain ⟨f0, f1, f2, f3, f4⟩ := HFin3.out.cells
              obtain ⟨hbl, c0, -⟩ := ops_cells HFin3.out.ops hlt
              have x0 : w3.cell? ⟨w.heap.size, 0, none⟩ = some (.pointer (some ⟨fb, 0, none⟩)) := by rw [cell_of_row _ _ _ _ _ _ HI3.out.bx]; rfl
              obtain ⟨Av, nv, cv, rfl⟩ := HI3.out.own.isSlice
              have v0 : w3.cell? ⟨ob, 0, none⟩ = some (.slice Av nv cv) := by rw [cell_of_row _ _ _ _ _ _ HI3.out.var]; rfl
              have HTB := Lib.hid htb
              have hz3 := hba.size
              have hob3 : ob < w3.heap.size := by omega
              have hfb3 : fb < w3.heap.size := by omega
              have hws3 : w.heap.size < w3.heap.size := (Array.getElem?_eq_some_iff.1 HI3.out.bx).1
              have HBA := Lib.hid hba
              clear htb hba hb2
              go_cut [9] (fun s9 wx => s9 = .int .i64 k ∧ ∃ ov4, ComInv X st fb S l B me ob L w wx (pre ++ [(opAt X k).id]) ov4 fr ∧ wx.heap[w2.heap.size]? = some (.cells #[.int .i64 (tS : Int), .int .i64 tl] 132))
              case first =>
                go_region_law (refine step_ap1 (by rfl) (.tmp 49) (.tmp 59) _ (by rfl) elemInt (by rfl) (HI3.out.own.drewN 1) (icell (opAt X k).id) _ (by rfl) w3.heap.size (by rfl) (by simp) (icell_one _) (by simp [maxLen]; omega) (by simp; omega) (by simp; omega) ?_; intro v4 w4 hown4 hg4 hv4; obtain ⟨A4, n4, c4, rfl⟩ := hown4.isSlice; have hg4' := grow_drewN (grow_alloc hg4); have hV4 : Var1 w4 ob (.slice Av nv cv) 29 := (hg4'.block ob (by omega) (HI3.out.own.notRow HI3.out.var (by decide))).trans HI3.out.var; have d0 := (cell_of_row w4 ob 0 _ _ _ hV4).trans (show _ = some (.slice Av nv cv) from rfl); have y0 := frozen_of_row w4 ob 0 _ _ hV4)
                all_goals
                  go_wp2_with fail
                  go_meet
                  exact ⟨rfl, _, HI3.out.push hBw hob hob2 hme hg4' (by simpa using hown4) (hv4.imp id fun h => ⟨_, h, by simp⟩), box_push HTB.out HI3.out.own (by decide) hg4' (by omega)⟩
              case rest =>
                obtain ⟨rfl, ov4, hI4, htb4⟩ := hcut
                have HI4 := Lib.hid hI4
                have HT4 := Lib.hid htb4
                have HFin4 := Lib.hid (hI4.fin HF.out HM.out.isMap HVr.out)
                have x4 : wc.cell? ⟨w.heap.size, 0, none⟩ = some (.pointer (some ⟨fb, 0, none⟩)) := by rw [cell_of_row _ _ _ _ _ _ hI4.bx]; rfl
                obtain ⟨t0, t1⟩ := stBox htb4
                clear hI4 htb4 c0 x0 v0 f0 f1 f2 f3 f4
                go_wp2_with fail
                refine (IH.out (tS, tl) (pre ++ [(opAt X k).id]) ov4 fr _ (by simp only; omega) HTok.out HFin4.out (Nat.le_trans hBw HI4.out.fr.size) HI4.out.var HI4.out.own HI4.out.map HI4.out.sound (by simp; omega)).mono ?_
                rintro r w5 ⟨b, ov5, f5, rfl, hp⟩
                have HP := Lib.hid hp
                clear hp x4 t0 t1
                cases b
                case true =>
                  obtain ⟨p, u, p1, p2, -, p3⟩ := HP.out.yes rfl
                  have hov : OwS w5 B 3 1 ov5 ((pre ++ idsOf X (k :: p)).map icell) := by
                    rw [show pre ++ idsOf X (k :: p) = pre ++ [(opAt X k).id] ++ idsOf X p by simp [idsOf]]; exact p3
                  have HV5 := Lib.hid hov
                  clear hov p3
                  go_wp2
                  go_ret
                  exact ⟨true, ov5, f5, rfl, HI4.out.fr.trans HP.out.fr, HI4.out.bel.trans HP.out.bel, HP.out.var, HP.out.map, HP.out.sound, fun _ => ⟨k :: p, u, .cons hlt HNN.out p1, p2, fun h => absurd (HCV.out.symm.trans h) (by simp), HV5.out⟩, fun h => (by cases h)⟩
                case false =>
                  obtain ⟨hnc, hov⟩ := HP.out.no rfl
                  have HI5 := Lib.hid (HI4.out.rec_ hob2 hme HP.out hov)
                  have HNC := Lib.hid hnc
                  obtain ⟨A5, c5, rfl, hc5, -⟩ := hov.form
                  simp only [List.length_map, List.length_append, List.length_cons, List.length_nil] at hc5
                  rw [show ((pre ++ [(opAt X k).id]).map icell).length = pre.length + 1 by simp] at HI5 hov
                  obtain ⟨b5, o5, rfl, -⟩ := hov.reads.2 (by simp)
                  have hsh := OwS.short hov (m := pre.length) (by simp)
                  rw [show ((pre ++ [(opAt X k).id]).map icell).take pre.length = pre.map icell by simp] at hsh
                  have HSH := Lib.hid hsh
                  clear hnc hov hsh HP
                  have v5 : w5.cell? ⟨ob, 0, none⟩ = some (.slice (some ⟨b5, o5, none⟩) (pre.length + 1) c5) := by rw [cell_of_row _ _ _ _ _ _ HI5.out.var]; rfl
                  have y5 : w5.frozen? ⟨ob, 0, none⟩ = false := frozen_of_row _ _ _ _ _ HI5.out.var
                  go_wp2_with fail
                  have hsub : ((pre.length : Int) + 1 - 1) = (pre.length : Int) := by omega
                  have HZ5 := HI5.out.fr.size
                  clear IH
                  refine still_tail_drew 11 (by kernel_rfl) (by kernel_rfl) ?_
                  simp only [List.take_succ_cons, List.take_zero, List.drop_succ_cons, List.drop_zero]
                  have dv5 : w5.drew.cell? ⟨ob, 0, none⟩ = some (.slice (some ⟨b5, o5, none⟩) (pre.length + 1) c5) := v5
                  still_step
                  still_step
                  still_step
                  still_step
                  still_step
                  still_step
                  still_step
                  still_step
                  have hle5 : (pre.length : Int) ≤ (c5 : Int) := by omega
                  have hge5 : (0 : Int) ≤ (pre.length : Int) := by omega
                  have hwr5 : IntKind.i64.wrap (pre.length : Int) = (pre.length : Int) := IntWalk.i64_in _ (by omega)
                  still_step
                  still_step
                  still_step
                  refine wpStill_nil ?_
                  have dy5 : w5.drew.frozen? ⟨ob, 0, none⟩ = false := y5
                  have HI6 := Lib.hid ((show ComInv X st fb S l B me ob L w w5 (pre ++ [(opAt X k).id]) _ f5 from HI5.out).push hBw hob hob2 hme (w' := w5.drew) ⟨rfl, rfl, rfl, Nat.le_refl _, fun _ _ _ => rfl⟩ (show OwS w5.drew B 3 1 (.slice (some ⟨b5, o5, none⟩) pre.length c5) (pre.map icell) from HSH.out) (.inl rfl))
                  clear hsub hle5 hge5 hwr5
                  go_wp2
                  go_roundw
                  case rel => exact ⟨k + 1, _, f5, by omega, by go_num, fun i t hi hn => by
                    rcases Nat.lt_or_eq_of_le (Nat.le_of_lt_succ hi) with hi' | rfl
                    · exact HN.out i t hi' hn
                    · rw [HNN.out] at hn
                      injection hn with hn
                      rw [← hn]
                      exact HNC.out, HI6.out⟩
                  case measure => simp [intOf]; omega
          · obtain rfl : k = X.length := by omega
            have hall : ∀ i t, i < X.length → nextS X st (S, l) i = some t → ¬ Compl X st t := HN.out
            have HD := Lib.hid (compl_step HCV.out hall)
            have hkl := hL _ HSt.out
            have HKL := Lib.hid hkl
            have HMR := Lib.hid HI.out.map
            clear hall hkl hL hlook
            go_wp2_with fail
            refine still_tail_drew 5 (by kernel_rfl) (by kernel_rfl) ?_
            simp only [List.take_succ_cons, List.take_zero, List.drop_succ_cons, List.drop_zero]
            repeat still_step
            refine wpStill_nil ?_
            refine wpList_putS rfl (.tmp 81) (.tmp 82) (.const (.bool true)) _ rfl keyedSt Try.underlying127 rfl (show MapS wr.drew _ _ _ _ _ from HMR.out) hLn _ (pKey (S : Int) l) rfl (keyOf_st _ _ wf1 wf2) (pKey_lit _ _) HKL.out true rfl ?_
            intro w6 hm6 hg6
            have HM6 := Lib.hid hm6
            have HG6 := Lib.hid hg6
            clear hm6 hg6 wf1 wf2 hLn
            go_wp2
            go_ret
            obtain ⟨e1, e2, e3, e4⟩ := HI.out.memo hBw hob2 (show wr.grownBy w6 (some me) from ⟨HG6.out.os, HG6.out.tape, HG6.out.output, HG6.out.size, HG6.out.block⟩)
            have e5 := HI.out.sound.put hlen HSt.out HD.out
            have e6 := HD.out
            have e7 := HM6.out
            have fin : ComPost X st (S, l) B me ob L pre w w6 false ovr (updK fr (pKey (S : Int) l) true) := ⟨e1, e2, e3, e7, e5, fun h => absurd h (by simp), fun _ => ⟨e6, e4⟩⟩
            exact ⟨false, ovr, updK fr (pKey (S : Int) l) true, rfl, fin⟩
end Go.Proofs.Ytcgbnlhloopnfaa
namespace Go.Proofs.Ytcgbnlhloopnfaa
open Go.RowKit

/-- no good state can be reached from a state -/
def DeadV (X : List Opr) (st : Int) (Vis : St → Prop) (s : St) : Prop := ∀ p m, Path X st s p m → ¬ Vis m
theorem deadV_step {X : List Opr} {st : Int} {Vis : St → Prop} {s : St} (h0 : ¬ Vis s) (h : ∀ i t, i < X.length → nextS X st s i = some t → DeadV X st Vis t) : DeadV X st Vis s := by
  intro p m hp
  cases hp with
  | nil => exact h0
  | cons hi hn hp => exact h _ _ hi hn _ _ hp
/-- what has been seen is dead, or lies at n missing operations or more -/
def SeenV (X : List Opr) (st : Int) (Vis : St → Prop) (n : Nat) (f : Lit → Bool) : Prop := ∀ t, StOk X t → f (pKey t.1 t.2) = true → DeadV X st Vis t ∨ n ≤ missS X t.1
/-- what is newly seen is dead -/
def ExtV (X : List Opr) (st : Int) (Vis : St → Prop) (f f' : Lit → Bool) : Prop := ∀ t, StOk X t → f' (pKey t.1 t.2) = true → f (pKey t.1 t.2) = true ∨ DeadV X st Vis t
section
variable {X : List Opr} {st : Int} {Vis : St → Prop} {n : Nat} {f f' f'' : Lit → Bool}
theorem ExtV.refl (X : List Opr) (st : Int) (Vis : St → Prop) (f : Lit → Bool) : ExtV X st Vis f f := fun _ _ h => .inl h
theorem ExtV.trans (h : ExtV X st Vis f f') (h' : ExtV X st Vis f' f'') : ExtV X st Vis f f'' := fun t ht hf => (h' t ht hf).elim (h t ht) .inr
theorem SeenV.ext (h : SeenV X st Vis n f) (h' : ExtV X st Vis f f') : SeenV X st Vis n f' := fun t ht hf => (h' t ht hf).elim (h t ht) .inl
theorem SeenV.mono {m : Nat} (h : SeenV X st Vis n f) (hm : m ≤ n) : SeenV X st Vis m f := fun t ht hf => (h t ht hf).imp id (Nat.le_trans hm)
theorem upd_key (hl : X.length ≤ 16) {s t : St} (hs : StOk X s) (ht : StOk X t) (h : updK f (pKey s.1 s.2) true (pKey t.1 t.2) = true) : t = s ∨ f (pKey t.1 t.2) = true := by
  unfold updK at h
  by_cases he : pKey t.1 t.2 = pKey s.1 s.2
  · obtain ⟨a1, a2⟩ := ht.wf hl
    obtain ⟨b1, b2⟩ := hs.wf hl
    obtain ⟨e1, e2⟩ := pKey_inj a1 a2 b1 b2 he
    exact .inl (Prod.ext (Int.ofNat_inj.1 e1) e2)
  · rw [Maps.sameKey_ne he] at h
    exact .inr h
theorem SeenV.put (h : SeenV X st Vis (n + 1) f) (hl : X.length ≤ 16) {s : St} (hs : StOk X s) (hn : missS X s.1 = n) : SeenV X st Vis n (updK f (pKey s.1 s.2) true) := fun t ht hf => by
  rcases upd_key hl hs ht hf with rfl | h1
  · exact .inr (by omega)
  · exact (h t ht h1).imp id (fun h => by omega)
theorem ExtV.put (hl : X.length ≤ 16) {s : St} (hs : StOk X s) (hd : DeadV X st Vis s) : ExtV X st Vis f (updK f (pKey s.1 s.2) true) := fun t ht hf => by
  rcases upd_key hl hs ht hf with rfl | h1
  · exact .inr hd
  · exact .inl h1
end

/-- the four variables that the walk captures -/
structure VarsB (W : World) (fb ms bs bv bf bw : Nat) (vf wf : Value) : Prop where
  s : Var1 W bs (.map (some ms)) 127
  v : Var1 W bv vf 140
  f : Var1 W bf (.pointer (some ⟨fb, 0, none⟩)) 126
  w : Var1 W bw wf 140
theorem VarsB.fr [BaseW] {W W' : World} {fb ms bs bv bf bw : Nat} {vf wf : Value} {T : List Nat} (h : VarsB W fb ms bs bv bf bw vf wf) (hf : FrE T 138 W W') (h1 : bs ∉ T) (h2 : bv ∉ T) (h3 : bf ∉ T) (h4 : bw ∉ T) : VarsB W' fb ms bs bv bf bw vf wf :=
  ⟨hf.cells_keep h.s h1 (by decide), hf.cells_keep h.v h2 (by decide), hf.cells_keep h.f h3 (by decide), hf.cells_keep h.w h4 (by decide)⟩
theorem VarsB.below {W W' : World} {fb ms bs bv bf bw : Nat} {vf wf : Value} (h : VarsB W fb ms bs bv bf bw vf wf) (hb : Below W.heap.size W W') : VarsB W' fb ms bs bv bf bw vf wf :=
  ⟨keptB h.s hb, keptB h.v hb, keptB h.f hb, keptB h.w hb⟩
theorem VarsB.cells {W : World} {fb ms bs bv bf bw : Nat} {vf wf : Value} (h : VarsB W fb ms bs bv bf bw vf wf) : W.cell? ⟨bs, 0, none⟩ = some (.map (some ms)) ∧ W.cell? ⟨bv, 0, none⟩ = some vf ∧ W.cell? ⟨bf, 0, none⟩ = some (.pointer (some ⟨fb, 0, none⟩)) ∧ W.cell? ⟨bw, 0, none⟩ = some wf := by
  refine ⟨?_, ?_, ?_, ?_⟩
  · rw [cell_of_row _ _ _ _ _ _ h.s]; rfl
  · rw [cell_of_row _ _ _ _ _ _ h.v]; rfl
  · rw [cell_of_row _ _ _ _ _ _ h.f]; rfl
  · rw [cell_of_row _ _ _ _ _ _ h.w]; rfl

/-- the frame of the visits: what the walk asks of what they keep (J) and of where they come to (Done) -/
structure VisJ (X : List Opr) (sf : List Bool) (last : Bool) (st : Int) (Ao As : Option Addr) (co cs fb me ms : Nat) (T : List Nat) (J : World → Prop) : Prop where
  fin : ∀ W, J W → FinV W fb me X sf last st Ao As co cs
  stay : ∀ W W', J W → (∀ cur e fz, W.heap[ms]? ≠ some (.cells cur e fz)) → BelR W.heap.size ms W W' → J W'
  typ : ∀ W, J W → ∀ k ∈ T, ∀ cur e' fz, W.heap[k]? = some (.cells cur e' fz) → e' = 100
  lt : ∀ W, J W → ∀ k ∈ T, k < W.heap.size
  msT : ms ∉ T
theorem flat_icell (ids : List Int) : (ids.map icell).flatten = ids.map (Value.int .i64) := by
  induction ids with
  | nil => rfl
  | cons a l ih => simp [icell]; exact ih
/-- an order, as it is read -/
theorem ord_cells {w : World} {A : Option Addr} {n c : Nat} {ids : List Int} (h : OwS w 0 3 1 (.slice A n c) (ids.map icell)) :
    (A = none → n = 0 ∧ c = 0) ∧ n = ids.length ∧ n ≤ c ∧ (∀ b, A = some b → ∀ j u, (ids.map (Value.int .i64))[j]? = some u → w.cell? (b.add j) = some u) ∧ (A = none ∨ ∃ g, A = some ⟨g, 0, none⟩) := by
  obtain ⟨h1, h2⟩ := h
  have hc := fun g hg => h2.cells (g := g) hg
  rw [flat_icell] at hc
  rcases h2.2 with ⟨he, h0⟩ | ⟨g, cap, cur, he, hb, hh, hnc, hcm, hsz, ht⟩
  · injection he with e1 e2 e3
    subst e1 e2 e3
    simp at h0
    exact ⟨fun _ => ⟨rfl, rfl⟩, by simp [h0], Nat.le_refl _, fun b hb => absurd hb (by simp), .inl rfl⟩
  · injection he with e1 e2 e3
    subst e1 e2 e3
    simp only [List.length_map] at *
    exact ⟨fun h => absurd h (by simp), trivial, hnc, (fun b hb => by cases hb; exact hc g rfl), .inr ⟨g, rfl⟩⟩
theorem oper_ordApp {w : World} {o : Oper} {a : Act} {K : Act → World → Prop} {Q : Exit → Act → World → Prop} (s x : Operand)
    (ho : o.op = .call { callee := .builtin .append, args := #[s, x], argTypes := #[29, 29] }) {A : Option Addr} {n c : Nat} {ids : List Int} (hs : a.eval s = .slice A n n) (h : OwS w 0 3 1 (.slice A n c) (ids.map icell))
    (val : Int) (g : Nat) (hx : a.eval x = .slice (some ⟨g, 0, none⟩) 1 1) (hg : g = w.heap.size) (hlen : n ≤ 1000)
    (hK : ∀ A' c' w', OwS w' 0 3 1 (.slice A' (n + 1) c') ((ids ++ [val]).map icell) → (w.alloc (.cells #[.int .i64 val] 3)).grownBy w' none → K (a.put o.dst (.slice A' (n + 1) c')) w') :
    Oper.wp Try.prog o a (w.alloc (.cells #[.int .i64 val] 3)) K Q := by
  subst hg
  obtain ⟨h1, h2, h3, h4, -⟩ := ord_cells h
  obtain ⟨ht, hsz, i, z, hi, hz, hsize, hby, hzs⟩ := elemInt
  have fin : ∀ v' w', w'.ownsRow (w.alloc (.cells #[.int .i64 val] 3)).heap.size 3 1 v' (n + 1) (ids.map (Value.int .i64) ++ [.int .i64 val]) → (w.alloc (.cells #[.int .i64 val] 3)).grownBy w' none → K (a.put o.dst v') w' := by
    intro v' w' ho' hg'
    have hl : ((ids ++ [val]).map icell).length = n + 1 := by simp [h2]
    have hO : OwS w' 0 3 1 v' ((ids ++ [val]).map icell) := by
      refine ⟨fun r hr => by obtain ⟨a, _, rfl⟩ := List.mem_map.1 hr; rfl, ?_⟩
      rw [flat_icell]
      obtain ⟨g1, g2⟩ := ho'
      refine ⟨by simp, ?_⟩
      rw [hl]
      rcases g2 with ⟨e1, e2⟩ | ⟨g, cap, cur, e1, e2, e3⟩
      · omega
      · exact .inr ⟨g, cap, cur, e1, Nat.zero_le _, by simpa using e3⟩
    obtain ⟨A', c', rfl, -, -⟩ := hO.form
    rw [hl] at hO ⊢
    exact hK A' c' w' hO hg'
  have hnew : ∀ j u, [Value.int .i64 val][j]? = some u → (w.alloc (.cells #[.int .i64 val] 3)).cell? ((⟨w.heap.size, 0, none⟩ : Addr).add j) = some u := fun j u hu => by
    match j, hu with
    | 0, hu =>
      simp at hu
      subst hu
      exact (cell_of_row _ w.heap.size _ _ _ _ (heap_alloc_new w _)).trans rfl
  have hone : ∀ u ∈ [Value.int .i64 val], u.oneCell' = true := by simp [Value.oneCell']
  rcases A with _ | b
  · obtain ⟨rfl, rfl⟩ := h1 rfl
    have hids : ids = [] := List.eq_nil_of_length_eq_zero h2.symm
    subst hids
    obtain ⟨v', w', hrun, r1, r2, -⟩ := run_append_own (P := Try.prog) (w.alloc (.cells #[.int .i64 val] 3)) (w.alloc (.cells #[.int .i64 val] 3)).heap.size 29 o.type 3 i z 1 8 ht hi hz hsize hby hzs hsz (.slice none 0 0) 0 [] (World.ownsRow_nil _ _ _ _) ⟨w.heap.size, 0, none⟩ 1 1 [.int .i64 val] rfl hnew hone (by unfold maxLen; omega) (by omega) (Nat.le_refl _)
    unfold Oper.wp execOp
    simp only [ho, resolve, invoke, builtin, Sem.run_bind, Sem.run_pure, Result.andThen_ok, List.map_toArray, List.map_cons, List.map_nil, hs, hx, hrun]
    exact fin v' w' r1 r2
  · obtain ⟨v', w', hrun, r1, r2⟩ := run_append_arg_grows (P := Try.prog) (w.alloc (.cells #[.int .i64 val] 3)) 29 o.type 3 i z 1 8 ht hi hz hsize hby hzs hsz b n n (ids.map (Value.int .i64)) (by simp [h2]) (fun j u hu => by
      have hc := h4 b rfl j u hu
      have hl := block_lt_of_cell hc
      rw [((Below.refl _ _).alloc (Nat.le_refl _) _ : Below w.heap.size w _).cell hl, hc]) ⟨w.heap.size, 0, none⟩ 1 1 [.int .i64 val] rfl hnew (by omega) (by unfold maxLen; omega) (by omega)
    unfold Oper.wp execOp
    simp only [ho, resolve, invoke, builtin, Sem.run_bind, Sem.run_pure, Result.andThen_ok, List.map_toArray, List.map_cons, List.map_nil, hs, hx, hrun]
    exact fin v' w' r1 r2
theorem step_ordApp {w : World} {ops : Array Oper} {o : Oper} {a : Act} {K : Act → World → Prop} {Q : Exit → Act → World → Prop} {E' : Prop} (hw : Region.wanted o (yielded ops a.tmps) = true) (s x : Operand)
    (ho : o.op = .call { callee := .builtin .append, args := #[s, x], argTypes := #[29, 29] }) {A : Option Addr} {n c : Nat} {ids : List Int} (hs : a.eval s = .slice A n n) (h : OwS w 0 3 1 (.slice A n c) (ids.map icell))
    (val : Int) (g : Nat) (hx : a.eval x = .slice (some ⟨g, 0, none⟩) 1 1) (hg : g = w.heap.size) (hlen : n ≤ 1000)
    (hK : ∀ A' c' w', OwS w' 0 3 1 (.slice A' (n + 1) c') ((ids ++ [val]).map icell) → (w.alloc (.cells #[.int .i64 val] 3)).grownBy w' none → K (a.put o.dst (.slice A' (n + 1) c')) w') :
    if Region.wanted o (yielded ops a.tmps) = true then Oper.wp Try.prog o a (w.alloc (.cells #[.int .i64 val] 3)) K Q else E' := by
  rw [if_pos hw]
  exact oper_ordApp s x ho hs h val g hx hg hlen hK
/-- what a visit leaves -/
def VisP [BaseW] (T : List Nat) (J Done : World → Prop) (Vis : St → Prop) (s : St) (w : World) (r : Ending) (w' : World) : Prop := ∃ b, r = .returned (.bool b) ∧ FrE T 138 w w' ∧ (b = true → Done w') ∧ (b = false → J w' ∧ ¬ Vis s)
/-- what the walk leaves -/
def WkP [BaseW] (X : List Opr) (st : Int) (ms : Nat) (T : List Nat) (J Done : World → Prop) (Vis : St → Prop) (L : List Lit) (s : St) (f : Lit → Bool) (w : World) (r : Ending) (w' : World) : Prop :=
  ∃ b f', r = .returned (.bool b) ∧ FrE (ms :: T) 138 w w' ∧ (b = true → Done w') ∧ (b = false → J w' ∧ MapS w' Try.prog 132 ms L f' ∧ DeadV X st Vis s ∧ ExtV X st Vis f f')
/-- .. in a slot -/
def CutP [BaseW] (X : List Opr) (st : Int) (ms : Nat) (T : List Nat) (J Done : World → Prop) (Vis : St → Prop) (L : List Lit) (s : St) (f : Lit → Bool) (w : World) (sv : Value) (w' : World) : Prop :=
  ∃ b f', sv = .bool b ∧ FrE (ms :: T) 138 w w' ∧ (b = true → Done w') ∧ (b = false → J w' ∧ MapS w' Try.prog 132 ms L f' ∧ DeadV X st Vis s ∧ ExtV X st Vis f f')
/-- what stands while the walk goes over the operations -/
structure WkInv [BaseW] (X : List Opr) (S : Nat) (l : Int) (fb ms bs bv bf bw : Nat) (vf wf : Value) (T : List Nat) (J : World → Prop) (L : List Lit) (v : Value) (ids : List Int) (w wr : World) (ff : Lit → Bool) : Prop where
  fr : FrE (ms :: T) 138 w wr
  j : J wr
  vars : VarsB wr fb ms bs bv bf bw vf wf
  map : MapS wr Try.prog 132 ms L ff
  bx : wr.heap[w.heap.size]? = some (.cells #[.int .i64 (S : Int), .int .i64 l] 132)
  ord : OwS wr 0 3 1 v (ids.map icell)
section
variable [BaseW] {X : List Opr} {sf : List Bool} {last : Bool} {st : Int} {Ao As : Option Addr} {co cs fb me : Nat} {S : Nat} {l : Int} {ms bs bv bf bw : Nat} {vf wf : Value} {T : List Nat} {J : World → Prop} {L : List Lit} {v : Value} {ids : List Int} {w wr w' : World} {ff f' : Lit → Bool}
/-- the state is marked as seen -/
theorem WkInv.mark {f0 : Lit → Bool} (h : WkInv X S l fb ms bs bv bf bw vf wf T J L v ids w wr f0) (hJ : VisJ X sf last st Ao As co cs fb me ms T J) (hg : wr.grownBy w' (some ms)) (hm : MapS w' Try.prog 132 ms L f') : WkInv X S l fb ms bs bv bf bw vf wf T J L v ids w w' f' := by
  have hf : FrE (ms :: T) 138 wr w' := (FrE.refl _ _ _).grown hg fun g hg => .inl (by cases hg; simp)
  have ne : ∀ {k : Nat} {cs : Array Value} {t : TypeId} {fz : Nat × Nat}, wr.heap[k]? = some (.cells cs t fz) → w'.heap[k]? = some (.cells cs t fz) := fun {k cs t fz} hb => by
    rw [hg.block k (Array.getElem?_eq_some_iff.1 hb).1 (fun he => by injection he with he; subst he; exact h.map.isMap _ _ _ hb), hb]
  refine ⟨h.fr.trans hf, hJ.stay _ _ h.j h.map.isMap ⟨hg.os, hg.tape, hg.output, hg.size, fun k hk hne => hg.block k hk (by simpa using hne)⟩, ⟨ne h.vars.s, ne h.vars.v, ne h.vars.f, ne h.vars.w⟩, hm, ne h.bx, h.ord.kept hg (.inr (h.ord.notMap h.map.isMap).symm)⟩
theorem WkInv.below (h : WkInv X S l fb ms bs bv bf bw vf wf T J L v ids w wr ff) (hJ : VisJ X sf last st Ao As co cs fb me ms T J) (hb : Below wr.heap.size wr w') : WkInv X S l fb ms bs bv bf bw vf wf T J L v ids w w' ff :=
  ⟨h.fr.trans (.of hb), hJ.stay _ _ h.j h.map.isMap (.of hb (Nat.le_refl _)), h.vars.below hb, h.map.below hb, keptB h.bx hb, h.ord.below hb⟩
theorem WkInv.fr2 (h : WkInv X S l fb ms bs bv bf bw vf wf T J L v ids w wr ff) (hJ : VisJ X sf last st Ao As co cs fb me ms T J) (hlt : ∀ k ∈ ms :: T, k < w.heap.size) (hn : bs ∉ ms :: T ∧ bv ∉ ms :: T ∧ bf ∉ ms :: T ∧ bw ∉ ms :: T)
    (hf : FrE (ms :: T) 138 wr w') (hj : J w') (hm : MapS w' Try.prog 132 ms L f') : WkInv X S l fb ms bs bv bf bw vf wf T J L v ids w w' f' := by
  refine ⟨h.fr.trans hf, hj, h.vars.fr hf hn.1 hn.2.1 hn.2.2.1 hn.2.2.2, hm, hf.cells_keep h.bx (fun hm => Nat.lt_irrefl _ (hlt _ hm)) (by decide), h.ord.fr hf (by decide) fun k hk cur fz hc => ?_⟩
  rcases List.mem_cons.1 hk with rfl | hk
  · exact h.map.isMap _ _ _ hc
  · exact absurd (hJ.typ _ h.j k hk _ _ _ hc) (by decide)
theorem WkInv.finFr (h : WkInv X S l fb ms bs bv bf bw vf wf T J L v ids w wr ff) (hJ : VisJ X sf last st Ao As co cs fb me ms T J) (hf : FrE (ms :: T) 138 wr w') : FinV w' fb me X sf last st Ao As co cs :=
  (hJ.fin _ h.j).fr hf (by decide) (by decide) (by decide) (by
    intro q hq cur e' fz hc
    rcases List.mem_cons.1 hq with rfl | hq
    · exact absurd hc (h.map.isMap _ _ _)
    · rw [hJ.typ _ h.j q hq _ _ _ hc]
      decide)
end
end Go.Proofs.Ytcgbnlhloopnfaa
namespace Go.Proofs.Ytcgbnlhloopnfaa
open Go.RowKit
variable [BaseW]

set_option maxHeartbeats 8000000 in
set_option maxRecDepth 100000 in
theorem walk_any (fb me ms bs bv bf bw c1 c2 c3 : Nat) {X : List Opr} {sf : List Bool} {last : Bool} {st : Int} {Ao As : Option Addr} {co cs : Nat} {L : List Lit} (T : List Nat) (J Done : World → Prop) (Vis : St → Prop)
    (hlen : X.length ≤ 16) (hL : ∀ s, StOk X s → pKey s.1 s.2 ∈ L) (hLn : L.length < maxLen) (hJ : VisJ X sf last st Ao As co cs fb me ms T J) (hn : bs ∉ ms :: T ∧ bv ∉ ms :: T ∧ bf ∉ ms :: T ∧ bw ∉ ms :: T)
    (hv : ∀ s p A n c W, StOk X s → Path X st (0, -1) p s → J W → OwS W 0 3 1 (.slice A n c) ((idsOf X p).map icell) →
      Calls Try.prog 73 #[s.agg, .slice A n c, .pointer (some ⟨c1, 0, none⟩), .pointer (some ⟨c2, 0, none⟩), .pointer (some ⟨c3, 0, none⟩)] W
        fun r w' => VisP T J Done Vis s W r w') :
    ∀ (m : Nat) (s : St) (p : List Nat) (A : Option Addr) (n c : Nat) (f : Lit → Bool) (w : World), missS X s.1 < m → StOk X s → Path X st (0, -1) p s → J w →
      VarsB w fb ms bs bv bf bw (.func (.func 73) #[] #[.pointer (some ⟨c1, 0, none⟩), .pointer (some ⟨c2, 0, none⟩), .pointer (some ⟨c3, 0, none⟩)])
        (.func (.func 100) #[] #[.pointer (some ⟨bs, 0, none⟩), .pointer (some ⟨bv, 0, none⟩), .pointer (some ⟨bf, 0, none⟩), .pointer (some ⟨bw, 0, none⟩)]) →
      OwS w 0 3 1 (.slice A n c) ((idsOf X p).map icell) → MapS w Try.prog 132 ms L f → SeenV X st Vis (missS X s.1 + 1) f →
      Calls Try.prog 100 #[s.agg, .slice A n c, .pointer (some ⟨bs, 0, none⟩), .pointer (some ⟨bv, 0, none⟩), .pointer (some ⟨bf, 0, none⟩), .pointer (some ⟨bw, 0, none⟩)] w
        fun r w' => WkP X st ms T J Done Vis L s f w r w' := by
  intro m
  induction m with
  | zero => intro s _ _ _ _ _ _ hm; omega
  | succ m ih =>
    intro s p A n c f w hm hs hp hj hV hO hM hS
    have IH := Lib.hid ih
    have HVS := Lib.hid hv
    clear ih hv
    obtain ⟨S, l⟩ := s
    have hmp := hp.miss
    have hX0 : missS X 0 ≤ X.length := by unfold missS; exact Nat.le_trans List.countP_le_length (by simp)
    have hpl : p.length ≤ 16 := by simp only at hmp; omega
    have hml := hM.lt
    have hlt : ∀ k ∈ ms :: T, k < w.heap.size := fun k hk => by
      rcases List.mem_cons.1 hk with rfl | hk
      · exact hml
      · exact hJ.lt w hj k hk
    obtain ⟨wf1, wf2⟩ := hs.wf hlen
    obtain ⟨hA0, hn1, hnc, -, hAc⟩ := ord_cells hO
    have HAC := Lib.hid hAc
    clear hAc
    have hn16 : n ≤ 16 := by rw [hn1]; simp [idsOf]; exact hpl
    have HN1 : Hid (n = (idsOf X p).length) := hn1
    clear hn1
    have HA0 := Lib.hid hA0
    clear hA0
    have HIN : Hid (∀ W, Below w.heap.size w W → W.heap[w.heap.size]? = some (.cells #[.int .i64 (S : Int), .int .i64 l] 132) → WkInv X S l fb ms bs bv bf bw _ _ T J L (.slice A n c) (idsOf X p) w W f) :=
      fun W hW hb => ⟨.of hW, hJ.stay _ _ hj hM.isMap (.of hW (Nat.le_refl _)), hV.below hW, hM.below hW, hb, hO.below hW⟩
    have HLT := Lib.hid hlt
    have HJ := Lib.hid hJ
    have HSn := Lib.hid hS
    have HSt := Lib.hid hs
    have HP := Lib.hid hp
    have HNB := Lib.hid hn
    have HL := Lib.hid (hL _ hs)
    obtain ⟨fk, hfk⟩ : ∃ fk, f (pKey (S : Int) l) = fk := ⟨_, rfl⟩
    have HFK := Lib.hid hfk
    have hfn : w.heap.size < (w.alloc (.cells #[.int .i64 (S : Int), .int .i64 l] 132)).heap.size := by simp
    have HI0 := Lib.hid (HIN.out (w.alloc (.cells #[.int .i64 (S : Int), .int .i64 l] 132)) below_laid (heap_new_at _ _ rfl))
    clear hlt hJ hS hs hp hn hL hfk hj hV hO hM hmp hX0 HIN hml
    unfold St.agg
    simp only
    obtain ⟨v0, v1, v2, v3⟩ := HI0.out.vars.cells
    obtain ⟨y0, y1⟩ := stBox HI0.out.bx
    have hlook := HI0.out.map.g.look keyedSt Try.underlying127 (zeroBoolK _) (keyOf_st _ _ wf1 wf2) (pKey_lit _ _)
    rw [HFK.out] at hlook
    cases fk
    case true =>
      change (Instr.lookup _ _ _ _).run _ _ = Result.ok (.bool true) _ at hlook
      go_enter Try.func100, Try.ntmps100
      go_wp2
      go_ret
      exact ⟨false, f, rfl, HI0.out.fr, fun h => absurd h (by simp), fun _ => ⟨HI0.out.j, HI0.out.map, (HSn.out _ HSt.out HFK.out).elim id (fun h => absurd h (by simp only; omega)), ExtV.refl _ _ _ _⟩⟩
    case false =>
      change (Instr.lookup _ _ _ _).run _ _ = Result.ok (.bool false) _ at hlook
      go_enter Try.func100, Try.ntmps100
      go_upto_region 3 with (fail)
      clear hlook
      go_cut [8] (fun s8 wx => s8 = .bool false ∧ WkInv X S l fb ms bs bv bf bw (.func (.func 73) #[] #[.pointer (some ⟨c1, 0, none⟩), .pointer (some ⟨c2, 0, none⟩), .pointer (some ⟨c3, 0, none⟩)])
        (.func (.func 100) #[] #[.pointer (some ⟨bs, 0, none⟩), .pointer (some ⟨bv, 0, none⟩), .pointer (some ⟨bf, 0, none⟩), .pointer (some ⟨bw, 0, none⟩)]) T J L (.slice A n c) (idsOf X p) w wx (updK f (pKey (S : Int) l) true))
      case first =>
        go_wp2_with (at_mapUpdate; refine wpList_putS rfl (.tmp 15) (.tmp 16) (.const (.bool true)) _ rfl keyedSt Try.underlying127 rfl HI0.out.map hLn _ (pKey (S : Int) l) rfl (keyOf_st _ _ wf1 wf2) (pKey_lit _ _) HL.out true rfl ?_; intro w3 hm3 hg3)
        go_meet
        exact ⟨rfl, HI0.out.mark HJ.out hg3 hm3⟩
      obtain ⟨rfl, hi1⟩ := hcut
      have HI1 := Lib.hid hi1
      clear hi1 v0 v1 v2 v3 y0 y1
      obtain ⟨v0, v1, v2, v3⟩ := HI1.out.vars.cells
      obtain ⟨y0, y1⟩ := stBox HI1.out.bx
      go_wp2_with fail
      refine (HVS.out (S, l) p A n c _ HSt.out HP.out HI1.out.j HI1.out.ord).mono ?_
      rintro r w4 ⟨b, rfl, hf4, hd4, hn4⟩
      have HF4 := Lib.hid hf4
      have HD4 := Lib.hid hd4
      have HN4 := Lib.hid hn4
      clear hf4 hd4 hn4 v0 v1 v2 v3 y0 y1
      cases b
      case true =>
        go_wp2
        go_ret
        exact ⟨true, f, rfl, HI1.out.fr.trans' HF4.out (fun k hk => .inl (List.mem_cons_of_mem _ hk)), (fun _ => HD4.out (by simp)), fun h => absurd h (by simp)⟩
      case false =>
        obtain ⟨hj4, hnv⟩ := HN4.out rfl
        have hm4 : MapS w4 Try.prog 132 ms L (updK f (pKey (S : Int) l) true) := HI1.out.map.fr HF4.out HJ.out.msT
        have HI4 := Lib.hid (HI1.out.fr2 HJ.out HLT.out HNB.out ((FrE.refl _ _ _).trans' HF4.out (fun k hk => .inl (List.mem_cons_of_mem _ hk))) hj4 hm4)
        have HNV := Lib.hid hnv
        have HFin4 := Lib.hid (HJ.out.fin _ hj4)
        clear hj4 hnv hm4
        obtain ⟨v0, v1, v2, v3⟩ := HI4.out.vars.cells
        obtain ⟨f0, f1, f2, f3, f4⟩ := HFin4.out.cells
        go_wp2_with fail
        clear v0 v1 v2 v3 f0 f1 f2 f3 f4
        go_loopw [27] (fun v wr => ∃ (k : Nat) (fr : Lit → Bool), k ≤ X.length ∧ v = .int .i64 k ∧ (∀ i t, i < k → nextS X st (S, l) i = some t → DeadV X st Vis t) ∧ ExtV X st Vis (updK f (pKey (S : Int) l) true) fr ∧
          WkInv X S l fb ms bs bv bf bw (.func (.func 73) #[] #[.pointer (some ⟨c1, 0, none⟩), .pointer (some ⟨c2, 0, none⟩), .pointer (some ⟨c3, 0, none⟩)])
        (.func (.func 100) #[] #[.pointer (some ⟨bs, 0, none⟩), .pointer (some ⟨bv, 0, none⟩), .pointer (some ⟨bf, 0, none⟩), .pointer (some ⟨bw, 0, none⟩)]) T J L (.slice A n c) (idsOf X p) w wr fr) (fun v _ => X.length - (intOf v).toNat)
        case atStart => exact ⟨0, _, by omega, rfl, fun i _ hi => absurd hi (by omega), ExtV.refl _ _ _ _, HI4.out⟩
        case round =>
          obtain ⟨k, fr, hk, rfl, hno, hext, hinv⟩ := hrel
          have HN := Lib.hid hno
          have HE := Lib.hid hext
          have HI := Lib.hid hinv
          have HFin := Lib.hid (HJ.out.fin _ hinv.j)
          clear hno hext hinv
          obtain ⟨v0, v1, v2, v3⟩ := HI.out.vars.cells
          obtain ⟨y0, y1⟩ := stBox HI.out.bx
          obtain ⟨f0, f1, f2, f3, f4⟩ := HFin.out.cells
          by_cases hlt : k < X.length
          · have HNX := Lib.hid (fun W (hW : Below wr.heap.size wr W) => next_any fb me k (S, l) W (HFin.out.below hW) HSt.out.1 HSt.out.2.2 hlt hlen)
            unfold St.agg at HNX
            simp only at HNX
            rcases hnx : nextS X st (S, l) k with _ | ⟨tS, tl⟩
            · have hR : nextR X st (S, l) k = ((S, l), false) := by unfold nextR; rw [hnx]
              rw [hR] at HNX
              have HNN := Lib.hid hnx
              clear hR hnx
              go_wp2_with fail
              refine (HNX.out _ (Below.refl _ _)).mono ?_
              rintro r w2 ⟨rfl, hb2⟩
              have hba := hb2.alloc hb2.size (.cells #[.int .i64 (S : Int), .int .i64 l] 132)
              have HBA := Lib.hid hba
              clear hba hb2 v0 v1 v2 v3 y0 y1 f0 f1 f2 f3 f4
              go_wp2_with fail
              go_quiet (fail)
              go_wp2
              go_roundw
              case rel => exact ⟨k + 1, fr, by omega, by go_num, fun i t hi hn => by
                rcases Nat.lt_or_eq_of_le (Nat.le_of_lt_succ hi) with hi' | rfl
                · exact HN.out i t hi' hn
                · exact absurd (HNN.out.symm.trans hn) (by simp), HE.out, HI.out.below HJ.out (below_drewN HBA.out _)⟩
              case measure => simp [intOf]; omega
            · have hR : nextR X st (S, l) k = ((tS, tl), true) := by unfold nextR; rw [hnx]
              rw [hR] at HNX
              have HNN := Lib.hid hnx
              have HTok := Lib.hid (HSt.out.next hlt hlen hnx)
              have hmt : missS X tS < missS X S := miss_next hlt hnx
              have HPt := Lib.hid (HP.out.snoc hlt hnx)
              clear hR hnx
              go_wp2_with fail
              refine (HNX.out _ (Below.refl _ _)).mono ?_
              rintro r w2 ⟨rfl, hb2⟩
              go_upto_region 10 with (fail)
              have hba := hb2.alloc hb2.size (.cells #[.int .i64 (tS : Int), .int .i64 tl] 132)
              have htb : (w2.alloc (.cells #[.int .i64 (tS : Int), .int .i64 tl] 132)).heap[w2.heap.size]? = some (.cells #[.int .i64 (tS : Int), .int .i64 tl] 132) := heap_new_at _ _ rfl
              clear v0 v1 v2 v3 y0 y1 f0 f1 f2 f3 f4
              have HI3 := Lib.hid (HI.out.below HJ.out hba)
              have hz2 := hb2.size
              have hz3 := hba.size
              clear hba hb2
              generalize w2.alloc _ = w3 at *
              have HTB := Lib.hid htb
              clear htb
              have HF0 := Lib.hid (HJ.out.fin _ HI3.out.j)
              obtain ⟨bo, off, rfl⟩ := ops_at HF0.out.ops (by omega)
              have HSA : Hid (∀ W, VarsB W fb ms bs bv bf bw (.func (.func 73) #[] #[.pointer (some ⟨c1, 0, none⟩), .pointer (some ⟨c2, 0, none⟩), .pointer (some ⟨c3, 0, none⟩)])
                  (.func (.func 100) #[] #[.pointer (some ⟨bs, 0, none⟩), .pointer (some ⟨bv, 0, none⟩), .pointer (some ⟨bf, 0, none⟩), .pointer (some ⟨bw, 0, none⟩)]) → W.heap[w2.heap.size]? = some (.cells #[.int .i64 (tS : Int), .int .i64 tl] 132) → FinV W fb me X sf last st (some ⟨bo, off, none⟩) As co cs →
                  W.cell? ⟨bw, 0, none⟩ = some (.func (.func 100) #[] #[.pointer (some ⟨bs, 0, none⟩), .pointer (some ⟨bv, 0, none⟩), .pointer (some ⟨bf, 0, none⟩), .pointer (some ⟨bw, 0, none⟩)]) ∧ W.cell? ⟨w2.heap.size, 0, none⟩ = some (.int .i64 (tS : Int)) ∧
                  W.cell? ⟨w2.heap.size, 1, none⟩ = some (.int .i64 tl) ∧ W.cell? ⟨bf, 0, none⟩ = some (.pointer (some ⟨fb, 0, none⟩)) ∧ W.cell? ⟨fb, 0, none⟩ = some (.slice (some ⟨bo, off, none⟩) X.length co) ∧ W.cell? ⟨bo, off + k * 8, none⟩ = some (.int .i64 (opAt X k).id)) :=
                fun W h1 h2 h3 => ⟨h1.cells.2.2.2, (stBox h2).1, (stBox h2).2, h1.cells.2.2.1, h3.cells.1, (ops_cells h3.ops hlt).2.1⟩
              have hzw : w.heap.size ≤ w3.heap.size := HI3.out.fr.size
              have HIC : Hid (∀ W A' c', Below w3.heap.size w3 W → OwS W 0 3 1 (.slice A' (n + 1) c') ((idsOf X p ++ [(opAt X k).id]).map icell) →
                  Calls Try.prog 100 #[.agg #[.int .i64 (tS : Int), .int .i64 tl], .slice A' (n + 1) c', .pointer (some ⟨bs, 0, none⟩), .pointer (some ⟨bv, 0, none⟩), .pointer (some ⟨bf, 0, none⟩), .pointer (some ⟨bw, 0, none⟩)] W
                    fun r w' => WkP X st ms T J Done Vis L (tS, tl) fr W r w') := fun W A' c' hW hO => by
                have hI5 := HI3.out.below HJ.out hW
                exact IH.out (tS, tl) (p ++ [k]) A' (n + 1) c' fr W (by simp only; omega) HTok.out HPt.out hI5.j hI5.vars (by rw [show idsOf X (p ++ [k]) = idsOf X p ++ [(opAt X k).id] by simp [idsOf]]; exact hO) hI5.map (((HSn.out.put hlen HSt.out rfl).ext HE.out).mono hmt)
              have HI3d : Hid (OwS w3.drew 0 3 1 (.slice A n c) ((idsOf X p).map icell)) := HI3.out.ord
              have hzr : w.heap.size ≤ wr.heap.size := HI.out.fr.size
              have HS6 := Lib.hid (fun W5 W6 (hb5 : Below w3.heap.size w3 W5) (hf6 : FrE (ms :: T) 138 W5 W6) => HSA.out W6 ((HI3.out.vars.below hb5).fr hf6 HNB.out.1 HNB.out.2.1 HNB.out.2.2.1 HNB.out.2.2.2) (hf6.cells_keep (keptB HTB.out hb5) (fun hm => absurd (HLT.out _ hm) (by omega)) (by decide)) ((HI3.out.below HJ.out hb5).finFr HJ.out hf6))
              have HSW := Lib.hid (HSA.out w3 HI3.out.vars HTB.out HF0.out)
              have hwr : IntKind.i64.wrap (n : Int) = (n : Int) := IntWalk.i64_in _ (by omega)
              have hnc' : (n : Int) ≤ (c : Int) := by omega
              have hn0 : (0 : Int) ≤ (n : Int) := by omega
              rcases HAC.out with rfl | ⟨g0, rfl⟩
              · obtain ⟨rfl, rfl⟩ := HA0.out rfl
                simp only [Nat.zero_add] at HIC
                go_cut [9, 59] (fun s9 s59 wx => s9 = .int .i64 k ∧ CutP X st ms T J Done Vis L (tS, tl) fr w3 s59 wx)
                case first =>
                  obtain ⟨q1, q2, q3, q4, q5, q6⟩ := HSW.out
                  go_region_held3 (fun w' => w'.cell? ⟨bw, 0, none⟩ = some (.func (.func 100) #[] #[.pointer (some ⟨bs, 0, none⟩), .pointer (some ⟨bv, 0, none⟩), .pointer (some ⟨bf, 0, none⟩), .pointer (some ⟨bw, 0, none⟩)]) ∧ w'.cell? ⟨w2.heap.size, 0, none⟩ = some (.int .i64 (tS : Int)) ∧
                    w'.cell? ⟨w2.heap.size, 1, none⟩ = some (.int .i64 tl) ∧ w'.cell? ⟨bf, 0, none⟩ = some (.pointer (some ⟨fb, 0, none⟩)) ∧ w'.cell? ⟨fb, 0, none⟩ = some (.slice (some ⟨bo, off, none⟩) X.length co) ∧ w'.cell? ⟨bo, off + k * 8, none⟩ = some (.int .i64 (opAt X k).id)) (first | exact hck3.out | exact hck5.out | exact hck6.out | go_keep)
                    (first
                      | (go_at_call 100; ((with_reducible refine (HIC.out _ _ _ hb5 (by simpa using hO5)).mono ?_); rintro r w6 ⟨b, f6, rfl, hf6, hd6, hj6⟩); have hck6 := Lib.hid (HS6.out w5 w6 hb5 hf6); clear hO5)
                      | ((refine step_ordApp (by rfl) (.tmp 46) (.tmp 56) (by rfl) (by rfl) HI3d.out (opAt X k).id w3.heap.size (by rfl) (by rfl) (by omega) ?_; intro A5 c5 w5 hO5 hg5; have hb5 : Below w3.heap.size w3 w5 := (((Below.refl _ _).drew).alloc (Nat.le_refl _) _).grown hg5 (by simp) (fun g hg => by cases hg); have hck5 := Lib.hid (HSA.out w5 (HI3.out.vars.below hb5) (keptB HTB.out hb5) (HF0.out.below hb5)); clear hg5))
                      | fail)
                  go_wp2_with fail
                  go_meet
                  exact ⟨rfl, b, f6, rfl, (FrE.of hb5).trans hf6, hd6, hj6⟩
                case rest =>
                  obtain ⟨rfl, b, f6, rfl, hf6, hd6, hj6⟩ := hcut
                  have HF6 := Lib.hid hf6
                  have HD6 := Lib.hid hd6
                  have HJ6 := Lib.hid hj6
                  clear hf6 hd6 hj6
                  cases b
                  case true =>
                    go_wp2
                    go_ret
                    exact ⟨true, f6, rfl, HI3.out.fr.trans HF6.out, (fun _ => HD6.out (by simp)), fun h => absurd h (by simp)⟩
                  case false =>
                    obtain ⟨g1, g2, g3, g4⟩ := HJ6.out rfl
                    have HI6 := Lib.hid (HI3.out.fr2 HJ.out HLT.out HNB.out HF6.out g1 g2)
                    have HG3 := Lib.hid g3
                    have HG4 := Lib.hid g4
                    clear g1 g2 g3 g4
                    go_wp2
                    go_roundw
                    case rel => exact ⟨k + 1, f6, by omega, by go_num, fun i t hi hn => by
                      rcases Nat.lt_or_eq_of_le (Nat.le_of_lt_succ hi) with hi' | rfl
                      · exact HN.out i t hi' hn
                      · rw [HNN.out] at hn
                        injection hn with hn
                        rw [← hn]
                        exact HG3.out, HE.out.trans HG4.out, HI6.out⟩
                    case measure => simp [intOf]; omega
              · go_cut [9, 59] (fun s9 s59 wx => s9 = .int .i64 k ∧ CutP X st ms T J Done Vis L (tS, tl) fr w3 s59 wx)
                case first =>
                  obtain ⟨q1, q2, q3, q4, q5, q6⟩ := HSW.out
                  go_region_held3 (fun w' => w'.cell? ⟨bw, 0, none⟩ = some (.func (.func 100) #[] #[.pointer (some ⟨bs, 0, none⟩), .pointer (some ⟨bv, 0, none⟩), .pointer (some ⟨bf, 0, none⟩), .pointer (some ⟨bw, 0, none⟩)]) ∧ w'.cell? ⟨w2.heap.size, 0, none⟩ = some (.int .i64 (tS : Int)) ∧
                    w'.cell? ⟨w2.heap.size, 1, none⟩ = some (.int .i64 tl) ∧ w'.cell? ⟨bf, 0, none⟩ = some (.pointer (some ⟨fb, 0, none⟩)) ∧ w'.cell? ⟨fb, 0, none⟩ = some (.slice (some ⟨bo, off, none⟩) X.length co) ∧ w'.cell? ⟨bo, off + k * 8, none⟩ = some (.int .i64 (opAt X k).id)) (first | exact hck3.out | exact hck5.out | exact hck6.out | go_keep)
                    (first
                      | (go_at_call 100; ((with_reducible refine (HIC.out _ _ _ hb5 (by simpa using hO5)).mono ?_); rintro r w6 ⟨b, f6, rfl, hf6, hd6, hj6⟩); have hck6 := Lib.hid (HS6.out w5 w6 hb5 hf6); clear hO5)
                      | ((refine step_ordApp (by rfl) (.tmp 46) (.tmp 56) (by rfl) (by rfl) HI3d.out (opAt X k).id w3.heap.size (by rfl) (by rfl) (by omega) ?_; intro A5 c5 w5 hO5 hg5; have hb5 : Below w3.heap.size w3 w5 := (((Below.refl _ _).drew).alloc (Nat.le_refl _) _).grown hg5 (by simp) (fun g hg => by cases hg); have hck5 := Lib.hid (HSA.out w5 (HI3.out.vars.below hb5) (keptB HTB.out hb5) (HF0.out.below hb5)); clear hg5))
                      | fail)
                  go_wp2_with fail
                  go_meet
                  exact ⟨rfl, b, f6, rfl, (FrE.of hb5).trans hf6, hd6, hj6⟩
                case rest =>
                  obtain ⟨rfl, b, f6, rfl, hf6, hd6, hj6⟩ := hcut
                  have HF6 := Lib.hid hf6
                  have HD6 := Lib.hid hd6
                  have HJ6 := Lib.hid hj6
                  clear hf6 hd6 hj6
                  cases b
                  case true =>
                    go_wp2
                    go_ret
                    exact ⟨true, f6, rfl, HI3.out.fr.trans HF6.out, (fun _ => HD6.out (by simp)), fun h => absurd h (by simp)⟩
                  case false =>
                    obtain ⟨g1, g2, g3, g4⟩ := HJ6.out rfl
                    have HI6 := Lib.hid (HI3.out.fr2 HJ.out HLT.out HNB.out HF6.out g1 g2)
                    have HG3 := Lib.hid g3
                    have HG4 := Lib.hid g4
                    clear g1 g2 g3 g4
                    go_wp2
                    go_roundw
                    case rel => exact ⟨k + 1, f6, by omega, by go_num, fun i t hi hn => by
                      rcases Nat.lt_or_eq_of_le (Nat.le_of_lt_succ hi) with hi' | rfl
                      · exact HN.out i t hi' hn
                      · rw [HNN.out] at hn
                        injection hn with hn
                        rw [← hn]
                        exact HG3.out, HE.out.trans HG4.out, HI6.out⟩
                    case measure => simp [intOf]; omega
          · obtain rfl : k = X.length := by omega
            have hdead : DeadV X st Vis (S, l) := deadV_step HNV.out HN.out
            have HDD := Lib.hid hdead
            clear hdead
            go_wp2
            go_ret
            exact ⟨false, fr, rfl, HI.out.fr, fun h => absurd h (by simp), fun _ => ⟨HI.out.j, HI.out.map, HDD.out, (ExtV.put hlen HSt.out HDD.out).trans HE.out⟩⟩
end Go.Proofs.Ytcgbnlhloopnfaa
