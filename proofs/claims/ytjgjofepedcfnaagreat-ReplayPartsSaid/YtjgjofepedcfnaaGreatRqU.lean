/- PLAIN: records applied in two parts; the last writes of all pieces alone lead to the same leaves. -/
import Derived.Test.YtjgjofepedcfnaaGreatGRr
namespace Go.Proofs.YtjgjofepedcfnaaGreat
open Go.RowKit
def vsAt (ls : List Leaf) (g p : Nat) : Nat := ((ls[g]?).map fun y => y.vs.getD p 0).getD 0
def ssAt (ls : List Leaf) (g p : Nat) : Nat := ((ls[g]?).map fun y => y.ss.getD p 0).getD 0
theorem lf_at {ls : List Leaf} {g : Nat} {y : Leaf} (h : ls[g]? = some y) (p : Nat) : vsAt ls g p = y.vs.getD p 0 ∧ ssAt ls g p = y.ss.getD p 0 := by
 unfold vsAt ssAt
 rw [h]
 exact ⟨rfl, rfl⟩
theorem lvs_ext {L : LayD} {a b : List Leaf} (ha : lvsOk L a) (hb : lvsOk L b) (hv : ∀ g p, g < L.G → p < L.w → vsAt a g p = vsAt b g p) (hs : ∀ g p, g < L.G → p < L.w → ssAt a g p = ssAt b g p) : a = b := by
 refine List.ext_getElem (ha.1.trans hb.1.symm) fun g h1 h2 => ?_
 have hg : g < L.G := by rw [← ha.1]; exact h1
 have ya := ha.2 _ (List.getElem_mem h1)
 have yb := hb.2 _ (List.getElem_mem h2)
 have ea := lf_at (List.getElem?_eq_getElem h1)
 have eb := lf_at (List.getElem?_eq_getElem h2)
 generalize a[g] = y at *
 generalize b[g] = z at *
 obtain ⟨yv, ys⟩ := y
 obtain ⟨zv, zs⟩ := z
 simp only at ya yb ea eb
 have e1 : yv = zv := by
  refine List.ext_getElem (ya.1.trans yb.1.symm) fun p k1 k2 => ?_
  have := hv g p hg (by omega)
  rw [(ea p).1, (eb p).1] at this
  simpa [List.getD, k1, k2] using this
 have e2 : ys = zs := by
  refine List.ext_getElem (ya.2.trans yb.2.symm) fun p k1 k2 => ?_
  have := hs g p hg (by omega)
  rw [(ea p).2, (eb p).2] at this
  simpa [List.getD, k1, k2] using this
 rw [e1, e2]
def PwKn (L : LayD) (x : Pw) : Prop := 0 ≤ x.g ∧ 0 ≤ x.p ∧ x.g.toNat < L.G ∧ x.p.toNat < L.w
theorem getD_set (l : List Nat) (p q v : Nat) (hp : p < l.length) : (l.set p v).getD q 0 = if p = q then v else l.getD q 0 := by
 by_cases e : p = q
 ·subst e
  simp [List.getD, hp]
 ·rw [if_neg e]
  simp [List.getD, List.getElem?_set_ne e]
theorem wstep_rd {L : LayD} {ls l : List Leaf} {x : Pw} (h : lvsOk L ls) (hx : PwKn L x) (hw : wstep ls x = some l) (g p : Nat) :
  vsAt l g p = (if x.g.toNat = g ∧ x.p.toNat = p then x.v else vsAt ls g p) ∧ ssAt l g p = if x.g.toNat = g ∧ x.p.toNat = p then sumN x.g.toNat x.p.toNat x.v x.d else ssAt ls g p := by
 obtain ⟨-, -, h1, h2⟩ := hx
 obtain ⟨y, hy⟩ : ∃ y, ls[x.g.toNat]? = some y := ⟨_, List.getElem?_eq_getElem (by rw [h.1]; exact h1)⟩
 have hyl := h.2 y (List.mem_of_getElem? hy)
 rw [wstep_at hy] at hw
 split at hw
 ·cases hw
 ·cases hw
  by_cases e : x.g.toNat = g
  ·subst e
   have h3 : (ls.set x.g.toNat (setL y x.g.toNat x.p.toNat x.v x.d))[x.g.toNat]? = some (setL y x.g.toNat x.p.toNat x.v x.d) := List.getElem?_set_self (by rw [h.1]; exact h1)
   rw [(lf_at h3 p).1, (lf_at h3 p).2, (lf_at hy p).1, (lf_at hy p).2]
   unfold setL
   simp only
   rw [getD_set _ _ _ _ (by omega), getD_set _ _ _ _ (by omega)]
   simp
  ·have h3 : (ls.set x.g.toNat (setL y x.g.toNat x.p.toNat x.v x.d))[g]? = ls[g]? := List.getElem?_set_ne e
   unfold vsAt ssAt
   rw [h3, if_neg (fun h => e h.1), if_neg (fun h => e h.1)]
   exact ⟨rfl, rfl⟩
theorem lastW_cons (x : Pw) (xs : List Pw) (g p : Int) : lastW (x :: xs) g p = match lastW xs g p with
  | some y => some y
  | none => if x.g = g ∧ x.p = p then some x else none := by
 unfold lastW
 rw [List.reverse_cons, List.find?_append]
 cases List.find? (fun x => x.g == g && x.p == p) xs.reverse with
 | some y => rfl
 | none =>
  simp only [Option.none_or, List.find?_cons, List.find?_nil]
  by_cases h : x.g = g ∧ x.p = p
  ·simp [h]
  ·rw [if_neg h]
   have : (x.g == g && x.p == p) = false := by
    rw [Bool.eq_false_iff]
    intro e
    simp only [Bool.and_eq_true, beq_iff_eq] at e
    exact h e
   rw [this]
theorem wsF_rd {L : LayD} : ∀ (ws : List Pw) (ls l : List Leaf), lvsOk L ls → (∀ x ∈ ws, PwKn L x) → wsF ls ws = some l → ∀ g p : Nat,
  vsAt l g p = (match lastW ws g p with | some x => x.v | none => vsAt ls g p) ∧ ssAt l g p = match lastW ws g p with | some x => sumN g p x.v x.d | none => ssAt ls g p
 | [], ls, l, h, _, hw, g, p => by
  cases hw
  exact ⟨rfl, rfl⟩
 | x :: ws, ls, l, h, hk, hw, g, p => by
  unfold wsF at hw
  rcases hs : wstep ls x with _ | m
  ·rw [hs] at hw; cases hw
  ·rw [hs] at hw
   have hx := hk x List.mem_cons_self
   have ih := wsF_rd ws m l (wstep_ok h hs) (fun y hy => hk y (List.mem_cons_of_mem _ hy)) hw g p
   have hr := wstep_rd h hx hs g p
   rw [lastW_cons]
   rcases hl : lastW ws g p with _ | y
   ·rw [hl] at ih
    simp only at ih ⊢
    rw [ih.1, ih.2, hr.1, hr.2]
    obtain ⟨h1, h2, -⟩ := hx
    by_cases e : x.g = g ∧ x.p = p
    ·rw [if_pos e, if_pos (by omega), if_pos (by omega)]
     obtain ⟨e1, e2⟩ := e
     have e1' : x.g.toNat = g := by omega
     have e2' : x.p.toNat = p := by omega
     rw [e1', e2']
     exact ⟨rfl, rfl⟩
    ·rw [if_neg e, if_neg (by omega), if_neg (by omega)]
     exact ⟨rfl, rfl⟩
   ·rw [hl] at ih
    exact ih
theorem wsF_free {L : LayD} : ∀ (ws : List Pw) (ls : List Leaf), lvsOk L ls → (∀ x ∈ ws, PwKn L x) → (∀ x ∈ ws, vsAt ls x.g.toNat x.p.toNat = 0) → ws.Pairwise ltW → ∃ l, wsF ls ws = some l
 | [], ls, _, _, _, _ => ⟨ls, rfl⟩
 | x :: ws, ls, h, hk, h0, hp => by
  have hx := hk x List.mem_cons_self
  rw [List.pairwise_cons] at hp
  obtain ⟨y, hy⟩ : ∃ y, ls[x.g.toNat]? = some y := ⟨_, List.getElem?_eq_getElem (by rw [h.1]; exact hx.2.2.1)⟩
  have e : wstep ls x = some (ls.set x.g.toNat (setL y x.g.toNat x.p.toNat x.v x.d)) := by
   rw [wstep_at hy, if_neg]
   have := h0 x List.mem_cons_self
   rw [(lf_at hy _).1] at this
   omega
  generalize ls.set x.g.toNat (setL y x.g.toNat x.p.toNat x.v x.d) = m at e
  obtain ⟨l, hl⟩ := wsF_free ws m (wstep_ok h e) (fun y hy => hk y (List.mem_cons_of_mem _ hy)) (fun y hy => by
   have hky := hk y (List.mem_cons_of_mem _ hy)
   rw [(wstep_rd h hx e _ _).1, if_neg]
   ·exact h0 y (List.mem_cons_of_mem _ hy)
   ·have := hp.1 y hy
    unfold ltW at this
    obtain ⟨a1, a2, -⟩ := hx
    obtain ⟨b1, b2, -⟩ := hky
    omega) hp.2
  exact ⟨l, by unfold wsF; rw [e]; exact hl⟩
theorem lastW_srt {ws ts : List Pw} (h : SrtW ws ts) (g p : Int) : lastW ts g p = lastW ws g p := by
 rcases hw : lastW ws g p with _ | x
 ·rcases ht : lastW ts g p with _ | y
  ·rfl
  ·obtain ⟨h1, rfl, rfl⟩ := lastW_some ht
   rw [(h.1 y).1 h1] at hw
   cases hw
 ·obtain ⟨-, rfl, rfl⟩ := lastW_some hw
  have hx := (h.1 x).2 hw
  obtain ⟨y, hy⟩ := lastW_mem hx
  obtain ⟨h1, h2, h3⟩ := lastW_some hy
  have := (h.1 y).1 h1
  rw [h2, h3, hw] at this
  cases this
  exact hy
theorem srt_self {ws ts : List Pw} (h : SrtW ws ts) : SrtW ts ts := ⟨fun x => by rw [lastW_srt h]; exact h.1 x, h.2⟩
theorem srt_len {ws ws' ts ts' : List Pw} (h : SrtW ws ts) (h' : SrtW ws' ts') (hs : ∀ x ∈ ws, x ∈ ws') : ts.length ≤ ts'.length := by
 have hk := length_le_of_sub (ts.map fun x => (x.g, x.p)) (ts'.map fun x => (x.g, x.p)) ?_ ?_
 ·simpa using hk
 ·rw [List.nodup_iff_pairwise_ne, List.pairwise_map]
  refine h.2.imp fun hab e => ?_
  unfold ltW at hab
  injection e with e1 e2
  omega
 ·intro k hk
  obtain ⟨x, hx, rfl⟩ := List.mem_map.1 hk
  obtain ⟨y, hy⟩ := lastW_mem (hs x (lastW_some ((h.1 x).1 hx)).1)
  obtain ⟨-, h2, h3⟩ := lastW_some hy
  exact List.mem_map.2 ⟨y, (h'.1 y).2 (by rw [h2, h3]; exact hy), by rw [h2, h3]⟩
section
variable {L : LayD} {S : St}
theorem applyS_ls {r : Rcd} (h : (applyS L S r).2 = 0) : wsF S.ls r.ws = some (applyS L S r).1.ls ∧ rcdB r = true ∧ knownB L r = true := by
 unfold applyS at h ⊢
 by_cases hr : (rcdB r && knownB L r) = true
 ·rw [if_pos hr] at h ⊢
  simp only [Bool.and_eq_true] at hr
  rcases hw : wsF S.ls r.ws with _ | l
  ·rw [hw] at h
   simp only at h
   exact absurd h (by decide)
  ·rw [hw] at h
   simp only at h ⊢
   by_cases h1 : (msF L S.ms r.ms).2 = 0
   ·rw [if_pos h1]
    exact ⟨rfl, hr⟩
   ·rw [if_neg h1] at h
    exact absurd h h1
 ·rw [if_neg hr] at h
  exact absurd h (by decide)
theorem allF_ls : ∀ (rs : List Rcd) (S : St), (allF L S rs).2 = 0 → wsF S.ls (allW rs) = some (allF L S rs).1.ls ∧ ∀ r ∈ rs, rcdB r = true ∧ knownB L r = true
 | [], S, _ => ⟨rfl, fun r hr => by cases hr⟩
 | r :: rs, S, h => by
  unfold allF at h
  by_cases h0 : (applyS L S r).2 = 0
  ·rw [if_pos h0] at h
   obtain ⟨h1, h2⟩ := applyS_ls h0
   obtain ⟨g1, g2⟩ := allF_ls rs _ h
   have e : allF L S (r :: rs) = allF L (applyS L S r).1 rs := by simp only [allF, if_pos h0]
   refine ⟨?_, fun x hx => ?_⟩
   ·rw [e, show allW (r :: rs) = r.ws ++ allW rs from rfl, wsF_app, h1]
    exact g1
   ·rcases List.mem_cons.1 hx with rfl | hx
    ·exact h2
    ·exact g2 x hx
  ·rw [if_neg h0] at h
   exact absurd h h0
theorem rcd_kn1 {r : Rcd} (h : rcdB r = true) (hk : knownB L r = true) {x : Pw} (hx : x ∈ r.ws) : PwKn L x ∧ wrB x = true ∧ knW L x = true := by
 obtain ⟨g, p, h1, h2, h3, h4⟩ := rcd_w h hk hx
 refine ⟨⟨by omega, by omega, by omega, by omega⟩, ?_, ?_⟩
 ·unfold rcdB at h
  simp only [Bool.and_eq_true, List.all_eq_true] at h
  exact h.1.2 x hx
 ·unfold knownB at hk
  simp only [Bool.and_eq_true, List.all_eq_true] at hk
  exact hk.1 x hx
theorem allW_kn {rs : List Rcd} (h : ∀ r ∈ rs, rcdB r = true ∧ knownB L r = true) {x : Pw} (hx : x ∈ allW rs) : PwKn L x ∧ wrB x = true ∧ knW L x = true := by
 unfold allW at hx
 obtain ⟨r, hr, hx⟩ := List.mem_flatMap.1 hx
 exact rcd_kn1 (h r hr).1 (h r hr).2 hx
theorem newS_v0 (g p : Nat) : vsAt (newS L).ls g p = 0 := by
 unfold vsAt newS zeroLs
 simp only [List.getElem?_map]
 by_cases hg : g < L.G
 ·rw [List.getElem?_range hg]
  simp only [Option.map_some, Option.getD_some]
  unfold zeroL
  simp only [List.getD, List.getElem?_replicate]
  split <;> rfl
 ·rw [List.getElem?_eq_none (by simp; omega)]
  rfl
def oneR (ts : List Pw) : Rcd := ⟨0, 1, ts, [], []⟩
theorem one_rcd {rs : List Rcd} {ts : List Pw} (h : (allF L (newS L) rs).2 = 0) (hs : SrtW (allW rs) ts) (hn : ts.length ≤ 64) : ∃ T, allR L (newS L) [oneR ts] = (T, 0) ∧ T.ls = (allF L (newS L) rs).1.ls := by
 obtain ⟨g1, g2⟩ := allF_ls rs _ h
 have hin : ∀ x ∈ ts, PwKn L x ∧ wrB x = true ∧ knW L x = true := fun x hx => allW_kn g2 (lastW_some ((hs.1 x).1 hx)).1
 have hr : rcdB (oneR ts) = true := by
  unfold rcdB oneR
  simp only [Bool.and_eq_true, decide_eq_true_eq, List.all_eq_true]
  exact ⟨⟨⟨⟨⟨by decide, hn⟩, by simp⟩, by simp⟩, fun x hx => (hin x hx).2.1⟩, fun x hx => by cases hx⟩
 have hk : knownB L (oneR ts) = true := by
  unfold knownB oneR
  simp only [Bool.and_eq_true, List.all_eq_true]
  exact ⟨fun x hx => (hin x hx).2.2, fun x hx => by cases hx⟩
 have hok := stOk_ls (newS_ok L)
 obtain ⟨l, hl⟩ := wsF_free ts (newS L).ls hok (fun x hx => (hin x hx).1) (fun x _ => newS_v0 _ _) hs.2
 refine ⟨⟨l, [], []⟩, ?_, ?_⟩
 ·unfold allR
  rw [if_pos (newS_ok L)]
  have e : applyS L (newS L) (oneR ts) = (⟨l, [], []⟩, 0) := by
   unfold applyS
   rw [hr, hk]
   simp only [Bool.and_self, if_true]
   rw [show (oneR ts).ws = ts from rfl, hl]
   rfl
  simp only [allF, e, if_true]
 ·refine lvs_ext (wsF_ok ts _ hok _ hl) (wsF_ok _ _ hok _ g1) (fun g p _ _ => ?_) fun g p _ _ => ?_
  ·rw [(wsF_rd ts _ _ hok (fun x hx => (hin x hx).1) hl g p).1, (wsF_rd _ _ _ hok (fun x hx => (allW_kn g2 hx).1) g1 g p).1, lastW_srt hs]
  ·rw [(wsF_rd ts _ _ hok (fun x hx => (hin x hx).1) hl g p).2, (wsF_rd _ _ _ hok (fun x hx => (allW_kn g2 hx).1) g1 g p).2, lastW_srt hs]
theorem allR_new (rs : List Rcd) : allR L (newS L) rs = allF L (newS L) rs := by
 unfold allR
 rw [if_pos (newS_ok L)]
theorem two_parts (rs : List Rcd) (k : Nat) : ((allR L (newS L) (rs.take k)).2 ≠ 0 → (allR L (newS L) rs).2 = (allR L (newS L) (rs.take k)).2) ∧
  ((allR L (newS L) (rs.take k)).2 = 0 → allR L (allR L (newS L) (rs.take k)).1 (rs.drop k) = allR L (newS L) rs) := by
 have h := allF_app (L := L) (rs.take k) (rs.drop k) (newS L)
 rw [List.take_append_drop] at h
 rw [allR_new, allR_new]
 refine ⟨fun h0 => ?_, fun h0 => ?_⟩
 ·rw [h, if_neg h0]
 ·rw [h, if_pos h0]
  unfold allR
  rw [if_pos (allF_ok _ _ (newS_ok L) h0).1]
end
end Go.Proofs.YtjgjofepedcfnaaGreat
