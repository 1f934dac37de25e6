/- Layer 23 (plan) on lists: the helpers of a group, which are left out, the tasks of a rebuild. Plain: no program is walked here.
The tasks of a rebuild on lists: plan's, which looks at the moves so far, are the reference's. Plain: no program is walked here.
Which helpers are left out: plan's mask of bits and its sort give the reference's list. Plain: no program is walked here.
What a rebuild that succeeds gives, task by task. Plain: no program is walked here.
The laws PlanTasks and PlanMoves on lists. Plain: no program is walked here.
The law PlanSpares on lists: with one dead disk and spare blocks enough every piece finds a place, and no disk takes too many. Plain: no program is walked here.
The law PlanSpares on lists, the rest: who is free, how many a disk takes. Plain: no program is walked here.
The law PlanSpares on lists: how many pieces a disk takes; and none, where every disk has a piece of every group. Plain: no program is walked here. -/
import Derived.Test.YteglnekkkhpikaaGreatGSpl
namespace Go.Proofs.YteglnekkkhpikaaGreat

structure Tsk where
  g : Nat
  p : Nat
  frm : List Nat
  to : Plc
/-- the pieces of a group on disks that are not dead, with their disks, by disk -/
def helpP (L : LayD) (ms : List Mv) (g : Nat) (dead : List Bool) : List (Nat × Nat) := (List.range L.disks).flatMap fun (d : Nat) => ((List.range L.w).filter fun (i : Nat) => !(dead[d]?.getD false) && (whereL L ms g i).disk == (d : Int)).map fun i => (d, i)
def helpL (L : LayD) (ms : List Mv) (g : Nat) (dead : List Bool) : List Nat := (helpP L ms g dead).map Prod.snd
/-- the place k of n helpers is left out -/
def outF (L : LayD) (g n k : Nat) : Bool := (List.range (n - (L.w - 3))).any fun j => (g / L.n + j) % n == k
def fromL (L : LayD) (hs : List Nat) (g : Nat) : Option (List Nat) :=
  if hs.length < L.w - 3 then none else some ((List.range L.w).flatMap fun i => ((List.range hs.length).filter fun k => (hs[k]? == some i) && !outF L g hs.length k).map fun _ => i)
theorem helpP_mem {L : LayD} {ms : List Mv} {g : Nat} {dead : List Bool} {d i : Nat} : (d, i) ∈ helpP L ms g dead ↔ d < L.disks ∧ i < L.w ∧ dead[d]?.getD false = false ∧ (whereL L ms g i).disk = (d : Int) := by
  unfold helpP
  simp only [List.mem_flatMap, List.mem_range, List.mem_map, List.mem_filter, Bool.and_eq_true, Bool.not_eq_true', beq_iff_eq, Prod.mk.injEq]
  constructor
  · rintro ⟨d', h1, i', ⟨h2, h3, h4⟩, rfl, rfl⟩
    exact ⟨h1, h2, h3, h4⟩
  · rintro ⟨h1, h2, h3, h4⟩
    exact ⟨d, h1, i, ⟨h2, h3, h4⟩, rfl, rfl⟩
/-- the disks grow from helper to helper -/
theorem helpP_inc {L : LayD} (ok : LayOk L) {ms : List Mv} (h : MvOk L ms) (g : Nat) (dead : List Bool) : (helpP L ms g dead).Pairwise fun a b => a.1 < b.1 := by
  unfold helpP
  rw [List.pairwise_flatMap]
  refine ⟨fun d _ => ?_, ?_⟩
  · rw [List.pairwise_map]
    refine List.Pairwise.imp_of_mem (fun {a b} ha hb hab => ?_) (List.Pairwise.filter _ List.pairwise_lt_range)
    have h1 := List.mem_filter.1 ha
    have h2 := List.mem_filter.1 hb
    simp only [List.mem_range, Bool.and_eq_true, beq_iff_eq] at h1 h2
    exact absurd (h1.2.2.trans h2.2.2.symm) (apart_ne (apart_all ok h (g : Int)) h1.1 h2.1 (by omega))
  · refine List.pairwise_lt_range.imp fun {a b} hab => ?_
    intro x hx y hy
    obtain ⟨i, -, rfl⟩ := List.mem_map.1 hx
    obtain ⟨j, -, rfl⟩ := List.mem_map.1 hy
    exact hab
/-- the helpers as plan collects them, by piece, ahead of its sort -/
def rawH (L : LayD) (ms : List Mv) (g : Nat) (dead : List Bool) : List (Nat × Nat) := ((List.range L.w).filter fun (i : Nat) => !(dead[(whereL L ms g i).disk.toNat]?.getD false)).map fun (i : Nat) => ((whereL L ms g i).disk.toNat, i)
theorem rawH_mem {L : LayD} (ok : LayOk L) {ms : List Mv} (h : MvOk L ms) {g : Nat} {dead : List Bool} (x : Nat × Nat) : x ∈ rawH L ms g dead ↔ x ∈ helpP L ms g dead := by
  obtain ⟨d, i⟩ := x
  rw [helpP_mem]
  unfold rawH
  simp only [List.mem_map, List.mem_filter, List.mem_range, Bool.not_eq_true', Prod.mk.injEq]
  constructor
  · rintro ⟨i', ⟨h1, h2⟩, h3, rfl⟩
    obtain ⟨h4, h5⟩ := where_ok ok h (g : Int) (i' : Int)
    rw [h3] at h2
    exact ⟨by omega, h1, h2, by omega⟩
  · rintro ⟨h1, h2, h3, h4⟩
    exact ⟨i, ⟨h2, by rw [h4]; simpa using h3⟩, by rw [h4]; simp, rfl⟩
theorem rawH_nodup {L : LayD} {ms : List Mv} {g : Nat} {dead : List Bool} : (rawH L ms g dead).Nodup := by
  unfold rawH
  show List.Pairwise (· ≠ ·) _
  rw [List.pairwise_map]
  refine List.Pairwise.imp (fun {a b} (hab : a < b) => ?_) (List.Pairwise.filter _ List.pairwise_lt_range)
  intro e
  have := congrArg Prod.snd e
  simp only at this
  omega
/-- sorted by disk, they are the reference's -/
theorem sort_help {L : LayD} (ok : LayOk L) {ms : List Mv} (h : MvOk L ms) {g : Nat} {dead : List Bool} {ts : List (Nat × Nat)} (hp : ts.Perm (rawH L ms g dead)) (hs : ts.Pairwise fun a b => a.1 ≤ b.1) : ts = helpP L ms g dead := by
  have hnd : ts.Nodup := hp.nodup_iff.2 rawH_nodup
  have hlt : ts.Pairwise fun a b => a.1 < b.1 := by
    have h2 : ts.Pairwise fun a b => a.1 ≤ b.1 ∧ a ≠ b := List.Pairwise.and hs hnd
    refine List.Pairwise.imp_of_mem (fun {a b} ha hb hab => ?_) h2
    rcases Nat.lt_or_eq_of_le hab.1 with h3 | h3
    · exact h3
    · obtain ⟨d, i⟩ := a
      obtain ⟨d', j⟩ := b
      simp only at h3
      subst h3
      have h4 := helpP_mem.1 ((rawH_mem ok h _).1 (hp.mem_iff.1 ha))
      have h5 := helpP_mem.1 ((rawH_mem ok h _).1 (hp.mem_iff.1 hb))
      by_cases hij : i = j
      · exact absurd (by rw [hij]) hab.2
      · exact absurd (h4.2.2.2.trans h5.2.2.2.symm) (apart_ne (apart_all ok h (g : Int)) h4.2.1 h5.2.1 hij)
  exact inc_eq2 hlt (helpP_inc ok h g dead) fun x => (hp.mem_iff.trans (rawH_mem ok h x))
/-- moves of other groups change nothing here -/
theorem help_same {L : LayD} {ms now : List Mv} {g : Nat} {dead : List Bool} (h : ∀ i : Nat, whereL L now g i = whereL L ms g i) : helpP L now g dead = helpP L ms g dead := by
  unfold helpP
  simp only [h]
end Go.Proofs.YteglnekkkhpikaaGreat
namespace Go.Proofs.YteglnekkkhpikaaGreat

/-- the tasks for the pieces that are lost, one after the other; hf: the helpers of a group -/
def rebG (L : LayD) (hf : List Mv → Nat → List Nat) (dead : List Bool) : List (Nat × Nat) → List Mv → List Tsk → List Tsk × Int
  | [], _, out => (out, 0)
  | (g, p) :: r, now, out => match fromL L (hf now g) g with
    | none => ([], 12)
    | some f => match chooseL L now g dead with
      | none => ([], 11)
      | some t => rebG L hf dead r (withM now ⟨g, p, t⟩) (out ++ [⟨g, p, f, t⟩])
def refG (L : LayD) (ms : List Mv) (dead : List Bool) : List (Nat × Nat) → List Mv → List Tsk → List Tsk × Int := rebG L (fun _ g => helpL L ms g dead) dead
def planG (L : LayD) (dead : List Bool) : List (Nat × Nat) → List Mv → List Tsk → List Tsk × Int := rebG L (fun now g => helpL L now g dead) dead
/-- the reference's Rebuild at valid moves and a list with an entry for each disk -/
def rebL (L : LayD) (ms : List Mv) (d : Int) (dead : List Bool) : List Tsk × Int :=
  if (decide (0 ≤ d) && decide (d < (L.disks : Int))) = false then ([], 2) else if dead[d.toNat]?.getD false = false then ([], 8) else refG L ms dead (onL L ms d) ms []
theorem where_other {L : LayD} {now : List Mv} (h : now.Pairwise ltM) {g p g' : Nat} {t : Plc} (hg : g' ≠ g) (i : Nat) : whereL L (withM now ⟨g, p, t⟩) g' i = whereL L now g' i := by
  rw [where_with h, if_neg]
  rintro ⟨h1, -⟩
  simp only at h1
  omega
theorem plan_ref {L : LayD} (ok : LayOk L) {ms : List Mv} {dead : List Bool} : ∀ (r : List (Nat × Nat)) (now : List Mv) (out : List Tsk), MvOk L now → (∀ x ∈ r, isP L x.1 x.2 = true) → (r.Pairwise fun a b => a.1 < b.1) → (∀ x ∈ r, ∀ i : Nat, whereL L now x.1 i = whereL L ms x.1 i) →
    planG L dead r now out = refG L ms dead r now out := by
  intro r
  induction r with
  | nil => intro now out _ _ _ _; rfl
  | cons x r ih =>
    intro now out hok hp hs hw
    obtain ⟨g, p⟩ := x
    obtain ⟨hs1, hs2⟩ := List.pairwise_cons.1 hs
    have he : helpL L now g dead = helpL L ms g dead := by
      unfold helpL
      rw [help_same (hw (g, p) (by simp))]
    unfold planG refG rebG
    rw [he]
    cases fromL L (helpL L ms g dead) g with
    | none => rfl
    | some f =>
      simp only
      rcases hc : chooseL L now (g : Int) dead with _ | t
      · rfl
      · have hpp := hp (g, p) (by simp)
        obtain ⟨-, hok2⟩ := fits_apply ok hok (i := (p : Int)) hpp hc
        have := ih (withM now ⟨g, p, t⟩) (out ++ [⟨g, p, f, t⟩]) hok2 (fun x hx => hp x (by simp [hx])) hs2 (fun x hx i => by
          have h1 := hs1 x hx
          simp only at h1
          rw [where_other hok.ord (by omega)]
          exact hw x (by simp [hx]) i)
        unfold planG refG at this
        exact this
/-- .. from the start -/
theorem plan_start {L : LayD} (ok : LayOk L) {ms : List Mv} {dead : List Bool} (h : MvOk L ms) (d : Nat) : planG L dead (onL L ms (d : Int)) ms [] = refG L ms dead (onL L ms (d : Int)) ms [] :=
  plan_ref ok _ _ _ h (fun x hx => by
    obtain ⟨g, i⟩ := x
    obtain ⟨h1, h2, -⟩ := onL_mem.1 hx
    unfold isP
    simp only [Bool.and_eq_true, decide_eq_true_eq]
    omega) (onL_inc ok h d) (fun _ _ _ => rfl)
end Go.Proofs.YteglnekkkhpikaaGreat
namespace Go.Proofs.YteglnekkkhpikaaGreat

/-- plan's mask behind j of the places that are left out -/
def maskL (L : LayD) (g n : Nat) : Nat → Nat
  | 0 => 0
  | j + 1 => maskL L g n j ||| 2 ^ ((g / L.n + j) % n)
theorem mask_bit (L : LayD) (g n k : Nat) : ∀ j : Nat, (maskL L g n j).testBit k = (List.range j).any fun j => (g / L.n + j) % n == k := by
  intro j
  induction j with
  | zero => simp [maskL]
  | succ j ih =>
    rw [maskL, Nat.testBit_or, ih, Nat.testBit_two_pow, List.range_succ, List.any_append]
    simp only [List.any_cons, List.any_nil, Bool.or_false]
    rfl
theorem mask_out (L : LayD) (g n k : Nat) : (maskL L g n (n - (L.w - 3))).testBit k = outF L g n k := mask_bit L g n k _
theorem mask_lt (L : LayD) {g n : Nat} (hn : 0 < n) : ∀ j : Nat, maskL L g n j < 2 ^ n := by
  intro j
  induction j with
  | zero => exact Nat.pow_pos (by decide)
  | succ j ih =>
    rw [maskL]
    refine Nat.or_lt_two_pow ih ?_
    exact Nat.pow_lt_pow_right (by decide) (Nat.mod_lt _ hn)
theorem helpL_nodup {L : LayD} {ms : List Mv} {g : Nat} {dead : List Bool} (ok : LayOk L) (h : MvOk L ms) : (helpL L ms g dead).Nodup := by
  unfold helpL
  show List.Pairwise (· ≠ ·) _
  rw [List.pairwise_map]
  refine List.Pairwise.imp_of_mem (fun {a b} ha hb hab e => ?_) (helpP_inc ok h g dead)
  obtain ⟨d, i⟩ := a
  obtain ⟨d', j⟩ := b
  simp only at e hab
  subst e
  have h1 := (helpP_mem.1 ha).2.2.2
  have h2 := (helpP_mem.1 hb).2.2.2
  omega
theorem helpL_lt {L : LayD} {ms : List Mv} {g : Nat} {dead : List Bool} : ∀ x ∈ helpL L ms g dead, x < L.w := fun x hx => by
  unfold helpL at hx
  obtain ⟨⟨d, i⟩, h1, rfl⟩ := List.mem_map.1 hx
  exact (helpP_mem.1 h1).2.1
/-- what is taken, by the helpers' places -/
def takeH (L : LayD) (hs : List Nat) (g : Nat) (k : Nat) : List Nat := ((List.range k).filter fun k => !outF L g hs.length k).map fun k => hs[k]?.getD 0
def fromV (L : LayD) (hs : List Nat) (g : Nat) : List Nat := (List.range L.w).flatMap fun i => ((List.range hs.length).filter fun k => (hs[k]? == some i) && !outF L g hs.length k).map fun _ => i
theorem from_some {L : LayD} {hs : List Nat} {g : Nat} (h : ¬ hs.length < L.w - 3) : fromL L hs g = some (fromV L hs g) := by unfold fromL fromV; rw [if_neg h]
theorem from_none {L : LayD} {hs : List Nat} {g : Nat} (h : hs.length < L.w - 3) : fromL L hs g = none := by unfold fromL; rw [if_pos h]
theorem fromV_mem {L : LayD} {hs : List Nat} {g i : Nat} : i ∈ fromV L hs g ↔ i < L.w ∧ ∃ k, hs[k]? = some i ∧ outF L g hs.length k = false := by
  unfold fromV
  simp only [List.mem_flatMap, List.mem_range, List.mem_map, List.mem_filter, Bool.and_eq_true, Bool.not_eq_true', beq_iff_eq]
  constructor
  · rintro ⟨i', h1, k, ⟨h2, h3, h4⟩, rfl⟩
    exact ⟨h1, k, h3, h4⟩
  · rintro ⟨h1, k, h3, h4⟩
    exact ⟨i, h1, k, ⟨(List.getElem?_eq_some_iff.1 h3).1, h3, h4⟩, rfl⟩
theorem takeH_mem {L : LayD} {hs : List Nat} {g i : Nat} : i ∈ takeH L hs g hs.length ↔ ∃ k, hs[k]? = some i ∧ outF L g hs.length k = false := by
  unfold takeH
  simp only [List.mem_map, List.mem_filter, List.mem_range, Bool.not_eq_true']
  constructor
  · rintro ⟨k, ⟨h1, h2⟩, h3⟩
    rw [List.getElem?_eq_getElem h1] at h3
    exact ⟨k, by rw [List.getElem?_eq_getElem h1]; exact congrArg some h3, h2⟩
  · rintro ⟨k, h1, h2⟩
    exact ⟨k, ⟨(List.getElem?_eq_some_iff.1 h1).1, h2⟩, by rw [h1]; rfl⟩
theorem nodup_at {hs : List Nat} (h : hs.Nodup) {a b i : Nat} (ha : hs[a]? = some i) (hb : hs[b]? = some i) : a = b := by
  obtain ⟨h1, h2⟩ := List.getElem?_eq_some_iff.1 ha
  obtain ⟨h3, h4⟩ := List.getElem?_eq_some_iff.1 hb
  have hp := List.pairwise_iff_getElem.1 h
  rcases Nat.lt_trichotomy a b with h5 | h5 | h5
  · exact absurd (h2.trans h4.symm) (hp a b h1 h3 h5)
  · exact h5
  · exact absurd (h4.trans h2.symm) (hp b a h3 h1 h5)
theorem takeH_nodup {L : LayD} {hs : List Nat} {g : Nat} (h : hs.Nodup) : (takeH L hs g hs.length).Nodup := by
  unfold takeH
  show List.Pairwise (· ≠ ·) _
  rw [List.pairwise_map]
  refine List.Pairwise.imp_of_mem (fun {a b} ha hb (hab : a < b) e => ?_) (List.Pairwise.filter _ List.pairwise_lt_range)
  have h1 := List.mem_range.1 (List.mem_filter.1 ha).1
  have h2 := List.mem_range.1 (List.mem_filter.1 hb).1
  rw [List.getElem?_eq_getElem h1, List.getElem?_eq_getElem h2] at e
  have := nodup_at h (List.getElem?_eq_getElem h1) (by rw [List.getElem?_eq_getElem h2]; exact congrArg some e.symm)
  omega
theorem fromV_inc {L : LayD} {hs : List Nat} {g : Nat} (h : hs.Nodup) : (fromV L hs g).Pairwise (· < ·) := by
  unfold fromV
  rw [List.pairwise_flatMap]
  refine ⟨fun i _ => ?_, ?_⟩
  · rw [List.pairwise_map]
    refine List.Pairwise.imp_of_mem (fun {a b} ha hb (hab : a < b) => ?_) (List.Pairwise.filter _ List.pairwise_lt_range)
    have h1 := (List.mem_filter.1 ha).2
    have h2 := (List.mem_filter.1 hb).2
    simp only [Bool.and_eq_true, beq_iff_eq] at h1 h2
    have := nodup_at h h1.1 h2.1
    omega
  · refine List.pairwise_lt_range.imp fun {a b} (hab : a < b) => ?_
    intro x hx y hy
    obtain ⟨_, -, rfl⟩ := List.mem_map.1 hx
    obtain ⟨_, -, rfl⟩ := List.mem_map.1 hy
    exact hab
/-- sorted, what is taken is the reference's list -/
theorem sort_from {L : LayD} {hs : List Nat} {g : Nat} (hn : hs.Nodup) (hl : ∀ x ∈ hs, x < L.w) {ts : List Int} (hp : ts.Perm ((takeH L hs g hs.length).map fun (x : Nat) => (x : Int))) (hs2 : ts.Pairwise (· ≤ ·)) : ts = (fromV L hs g).map fun (x : Nat) => (x : Int) := by
  have hnd : ts.Nodup := by
    refine hp.nodup_iff.2 ?_
    show List.Pairwise (· ≠ ·) _
    rw [List.pairwise_map]
    exact (takeH_nodup hn).imp fun {a b} hab e => hab (by omega)
  refine inc_eq (List.Pairwise.imp₂ (R := (· ≤ ·)) (S := (· ≠ ·)) (fun a b h1 h2 => by omega) hs2 hnd) ?_ fun x => ?_
  · rw [List.pairwise_map]
    exact (fromV_inc hn).imp fun {a b} hab => by omega
  · rw [hp.mem_iff, List.mem_map, List.mem_map]
    constructor
    · rintro ⟨i, h1, rfl⟩
      obtain ⟨k, h2, h3⟩ := takeH_mem.1 h1
      exact ⟨i, fromV_mem.2 ⟨hl i (List.mem_of_getElem? h2), k, h2, h3⟩, rfl⟩
    · rintro ⟨i, h1, rfl⟩
      obtain ⟨-, k, h2, h3⟩ := fromV_mem.1 h1
      exact ⟨i, takeH_mem.2 ⟨k, h2, h3⟩, rfl⟩
end Go.Proofs.YteglnekkkhpikaaGreat
namespace Go.Proofs.YteglnekkkhpikaaGreat

/-- a rebuild that goes through -/
inductive RebOk (L : LayD) (hf : List Mv → Nat → List Nat) (dead : List Bool) : List (Nat × Nat) → List Mv → List Tsk → List Mv → Prop where
  | nil (now : List Mv) : RebOk L hf dead [] now [] now
  | cons {g p : Nat} {r : List (Nat × Nat)} {now fin : List Mv} {f : List Nat} {t : Plc} {new : List Tsk} (h1 : fromL L (hf now g) g = some f) (h2 : chooseL L now g dead = some t) (h3 : RebOk L hf dead r (withM now ⟨g, p, t⟩) new fin) : RebOk L hf dead ((g, p) :: r) now (⟨g, p, f, t⟩ :: new) fin
theorem rebG_ok {L : LayD} {hf : List Mv → Nat → List Nat} {dead : List Bool} : ∀ (r : List (Nat × Nat)) (now : List Mv) (out ts : List Tsk), rebG L hf dead r now out = (ts, 0) → ∃ new fin, ts = out ++ new ∧ RebOk L hf dead r now new fin := by
  intro r
  induction r with
  | nil =>
    intro now out ts h
    unfold rebG at h
    cases h
    exact ⟨[], now, by simp, .nil _⟩
  | cons x r ih =>
    intro now out ts h
    obtain ⟨g, p⟩ := x
    unfold rebG at h
    rcases hf1 : fromL L (hf now g) g with _ | f
    · rw [hf1] at h
      simp at h
    · rw [hf1] at h
      simp only at h
      rcases hc : chooseL L now (g : Int) dead with _ | t
      · rw [hc] at h
        simp at h
      · rw [hc] at h
        obtain ⟨new, fin, e, h3⟩ := ih _ _ _ h
        exact ⟨⟨g, p, f, t⟩ :: new, fin, by rw [e]; simp, .cons hf1 hc h3⟩
theorem rebG_err {L : LayD} {hf : List Mv → Nat → List Nat} {dead : List Bool} : ∀ (r : List (Nat × Nat)) (now : List Mv) (out ts : List Tsk) (e : Int), rebG L hf dead r now out = (ts, e) → e ≠ 0 → ts = [] := by
  intro r
  induction r with
  | nil =>
    intro now out ts e h he
    unfold rebG at h
    cases h
    exact absurd rfl he
  | cons x r ih =>
    intro now out ts e h he
    obtain ⟨g, p⟩ := x
    unfold rebG at h
    rcases hf1 : fromL L (hf now g) g with _ | f
    · rw [hf1] at h
      cases h
      rfl
    · rw [hf1] at h
      simp only at h
      rcases hc : chooseL L now (g : Int) dead with _ | t
      · rw [hc] at h
        cases h
        rfl
      · rw [hc] at h
        exact ih _ _ _ _ h he
/-- a task as PlanTasks wants it -/
structure TskOk (L : LayD) (ms : List Mv) (dead : List Bool) (t : Tsk) : Prop where
  hs : fromL L (helpL L ms t.g dead) t.g = some t.frm
  to : toOk L t.to = true
  live : dead[t.to.disk.toNat]?.getD false = false
  free : ∀ i : Nat, i < L.w → (whereL L ms t.g i).disk ≠ t.to.disk
theorem reb_tasks {L : LayD} (ok : LayOk L) {ms : List Mv} {dead : List Bool} {r : List (Nat × Nat)} {now fin : List Mv} {new : List Tsk} (h : RebOk L (fun _ g => helpL L ms g dead) dead r now new fin) :
    MvOk L now → (∀ x ∈ r, isP L x.1 x.2 = true) → (r.Pairwise fun a b => a.1 < b.1) → (∀ x ∈ r, ∀ i : Nat, whereL L now x.1 i = whereL L ms x.1 i) →
    new.map (fun t => (t.g, t.p)) = r ∧ (∀ t ∈ new, TskOk L ms dead t) ∧ MvOk L fin := by
  induction h with
  | nil now => intro hok _ _ _; exact ⟨rfl, by simp, hok⟩
  | @cons g p r now fin f t new h1 h2 h3 ih =>
    intro hok hp hs hw
    obtain ⟨hs1, hs2⟩ := List.pairwise_cons.1 hs
    obtain ⟨-, hok2⟩ := fits_apply ok hok (i := (p : Int)) (hp (g, p) (by simp)) h2
    obtain ⟨e1, e2, e3⟩ := ih hok2 (fun x hx => hp x (by simp [hx])) hs2 (fun x hx i => by
      have h4 := hs1 x hx
      simp only at h4
      rw [where_other hok.ord (by omega)]
      exact hw x (by simp [hx]) i)
    refine ⟨by rw [List.map_cons, e1], fun x hx => ?_, e3⟩
    rcases List.mem_cons.1 hx with rfl | hx
    · obtain ⟨c1, c2, c3, -⟩ := choose_spec h2
      refine ⟨h1, c1, c2, fun i hi => ?_⟩
      rw [← hw (g, p) (by simp) i]
      exact holds_iff.1 c3 i hi
    · exact e2 x hx
/-- the moves that a rebuild leaves: what is lost has gone to its place, all else lies where it lay -/
theorem reb_where {L : LayD} (ok : LayOk L) {hf : List Mv → Nat → List Nat} {dead : List Bool} {r : List (Nat × Nat)} {now fin : List Mv} {new : List Tsk} (h : RebOk L hf dead r now new fin) :
    MvOk L now → (∀ x ∈ r, isP L x.1 x.2 = true) → ∀ g i : Nat, ((g, i) ∈ r ∧ ∃ t ∈ new, t.g = g ∧ t.p = i ∧ whereL L fin g i = t.to) ∨ ((g, i) ∉ r ∧ whereL L fin g i = whereL L now g i) := by
  induction h with
  | nil now => intro _ _ g i; exact .inr ⟨by simp, rfl⟩
  | @cons g0 p0 r now fin f t new h1 h2 h3 ih =>
    intro hok hp g i
    obtain ⟨-, hok2⟩ := fits_apply ok hok (i := (p0 : Int)) (hp (g0, p0) (by simp)) h2
    rcases ih hok2 (fun x hx => hp x (by simp [hx])) g i with ⟨h4, x, h5, h6, h7, h8⟩ | ⟨h4, h5⟩
    · exact .inl ⟨by simp [h4], x, by simp [h5], h6, h7, h8⟩
    · rw [where_with hok.ord] at h5
      by_cases he : g = g0 ∧ i = p0
      · obtain ⟨rfl, rfl⟩ := he
        refine .inl ⟨by simp, ⟨g, i, f, t⟩, by simp, rfl, rfl, ?_⟩
        rw [h5, if_pos ⟨rfl, rfl⟩, if_neg]
        obtain ⟨c1, -⟩ := choose_spec h2
        unfold toOk at c1
        simp only [Bool.and_eq_true, decide_eq_true_eq] at c1
        show ¬ t.disk = -1
        omega
      · refine .inr ⟨fun hm => ?_, ?_⟩
        · rcases List.mem_cons.1 hm with h6 | h6
          · exact he ⟨congrArg Prod.fst h6, congrArg Prod.snd h6⟩
          · exact h4 h6
        · rw [h5, if_neg]
          rintro ⟨h6, h7⟩
          simp only at h6 h7
          exact he ⟨by omega, by omega⟩
end Go.Proofs.YteglnekkkhpikaaGreat
namespace Go.Proofs.YteglnekkkhpikaaGreat

theorem mod_inj {n t a b : Nat} (ha : a < n) (hb : b < n) (h : (t + a) % n = (t + b) % n) : a = b := by
  have h1 := Nat.div_add_mod (t + a) n
  have h2 := Nat.div_add_mod (t + b) n
  rw [h] at h1
  generalize (t + b) % n = m at *
  generalize (t + a) / n = x at *
  generalize (t + b) / n = y at *
  rcases Nat.lt_trichotomy x y with h3 | h3 | h3
  · have := Nat.mul_le_mul_left n (show x + 1 ≤ y from h3)
    rw [Nat.mul_add, Nat.mul_one] at this
    omega
  · subst h3
    omega
  · have := Nat.mul_le_mul_left n (show y + 1 ≤ x from h3)
    rw [Nat.mul_add, Nat.mul_one] at this
    omega
theorem outF_iff {L : LayD} {g n k : Nat} : outF L g n k = true ↔ ∃ j, j < n - (L.w - 3) ∧ (g / L.n + j) % n = k := by
  unfold outF
  rw [List.any_eq_true]
  constructor
  · rintro ⟨j, h1, h2⟩
    exact ⟨j, List.mem_range.1 h1, by simpa using h2⟩
  · rintro ⟨j, h1, h2⟩
    exact ⟨j, List.mem_range.2 h1, by simpa using h2⟩
theorem out_count {L : LayD} {g n : Nat} (hn : 0 < n) : ((List.range n).filter fun k => outF L g n k).length = n - (L.w - 3) := by
  have h1 : ((List.range n).filter fun k => outF L g n k).Perm ((List.range (n - (L.w - 3))).map fun j => (g / L.n + j) % n) := by
    rw [List.perm_ext_iff_of_nodup]
    · intro k
      rw [List.mem_filter, List.mem_map, outF_iff]
      constructor
      · rintro ⟨-, j, h2, h3⟩
        exact ⟨j, List.mem_range.2 h2, h3⟩
      · rintro ⟨j, h2, h3⟩
        exact ⟨List.mem_range.2 (by rw [← h3]; exact Nat.mod_lt _ hn), j, List.mem_range.1 h2, h3⟩
    · exact List.Pairwise.filter _ List.nodup_range
    · show List.Pairwise (· ≠ ·) _
      rw [List.pairwise_map]
      refine List.Pairwise.imp_of_mem (fun {a b} ha hb (hab : a < b) e => ?_) List.pairwise_lt_range
      have h2 := List.mem_range.1 ha
      have h3 := List.mem_range.1 hb
      have := mod_inj (n := n) (by omega) (by omega) e
      omega
  rw [h1.length_eq]
  simp
theorem filt_add {α : Type} (p : α → Bool) (l : List α) : l.length = (l.filter p).length + (l.filter fun x => !p x).length := by
  induction l with
  | nil => rfl
  | cons a l ih =>
    rw [List.filter_cons, List.filter_cons]
    cases p a <;> simp <;> omega
theorem in_count {L : LayD} {g n : Nat} (hn : 0 < n) (h : L.w - 3 ≤ n) : ((List.range n).filter fun k => !outF L g n k).length = L.w - 3 := by
  have h1 := out_count (L := L) (g := g) hn
  have h2 := filt_add (fun k => outF L g n k) (List.range n)
  rw [List.length_range, h1] at h2
  omega
theorem fromV_len {L : LayD} {hs : List Nat} {g : Nat} (hn : hs.Nodup) (hl : ∀ x ∈ hs, x < L.w) (hp : 0 < hs.length) (h : ¬ hs.length < L.w - 3) : (fromV L hs g).length = L.w - 3 := by
  have h1 : (fromV L hs g).Perm (takeH L hs g hs.length) := by
    rw [List.perm_ext_iff_of_nodup]
    · intro x
      rw [fromV_mem, takeH_mem]
      constructor
      · rintro ⟨-, h2⟩
        exact h2
      · rintro ⟨k, h2, h3⟩
        exact ⟨hl x (List.mem_of_getElem? h2), k, h2, h3⟩
    · exact (fromV_inc hn).imp fun {a b} hab e => by omega
    · exact takeH_nodup hn
  rw [h1.length_eq]
  unfold takeH
  rw [List.length_map]
  exact in_count hp (by omega)
/-- the pieces of a task: width - 3 of them, in order, on disks in service -/
theorem from_good {L : LayD} (ok : LayOk L) {ms : List Mv} (h : MvOk L ms) {g : Nat} {dead : List Bool} {f : List Nat} (hf : fromL L (helpL L ms g dead) g = some f) :
    f.length = L.w - 3 ∧ f.Pairwise (· < ·) ∧ ∀ x ∈ f, x < L.w ∧ dead[(whereL L ms g x).disk.toNat]?.getD false = false := by
  have hw := ok.w
  by_cases hlt : (helpL L ms g dead).length < L.w - 3
  · rw [from_none hlt] at hf
    cases hf
  · rw [from_some hlt] at hf
    cases hf
    have hn := helpL_nodup (g := g) (dead := dead) ok h
    refine ⟨fromV_len hn helpL_lt (by omega) hlt, fromV_inc hn, fun x hx => ?_⟩
    obtain ⟨h1, k, h2, -⟩ := fromV_mem.1 hx
    refine ⟨h1, ?_⟩
    have h3 := List.mem_of_getElem? h2
    unfold helpL at h3
    obtain ⟨⟨d, i⟩, h4, h5⟩ := List.mem_map.1 h3
    simp only at h5
    subst h5
    obtain ⟨-, -, h6, h7⟩ := helpP_mem.1 h4
    rw [h7]
    simpa using h6
/-- PlanMoves: behind all tasks no piece lies on the disk, and all others lie where they lay -/
theorem moves_law {L : LayD} (ok : LayOk L) {ms fin : List Mv} {dead : List Bool} {d : Nat} {new : List Tsk} (h : MvOk L ms) (hd : dead[d]?.getD false = true) (hr : RebOk L (fun _ g => helpL L ms g dead) dead (onL L ms (d : Int)) ms new fin) :
    MvOk L fin ∧ onL L fin (d : Int) = [] ∧ ∀ g i : Nat, (whereL L ms g i).disk ≠ (d : Int) → whereL L fin g i = whereL L ms g i := by
  have hp : ∀ x ∈ onL L ms (d : Int), isP L x.1 x.2 = true := fun x hx => by
    obtain ⟨g, i⟩ := x
    obtain ⟨h1, h2, -⟩ := onL_mem.1 hx
    unfold isP
    simp only [Bool.and_eq_true, decide_eq_true_eq]
    omega
  obtain ⟨-, h2, h3⟩ := reb_tasks ok hr h hp (onL_inc ok h d) (fun _ _ _ => rfl)
  have hw := reb_where ok hr h hp
  refine ⟨h3, ?_, fun g i hne => ?_⟩
  · rw [List.eq_nil_iff_forall_not_mem]
    rintro ⟨g, i⟩ hx
    obtain ⟨e1, e2, e3⟩ := onL_mem.1 hx
    rcases hw g i with ⟨h4, t, h5, h6, h7, h8⟩ | ⟨h4, h5⟩
    · have h9 := (h2 t h5).live
      rw [← h8, e3] at h9
      simp only [Int.toNat_natCast] at h9
      rw [hd] at h9
      cases h9
    · rw [h5] at e3
      exact h4 (onL_mem.2 ⟨e1, e2, e3⟩)
  · rcases hw g i with ⟨h4, -⟩ | ⟨-, h5⟩
    · exact absurd (onL_mem.1 h4).2.2 hne
    · exact h5
end Go.Proofs.YteglnekkkhpikaaGreat
namespace Go.Proofs.YteglnekkkhpikaaGreat

theorem sub_len {α : Type} [BEq α] [LawfulBEq α] {l1 l2 : List α} (h1 : l1.Nodup) (h2 : l2.Nodup) (h : ∀ x ∈ l1, x ∈ l2) : l1.length ≤ l2.length := by
  have hp : l1.Perm (l2.filter fun x => l1.contains x) := by
    rw [List.perm_ext_iff_of_nodup h1 (List.Pairwise.filter _ h2)]
    intro x
    rw [List.mem_filter, List.contains_iff_mem]
    exact ⟨fun hx => ⟨h x hx, hx⟩, fun hx => hx.2⟩
  rw [hp.length_eq]
  exact List.length_filter_le _ _
theorem filt_or {α : Type} (a b : α → Bool) (l : List α) : (l.filter fun x => a x || b x).length ≤ (l.filter a).length + (l.filter b).length := by
  induction l with
  | nil => simp
  | cons x l ih =>
    simp only [List.filter_cons]
    cases a x <;> cases b x <;> simp <;> omega
theorem filt_one {α : Type} {p : α → Bool} {l : List α} (h : l.Nodup) (ha : ∀ x ∈ l, ∀ y ∈ l, p x = true → p y = true → x = y) : (l.filter p).length ≤ 1 := by
  have hn : (l.filter p).Nodup := List.Pairwise.filter _ h
  match hl : l.filter p, hn with
  | [], _ => simp
  | [_], _ => simp
  | x :: y :: r, hn =>
    have hx : x ∈ l.filter p := by rw [hl]; simp
    have hy : y ∈ l.filter p := by rw [hl]; simp
    obtain ⟨h1, h2⟩ := List.mem_filter.1 hx
    obtain ⟨h3, h4⟩ := List.mem_filter.1 hy
    have := ha x h1 y h3 h2 h4
    subst this
    have h5 := (List.pairwise_cons.1 hn).1 x (by simp)
    exact absurd rfl h5
theorem used_le (L : LayD) (d : Int) : ∀ ms : List Mv, (usedL L ms d).length ≤ ms.length := by
  intro ms
  have hn : ((List.range L.spare).map fun i => ((L.homes + i : Nat) : Int)).Nodup := by
    show List.Pairwise (· ≠ ·) _
    rw [List.pairwise_map]
    exact List.pairwise_lt_range.imp fun {a b} hab e => by omega
  induction ms with
  | nil => simp [usedL]
  | cons m ms ih =>
    unfold usedL at ih ⊢
    have h1 := filt_or (fun b : Int => m.to == ⟨d, b⟩) (fun b : Int => ms.any fun m => m.to == ⟨d, b⟩) ((List.range L.spare).map fun i => ((L.homes + i : Nat) : Int))
    have h2 := filt_one (p := fun b : Int => m.to == ⟨d, b⟩) hn (fun x _ y _ hx hy => by
      have e1 : m.to = ⟨d, x⟩ := by simpa using hx
      have e2 : m.to = ⟨d, y⟩ := by simpa using hy
      rw [e1] at e2
      exact congrArg Plc.block e2)
    simp only [List.any_cons, List.length_cons]
    omega
theorem best_any {L : LayD} {ms : List Mv} {g : Int} {dead : List Bool} : ∀ {k d : Nat}, d < k → okDisk L ms g dead d = true → ∃ x, bestTo L ms g dead k = some x := by
  intro k
  induction k with
  | zero => intro d h _; omega
  | succ k ih =>
    intro d hd ho
    rw [bestTo]
    rcases hb : bestTo L ms g dead k with _ | ⟨x, c⟩
    · by_cases hdk : d = k
      · subst hdk
        simp [ho]
      · obtain ⟨x, hx⟩ := ih (show d < k by omega) ho
        rw [hb] at hx
        cases hx
    · simp only
      split <;> exact ⟨_, rfl⟩
theorem choose_any {L : LayD} {ms : List Mv} {g : Int} {dead : List Bool} {d : Nat} (hd : d < L.disks) (ho : okDisk L ms g dead d = true) : ∃ t, chooseL L ms g dead = some t := by
  obtain ⟨x, hx⟩ := best_any hd ho
  exact ⟨_, by unfold chooseL; rw [hx]; rfl⟩
/-- a rebuild goes through if every group has a free disk in service and helpers enough, and the spare blocks suffice -/
theorem reb_through {L : LayD} (ok : LayOk L) {ms : List Mv} {dead : List Bool} : ∀ (r : List (Nat × Nat)) (now : List Mv), MvOk L now → (∀ x ∈ r, isP L x.1 x.2 = true) → (r.Pairwise fun a b => a.1 < b.1) → (∀ x ∈ r, ∀ i : Nat, whereL L now x.1 i = whereL L ms x.1 i) →
    (∀ x ∈ r, ∃ e, e < L.disks ∧ dead[e]?.getD false = false ∧ holdsL L ms x.1 e = false) → (∀ x ∈ r, L.w - 3 ≤ (helpL L ms x.1 dead).length) → now.length + r.length ≤ L.spare →
    ∃ new fin, RebOk L (fun _ g => helpL L ms g dead) dead r now new fin := by
  intro r
  induction r with
  | nil => intro now _ _ _ _ _ _ _; exact ⟨[], now, .nil _⟩
  | cons x r ih =>
    intro now hok hp hs hw hfree hhelp hsp
    obtain ⟨g, p⟩ := x
    obtain ⟨hs1, hs2⟩ := List.pairwise_cons.1 hs
    obtain ⟨e, he, hde, hho⟩ := hfree (g, p) (by simp)
    have hh := hhelp (g, p) (by simp)
    simp only at hh hho
    have h1 : fromL L (helpL L ms g dead) g = some (fromV L (helpL L ms g dead) g) := from_some (by omega)
    have hho2 : holdsL L now (g : Int) (e : Int) = false := by
      rw [holds_iff] at hho ⊢
      intro i hi
      rw [hw (g, p) (by simp) i]
      exact hho i hi
    have hlen : (usedL L now (e : Int)).length < L.spare := by
      have := used_le L (e : Int) now
      rw [List.length_cons] at hsp
      omega
    obtain ⟨t, ht⟩ := choose_any (L := L) (ms := now) (g := (g : Int)) (dead := dead) he (by unfold okDisk; rw [hde, hho2]; simpa using hlen)
    obtain ⟨-, hok2⟩ := fits_apply ok hok (i := (p : Int)) (hp (g, p) (by simp)) ht
    have hwl : (withM now ⟨(g : Int), (p : Int), t⟩).length ≤ now.length + 1 := withL_len _ _ _
    obtain ⟨new, fin, hr⟩ := ih (withM now ⟨g, p, t⟩) hok2 (fun x hx => hp x (by simp [hx])) hs2 (fun x hx i => by
      have h4 := hs1 x hx
      simp only at h4
      rw [where_other hok.ord (by omega)]
      exact hw x (by simp [hx]) i) (fun x hx => hfree x (by simp [hx])) (fun x hx => hhelp x (by simp [hx])) (by rw [List.length_cons] at hsp; omega)
    exact ⟨_, fin, .cons h1 ht hr⟩
end Go.Proofs.YteglnekkkhpikaaGreat
namespace Go.Proofs.YteglnekkkhpikaaGreat

def inRow (L : LayD) (x g : Nat) : Bool := ((L.gs[g % L.n]?).getD []).contains x
theorem where_nil (L : LayD) (g i : Nat) : (whereL L [] g i).disk = (hdisk L g i : Int) := rfl
theorem row_has {L : LayD} (ok : LayOk L) {g x : Nat} : inRow L x g = true ↔ ∃ i, i < L.w ∧ hdisk L g i = x := by
  have hw : 0 < L.w := by have := ok.w; omega
  obtain ⟨row, h1, h2, h3, -⟩ := row_of ok g
  unfold inRow
  rw [h1]
  simp only [Option.getD_some, List.contains_iff_mem]
  constructor
  · intro hx
    obtain ⟨a, ha⟩ := List.mem_iff_getElem?.1 hx
    have hal : a < L.w := by rw [← h2]; exact (List.getElem?_eq_some_iff.1 ha).1
    obtain ⟨e1, e2⟩ := emod_fwd (t := g / L.n) hw hal
    refine ⟨_, e2, ?_⟩
    have h4 := hdisk_at (p := (((a : Int) - ((g / L.n : Nat) : Int)) % (L.w : Int)).toNat) h1 h2 hw
    rw [e1, ha] at h4
    exact (Option.some.inj h4).symm
  · rintro ⟨i, hi, rfl⟩
    exact List.mem_of_getElem? (hdisk_at h1 h2 hw)
theorem holds_row {L : LayD} (ok : LayOk L) {g x : Nat} : holdsL L [] g x = inRow L x g := by
  rw [Bool.eq_iff_iff, row_has ok]
  unfold holdsL
  rw [List.any_eq_true]
  constructor
  · rintro ⟨i, h1, h2⟩
    refine ⟨i, List.mem_range.1 h1, ?_⟩
    rw [where_nil] at h2
    have : (hdisk L g i : Int) = (x : Int) := by simpa using h2
    omega
  · rintro ⟨i, h1, h2⟩
    refine ⟨i, List.mem_range.2 h1, ?_⟩
    rw [where_nil, h2]
    simp
/-- dead disks: one -/
def oneD (D d : Nat) : List Bool := (List.replicate D false).set d true
theorem oneD_get {D d e : Nat} (he : e < D) : (oneD D d)[e]?.getD false = decide (d = e) := by
  unfold oneD
  by_cases h : d = e
  · subst h
    rw [List.getElem?_set_self (by simpa using he)]
    simp
  · rw [List.getElem?_set_ne h, List.getElem?_replicate, if_pos he]
    simp [h]
theorem row_free {L : LayD} (ok : LayOk L) (hw : L.w < L.disks) (g : Nat) : ∃ e, e < L.disks ∧ inRow L e g = false := by
  obtain ⟨row, h1, h2, h3, h4⟩ := row_of ok g
  by_cases h : ∃ e, e < L.disks ∧ inRow L e g = false
  · exact h
  · exfalso
    have hall : ∀ e ∈ List.range L.disks, e ∈ row := fun e he => by
      by_cases hx : inRow L e g = true
      · unfold inRow at hx
        rw [h1] at hx
        simpa using hx
      · exact absurd ⟨e, List.mem_range.1 he, by simpa using hx⟩ h
    have h5 := sub_len List.nodup_range (h3.imp fun {a b} hab e => by omega) hall
    rw [List.length_range, h2] at h5
    omega
theorem help_many {L : LayD} (ok : LayOk L) (g d : Nat) : L.w - 3 ≤ (helpL L [] g (oneD L.disks d)).length := by
  have hm := ok_nil L
  have hp : (helpP L [] g (oneD L.disks d)).Perm (rawH L [] g (oneD L.disks d)) := by
    rw [List.perm_ext_iff_of_nodup]
    · intro x
      exact (rawH_mem ok hm x).symm
    · exact (helpP_inc ok hm g _).imp fun {a b} hab e => by rw [e] at hab; omega
    · exact rawH_nodup
  unfold helpL
  rw [List.length_map, hp.length_eq]
  unfold rawH
  rw [List.length_map]
  have h1 := filt_add (fun i : Nat => (oneD L.disks d)[(whereL L [] g i).disk.toNat]?.getD false) (List.range L.w)
  have h2 := filt_one (p := fun i : Nat => (oneD L.disks d)[(whereL L [] g i).disk.toNat]?.getD false) (List.nodup_range (n := L.w)) (fun x hx y hy h3 h4 => by
    simp only [where_nil, Int.toNat_natCast] at h3 h4
    rw [oneD_get (hdisk_lt ok g x), decide_eq_true_eq] at h3
    rw [oneD_get (hdisk_lt ok g y), decide_eq_true_eq] at h4
    exact hdisk_inj ok (List.mem_range.1 hx) (List.mem_range.1 hy) (h3.symm.trans h4))
  rw [List.length_range] at h1
  omega
theorem on_isP {L : LayD} {ms : List Mv} {d : Int} : ∀ x ∈ onL L ms d, isP L x.1 x.2 = true := fun x hx => by
  obtain ⟨g, i⟩ := x
  obtain ⟨h1, h2, -⟩ := onL_mem.1 hx
  unfold isP
  simp only [Bool.and_eq_true, decide_eq_true_eq]
  omega
theorem on_row {L : LayD} (ok : LayOk L) {d : Nat} : ∀ x ∈ onL L [] (d : Int), inRow L d x.1 = true := fun x hx => by
  obtain ⟨g, i⟩ := x
  obtain ⟨-, h2, h3⟩ := onL_mem.1 hx
  rw [where_nil] at h3
  have h4 : (hdisk L g i : Int) = (d : Int) := h3
  exact (row_has ok).2 ⟨i, h2, show hdisk L g i = d by omega⟩
/-- with a disk to spare and spare blocks enough every piece of the disk finds a place -/
theorem spares_through {L : LayD} (ok : LayOk L) (hw : L.w < L.disks) {d : Nat} (hsp : (onL L [] (d : Int)).length ≤ L.spare) :
    ∃ new fin, RebOk L (fun _ g => helpL L [] g (oneD L.disks d)) (oneD L.disks d) (onL L [] (d : Int)) [] new fin :=
  reb_through ok _ _ (ok_nil L) on_isP (onL_inc ok (ok_nil L) d) (fun _ _ _ => rfl) (fun x hx => by
    obtain ⟨e, he, hf⟩ := row_free ok hw x.1
    refine ⟨e, he, ?_, by rw [holds_row ok]; exact hf⟩
    rw [oneD_get he, decide_eq_false_iff_not]
    intro h
    subst h
    rw [on_row ok x hx] at hf
    cases hf) (fun x _ => help_many ok x.1 d) (by simpa using hsp)
end Go.Proofs.YteglnekkkhpikaaGreat
namespace Go.Proofs.YteglnekkkhpikaaGreat

theorem count_mod {n : Nat} (q : Nat → Bool) : ∀ t : Nat, ((List.range (t * n)).filter fun g => q (g % n)).length = t * ((List.range n).filter q).length := by
  intro t
  induction t with
  | zero => simp
  | succ t ih =>
    have e : List.range ((t + 1) * n) = List.range (t * n) ++ (List.range n).map (fun i => t * n + i) := by
      rw [Nat.add_mul, Nat.one_mul, List.range_add]
    rw [e, List.filter_append, List.length_append, ih, List.filter_map, List.length_map]
    have h : (List.range n).filter ((fun g => q (g % n)) ∘ fun i => t * n + i) = (List.range n).filter q := by
      apply List.filter_congr
      intro i hi
      have hi' := List.mem_range.1 hi
      simp only [Function.comp]
      rw [Nat.mul_comm, Nat.mul_add_mod, Nat.mod_eq_of_lt hi']
    rw [h, Nat.add_mul, Nat.one_mul]
theorem count_and (a b : List Nat → Bool) (l : List (List Nat)) : l.countP a = l.countP (fun x => a x && b x) + l.countP (fun x => a x && !b x) := by
  induction l with
  | nil => rfl
  | cons x l ih =>
    simp only [List.countP_cons]
    cases a x <;> cases b x <;> simp <;> omega
/-- the groups that have the one disk and not the other -/
theorem count_row {L : LayD} (d x : Nat) : ((List.range L.G).filter fun g => inRow L d g && !inRow L x g).length = L.tiles * (L.gs.countP fun row => row.contains d && !row.contains x) := by
  have h := count_mod (n := L.n) (fun i => ((L.gs[i]?).getD []).contains d && !((L.gs[i]?).getD []).contains x) L.tiles
  have h2 := countP_range L.gs (fun row => row.contains d && !row.contains x)
  unfold LayD.G inRow
  unfold LayD.n at h ⊢
  rw [h, h2]
theorem spares_law {L : LayD} (ok : LayOk L) {lam : Nat} (hlam : ∀ a b : Nat, a < L.disks → b < L.disks → a ≠ b → (L.gs.countP fun g => g.contains a && g.contains b) = lam) {d : Nat} (hd : d < L.disks) {new : List Tsk} {fin : List Mv}
    (hr : RebOk L (fun _ g => helpL L [] g (oneD L.disks d)) (oneD L.disks d) (onL L [] (d : Int)) [] new fin) (x : Nat) (hxd : x < L.disks) :
    (new.filter fun t => t.to.disk == (x : Int)).length ≤ L.tiles * (L.r - lam) ∧ (x = d → (new.filter fun t => t.to.disk == (x : Int)).length = 0) := by
  obtain ⟨h1, h2, -⟩ := reb_tasks ok hr (ok_nil L) on_isP (onL_inc ok (ok_nil L) d) (fun _ _ _ => rfl)
  have hto : ∀ t ∈ new, t.to.disk = (x : Int) → inRow L d t.g = true ∧ inRow L x t.g = false ∧ t.g < L.G ∧ x ≠ d := fun t ht he => by
    have h3 : (t.g, t.p) ∈ onL L [] (d : Int) := by rw [← h1]; exact List.mem_map.2 ⟨t, ht, rfl⟩
    have h4 := h2 t ht
    refine ⟨on_row ok _ h3, ?_, (onL_mem.1 h3).1, ?_⟩
    · rw [← holds_row ok, holds_iff]
      intro i hi e
      exact h4.free i hi (e.trans he.symm)
    · rintro rfl
      have h5 := h4.live
      rw [he, Int.toNat_natCast, oneD_get hxd] at h5
      simp at h5
  by_cases hxe : x = d
  · subst hxe
    have h0 : new.filter (fun t => t.to.disk == (x : Int)) = [] := by
      rw [List.filter_eq_nil_iff]
      intro t ht h
      exact (hto t ht (by simpa using h)).2.2.2 rfl
    rw [h0]
    exact ⟨Nat.zero_le _, fun _ => rfl⟩
  · refine ⟨?_, fun h => absurd h hxe⟩
    have h3 := count_and (fun row : List Nat => row.contains d) (fun row => row.contains x) L.gs
    rw [hlam d x hd hxd (fun e => hxe e.symm), ok.cnt d hd] at h3
    have h4 : L.gs.countP (fun row => row.contains d && !row.contains x) = L.r - lam := by omega
    rw [← h4, ← count_row d x]
    have h5 : (new.map fun t => t.g).Pairwise (· < ·) := by
      have h6 := onL_inc ok (ok_nil L) (d : Int)
      rw [← h1, List.pairwise_map] at h6
      rw [List.pairwise_map]
      exact h6.imp fun {a b} hab => hab
    have h7 : ((new.filter fun t => t.to.disk == (x : Int)).map fun t => t.g).Nodup := by
      rw [List.pairwise_map] at h5
      show List.Pairwise (· ≠ ·) _
      rw [List.pairwise_map]
      exact (List.Pairwise.filter _ h5).imp fun {a b} hab e => by omega
    have h8 := sub_len h7 (List.Pairwise.filter _ List.nodup_range) (l2 := (List.range L.G).filter fun g => inRow L d g && !inRow L x g) (fun g hg => by
      obtain ⟨t, ht, rfl⟩ := List.mem_map.1 hg
      obtain ⟨h9, h10⟩ := List.mem_filter.1 ht
      obtain ⟨k1, k2, k3, -⟩ := hto t h9 (by simpa using h10)
      rw [List.mem_filter]
      exact ⟨List.mem_range.2 k3, by simp [k1, k2]⟩)
    rw [List.length_map] at h8
    exact h8
theorem perm_of_sub {α : Type} [BEq α] [LawfulBEq α] {l1 l2 : List α} (h1 : l1.Nodup) (h2 : l2.Nodup) (h : ∀ x ∈ l1, x ∈ l2) (hl : l2.length ≤ l1.length) : l1.Perm l2 := by
  have hp : l1.Perm (l2.filter fun x => l1.contains x) := by
    rw [List.perm_ext_iff_of_nodup h1 (List.Pairwise.filter _ h2)]
    intro x
    rw [List.mem_filter, List.contains_iff_mem]
    exact ⟨fun hx => ⟨h x hx, hx⟩, fun hx => hx.2⟩
  have h3 : (l2.filter fun x => l1.contains x).length = l2.length := by
    have := hp.length_eq
    have := List.length_filter_le (fun x => l1.contains x) l2
    omega
  have h4 : l2.filter (fun x => l1.contains x) = l2 := by
    rw [List.filter_eq_self]
    intro x hx
    exact (List.length_filter_eq_length_iff.1 h3) x hx
  rw [h4] at hp
  exact hp
theorem best_no {L : LayD} {ms : List Mv} {g : Int} {dead : List Bool} : ∀ k : Nat, (∀ d, d < k → okDisk L ms g dead d = false) → bestTo L ms g dead k = none := by
  intro k
  induction k with
  | zero => intro _; rfl
  | succ k ih =>
    intro h
    rw [bestTo, ih (fun d hd => h d (by omega)), h k (by omega)]
    rfl
/-- where the width is the number of disks, there is no place -/
theorem spares_none {L : LayD} (ok : LayOk L) (hw : L.w = L.disks) {d : Nat} (hd : d < L.disks) : refG L [] (oneD L.disks d) (onL L [] (d : Int)) [] [] = ([], 11) := by
  have hhom : 0 < L.homes := Nat.mul_pos ok.tiles.1 (rpos ok)
  have hmem : homeAt L d 0 ∈ homeOn L d := List.mem_map.2 ⟨0, List.mem_range.2 hhom, rfl⟩
  obtain ⟨⟨g0, i0⟩, hx⟩ : ∃ x, homeAt L d 0 = x := ⟨_, rfl⟩
  rw [hx, homeOn_mem ok hd] at hmem
  have hon : (g0, i0) ∈ onL L [] (d : Int) := onL_mem.2 ⟨hmem.1, hmem.2.1, by rw [where_nil, hmem.2.2]⟩
  obtain ⟨⟨g, p⟩, r, hl⟩ : ∃ y r, onL L [] (d : Int) = y :: r := by
    cases h : onL L [] (d : Int) with
    | nil => rw [h] at hon; cases hon
    | cons y r => exact ⟨y, r, rfl⟩
  rw [hl]
  unfold refG rebG
  have hh := help_many ok g d
  have hw4 := ok.w
  rw [from_some (by omega)]
  simp only
  have hc : chooseL L [] (g : Int) (oneD L.disks d) = none := by
    unfold chooseL
    rw [best_no]
    · rfl
    · intro e he
      have hr : inRow L e g = true := by
        obtain ⟨row, h1, h2, h3, h4⟩ := row_of ok g
        have h5 : row.Perm (List.range L.disks) := by
          have h6 : (List.range L.disks).length ≤ row.length := by rw [List.length_range, h2, hw]; exact Nat.le_refl _
          have h7 := sub_len (l1 := row) (h3.imp fun {a b} hab e => by omega) (List.nodup_range (n := L.disks)) (fun x hx => List.mem_range.2 (h4 x hx))
          exact perm_of_sub (h3.imp fun {a b} hab e => by omega) List.nodup_range (fun x hx => List.mem_range.2 (h4 x hx)) (by omega)
        unfold inRow
        rw [h1]
        simp only [Option.getD_some, List.contains_iff_mem]
        exact h5.mem_iff.2 (List.mem_range.2 he)
      unfold okDisk
      rw [holds_row ok, hr]
      simp
  rw [hc]
end Go.Proofs.YteglnekkkhpikaaGreat
