/- What spare.OnDisk lists is what tegularef22.On lists. Plain: no program is walked here. -/
import Derived.Test.YtkjjojmidhjjdaaGreatOdC
namespace Go.Proofs.YtkjjojmidhjjdaaGreat

def bkI (x : Int × Int) : Nat × Nat := (x.1.toNat, x.2.toNat)
theorem bk_toI (x : Nat × Nat) : bkI (toI x) = x := by simp [bkI, toI]
theorem rawOn_nodup {L : LayD} (ok : LayOk L) {ms : List Mv} (h : MvOk L ms) {d : Nat} (hd : d < L.disks) : (rawOn L ms d).Nodup := by
  rw [rawOn_eq]
  show List.Pairwise (· ≠ ·) _
  rw [List.pairwise_append]
  refine ⟨?_, ?_, ?_⟩
  · unfold filH
    refine List.Pairwise.imp (fun {a b} hab e => ?_) (List.Pairwise.filter _ (homeOn_inc ok hd))
    rw [e] at hab
    omega
  · unfold filM
    rw [List.pairwise_map]
    refine List.Pairwise.imp_of_mem (fun {a b} ha hb hab e => ?_) (List.Pairwise.filter _ h.ord)
    obtain ⟨g1, p1, e1, e2, -, -⟩ := isP_nat (h.is a (List.mem_filter.1 ha).1)
    obtain ⟨g2, p2, e3, e4, -, -⟩ := isP_nat (h.is b (List.mem_filter.1 hb).1)
    have h1 := congrArg Prod.fst e
    have h2 := congrArg Prod.snd e
    simp only at h1 h2
    exact ltM_key hab ⟨by omega, by omega⟩
  · intro x hx y hy e
    subst e
    unfold filH at hx
    unfold filM at hy
    obtain ⟨m, hm, rfl⟩ := List.mem_map.1 hy
    have h1 := (List.mem_filter.1 hx).2
    have hmm := (List.mem_filter.1 hm).1
    obtain ⟨g1, p1, e1, e2, -, -⟩ := isP_nat (h.is m hmm)
    have h2 : ms.any (atM ((m.g.toNat : Nat) : Int) ((m.p.toNat : Nat) : Int)) = true := by
      rw [List.any_eq_true]
      exact ⟨m, hmm, by simp [atM]; omega⟩
    simp only at h1
    rw [h2] at h1
    cases h1
theorem sort_on {L : LayD} (ok : LayOk L) {ms : List Mv} (h : MvOk L ms) {d : Nat} (hd : d < L.disks) {ts : List (Int × Int)} (hp : ts.Perm ((rawOn L ms d).map toI)) (hs : ts.Pairwise fun a b => a.1 ≤ b.1) : ts = (onL L ms d).map toI := by
  have hback : ∀ x ∈ ts, toI (bkI x) = x := fun x hx => by
    obtain ⟨y, -, rfl⟩ := List.mem_map.1 (hp.mem_iff.1 hx)
    rw [bk_toI]
  have hts : ts = (ts.map bkI).map toI := by
    rw [List.map_map]
    conv => lhs; rw [← List.map_id ts]
    exact List.map_congr_left fun x hx => (hback x hx).symm
  have hpu : (ts.map bkI).Perm (rawOn L ms d) := by
    have := hp.map bkI
    rw [List.map_map] at this
    have e : (rawOn L ms d).map (bkI ∘ toI) = rawOn L ms d := by
      conv => rhs; rw [← List.map_id (rawOn L ms d)]
      exact List.map_congr_left fun x _ => bk_toI x
    rw [e] at this
    exact this
  have hnd : (ts.map bkI).Nodup := hpu.nodup_iff.2 (rawOn_nodup ok h hd)
  have hle : (ts.map bkI).Pairwise fun a b => a.1 ≤ b.1 := by
    rw [List.pairwise_map]
    exact hs.imp fun {a b} hab => by simp only [bkI]; omega
  have hlt : (ts.map bkI).Pairwise fun a b => a.1 < b.1 := by
    have h2 : (ts.map bkI).Pairwise fun a b => a.1 ≤ b.1 ∧ a ≠ b := List.Pairwise.and hle hnd
    refine List.Pairwise.imp_of_mem (fun {a b} ha hb hab => ?_) h2
    rcases Nat.lt_or_eq_of_le hab.1 with h3 | h3
    · exact h3
    · exact absurd (rawOn_nd ok h hd (hpu.mem_iff.1 ha) (hpu.mem_iff.1 hb) h3) hab.2
  rw [hts, inc_eq2 hlt (onL_inc ok h d) fun x => (hpu.mem_iff.trans (rawOn_mem ok h hd x))]
end Go.Proofs.YtkjjojmidhjjdaaGreat
