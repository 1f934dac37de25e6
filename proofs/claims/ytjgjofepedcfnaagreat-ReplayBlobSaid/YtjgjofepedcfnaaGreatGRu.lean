/- PLAIN: what is encoded is decoded. No program is walked here.
PLAIN: the states of the laws can be encoded: their numbers are in range, the blob is short. No program is walked here.
Walk of tegulalaw50.ReplayDecode.
Walk of tegulalaw50.ReplayBlob. -/
import Derived.Test.YtjgjofepedcfnaaGreatRsG
import Derived.Test.YtjgjofepedcfnaaGreatRsC
import Derived.Test.YtjgjofepedcfnaaGreatOpnR
import Derived.Test.YtjgjofepedcfnaaGreatGRv
import Derived.Test.YtjgjofepedcfnaaGreatRsK
namespace Go.Proofs.YtjgjofepedcfnaaGreat
open Go.RowKit
theorem uvD_uvB (m : Nat) : ∀ (i n : Nat) (t : List Nat), i ≤ 9 → m < 2 ^ (64 - 7 * i) → (i = 0 ∨ 0 < m) → uvD i n (uvB m ++ t) = some (n + m * 2 ^ (7 * i), t) := by
 induction m using Nat.strongRecOn with
 | _ m ih =>
  intro i n t hi hm hz
  by_cases h : m < 128
  ·rw [uvB_lo h, List.singleton_append]
   unfold uvD
   rw [if_neg (by omega), if_neg (fun hh => by obtain ⟨rfl, h1⟩ := hh; simp at hm; omega), if_pos h, if_neg (by omega), Nat.mod_eq_of_lt h]
  ·rw [uvB_hi h, List.cons_append]
   unfold uvD
   have hi8 : i ≤ 8 := by
    by_cases h9 : i = 9
    ·subst h9; simp at hm; omega
    ·omega
   rw [if_neg (by omega), if_neg (by omega), if_neg (by omega)]
   have hp : 2 ^ (64 - 7 * i) = 128 * 2 ^ (64 - 7 * (i + 1)) := by
    rw [show 64 - 7 * i = (64 - 7 * (i + 1)) + 7 by omega, Nat.pow_add]
    omega
   have hq : m / 128 < 2 ^ (64 - 7 * (i + 1)) := by
    rw [hp] at hm
    generalize 2 ^ (64 - 7 * (i + 1)) = X at *
    omega
   rw [ih (m / 128) (by omega) (i + 1) _ t (by omega) hq (.inr (by omega))]
   have e1 : (m % 128 + 128) % 128 = m % 128 := by omega
   have e2 : m * 2 ^ (7 * i) = m % 128 * 2 ^ (7 * i) + m / 128 * 2 ^ (7 * (i + 1)) := by
    rw [pow7, ← Nat.mul_assoc, ← Nat.add_mul]
    congr 1
    omega
   rw [e1, e2, Nat.add_assoc]
section
variable {m most : Nat} {t : List Nat}
theorem rdU_enc (h : m < 18446744073709551616) : rdU (some (uvB m ++ t)) = (m, 0, some t) := by
 have := uvD_uvB m 0 0 t (by omega) (by simpa using h) (.inl rfl)
 simp only [rdU, rdG, this]
 simp
theorem rdC_enc (h : m < 18446744073709551616) (hm : m ≤ most) : rdC most (some (uvB m ++ t)) = (m, 0, some t) := by
 rw [rdC_eq (by rw [rdU_enc h]; exact hm), rdU_enc h]
theorem rdB_enc {x : List Nat} (h : x.length < 18446744073709551616) : rdB (some (bsB x ++ t)) = (x, 0, some t) := by
 unfold rdB bsB
 rw [List.append_assoc, rdU_enc h]
 simp [rdT]
theorem prS_enc {vs ss : List Nat} (hv : ∀ n ∈ vs, n < 18446744073709551616) (hs : ∀ n ∈ ss, n < 18446744073709551616) (hn : vs.length = ss.length) : ∀ k, k ≤ vs.length → prS (some ((vs.zip ss).flatMap prE ++ t)) k = (vs.take k, ss.take k, some (((vs.zip ss).drop k).flatMap prE ++ t))
 | 0, _ => rfl
 | k + 1, hk => by
  have ih := prS_enc hv hs hn k (by omega)
  obtain ⟨a, ha⟩ : ∃ a, vs[k]? = some a := ⟨_, List.getElem?_eq_getElem (by omega)⟩
  obtain ⟨c, hc⟩ : ∃ c, ss[k]? = some c := ⟨_, List.getElem?_eq_getElem (by omega)⟩
  unfold prS
  rw [ih]
  dsimp only
  rw [drop_flat prE (zip_at ha hc)]
  unfold prE
  simp only [List.append_assoc]
  rw [rdU_enc (hv a (List.mem_of_getElem? ha))]
  dsimp only
  rw [rdU_enc (hs c (List.mem_of_getElem? hc)), List.take_add_one, List.take_add_one, ha, hc]
  rfl
theorem lsS_enc {w : Nat} {ls : List Leaf} (h : ∀ x ∈ ls, (x.vs.length = w ∧ x.ss.length = w) ∧ (∀ n ∈ x.vs, n < 18446744073709551616) ∧ ∀ n ∈ x.ss, n < 18446744073709551616) : ∀ k, k ≤ ls.length → lsS w (some (ls.flatMap lfE ++ t)) k = (ls.take k, some ((ls.drop k).flatMap lfE ++ t))
 | 0, _ => rfl
 | k + 1, hk => by
  have ih := lsS_enc h k (by omega)
  obtain ⟨x, hx⟩ : ∃ x, ls[k]? = some x := ⟨_, List.getElem?_eq_getElem (by omega)⟩
  obtain ⟨⟨h1, h2⟩, h3, h4⟩ := h x (List.mem_of_getElem? hx)
  unfold lsS
  rw [ih]
  dsimp only
  rw [drop_flat lfE hx, List.append_assoc]
  have hp := prS_enc (t := (ls.drop (k + 1)).flatMap lfE ++ t) h3 h4 (by omega) w (by omega)
  unfold lfE at hp ⊢
  rw [hp]
  dsimp only
  rw [List.take_of_length_le (l := x.vs) (by omega), List.take_of_length_le (l := x.ss) (by omega), List.drop_of_length_le (l := x.vs.zip x.ss) (by rw [List.length_zip]; omega), List.take_add_one, hx]
  rfl
theorem mvP_enc {ms : List Mv} (h : ∀ x ∈ ms, MvIn x) : ∀ k, k ≤ ms.length → mvP (some (ms.flatMap mvE ++ t)) k = (ms.take k, some ((ms.drop k).flatMap mvE ++ t))
 | 0, _ => rfl
 | k + 1, hk => by
  have ih := mvP_enc h k (by omega)
  obtain ⟨x, hx⟩ : ∃ x, ms[k]? = some x := ⟨_, List.getElem?_eq_getElem (by omega)⟩
  obtain ⟨⟨a0, a1⟩, ⟨b0, b1⟩, ⟨c0, c1⟩, d0, d1⟩ := h x (List.mem_of_getElem? hx)
  unfold mvP
  rw [ih]
  dsimp only
  rw [drop_flat mvE hx]
  unfold mvE mvC
  simp only [List.append_assoc]
  rw [rdC_enc (by omega) (by omega)]
  dsimp only
  rw [rdC_enc (by omega) (by omega)]
  dsimp only
  rw [rdC_enc (by omega) (by omega)]
  dsimp only
  rw [rdC_enc (by omega) (by omega)]
  dsimp only
  rw [List.take_add_one, hx, Int.toNat_of_nonneg a0, Int.toNat_of_nonneg b0, Int.toNat_of_nonneg c0, Int.toNat_of_nonneg d0]
  rfl
theorem ntS_enc {nt : List (List Nat)} (h : ∀ x ∈ nt, x.length < 18446744073709551616) : ∀ k, k ≤ nt.length → ntS (some (nt.flatMap bsB ++ t)) k = (nt.take k, some ((nt.drop k).flatMap bsB ++ t))
 | 0, _ => rfl
 | k + 1, hk => by
  have ih := ntS_enc h k (by omega)
  obtain ⟨x, hx⟩ : ∃ x, nt[k]? = some x := ⟨_, List.getElem?_eq_getElem (by omega)⟩
  unfold ntS
  rw [ih]
  dsimp only
  rw [drop_flat bsB hx, List.append_assoc, rdB_enc (h x (List.mem_of_getElem? hx)), List.take_add_one, hx]
  rfl
theorem flat_many {nt : List (List Nat)} : nt.length ≤ (nt.flatMap bsB).length := by
 induction nt with
 | nil => simp
 | cons x l ih =>
  have := uvB_pos x.length
  simp only [List.flatMap_cons, List.length_append, List.length_cons, bsB]
  omega
end
theorem decP_enc {L : LayD} {S : St} {u : List Nat} (hL : LayOk L) (h : stOk L S = true) (hk : EncOk S u) : decP L (encS S u) = (S, u, 0) := by
 obtain ⟨ls, ms, nt⟩ := S
 have hls := stOk_ls h
 have hmo := stOk_ms h
 have hlen := ms_len hmo
 have hin := ms_in hL hmo
 obtain ⟨k0, k1, k2, k3, k4, k5, k6, k7⟩ := hk
 simp only at hlen hin k0 k1 k2 k3 k4 k5 k6 hls
 have eA : dA L (encS ⟨ls, ms, nt⟩ u) = (ls, some (uvB ms.length ++ (ms.flatMap mvE ++ (uvB nt.length ++ (nt.flatMap bsB ++ bsB u))))) := by
  unfold dA encS
  rw [lsS_enc (fun x hx => ⟨hls.2 x hx, (k1 x hx).2⟩) L.G (by rw [hls.1]; exact Nat.le_refl _), ← hls.1, List.take_length, List.drop_length]
  rfl
 have eN : dN L (encS ⟨ls, ms, nt⟩ u) = (ms.length, 0, some (ms.flatMap mvE ++ (uvB nt.length ++ (nt.flatMap bsB ++ bsB u)))) := by
  unfold dN
  rw [eA]
  exact rdC_enc (by omega) hlen
 have eM : dM L (encS ⟨ls, ms, nt⟩ u) = (ms, some (uvB nt.length ++ (nt.flatMap bsB ++ bsB u))) := by
  unfold dM
  rw [eN]
  dsimp only
  rw [mvP_enc hin _ (Nat.le_refl _), List.take_length, List.drop_length]
  rfl
 have eH : dH L (encS ⟨ls, ms, nt⟩ u) = (nt.length, 0, some (nt.flatMap bsB ++ bsB u)) := by
  unfold dH
  rw [eM]
  refine rdC_enc (by omega) ?_
  have := flat_many (nt := nt)
  simp only [rdL, Option.getD, List.length_append]
  omega
 have eT : dT L (encS ⟨ls, ms, nt⟩ u) = (nt, some (bsB u)) := by
  unfold dT
  rw [eH]
  dsimp only
  rw [ntS_enc (fun x hx => by have := k4 x hx; omega) _ (Nat.le_refl _), List.take_length, List.drop_length]
  rfl
 have eU : dU L (encS ⟨ls, ms, nt⟩ u) = (u, 0, some []) := by
  unfold dU
  rw [eT]
  have := rdB_enc (t := []) (x := u) (by omega)
  rw [List.append_nil] at this
  exact this
 unfold decP decF
 rw [eA, eM, eT, eU]
 exact if_pos ⟨rfl, h⟩
end Go.Proofs.YtjgjofepedcfnaaGreat
namespace Go.Proofs.YtjgjofepedcfnaaGreat
open Go.RowKit
structure StNum (S : St) : Prop where
 ls : ∀ x ∈ S.ls, (∀ n ∈ x.vs, n < 18446744073709551616) ∧ ∀ n ∈ x.ss, n < 18446744073709551616
 nt : ∀ n ∈ S.nt, ∀ x ∈ n, x < 256
theorem newS_b (L : LayD) : StNum (newS L) := by
 refine ⟨fun x hx => ?_, fun n hn => by cases hn⟩
 unfold newS zeroLs at hx
 obtain ⟨g, -, rfl⟩ := List.mem_map.1 hx
 refine ⟨fun n hn => ?_, fun n hn => ?_⟩
 ·have := (List.mem_replicate.1 hn).2
  omega
 ·unfold zeroL sumsZ at hn
  obtain ⟨k, -, rfl⟩ := List.mem_map.1 hn
  exact crcN_lt
def LsB (ls : List Leaf) : Prop := ∀ x ∈ ls, (∀ n ∈ x.vs, n < 18446744073709551616) ∧ ∀ n ∈ x.ss, n < 18446744073709551616
theorem wstep_b {ls l : List Leaf} {x : Pw} (h : LsB ls) (hx : x.v < 18446744073709551616) (he : wstep ls x = some l) : LsB l := by
 unfold wstep at he
 rcases hg : ls[x.g.toNat]? with _ | y
 ·rw [hg] at he; cases he
 ·rw [hg] at he
  simp only at he
  split at he
  ·cases he
  ·injection he with he
   subst he
   intro z hz
   have hy := h y (List.mem_of_getElem? hg)
   rcases List.mem_or_eq_of_mem_set hz with hz | rfl
   ·exact h z hz
   ·refine ⟨fun n hn => ?_, fun n hn => ?_⟩
    ·rcases List.mem_or_eq_of_mem_set hn with hn | rfl
     ·exact hy.1 n hn
     ·exact hx
    ·rcases List.mem_or_eq_of_mem_set hn with hn | rfl
     ·exact hy.2 n hn
     ·exact crcN_lt
theorem wsF_b : ∀ (ws : List Pw) {ls l : List Leaf}, LsB ls → (∀ x ∈ ws, x.v < 18446744073709551616) → wsF ls ws = some l → LsB l
 | [], ls, l, h, _, he => by
  unfold wsF at he
  injection he with he
  exact he ▸ h
 | x :: ws, ls, l, h, hw, he => by
  unfold wsF at he
  rcases hs : wstep ls x with _ | l1
  ·rw [hs] at he; cases he
  ·rw [hs] at he
   exact wsF_b ws (wstep_b h (hw x (by simp)) hs) (fun y hy => hw y (by simp [hy])) he
theorem stepS_b {L : LayD} {S : St} {r : Rcd} (h : StNum S) (hr : RcdIn r) : StNum (stepS L S r) := by
 unfold stepS
 by_cases h0 : (applyS L S r).2 = 0
 ·rw [if_pos h0]
  unfold applyS at h0 ⊢
  by_cases hk : (rcdB r && knownB L r) = true
  ·rw [if_pos hk] at h0 ⊢
   rcases hw : wsF S.ls r.ws with _ | ls
   ·rw [hw] at h0; cases h0
   ·rw [hw] at h0
    simp only at h0 ⊢
    by_cases hm : (msF L S.ms r.ms).2 = 0
    ·rw [if_pos hm]
     refine ⟨wsF_b r.ws h.ls (fun x hx => (hr.ws x hx).1) hw, fun n hn => ?_⟩
     simp only [ntF] at hn
     split at hn
     ·exact h.nt n hn
     ·rcases List.mem_append.1 hn with hn | hn
      ·exact h.nt n hn
      ·rw [List.mem_singleton.1 hn]
       exact hr.nt
    ·rw [if_neg hm] at h0
     exact absurd h0 hm
  ·rw [if_neg hk] at h0
   cases h0
 ·rw [if_neg h0]
  exact h
theorem runS_b {L : LayD} : ∀ (rs : List Rcd) (S : St), StNum S → (∀ r ∈ rs, RcdIn r) → StNum (runS L S rs)
 | [], _, h, _ => h
 | r :: rs, S, h, hr => runS_b rs (stepS L S r) (stepS_b h (hr r (by simp))) fun x hx => hr x (by simp [hx])
theorem flat_le {α : Type} (f : α → List Nat) (c : Nat) : ∀ l : List α, (∀ x ∈ l, (f x).length ≤ c) → (l.flatMap f).length ≤ c * l.length
 | [], _ => by simp
 | x :: l, h => by
  have h1 := h x (by simp)
  have h2 := flat_le f c l fun y hy => h y (by simp [hy])
  simp only [List.flatMap_cons, List.length_append, List.length_cons, Nat.mul_add]
  omega
theorem mvN_of {m : Mv} (h : MvIn m) : MvN m := by
 obtain ⟨⟨a0, a1⟩, ⟨b0, b1⟩, ⟨c0, c1⟩, d0, d1⟩ := h
 obtain ⟨g, p, ⟨d, b⟩⟩ := m
 simp only at a0 a1 b0 b1 c0 c1 d0 d1
 exact ⟨g.toNat, p.toNat, d.toNat, b.toNat, by rw [Int.toNat_of_nonneg a0, Int.toNat_of_nonneg b0, Int.toNat_of_nonneg c0, Int.toNat_of_nonneg d0], by omega, by omega, by omega, by omega⟩
theorem enc_ok {L : LayD} {S : St} {u : List Nat} (hL : LayOk L) (hG : L.G ≤ 100) (h : stOk L S = true) (hb : StNum S) (h1 : S.ms.length ≤ 640) (h2 : S.nt.length ≤ 10) (hu : u.length ≤ 300) : EncOk S u ∧ (encS S u).length ≤ 90000 := by
 have hls := stOk_ls h
 have hmo := stOk_ms h
 have hin := ms_in hL hmo
 have hw := hL.w
 have hnl : ∀ n ∈ S.nt, n.length ≤ 256 := fun n hn => by
  have := stOk_nt h n hn
  unfold noteOk at this
  simp only [Bool.and_eq_true, decide_eq_true_eq] at this
  exact this.2
 suffices hE : (encS S u).length ≤ 90000 from ⟨⟨by rw [hls.1]; omega, fun x hx => ⟨⟨by have := hls.2 x hx; omega, by have := hls.2 x hx; omega⟩, hb.ls x hx⟩, fun m hm => mvN_of (hin m hm), by omega, fun n hn => by have := hnl n hn; omega, by omega, by omega, by omega⟩, hE⟩
 have e1 := flat_le lfE 320 S.ls fun x hx => by
  obtain ⟨b1, b2⟩ := hb.ls x hx
  have e := flat_le prE 20 (x.vs.zip x.ss) fun p hp => by
   obtain ⟨p1, p2⟩ := List.of_mem_zip hp
   have := uvB_len10 (b1 _ p1)
   have := uvB_len10 (b2 _ p2)
   simp only [prE, List.length_append]
   omega
  have := hls.2 x hx
  rw [List.length_zip] at e
  show (List.flatMap prE _).length ≤ _
  omega
 have e2 := flat_le mvE 40 S.ms fun m hm => by
  obtain ⟨a, b, c, d, rfl, ha, hb, hc, hd⟩ := mvN_of (hin m hm)
  have := uvB_len10 (n := a) (by omega)
  have := uvB_len10 (n := b) (by omega)
  have := uvB_len10 (n := c) (by omega)
  have := uvB_len10 (n := d) (by omega)
  simp only [mvE, List.length_append, Int.toNat_natCast]
  omega
 have e3 := flat_le bsB 266 S.nt fun n hn => by
  have h3 := hnl n hn
  have := uvB_len10 (n := n.length) (by omega)
  simp only [bsB, List.length_append]
  omega
 have e4 := uvB_len10 (n := S.ms.length) (by omega)
 have e5 := uvB_len10 (n := S.nt.length) (by omega)
 have e6 := uvB_len10 (n := u.length) (by omega)
 have e7 : S.ls.length ≤ 100 := by rw [hls.1]; exact hG
 simp only [encS, bsB, List.length_append] at *
 omega
theorem enc_lt {S : St} {u : List Nat} (hb : StNum S) (hu : ∀ x ∈ u, x < 256) : ∀ x ∈ encS S u, x < 256 := by
 have hbs : ∀ n : List Nat, (∀ x ∈ n, x < 256) → ∀ x ∈ bsB n, x < 256 := fun n hn x hx => by
  rcases List.mem_append.1 hx with hx | hx
  ·exact uvB_lt _ x hx
  ·exact hn x hx
 intro x hx
 unfold encS at hx
 simp only [List.mem_append, List.mem_flatMap] at hx
 rcases hx with ⟨y, -, hy⟩ | hx | ⟨m, -, hm⟩ | hx | ⟨n, hn, hx⟩ | hx
 ·unfold lfE at hy
  obtain ⟨p, -, hp⟩ := List.mem_flatMap.1 hy
  rcases List.mem_append.1 hp with hp | hp <;> exact uvB_lt _ x hp
 ·exact uvB_lt _ x hx
 ·unfold mvE at hm
  simp only [List.mem_append] at hm
  rcases hm with hm | hm | hm | hm <;> exact uvB_lt _ x hm
 ·exact uvB_lt _ x hx
 ·exact hbs n (hb.nt n hn) x hx
 ·exact hbs u hu x hx
end Go.Proofs.YtjgjofepedcfnaaGreat
namespace Go.Proofs.YtjgjofepedcfnaaGreat
open Go.RowKit
theorem small_G (x : Nat) : (smallL (kL x)).G ≤ 100 := by
 obtain ⟨w, r, lam, h1, h2, h3, h4, h0, h9, h5, h6, h7⟩ := small_des (kL x)
 have ht := kL_tiles x
 have hn : (smallL (kL x)).n ≤ 30 := by show (smallDes (kL x)).2.length ≤ 30; omega
 unfold LayD.G
 rw [ht]
 have : (1 + x / 4 % 2) * (smallL (kL x)).n ≤ 2 * 30 := Nat.mul_le_mul (by omega) hn
 rw [Nat.mul_comm] at this
 first | omega | (rw [Nat.mul_comm]; omega)
end Go.Proofs.YtjgjofepedcfnaaGreat
namespace Go.Proofs.YtjgjofepedcfnaaGreat
open Go.RowKit
set_option maxHeartbeats 16000000 in
set_option maxRecDepth 100000 in
theorem lreplayBlob (n0 : Nat) (hn0 : n0 < 256) (rs : List Rcd) (Ar : Option Addr) (cr : Nat) (u : List Nat) (Au : Option Addr) (cu : Nat) (w : World) (hrs : RcsS w w.heap.size Ar rs) (hin : ∀ r ∈ rs, RcdIn r) (hlr : rs.length ≤ 9223372036854775807) (hu : BytS w w.heap.size Au u) (huc : ∀ x ∈ u, x < 256) (hlu : u.length ≤ 9223372036854775807) :
  Calls Tryz.prog 9 #[.int .u8 (n0 : Int), .slice Ar rs.length cr, .slice Au u.length cu] w fun r w' => r = .returned (.bool true) ∧ Below w.heap.size w w' := by
 have HX := Lib.hid (small_layX (kL n0))
 have hG := small_G n0
 have HSM : Hid (∀ W, Calls Tryz.prog 13 #[.int .u8 (n0 : Int)] W fun r w' => SmkP n0 W r w') := fun W => r50small n0 hn0 W
 unfold SmkP at HSM
 generalize smallL (kL n0) = L at *
 have HAW : Hid (∀ W, Calls Tryz.prog 10 #[] W fun r w' => r = .returned (.bool true) ∧ Below W.heap.size W w') := fun W => lawake W
 have HFA : Hid (∀ W, Below w.heap.size w W → Calls Tryz.prog 11 #[.slice Ar rs.length cr] W fun e w' => e = .returned (.bool (fewB rs)) ∧ Below W.heap.size W w') := fun W hW => lfew W (hrs.below hW (Nat.le_refl _)) hW.size hlr
 have HTA := Lib.hid (fun h => few_ok (rs := rs) h (fun r hr => ⟨(hin r hr).seq, fun x hx => ((hin r hr).ws x hx).2⟩))
 have HRA := Lib.hid hrs
 have HIN := Lib.hid hin
 have HU0 := Lib.hid hu
 have HUC := Lib.hid huc
 have HLU := Lib.hid hlu
 obtain ⟨fa, hfa⟩ : ∃ q, fewB rs = q := ⟨_, rfl⟩
 rw [hfa] at HFA HTA
 clear hrs hin hfa hlr hu huc hlu
 go_enter Tryz.func9, Tryz.ntmps9
 go_wp2_with fail
 refine (HAW.out w).mono ?_
 rintro r w1 ⟨rfl, hb1⟩
 have HB1 := Lib.hid hb1
 clear hb1 HAW
 go_wp2_with fail
 refine (HFA.out w1 HB1.out).mono ?_
 rintro r w3 ⟨rfl, hb2⟩
 have HB3 := Lib.hid (HB1.out.trans (hb2.mono HB1.out.size))
 clear hb2 HFA HB1
 cases fa with
 | false =>
  go_wp2
  go_ret
  exact ⟨rfl, HB3.out⟩
 | true =>
  obtain ⟨hlen, hroka⟩ := HTA.out rfl
  have HROK := Lib.hid hroka
  clear HTA hroka
  by_cases hul : 300 < u.length
  case pos =>
   have hulI : (300 : Int) < (u.length : Int) := by omega
   clear hul
   go_wp2
   go_ret
   exact ⟨rfl, HB3.out⟩
  case neg =>
   have hulI : ¬ (300 : Int) < (u.length : Int) := by omega
   have HUL : Hid (u.length ≤ 300) := by rw [Hid]; omega
   have hlay := HX.out.ok
   have hw16 := hlay.w
   clear hul HLU
   go_wp2_with fail
   refine (HSM.out w3).mono ?_
   rintro r w4 ⟨A, c, rfl, hgs, hb4⟩
   unfold layAgg
   have HB4 := Lib.hid (HB3.out.trans (hb4.mono HB3.out.size))
   have HGS := Lib.hid hgs
   clear hgs hb4 HSM HB3
   go_upto_region 6 with (fail)
   generalize hW5 : w4.alloc _ = w5
   have HI5 : Hid (LxI w w4.heap.size L A c w5) := by
    refine ⟨?_, ?_, ?_⟩
    ·rw [← hW5]; exact HB4.out.trans (below_laid.mono HB4.out.size)
    ·rw [← hW5]; exact heap_alloc_new w4 _
    ·rw [← hW5]; exact HGS.out.below below_laid (Nat.le_refl _)
   have HXL : Hid (w.heap.size ≤ w4.heap.size) := HB4.out.size
   clear hW5 HGS HB4
   generalize w4.heap.size = X at *
   have HN2 := Lib.hid (fun (W : World) (h : LxI w X L A c W) => r50new (c := c) W HX.out h.gs (Nat.le_refl _) (by omega) (by omega) (by omega))
   unfold layAgg at HN2
   obtain ⟨l0, l1, l2, l3⟩ := HI5.out.lay.cells
   go_wp2_with fail
   refine (HN2.out w5 HI5.out).mono ?_
   rintro r w6 ⟨⟨A', c', rfl, hls⟩, hb6⟩
   have HI6 := Lib.hid (HI5.out.below hb6)
   have HLS := Lib.hid (LvS.stv (c := c') hls)
   clear hls hb6 HN2 HI5 l0 l1 l2 l3
   go_upto_region 7 with (fail)
   have hb7 : Below w6.heap.size w6 (w6.alloc (.cells #[.slice A' L.G c', .slice none 0 0, .slice none 0 0] 45)) := below_laid
   have hy1 : (w6.alloc (.cells #[.slice A' L.G c', .slice none 0 0, .slice none 0 0] 45)).heap[w6.heap.size]? = some (.cells #[.slice A' L.G c', .slice none 0 0, .slice none 0 0] 45 (0, 0)) := heap_alloc_new w6 _
   have HI7 := Lib.hid (HI6.out.below hb7)
   have HST7 := Lib.hid (HLS.out.below hb7 (Nat.le_refl _))
   have HXY : Hid (X < w6.heap.size) := HI6.out.lay.lt2
   generalize w6.alloc _ = w7 at *
   generalize w6.heap.size = Y at *
   have HY1 := Lib.hid hy1
   have HYL : Hid (Y < w7.heap.size ∧ X < Y) := ⟨(Array.getElem?_eq_some_iff.1 hy1).1, HXY.out⟩
   have HSK : Hid (StK (fun k => k = Y) w7 (.agg #[.slice A' L.G c', .slice none 0 0, .slice none 0 0]) (newS L)) := HST7.out.stk (Nat.le_of_lt HYL.out.1) (fun _ _ e => Nat.le_of_eq e.symm)
   have HRI0 : Hid (RunI (fun k => k = Y) w7 X Y L A c (.slice A' L.G c') (.slice none 0 0) (.slice none 0 0) (runS L (newS L) (rs.take 0)) w7) :=
    ⟨Agr.refl _ _, HI7.out.lay, HI7.out.gx, HXY.out, HYL.out.1, HY1.out, rfl, HSK.out⟩
   have HRS6 : Hid (RcsS w7 w.heap.size Ar rs) := HRA.out.below HI7.out.bel (Nat.le_refl _)
   have HRB : Hid (w.heap.size ≤ Y) := by have := HXL.out; have := HXY.out; rw [Hid]; omega
   clear hb7 hy1 HI6 HLS HST7 HRA
   go_wp2
   go_loopw [36] (fun s36 wr => ∃ k : Nat, k ≤ rs.length ∧ s36 = .int .i64 k ∧ ∃ a b d, RunI (fun k => k = Y) w7 X Y L A c a b d (runS L (newS L) (rs.take k)) wr) (fun s36 _ => rs.length - (intOf s36).toNat)
   case atStart => exact ⟨0, by omega, rfl, _, _, _, HRI0.out⟩
   case round =>
    obtain ⟨k, hk, rfl, xa, xb, xd, hI⟩ := hrel
    obtain ⟨hok, hmsn, hntn⟩ := runS_few (L := L) (rs := rs) (k := k) hlen
    obtain ⟨A6, c6, A7, c7, A8, c8, hsc, -⟩ := hI.st.now.form
    obtain ⟨rfl, rfl, rfl⟩ : xa = .slice A6 (runS L (newS L) (rs.take k)).ls.length c6 ∧ xb = .slice A7 (runS L (newS L) (rs.take k)).ms.length c7 ∧ xd = .slice A8 (runS L (newS L) (rs.take k)).nt.length c8 := by
     injection hsc with hsc
     have g0 := congrArg (fun x => x[0]?) hsc
     have g1 := congrArg (fun x => x[1]?) hsc
     have g2 := congrArg (fun x => x[2]?) hsc
     simp at g0 g1 g2
     exact ⟨g0, g1, g2⟩
    have HOK := Lib.hid hok
    have HI := Lib.hid hI
    have HIL := Lib.hid hI.lt
    clear hok hI HRI0 hsc
    by_cases hkn : k < rs.length
    case neg =>
     have hkI : ¬ (k : Int) < (rs.length : Int) := by omega
     obtain rfl : k = rs.length := by omega
     rw [List.take_length] at HI HOK hmsn hntn
     clear hkn
     have HLX : Hid (LxI w X L A c wr) := ⟨HI7.out.bel.trans (HI.out.bel.mono HRB.out), HI.out.layr, HI.out.gxr⟩
     have HBT : Hid (Bx wr Y 45 (.slice A6 (runS L (newS L) rs).ls.length c6) (.slice A7 (runS L (newS L) rs).ms.length c7) (.slice A8 (runS L (newS L) rs).nt.length c8) (runS L (newS L) rs)) := ⟨HI.out.blk, HI.out.st.now⟩
     have HNM : Hid (StNum (runS L (newS L) rs)) := runS_b rs (newS L) (newS_b L) HIN.out
     have HEO := Lib.hid (enc_ok HX.out.ok hG HOK.out HNM.out hmsn hntn HUL.out)
     have HEC := Lib.hid (enc_lt (u := u) HNM.out HUC.out)
     have HDP := Lib.hid (decP_enc HX.out.ok HOK.out HEO.out.1)
     have HSF : Hid (StF (runS L (newS L) rs)) := ok_f HOK.out (by omega) (by omega) (by omega) (by omega)
     clear HI HIL HRS6 HI7 HRB HSK HY1 HOK HYL HROK hlen hmsn hntn HNM HIN HUC HUL
     generalize runS L (newS L) rs = Sk at *
     have HUW : Hid (BytS wr wr.heap.size Au u) := (HU0.out.below' HLX.out.bel (Nat.le_refl _)).more HLX.out.bel.size
     obtain ⟨m0, m1, m2⟩ := HBT.out.cells
     have HFR := Lib.hid (lfrom_any (.slice A6 Sk.ls.length c6) (.slice A7 Sk.ms.length c7) (.slice A8 Sk.nt.length c8) wr ⟨_, _, _, rfl⟩ ⟨_, _, _, rfl⟩ ⟨_, _, _, rfl⟩)
     have HEN := Lib.hid (fun (W : World) (hW : Below wr.heap.size wr W) => rEncode (cu := cu) W (HBT.out.below hW).st (Nat.le_refl _) ((HUW.out.below' hW (Nat.le_refl _)).more hW.size) HEO.out.1)
     clear HU0
     go_wp2_with fail
     refine HFR.out.mono ?_
     rintro r w20 ⟨rfl, hb20⟩
     have HLX2 := Lib.hid (HLX.out.below hb20)
     have HBT2 := Lib.hid (HBT.out.below hb20)
     have HB20 := Lib.hid hb20
     clear hb20 m0 m1 m2 HFR
     go_wp2_with fail
     refine (HEN.out w20 HB20.out).mono ?_
     rintro r w21 ⟨⟨Ab, cb, rfl, hbb, -⟩, hb21⟩
     have HLX3 := Lib.hid (HLX2.out.below hb21)
     have HBT3 := Lib.hid (HBT2.out.below hb21)
     have HUW3 : Hid (BytS w21 w21.heap.size Au u) := byt_keep (byt_keep HUW.out HB20.out) hb21
     have HBB := Lib.hid hbb
     clear hbb hb21 HLX HBT HUW HLX2 HBT2 HB20 HEN
     have HEL := Lib.hid HEO.out.2
     generalize hE : encS Sk u = bl at *
     have HE2 : Hid (∀ W, Below w21.heap.size w21 W → Calls Tryz.prog 32 #[.agg #[.slice A6 Sk.ls.length c6, .slice A7 Sk.ms.length c7, .slice A8 Sk.nt.length c8], .slice Au u.length cu] W fun e w' => (∃ A c, e = .returned (.slice A bl.length c) ∧ BytS w' w'.heap.size A bl) ∧ Below w21.heap.size w21 w') := fun W hW => by
      have h := r50Encode (cu := cu) W (HBT3.out.below hW).st (Nat.le_refl _) ((HUW3.out.below' hW (Nat.le_refl _)).more hW.size) HEO.out.1
      rw [hE] at h
      exact h.mono fun e w' hh => ⟨by obtain ⟨A, c, h1, h2, -⟩ := hh.1; exact ⟨A, c, h1, h2⟩, hW.trans (hh.2.mono hW.size)⟩
     clear hE
     have HKS : Hid (∀ W, Below w21.heap.size w21 W → W.cell? ⟨Y, 0, none⟩ = some (.slice A6 Sk.ls.length c6) ∧ W.cell? ⟨Y, 1, none⟩ = some (.slice A7 Sk.ms.length c7) ∧ W.cell? ⟨Y, 2, none⟩ = some (.slice A8 Sk.nt.length c8) ∧ (convert 26 9 (.slice Ab bl.length cb)).run Tryz.prog W = .ok (.string (strOfNums (bl.map fun x : Nat => (x : Int)))) W) := fun W hW => by
      obtain ⟨c0, c1, c2⟩ := (HBT3.out.below hW).cells
      exact ⟨c0, c1, c2, conv_nt (P := Tryz.prog) (src := 26) (dst := 9) Tryz.underlying26 Tryz.underlying5 Tryz.underlying9 (HBB.out.below' hW (Nat.le_refl _)) cb⟩
     have HKE : Hid (∀ (W : World) (A : Option Addr) (c : Nat), BytS W W.heap.size A bl → (convert 26 9 (.slice A bl.length c)).run Tryz.prog W = .ok (.string (strOfNums (bl.map fun x : Nat => (x : Int)))) W) := fun W A c h => conv_nt (P := Tryz.prog) (src := 26) (dst := 9) Tryz.underlying26 Tryz.underlying5 Tryz.underlying9 h c
     generalize strOfNums (bl.map fun x : Nat => (x : Int)) = sv at *
     go_upto_region 15 with (fail)
     go_cut [63] (fun s63 wx => s63 = .bool false ∧ Below w21.heap.size w21 wx)
     case first =>
      have hS0 := HKS.out w21.drew (Below.refl w21.heap.size w21).drew
      go_wp2_with fail
      refine wp_regionT (T := 6) (S := fun W : World => W.cell? ⟨Y, 0, none⟩ = some (.slice A6 Sk.ls.length c6) ∧ W.cell? ⟨Y, 1, none⟩ = some (.slice A7 Sk.ms.length c7) ∧ W.cell? ⟨Y, 2, none⟩ = some (.slice A8 Sk.nt.length c8) ∧ (convert 26 9 (.slice Ab bl.length cb)).run Tryz.prog W = .ok (.string sv) W) (by kernel_rfl) ?_
      (try change wpAnyT _ _ _ _ _ _ _ _ _ (World.drew _))
      refine wpAnyT_take (i := 0) (v := ?_) 60 rfl (by kernel_rfl) (by kernel_rfl) (by kernel_rfl) (by kernel_rfl) (by kernel_rfl) (fun _ _ _ h => h) (Or.inl ⟨by rfl, ?_⟩) hS0 ?_
      rotate_left
      ·(intro W hW; (try dsimp only at hW); obtain ⟨hW0, hW1, hW2, hW3⟩ := hW; go_simp; try with_reducible rfl)
      (simp only [List.getElem_toArray, List.getElem_cons_zero, Act.put, List.setIfInBounds_toArray, List.set_cons_zero, List.set_cons_succ])
      refine wpAnyT_take (i := 1) (v := ?_) 60 rfl (by kernel_rfl) (by kernel_rfl) (by kernel_rfl) (by kernel_rfl) (by kernel_rfl) (fun _ _ _ h => h) (Or.inl ⟨by rfl, ?_⟩) hS0 ?_
      rotate_left
      ·(intro W hW; (try dsimp only at hW); obtain ⟨hW0, hW1, hW2, hW3⟩ := hW; go_simp; try with_reducible rfl)
      (simp only [List.getElem_toArray, List.getElem_cons_zero, List.getElem_cons_succ, Act.put, List.setIfInBounds_toArray, List.set_cons_zero, List.set_cons_succ])
      refine wpAnyT_take (i := 2) (v := ?_) 60 rfl (by kernel_rfl) (by kernel_rfl) (by kernel_rfl) (by kernel_rfl) (by kernel_rfl) (fun _ _ _ h => h) (Or.inl ⟨by rfl, ?_⟩) hS0 ?_
      rotate_left
      ·(intro W hW; (try dsimp only at hW); obtain ⟨hW0, hW1, hW2, hW3⟩ := hW; go_simp; try with_reducible rfl)
      (simp only [List.getElem_toArray, List.getElem_cons_zero, List.getElem_cons_succ, Act.put, List.setIfInBounds_toArray, List.set_cons_zero, List.set_cons_succ])
      refine wpAnyT_take (i := 3) (v := ?_) 60 rfl (by kernel_rfl) (by kernel_rfl) (by kernel_rfl) (by kernel_rfl) (by kernel_rfl) (fun _ _ _ h => h) (Or.inl ⟨by rfl, ?_⟩) hS0 ?_
      rotate_left
      ·(intro W hW; (try dsimp only at hW); obtain ⟨hW0, hW1, hW2, hW3⟩ := hW; go_simp; try with_reducible rfl)
      (simp only [List.getElem_toArray, List.getElem_cons_zero, List.getElem_cons_succ, Act.put, List.setIfInBounds_toArray, List.set_cons_zero, List.set_cons_succ])
      refine wpAnyT_one (i := 4) (by kernel_rfl) rfl rfl (fun K hK => ?_)
      go_simp
      go_wp2_with fail
      (with_reducible refine (HE2.out _ (Below.refl w21.heap.size w21).drew).mono ?_)
      rintro r wE ⟨⟨Ae, ce, rfl, hbe⟩, hbE⟩
      have kE := HKE.out wE Ae ce hbe
      have hS1 := HKS.out wE hbE
      (refine hK _ _ (.inr hS1) ?_)
      (clear hK K)
      (try simp only [List.getElem_toArray, List.getElem_cons_zero, List.getElem_cons_succ, Act.put, List.setIfInBounds_toArray, List.set_cons_zero, List.set_cons_succ])
      refine wpAnyT_one (i := 5) (by kernel_rfl) rfl rfl (fun K hK => ?_)
      go_simp
      (refine hK _ _ (.inr hS1) ?_)
      (clear hK K)
      (try simp only [List.getElem_toArray, List.getElem_cons_zero, List.getElem_cons_succ, Act.put, List.setIfInBounds_toArray, List.set_cons_zero, List.set_cons_succ])
      refine wpAnyT_one (i := 6) (by kernel_rfl) rfl rfl (fun K hK => ?_)
      go_simp
      (refine hK _ _ (.inl (by kernel_rfl)) ?_)
      (clear hK K)
      (try simp only [List.getElem_toArray, List.getElem_cons_zero, List.getElem_cons_succ, Act.put, List.setIfInBounds_toArray, List.set_cons_zero, List.set_cons_succ])
      refine wpAnyT_done (by kernel_rfl) ?_ _
      go_wp2_with fail
      go_meet
      ·exact ⟨rfl, hbE⟩
     obtain ⟨rfl, hbx⟩ := hcut
     have HLX4 := Lib.hid (HLX3.out.below hbx)
     have HBT4 := Lib.hid (HBT3.out.below hbx)
     have HUW4 := Lib.hid (byt_keep HUW3.out hbx)
     have HBB4 := Lib.hid (byt_keep HBB.out hbx)
     clear hbx HLX3 HBT3 HUW3 HBB HE2 HKS HKE
     generalize wc = wr at *
     have HDC := Lib.hid (rDecode (c := c) (cb := cb) wr HX.out HLX4.out.gs (Nat.le_refl _) HBB4.out (Nat.le_trans HEL.out (by decide)) HEC.out hG)
     rw [HDP.out] at HDC
     unfold DecR layAgg at HDC
     obtain ⟨l0, l1, l2, l3⟩ := HLX4.out.lay.cells
     clear HDP HEC HEL HEO HBB4
     go_wp2_with fail
     refine HDC.out.mono ?_
     rintro r w31 ⟨⟨v, Ae, ce, rfl, hse, hsb⟩, hb31⟩
     obtain ⟨D1, d1, D2, d2, D3, d3, rfl, -⟩ := hse.now.form
     have HSE := Lib.hid hse.now
     have HSB := Lib.hid hsb.now
     have HB31 := Lib.hid hb31
     clear hse hsb hb31 l0 l1 l2 l3 HDC
     go_upto_region 18 with (fail)
     have hb32 : Below wr.heap.size wr (w31.alloc (.cells #[.slice D1 Sk.ls.length d1, .slice D2 Sk.ms.length d2, .slice D3 Sk.nt.length d3] 41)) := HB31.out.alloc HB31.out.size _
     have HBD : Hid (Bx (w31.alloc (.cells #[.slice D1 Sk.ls.length d1, .slice D2 Sk.ms.length d2, .slice D3 Sk.nt.length d3] 41)) w31.heap.size 41 (.slice D1 Sk.ls.length d1) (.slice D2 Sk.ms.length d2) (.slice D3 Sk.nt.length d3) Sk) := Bx.made HSE.out _
     have HSB2 : Hid (BytS (w31.alloc (.cells #[.slice D1 Sk.ls.length d1, .slice D2 Sk.ms.length d2, .slice D3 Sk.nt.length d3] 41)) (w31.alloc (.cells #[.slice D1 Sk.ls.length d1, .slice D2 Sk.ms.length d2, .slice D3 Sk.nt.length d3] 41)).heap.size Ae u) := byt_keep HSB.out below_laid
     generalize w31.alloc _ = w32 at *
     generalize w31.heap.size = Z at *
     have HLX5 := Lib.hid (HLX4.out.below hb32)
     have HBT5 := Lib.hid (HBT4.out.below hb32)
     have HUW5 := Lib.hid (byt_keep HUW4.out hb32)
     clear hb32 HSE HSB HLX4 HBT4 HUW4 HB31
     have X11 := fun d xs => (HBD.out.below (below_regrown w32 d xs)).cells
     have Y11 := fun d xs => (HBT5.out.below (below_regrown w32 d xs)).cells
     have KT := Lib.hid (fun d xs => lto_any (.slice D1 Sk.ls.length d1) (.slice D2 Sk.ms.length d2) (.slice D3 Sk.nt.length d3) (Sort.grow (redrawn w32 d) xs) ⟨_, _, _, rfl⟩ ⟨_, _, _, rfl⟩ ⟨_, _, _, rfl⟩)
     have KS := Lib.hid (fun d xs => r50same (Sort.grow (redrawn w32 d) xs) (HBD.out.below (below_regrown w32 d xs)).st (HBT5.out.below (below_regrown w32 d xs)).st (Nat.le_refl _) HSF.out.lv (by have := HSF.out.n1; omega) (by have := HSF.out.n2; omega) (by have := HSF.out.n3; omega))
     have KU := fun d xs => conv_nt (P := Tryz.prog) (src := 26) (dst := 9) Tryz.underlying26 Tryz.underlying5 Tryz.underlying9 (RdS.below' HSB2.out (below_regrown w32 d xs) (Nat.le_refl _)) ce
     have KV := fun d xs => conv_nt (P := Tryz.prog) (src := 26) (dst := 9) Tryz.underlying26 Tryz.underlying5 Tryz.underlying9 (RdS.below' HUW5.out (below_regrown w32 d xs) (Nat.le_refl _)) cu
     generalize strOfNums (u.map fun x : Nat => (x : Int)) = su at *
     refine quiet_below (by kernel_rfl) (by kernel_rfl) ?_
     repeat (go_big_quiet_step (first | (go_at_call 17; exact Calls.regrown_of (KT.out _ _)) | (go_at_call 16; exact Calls.regrown_of (KS.out _ _))))
     refine wpQuiet_nil ?_
     intro w33 hb33
     have HBF := Lib.hid (HLX5.out.bel.trans (hb33.mono HLX5.out.bel.size))
     clear X11 Y11 KT KS KU KV hb33 HLX5 HBD HBT5 HUW5 HSB2
     go_wp2
     go_ret
     exact ⟨rfl, HBF.out⟩
    case pos =>
     have hkI : (k : Int) < (rs.length : Int) := by omega
     have hk0 : ¬ (k : Int) < 0 := by omega
     obtain ⟨r, hrk⟩ : ∃ r, rs[k]? = some r := ⟨_, List.getElem?_eq_getElem hkn⟩
     have HROR := Lib.hid (HROK.out r (List.mem_of_getElem? hrk))
     have HSN := Lib.hid (runS_succ (L := L) (S := newS L) hrk)
     obtain ⟨b, off, Aw, cw, Am, cm, An, cn, rfl, hbB0, hcl⟩ := RcsS.at2 (HRS6.out.below HI.out.bel HRB.out) hrk (Nat.le_trans HRB.out (Nat.le_of_lt HIL.out.2))
     have HCL := Lib.hid hcl
     obtain ⟨x0, x1, x2, x3, x4, -⟩ := hcl wr (Below.refl _ _)
     generalize runS L (newS L) (rs.take k) = Sk at *
     obtain ⟨gen, seq, ws, ms, nt⟩ := r
     simp only at x0 x1 x2 x3 x4 HCL HROR HSN
     have HCA := Lib.hid (fun (W : World) (hW : Below wr.heap.size wr W) => HI.out.apply HX.out (rv := .agg #[.int .u64 gen, .int .u64 seq, .slice Aw ws.length cw, .slice Am ms.length cm, .slice An nt.length cn]) (r := ⟨gen, seq, ws, ms, nt⟩) HOK.out (by omega) (by omega) HROR.out ((HCL.out wr (Below.refl _ _)).2.2.2.2.2.1.more (Nat.le_trans HRB.out (Nat.le_of_lt HIL.out.2))) hW)
     unfold stepS at HSN
     obtain ⟨Sn, er, hap⟩ : ∃ Sn er, applyS L Sk ⟨gen, seq, ws, ms, nt⟩ = (Sn, er) := ⟨_, _, rfl⟩
     rw [hap] at HSN HCA
     simp only at HSN HCA
     clear hcl hap hrk
     have HKS : Hid (∀ W, Below wr.heap.size wr W → (W.cell? ⟨X, 0, none⟩ = some (.int .i64 (L.disks : Int)) ∧ W.cell? ⟨X, 1, none⟩ = some (.slice A L.n c) ∧ W.cell? ⟨X, 2, none⟩ = some (.int .i64 (L.tiles : Int)) ∧ W.cell? ⟨X, 3, none⟩ = some (.int .i64 (L.spare : Int)) ∧ W.cell? ⟨Y, 0, none⟩ = some (.slice A6 Sk.ls.length c6) ∧ W.cell? ⟨Y, 1, none⟩ = some (.slice A7 Sk.ms.length c7) ∧ W.cell? ⟨Y, 2, none⟩ = some (.slice A8 Sk.nt.length c8) ∧ W.cell? ⟨b, off + k * 5, none⟩ = some (.int .u64 gen) ∧ W.cell? ⟨b, off + k * 5 + 1, none⟩ = some (.int .u64 seq) ∧ W.cell? ⟨b, off + k * 5 + 2, none⟩ = some (.slice Aw ws.length cw) ∧ W.cell? ⟨b, off + k * 5 + 3, none⟩ = some (.slice Am ms.length cm) ∧ W.cell? ⟨b, off + k * 5 + 4, none⟩ = some (.slice An nt.length cn))) := fun W hW => by
      have hI2 := HI.out.call hW
      obtain ⟨l0, l1, l2, l3⟩ := LayB.cells (L := L) hI2.layr
      obtain ⟨m0, m1, m2⟩ := hI2.cells
      obtain ⟨y0, y1, y2, y3, y4, -⟩ := HCL.out W hW
      exact ⟨l0, l1, l2, l3, m0, m1, m2, y0, y1, y2, y3, y4⟩
     clear x0 x1 x2 x3 x4
     go_upto_region 10 with (fail)
     go_cut [11, 12] (fun s11 s12 wx => RuQ (fun k => k = Y) wr Sn er s11 s12 wx)
     case first =>
      have HFL : Hid (∀ k, (fun k => k = Y) k → k < wr.heap.size) := fun k e => by have h1 := HI.out.agr.size; have h2 := HYL.out; omega
      clear HSN HCL HRS6 HROK HROR HOK
      go_region_held3 (fun W => W.cell? ⟨X, 0, none⟩ = some (.int .i64 (L.disks : Int)) ∧ W.cell? ⟨X, 1, none⟩ = some (.slice A L.n c) ∧ W.cell? ⟨X, 2, none⟩ = some (.int .i64 (L.tiles : Int)) ∧ W.cell? ⟨X, 3, none⟩ = some (.int .i64 (L.spare : Int)) ∧ W.cell? ⟨Y, 0, none⟩ = some (.slice A6 Sk.ls.length c6) ∧ W.cell? ⟨Y, 1, none⟩ = some (.slice A7 Sk.ms.length c7) ∧ W.cell? ⟨Y, 2, none⟩ = some (.slice A8 Sk.nt.length c8) ∧ W.cell? ⟨b, off + k * 5, none⟩ = some (.int .u64 gen) ∧ W.cell? ⟨b, off + k * 5 + 1, none⟩ = some (.int .u64 seq) ∧ W.cell? ⟨b, off + k * 5 + 2, none⟩ = some (.slice Aw ws.length cw) ∧ W.cell? ⟨b, off + k * 5 + 3, none⟩ = some (.slice Am ms.length cm) ∧ W.cell? ⟨b, off + k * 5 + 4, none⟩ = some (.slice An nt.length cn))
       (first | with_reducible exact HKS.out _ (Below.refl wr.heap.size wr) | with_reducible exact HKS.out _ (Below.refl wr.heap.size wr).drew | with_reducible exact HKS.out _ ((Below.refl wr.heap.size wr).alloc (Nat.le_refl _) _) | with_reducible exact HKS.out _ ((Below.refl wr.heap.size wr).alloc (Nat.le_refl _) _).drew | with_reducible exact HKS.out _ hbB | with_reducible exact HKS.out _ (hbB.alloc hbB.size _) | with_reducible exact HKS.out _ (((hbB.setCell (Nat.le_refl _) _).setCell (Nat.le_refl _) _).setCell (Nat.le_refl _) _) | with_reducible exact HKS.out _ ((((hbB.alloc hbB.size _).setCell hbB.size _).setCell hbB.size _).setCell hbB.size _) | (trace_state; fail))
       (first
        | (go_at_call 18; first
         | ((first | with_reducible refine (HCA.out _ (Below.refl wr.heap.size wr).drew).mono ?_ | with_reducible refine (HCA.out _ (Below.refl wr.heap.size wr)).mono ?_); rintro e wB ⟨⟨vB, rfl, hsB⟩, hbQ, hbB⟩; obtain ⟨D1, e1, D2, e2, D3, e3, rfl, -⟩ := hsB.now.form)
         | ((first | with_reducible refine (HCA.out _ ((Below.refl wr.heap.size wr).alloc (Nat.le_refl _) _).drew).mono ?_ | with_reducible refine (HCA.out _ ((Below.refl wr.heap.size wr).alloc (Nat.le_refl _) _)).mono ?_); rintro e wB ⟨⟨vB, rfl, hsB⟩, hbQ, hbB⟩; obtain ⟨D1, e1, D2, e2, D3, e3, rfl, -⟩ := hsB.now.form; have hz : wB.heap[wr.heap.size]? = some (.cells #[.slice none 0 0, .slice none 0 0, .slice none 0 0] 45 (0, 0)) := (hbQ.block _ (by simp)).trans (heap_alloc_new wr _); obtain ⟨z0, z1, z2⟩ := zero3 hz; have f0 := frozen_blk hz 0; have f1 := frozen_blk hz 1; have f2 := frozen_blk hz 2)
         | (trace_state; fail))
        | fail)
      all_goals
       go_wp2_with fail
       go_meet
       ·first
         | exact RuQ.early hsB (by simp) HFL.out hbB hz
         | exact RuQ.late hsB (by simp) HFL.out hbB
         | (trace_state; fail)
     obtain ⟨D, D1, d1, D2, d2, D3, d3, rfl, rfl, hDl, hDr, hDs, hDb⟩ := hcut
     have HI2 := Lib.hid (HI.out.call hDb)
     have HDS := Lib.hid hDs
     have dd0 : wc.cell? ⟨D, 0, none⟩ = some (.slice D1 Sn.ls.length d1) := by rw [cell_of_row _ _ _ _ _ _ hDr]; rfl
     have dd1 : wc.cell? ⟨D, 1, none⟩ = some (.slice D2 Sn.ms.length d2) := by rw [cell_of_row _ _ _ _ _ _ hDr]; rfl
     have dd2 : wc.cell? ⟨D, 2, none⟩ = some (.slice D3 Sn.nt.length d3) := by rw [cell_of_row _ _ _ _ _ _ hDr]; rfl
     clear hDl hDr hDs hDb HKS HCA HI HIL
     generalize wc = w7 at *
     by_cases her : er = 0
     ·subst her
      have HT : Hid (runS L (newS L) (rs.take (k + 1)) = Sn) := by rw [Hid, HSN.out]; simp
      obtain ⟨s0, s1, s2⟩ := HI2.out.cells
      have f0 := frozen_blk HI2.out.blk 0
      have f1 := frozen_blk HI2.out.blk 1
      have f2 := frozen_blk HI2.out.blk 2
      have HNX := Lib.hid (HI2.out.next (Below.refl _ _) HDS.out)
      clear HSN HI2 HDS
      go_wp2
      go_roundw
      case rel => exact ⟨k + 1, by omega, by go_num, _, _, _, by rw [HT.out]; exact HNX.out⟩
      case measure => simp [intOf] <;> omega
     ·have g1 : (er == 0) = false := by simpa using her
      have HT : Hid (runS L (newS L) (rs.take (k + 1)) = Sk) := by rw [Hid, HSN.out, if_neg her]
      clear HSN HDS dd0 dd1 dd2 her
      go_wp2
      go_roundw
      case rel => exact ⟨k + 1, by omega, by go_num, _, _, _, by rw [HT.out]; exact HI2.out⟩
      case measure => simp [intOf] <;> omega
end Go.Proofs.YtjgjofepedcfnaaGreat
