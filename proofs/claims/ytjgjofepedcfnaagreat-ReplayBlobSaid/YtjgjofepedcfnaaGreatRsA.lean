/- Numbers and byte strings in bytes, on lists; walks of codec.AppendUint, AppendBytes and of tegularef09.AppendUint, AppendBytes. -/
import Derived.Test.YtjgjofepedcfnaaGreatRpG
namespace Go.Proofs.YtjgjofepedcfnaaGreat
open Go.RowKit
def uvB (n : Nat) : List Nat := if n < 128 then [n] else (n % 128 + 128) :: uvB (n / 128)
termination_by n
decreasing_by omega
theorem uvB_lo {n : Nat} (h : n < 128) : uvB n = [n] := by rw [uvB, if_pos h]
theorem uvB_hi {n : Nat} (h : ¬ n < 128) : uvB n = (n % 128 + 128) :: uvB (n / 128) := by rw [uvB, if_neg h]
theorem uvB_lt (n : Nat) : ∀ x ∈ uvB n, x < 256 := by
 induction n using Nat.strongRecOn with
 | _ n ih =>
  intro x hx
  by_cases h : n < 128
  ·rw [uvB_lo h, List.mem_singleton] at hx; omega
  ·rw [uvB_hi h] at hx
   rcases List.mem_cons.1 hx with rfl | hx
   ·omega
   ·exact ih (n / 128) (by omega) x hx
theorem uvB_len : ∀ (k n : Nat), n < 128 ^ (k + 1) → (uvB n).length ≤ k + 1
 | 0, n, h => by rw [uvB_lo (by simpa using h)]; simp
 | k + 1, n, h => by
  by_cases h1 : n < 128
  ·rw [uvB_lo h1]; simp
  ·rw [uvB_hi h1, List.length_cons]
   have := uvB_len k (n / 128) (by rw [Nat.pow_succ] at h; omega)
   omega
theorem uvB_len10 {n : Nat} (h : n < 18446744073709551616) : (uvB n).length ≤ 10 := uvB_len 9 n (by omega)
theorem uvB_pos (n : Nat) : 1 ≤ (uvB n).length := by
 by_cases h : n < 128
 ·rw [uvB_lo h]; simp
 ·rw [uvB_hi h]; simp
def bsB (l : List Nat) : List Nat := uvB l.length ++ l
theorem or128 : ∀ b : Fin 256, bits .or .u8 ((b.1 : Nat) : Int) 128 = ((b.1 % 128 + 128 : Nat) : Int) := by decide +kernel
theorem or128' (n : Nat) : bits .or .u8 ((n % 256 : Nat) : Int) 128 = ((n % 128 + 128 : Nat) : Int) := by
 have h := or128 ⟨n % 256, Nat.mod_lt _ (by omega)⟩
 simp only at h
 rw [h]
 congr 2
 omega
set_option maxHeartbeats 1000000 in
set_option maxRecDepth 100000 in
theorem uintO {A : Option Addr} {B c : Nat} {l : List Nat} (n : Nat) (w : World) (h : BytS w B A l) (hB : B ≤ w.heap.size) (hn : n < 18446744073709551616) (hlen : l.length ≤ 900000) :
  Calls Tryz.prog 76 #[.slice A l.length c, .int .u64 (n : Int)] w fun r w' => (∃ v, r = .returned v ∧ OwS w' w.heap.size 5 1 v ((l ++ uvB n).map u8C)) ∧ Below w.heap.size w w' := by
 have HCL := Lib.hid (clone_byte (c := c) w h hB (by omega))
 have HUL : Hid (∀ m, m < 18446744073709551616 → (uvB m).length ≤ 10) := fun m hm => uvB_len10 hm
 have HLL : Hid ((l ++ uvB n).length ≤ 900010) := by rw [Hid, List.length_append]; have := uvB_len10 hn; omega
 obtain ⟨R, hR⟩ : ∃ R, l ++ uvB n = R := ⟨_, rfl⟩
 have HRE := Lib.hid hR
 rw [hR] at HLL ⊢
 clear h hR
 go_enter Tryz.func76, Tryz.ntmps76
 go_wp2_with fail
 refine HCL.out.mono ?_
 rintro r w1 ⟨⟨v1, rfl, ho1⟩, hb1⟩
 have HO1 := Lib.hid ho1
 have HB1 := Lib.hid hb1
 clear ho1 hb1
 go_wp2
 go_loopw [1, 5] (fun s1 s5 wr => ∃ (m : Nat) (o : List Nat), m < 18446744073709551616 ∧ s1 = .int .u64 (m : Int) ∧ o ++ uvB m = R ∧ OwS wr w.heap.size 5 1 s5 (o.map u8C) ∧ Below w.heap.size w wr) (fun s1 _ _ => (intOf s1).toNat)
 case atStart => exact ⟨n, l, hn, rfl, HRE.out, HO1.out, HB1.out⟩
 case round =>
  obtain ⟨m, o, hm, rfl, he, hO, hb⟩ := hrel
  have HE := Lib.hid he
  have HO := Lib.hid hO
  have HB := Lib.hid hb
  have hz := hb.size
  have hol : o.length ≤ 900010 := by have := HLL.out; rw [← he, List.length_append] at this; omega
  have hcv := conv_u64u8 m wr
  clear he hO hb HO1 HB1
  by_cases h128 : m < 128
  case neg =>
   have hI : (128 : Int) ≤ (m : Int) := by omega
   have hI2 : ¬ (m : Int) < 128 := by omega
   have ho : bits .or .u8 ((m : Int) % 256) 128 = (m : Int) % 128 + 128 := by
    have := or128' m
    push_cast at this
    exact this
   have HNE : Hid ((o ++ [m % 128 + 128]) ++ uvB (m / 128) = R) := by rw [Hid, ← HE.out, uvB_hi h128]; simp
   have HE1 : Hid ([Value.int .u8 ((m : Int) % 128 + 128)] = u8C (m % 128 + 128)) := by simp [Hid, u8C]
   go_wp2_with (at_builtin; refine wpList_ap1 rfl (.tmp 12) (.tmp 16) _ rfl elemByte rfl HO.out [.int .u8 ((m : Int) % 128 + 128)] _ (by rfl) wr.heap.size (by rfl) (by rfl) (by intro u hu; rw [List.mem_singleton] at hu; subst hu; rfl) (by simp only [maxLen, List.length_map]; omega) (by simp only [List.length_map]; omega) hz ?_)
   intro v5 w5 hown5 hg5 _
   have HB5 : Hid (Below w.heap.size w w5) := (HB.out.alloc hz _).grown hg5 (by simp; omega) (fun k h => (HO.out.lt h).1)
   have HO5 : Hid (OwS w5 w.heap.size 5 1 v5 ((o ++ [m % 128 + 128]).map u8C)) := by
    rw [Hid, List.map_append]
    rw [HE1.out] at hown5
    exact hown5
   have HMD : Hid ((m : Int) / 128 = ((m / 128 : Nat) : Int)) := by rw [Hid]; omega
   clear hown5 hg5 ho
   go_wp2
   go_roundw
   case rel => exact ⟨m / 128, o ++ [m % 128 + 128], by omega, by rw [HMD.out], HNE.out, HO5.out, HB5.out⟩
   case measure => simp [intOf] <;> omega
  case pos =>
   have hI : ¬ (128 : Int) ≤ (m : Int) := by omega
   have hI2 : (m : Int) < 128 := by omega
   rw [Nat.mod_eq_of_lt (by omega : m < 256)] at hcv
   have HNE : Hid (o ++ [m] = R) := by rw [Hid, ← HE.out, uvB_lo h128]
   go_wp2_with (at_builtin; refine wpList_ap1 rfl (.tmp 18) (.tmp 21) _ rfl elemByte rfl HO.out (u8C m) _ (by rfl) wr.heap.size (by rfl) (by rfl) (u8C_one m) (by simp only [maxLen, List.length_map]; omega) (by simp only [List.length_map]; omega) hz ?_)
   intro v5 w5 hown5 hg5 _
   have HB5 : Hid (Below w.heap.size w w5) := (HB.out.alloc hz _).grown hg5 (by simp; omega) (fun k h => (HO.out.lt h).1)
   have HO5 : Hid (OwS w5 w.heap.size 5 1 v5 (R.map u8C)) := by
    rw [Hid, ← HNE.out, List.map_append]
    exact hown5
   clear hown5 hg5
   go_wp2
   go_ret
   exact ⟨⟨_, rfl, HO5.out⟩, HB5.out⟩
def BytP (R : List Nat) (w' : World) (e : Ending) : Prop := ∃ A c, e = .returned (.slice A R.length c) ∧ BytS w' w'.heap.size A R ∧ R.length ≤ c
theorem OwS.bytP {w : World} {base : Nat} {v : Value} {R : List Nat} (h : OwS w base 5 1 v (R.map u8C)) : BytP R w (.returned v) := by
 obtain ⟨A, c, rfl, hc, -⟩ := h.form
 exact ⟨A, c, by simp, h.reads, by simpa using hc⟩
theorem uintC {A : Option Addr} {B c : Nat} {l : List Nat} (n : Nat) (w : World) (h : BytS w B A l) (hB : B ≤ w.heap.size) (hn : n < 18446744073709551616) (hlen : l.length ≤ 900000) :
  Calls Tryz.prog 76 #[.slice A l.length c, .int .u64 (n : Int)] w fun r w' => BytP (l ++ uvB n) w' r ∧ Below w.heap.size w w' :=
 (uintO n w h hB hn hlen).mono fun r w' hh => by
  obtain ⟨⟨v, rfl, ho⟩, hb⟩ := hh
  exact ⟨ho.bytP, hb⟩
set_option maxHeartbeats 1000000 in
set_option maxRecDepth 100000 in
theorem bytesO {A Ax : Option Addr} {B c cx : Nat} {l x : List Nat} (w : World) (h : BytS w B A l) (hx : BytS w B Ax x) (hB : B ≤ w.heap.size) (hlen : l.length ≤ 900000) (hxl : x.length ≤ 90000) :
  Calls Tryz.prog 77 #[.slice A l.length c, .slice Ax x.length cx] w fun r w' => (∃ v, r = .returned v ∧ OwS w' w.heap.size 5 1 v ((l ++ bsB x).map u8C)) ∧ Below w.heap.size w w' := by
 have HU := Lib.hid (uintO (c := c) x.length w h hB (by omega) hlen)
 have hcv := fun W => conv_iu64 (x.length : Int) (by omega) (by omega) W
 have HX := Lib.hid hx
 have HLN : Hid ((l ++ uvB x.length).length ≤ 900010) := by rw [Hid, List.length_append]; have := uvB_len10 (n := x.length) (by omega); omega
 have HE : Hid (l ++ bsB x = (l ++ uvB x.length) ++ x) := by rw [Hid]; unfold bsB; rw [List.append_assoc]
 generalize l ++ uvB x.length = m at *
 clear h hx
 go_enter Tryz.func77, Tryz.ntmps77
 go_wp2_with fail
 refine HU.out.mono ?_
 rintro r w1 ⟨⟨v1, rfl, ho1⟩, hb1⟩
 have HO1 := Lib.hid ho1
 have HB1 := Lib.hid hb1
 have hrr : BytS w1 w.heap.size Ax x := (RdS.below' HX.out hb1 hB).more hB
 have hz := hb1.size
 have hml := HLN.out
 clear ho1 hb1
 go_wp2_with (at_builtin; refine wpList_apS rfl (.tmp 9) (.tmp 10) _ rfl elemByte rfl HO1.out w.heap.size _ _ cx (x.map u8C) rfl hrr (by simp) (u8C_all x) (by simp only [maxLen, List.length_map]; omega) (by simp only [List.length_map]; omega) hz ?_)
 intro v3 w3 hown3 hg3 _
 have HB3 : Hid (Below w.heap.size w w3) := HB1.out.grown hg3 hz (fun k h => (HO1.out.lt h).1)
 have HO3 : Hid (OwS w3 w.heap.size 5 1 v3 ((l ++ bsB x).map u8C)) := by
  rw [Hid, HE.out, List.map_append]
  exact hown3
 clear hown3 hg3 hrr
 go_wp2
 go_ret
 exact ⟨⟨_, rfl, HO3.out⟩, HB3.out⟩
theorem bytesC {A Ax : Option Addr} {B c cx : Nat} {l x : List Nat} (w : World) (h : BytS w B A l) (hx : BytS w B Ax x) (hB : B ≤ w.heap.size) (hlen : l.length ≤ 900000) (hxl : x.length ≤ 90000) :
  Calls Tryz.prog 77 #[.slice A l.length c, .slice Ax x.length cx] w fun r w' => BytP (l ++ bsB x) w' r ∧ Below w.heap.size w w' :=
 (bytesO w h hx hB hlen hxl).mono fun r w' hh => by
  obtain ⟨⟨v, rfl, ho⟩, hb⟩ := hh
  exact ⟨ho.bytP, hb⟩
set_option maxHeartbeats 1000000 in
set_option maxRecDepth 100000 in
theorem uint09O {A : Option Addr} {B c : Nat} {l : List Nat} (n : Nat) (w : World) (h : BytS w B A l) (hB : B ≤ w.heap.size) (hn : n < 18446744073709551616) (hlen : l.length ≤ 900000) :
  Calls Tryz.prog 78 #[.slice A l.length c, .int .u64 (n : Int)] w fun r w' => (∃ v, r = .returned v ∧ OwS w' w.heap.size 5 1 v ((l ++ uvB n).map u8C)) ∧ Below w.heap.size w w' := by
 have HLS := Lib.hid h
 have HUL : Hid (∀ m, m < 18446744073709551616 → (uvB m).length ≤ 10) := fun m hm => uvB_len10 hm
 have HLL : Hid ((l ++ uvB n).length ≤ 900010) := by rw [Hid, List.length_append]; have := uvB_len10 hn; omega
 obtain ⟨R, hR⟩ : ∃ R, l ++ uvB n = R := ⟨_, rfl⟩
 have HRE := Lib.hid hR
 rw [hR] at HLL ⊢
 clear h hR
 go_enter Tryz.func78, Tryz.ntmps78
 have hz : OwS (w.alloc (.cells #[] 5)) w.heap.size 5 1 (.slice (some ⟨w.heap.size, 0, none⟩) 0 0) [] := OwS.lit (by simp) (heap_alloc_new w _) rfl rfl (by decide) (Nat.le_refl _)
 have hrr : BytS (w.alloc (.cells #[] 5)) w.heap.size A l := (HLS.out.below' (below_laid.mono hB) (Nat.le_refl _)).more hB
 go_wp2_with (at_builtin; refine wpList_apS rfl (.tmp 6) (.tmp 7) _ rfl elemByte rfl hz w.heap.size _ _ c (l.map u8C) rfl hrr (by simp) (u8C_all l) (by simp [maxLen]; omega) (by simp; omega) (by simp) ?_)
 intro v1 w1 hown1 hg1 _
 have HB1 : Hid (Below w.heap.size w w1) := ((Below.refl w.heap.size w).alloc (Nat.le_refl _) _).grown hg1 (by simp) (fun k h => (hz.lt h).1)
 have HO1 : Hid (OwS w1 w.heap.size 5 1 v1 (l.map u8C)) := by simpa [Hid] using hown1
 clear hown1 hg1 hz hrr HLS
 go_wp2
 go_loopw [1, 5] (fun s1 s5 wr => ∃ (m : Nat) (o : List Nat), m < 18446744073709551616 ∧ s1 = .int .u64 (m : Int) ∧ o ++ uvB m = R ∧ OwS wr w.heap.size 5 1 s5 (o.map u8C) ∧ Below w.heap.size w wr) (fun s1 _ _ => (intOf s1).toNat)
 case atStart => exact ⟨n, l, hn, rfl, HRE.out, HO1.out, HB1.out⟩
 case round =>
  obtain ⟨m, o, hm, rfl, he, hO, hb⟩ := hrel
  have HE := Lib.hid he
  have HO := Lib.hid hO
  have HB := Lib.hid hb
  have hz := hb.size
  have hol : o.length ≤ 900010 := by have := HLL.out; rw [← he, List.length_append] at this; omega
  have hcv := conv_u64u8 m wr
  have hcv2 := conv_u64u8 (m % 128) wr
  clear he hO hb HO1 HB1
  by_cases h128 : m < 128
  case neg =>
   have hI : (128 : Int) ≤ (m : Int) := by omega
   have hI2 : ¬ (m : Int) < 128 := by omega
   rw [show m % 128 % 256 = m % 128 by omega] at hcv2
   push_cast at hcv2
   have ho : IntKind.u8.wrap ((m : Int) % 128 + 128) = (m : Int) % 128 + 128 := by simp [IntKind.wrap, IntKind.bits, IntKind.signed]; omega
   have hmd : Int.tmod (m : Int) 128 = (m : Int) % 128 := by rw [Int.tmod_eq_emod_of_nonneg (by omega)]
   have hdv : Int.tdiv (m : Int) 128 = (m : Int) / 128 := by rw [Int.tdiv_eq_ediv_of_nonneg (by omega)]
   have HNE : Hid ((o ++ [m % 128 + 128]) ++ uvB (m / 128) = R) := by rw [Hid, ← HE.out, uvB_hi h128]; simp
   have HE1 : Hid ([Value.int .u8 ((m : Int) % 128 + 128)] = u8C (m % 128 + 128)) := by simp [Hid, u8C]
   go_wp2_with (at_builtin; refine wpList_ap1 rfl (.tmp 11) (.tmp 16) _ rfl elemByte rfl HO.out [.int .u8 ((m : Int) % 128 + 128)] _ (by rfl) wr.heap.size (by rfl) (by rfl) (by intro u hu; rw [List.mem_singleton] at hu; subst hu; rfl) (by simp only [maxLen, List.length_map]; omega) (by simp only [List.length_map]; omega) hz ?_)
   intro v5 w5 hown5 hg5 _
   have HB5 : Hid (Below w.heap.size w w5) := (HB.out.alloc hz _).grown hg5 (by simp; omega) (fun k h => (HO.out.lt h).1)
   have HO5 : Hid (OwS w5 w.heap.size 5 1 v5 ((o ++ [m % 128 + 128]).map u8C)) := by
    rw [Hid, List.map_append]
    rw [HE1.out] at hown5
    exact hown5
   have HMD : Hid ((m : Int) / 128 = ((m / 128 : Nat) : Int)) := by rw [Hid]; omega
   clear hown5 hg5 ho
   go_wp2
   go_roundw
   case rel => exact ⟨m / 128, o ++ [m % 128 + 128], by omega, by rw [HMD.out], HNE.out, HO5.out, HB5.out⟩
   case measure => simp [intOf] <;> omega
  case pos =>
   have hI : ¬ (128 : Int) ≤ (m : Int) := by omega
   have hI2 : (m : Int) < 128 := by omega
   rw [Nat.mod_eq_of_lt (by omega : m < 256)] at hcv
   have HNE : Hid (o ++ [m] = R) := by rw [Hid, ← HE.out, uvB_lo h128]
   go_wp2_with (at_builtin; refine wpList_ap1 rfl (.tmp 20) (.tmp 23) _ rfl elemByte rfl HO.out (u8C m) _ (by rfl) wr.heap.size (by rfl) (by rfl) (u8C_one m) (by simp only [maxLen, List.length_map]; omega) (by simp only [List.length_map]; omega) hz ?_)
   intro v5 w5 hown5 hg5 _
   have HB5 : Hid (Below w.heap.size w w5) := (HB.out.alloc hz _).grown hg5 (by simp; omega) (fun k h => (HO.out.lt h).1)
   have HO5 : Hid (OwS w5 w.heap.size 5 1 v5 (R.map u8C)) := by
    rw [Hid, ← HNE.out, List.map_append]
    exact hown5
   clear hown5 hg5
   go_wp2
   go_ret
   exact ⟨⟨_, rfl, HO5.out⟩, HB5.out⟩
theorem uint09C {A : Option Addr} {B c : Nat} {l : List Nat} (n : Nat) (w : World) (h : BytS w B A l) (hB : B ≤ w.heap.size) (hn : n < 18446744073709551616) (hlen : l.length ≤ 900000) :
  Calls Tryz.prog 78 #[.slice A l.length c, .int .u64 (n : Int)] w fun r w' => BytP (l ++ uvB n) w' r ∧ Below w.heap.size w w' :=
 (uint09O n w h hB hn hlen).mono fun r w' hh => by
  obtain ⟨⟨v, rfl, ho⟩, hb⟩ := hh
  exact ⟨ho.bytP, hb⟩
set_option maxHeartbeats 1000000 in
set_option maxRecDepth 100000 in
theorem bytes09O {A Ax : Option Addr} {B c cx : Nat} {l x : List Nat} (w : World) (h : BytS w B A l) (hx : BytS w B Ax x) (hB : B ≤ w.heap.size) (hlen : l.length ≤ 900000) (hxl : x.length ≤ 90000) :
  Calls Tryz.prog 79 #[.slice A l.length c, .slice Ax x.length cx] w fun r w' => (∃ v, r = .returned v ∧ OwS w' w.heap.size 5 1 v ((l ++ bsB x).map u8C)) ∧ Below w.heap.size w w' := by
 have HU := Lib.hid (uint09O (c := c) x.length w h hB (by omega) hlen)
 have hcv := fun W => conv_iu64 (x.length : Int) (by omega) (by omega) W
 have HX := Lib.hid hx
 have HLN : Hid ((l ++ uvB x.length).length ≤ 900010) := by rw [Hid, List.length_append]; have := uvB_len10 (n := x.length) (by omega); omega
 have HE : Hid (l ++ bsB x = (l ++ uvB x.length) ++ x) := by rw [Hid]; unfold bsB; rw [List.append_assoc]
 generalize l ++ uvB x.length = m at *
 clear h hx
 go_enter Tryz.func79, Tryz.ntmps79
 go_wp2_with fail
 refine HU.out.mono ?_
 rintro r w1 ⟨⟨v1, rfl, ho1⟩, hb1⟩
 have HO1 := Lib.hid ho1
 have HB1 := Lib.hid hb1
 have hrr : BytS w1 w.heap.size Ax x := (RdS.below' HX.out hb1 hB).more hB
 have hz := hb1.size
 have hml := HLN.out
 clear ho1 hb1
 go_wp2_with (at_builtin; refine wpList_apS rfl (.tmp 9) (.tmp 10) _ rfl elemByte rfl HO1.out w.heap.size _ _ cx (x.map u8C) rfl hrr (by simp) (u8C_all x) (by simp only [maxLen, List.length_map]; omega) (by simp only [List.length_map]; omega) hz ?_)
 intro v3 w3 hown3 hg3 _
 have HB3 : Hid (Below w.heap.size w w3) := HB1.out.grown hg3 hz (fun k h => (HO1.out.lt h).1)
 have HO3 : Hid (OwS w3 w.heap.size 5 1 v3 ((l ++ bsB x).map u8C)) := by
  rw [Hid, HE.out, List.map_append]
  exact hown3
 clear hown3 hg3 hrr
 go_wp2
 go_ret
 exact ⟨⟨_, rfl, HO3.out⟩, HB3.out⟩
theorem bytes09C {A Ax : Option Addr} {B c cx : Nat} {l x : List Nat} (w : World) (h : BytS w B A l) (hx : BytS w B Ax x) (hB : B ≤ w.heap.size) (hlen : l.length ≤ 900000) (hxl : x.length ≤ 90000) :
  Calls Tryz.prog 79 #[.slice A l.length c, .slice Ax x.length cx] w fun r w' => BytP (l ++ bsB x) w' r ∧ Below w.heap.size w w' :=
 (bytes09O w h hx hB hlen hxl).mono fun r w' hh => by
  obtain ⟨⟨v, rfl, ho⟩, hb⟩ := hh
  exact ⟨ho.bytP, hb⟩
end Go.Proofs.YtjgjofepedcfnaaGreat
