/- The sum of a run of sums, on lists; walks of sumtree.number and run, and of tegularef26.run. -/
import Derived.Test.YtjgjofepedcfnaaGreatRrA
namespace Go.Proofs.YtjgjofepedcfnaaGreat
open Go.RowKit
def ruL (l : List Nat) : List Nat := l.length :: l.flatMap fun s => leB s 8
def ruN (l : List Nat) : Nat := crcN (ruL l)
theorem flat_lt (l : List Nat) : ∀ x ∈ l.flatMap (fun s => leB s 8), x < 256 := by
 intro x hx
 obtain ⟨s, -, hx⟩ := List.mem_flatMap.1 hx
 exact leB_lt x hx
theorem ruL_lt {l : List Nat} (h : l.length < 256) : ∀ x ∈ ruL l, x < 256 := by
 intro x hx
 unfold ruL at hx
 rcases List.mem_cons.1 hx with rfl | hx
 ·exact h
 ·exact flat_lt l x hx
theorem flat_len (l : List Nat) : (l.flatMap fun s => leB s 8).length = 8 * l.length := by
 induction l with
 | nil => rfl
 | cons a l ih =>
  rw [List.flatMap_cons, List.length_append, ih, leB_len, List.length_cons]
  omega
theorem flat_snoc {l : List Nat} {k s : Nat} (h : l[k]? = some s) : (l.take (k + 1)).flatMap (fun s => leB s 8) = (l.take k).flatMap (fun s => leB s 8) ++ leB s 8 := by
 rw [List.take_add_one, h, show (some s).toList = [s] from rfl, List.flatMap_append]
 simp
theorem conv_iu8 (x : Nat) (h : x < 256) (W : World) : (convert 3 5 (.int .i64 (x : Int))).run Tryz.prog W = .ok (.int .u8 (x : Int)) W := by
 rw [run_convert_int W 3 5 .i64 (x : Int) (by rw [Tryz.underlying3]; rfl) (by kernel_rfl)]
 have hk : Tryz.prog.intKind 5 = .u8 := by kernel_rfl
 rw [hk]
 have : IntKind.u8.wrap (x : Int) = (x : Int) := by simp [IntKind.wrap, IntKind.bits, IntKind.signed]; omega
 rw [this]
set_option maxHeartbeats 1000000 in
set_option maxRecDepth 100000 in
theorem number_any {base : Nat} {v : Value} {l : List Nat} (n : Nat) (w : World) (h : OwS w base 5 1 v (l.map u8C)) (hB : base ≤ w.heap.size) (hlen : l.length ≤ 1000000) :
  Calls Tryz.prog 138 #[v, .int .u64 (n : Int)] w fun r w' => (∃ v', r = .returned v' ∧ OwS w' base 5 1 v' ((l ++ leB n 8).map u8C)) ∧ Below base w w' := by
 have HL : Hid (∀ i, leB n (i + 1) = leB n i ++ [n / 2 ^ (8 * i) % 256]) := leB_succ n
 have H0 : Hid (leB n 0 = []) := rfl
 obtain ⟨f, hf⟩ : ∃ f : Nat → List Nat, leB n = f := ⟨_, rfl⟩
 rw [hf] at HL H0 ⊢
 have HFL : Hid (∀ i, (f i).length = i) := fun i => by rw [← hf]; exact leB_len n i
 have HO := Lib.hid h
 have HB := Lib.hid hB
 clear hf h hB
 go_enter Tryz.func138, Tryz.ntmps138
 go_wp2
 go_loopw [0, 6] (fun s0 s6 wr => ∃ i : Nat, i ≤ 8 ∧ s6 = .int .i64 i ∧ OwS wr base 5 1 s0 ((l ++ f i).map u8C) ∧ Below base w wr) (fun _ s6 _ => 8 - (intOf s6).toNat)
 case atStart => exact ⟨0, by omega, rfl, by rw [H0.out]; simpa using HO.out, Below.refl _ _⟩
 case round =>
  obtain ⟨i, hi, rfl, hO, hb⟩ := hrel
  by_cases hik : i < 8
  case neg =>
   have hkI : ¬ (i : Int) < 8 := by omega
   obtain rfl : i = 8 := by omega
   have HOO := Lib.hid hO
   have HBB := Lib.hid hb
   clear hO hb hik
   go_wp2
   go_ret
   exact ⟨⟨_, rfl, by have h2 := HOO.out; rw [List.map_append] at h2; exact h2⟩, HBB.out⟩
  case pos =>
   have hkI : (i : Int) < 8 := by omega
   have hcw := conv_u64u8 (n / 2 ^ (8 * i)) wr
   have HOO := Lib.hid hO
   have HBB := Lib.hid hb
   clear hO hb hik
   have hz : base ≤ wr.heap.size := Nat.le_trans HB.out HBB.out.size
   have hfl := HFL.out i
   have hll : (l ++ f i).length ≤ 1000008 := by simp; omega
   obtain ⟨m, hm⟩ : ∃ m, l ++ f i = m := ⟨_, rfl⟩
   rw [hm] at HOO hll
   have HM := Lib.hid hm
   clear hm hfl
   go_wp2_with (at_builtin; refine wpList_ap1 rfl (.tmp 9) (.tmp 15) _ rfl elemByte rfl HOO.out [.int .u8 ((n : Int) / 2 ^ (8 * i) % 256)] _ (by rfl) wr.heap.size (by rfl) (by rfl) (by intro u hu; rw [List.mem_singleton] at hu; subst hu; rfl) (by simp [maxLen]; omega) (by simp; omega) hz ?_)
   intro v5 w5 hown5 hg5 _
   have hb5 : Below base w w5 := (HBB.out.alloc hz _).grown hg5 (by simp; omega) (fun k h => (HOO.out.lt h).1)
   have ho5 : OwS w5 base 5 1 v5 ((l ++ f (i + 1)).map u8C) := by
    rw [HL.out, ← List.append_assoc, HM.out, List.map_append]
    have e : [Value.int .u8 ((n : Int) / 2 ^ (8 * i) % 256)] = u8C (n / 2 ^ (8 * i) % 256) := by simp [u8C]
    rw [e] at hown5
    exact hown5
   clear hg5 hown5
   go_wp2
   go_round
   case rel => exact ⟨i + 1, by omega, by go_num, ho5, hb5⟩
   case measure => simp [intOf] <;> omega
theorem one_byte (w : World) (x : Nat) : OwS (w.alloc (.cells #[.int .u8 (x : Int)] 5)) w.heap.size 5 1 (.slice (some ⟨w.heap.size, 0, none⟩) 1 1) ([x].map u8C) := by
 exact OwS.lit (base := w.heap.size) (size := 1) (rows := [u8C x]) (n := 1) (by simp [u8C]) (heap_alloc_new w (.cells #[.int .u8 (x : Int)] 5)) rfl rfl (by decide) (Nat.le_refl _)
set_option maxHeartbeats 1000000 in
set_option maxRecDepth 100000 in
theorem run_any {A : Option Addr} {B c : Nat} {l : List Nat} (w : World) (h : U64S w B A l) (hB : B ≤ w.heap.size) (hn : l.length < 256) :
  Calls Tryz.prog 139 #[.slice A l.length c] w fun r w' => r = .returned (.int .u64 (ruN l : Int)) ∧ Below w.heap.size w w' := by
 have HU := Lib.hid h
 have hcv := conv_iu8 l.length hn
 have HLT := Lib.hid (ruL_lt hn)
 have HR : Hid (ruL l = [l.length] ++ l.flatMap fun s => leB s 8) := rfl
 have HN : Hid (ruN l = crcN (ruL l)) := rfl
 have HLN : Hid (∀ k, ([l.length] ++ (l.take k).flatMap fun s => leB s 8).length ≤ 10000) := fun k => by
  rw [List.length_append, flat_len, List.length_take]
  simp
  omega
 have HTA : Hid (l.take l.length = l) := List.take_length
 generalize ruN l = S at *
 clear h
 go_enter Tryz.func139, Tryz.ntmps139
 go_upto_region 2 with (fail)
 have hob := one_byte w l.length
 have HOB := Lib.hid hob
 have hb0 : Below w.heap.size w (w.alloc (.cells #[.int .u8 (l.length : Int)] 5)) := below_laid
 have HB0 := Lib.hid hb0
 generalize w.alloc _ = w0 at *
 clear hob hb0
 go_wp2
 go_loopw [3, 12] (fun s3 s12 wr => ∃ k : Nat, k ≤ l.length ∧ s12 = .int .i64 k ∧ OwS wr w.heap.size 5 1 s3 (([l.length] ++ (l.take k).flatMap fun s => leB s 8).map u8C) ∧ Below w.heap.size w wr) (fun _ s12 _ => l.length - (intOf s12).toNat)
 case atStart => exact ⟨0, by omega, rfl, by simpa using HOB.out, HB0.out⟩
 case round =>
  obtain ⟨k, hk, rfl, hO, hb⟩ := hrel
  have HO := Lib.hid hO
  have HB := Lib.hid hb
  have HLK := Lib.hid (HLN.out k)
  clear hO hb HOB HB0
  by_cases hkn : k < l.length
  case neg =>
   have hkI : ¬ (k : Int) < (l.length : Int) := by omega
   obtain rfl : k = l.length := by omega
   rw [HTA.out, ← HR.out] at HO HLK
   obtain ⟨A2, c2, rfl, hby⟩ := HO.out.bytes
   have HSM := Lib.hid (sum64 (c := c2) wr hby HLT.out (by have := HLK.out; omega))
   rw [← HN.out] at HSM
   generalize ruL l = rl at *
   clear hby HO
   go_wp2_with fail
   refine HSM.out.mono ?_
   rintro r w3 ⟨rfl, rfl⟩
   go_wp2
   go_ret
   exact ⟨rfl, HB.out⟩
  case pos =>
   have hkI : (k : Int) < (l.length : Int) := by omega
   have hk0 : ¬ (k : Int) < 0 := by omega
   obtain ⟨x, hx⟩ : ∃ x, l[k]? = some x := ⟨_, List.getElem?_eq_getElem hkn⟩
   obtain ⟨b, o, rfl, hbB, hc⟩ := U64S.at_ (RdS.below' HU.out HB.out hB) hx
   have HSE : Hid (([l.length] ++ (l.take k).flatMap fun s => leB s 8) ++ leB x 8 = [l.length] ++ (l.take (k + 1)).flatMap fun s => leB s 8) := by rw [Hid, flat_snoc hx, List.append_assoc]
   have HNM := Lib.hid (number_any x wr HO.out HB.out.size (by have := HLK.out; omega))
   generalize ([l.length] ++ (l.take k).flatMap fun s => leB s 8) = m at *
   clear hx HLK
   go_wp2_with fail
   refine HNM.out.mono ?_
   rintro r w4 ⟨⟨v4, rfl, ho4⟩, hb4⟩
   have HO4 : Hid (OwS w4 w.heap.size 5 1 v4 (([l.length] ++ (l.take (k + 1)).flatMap fun s => leB s 8).map u8C)) := by rw [Hid, ← HSE.out]; exact ho4
   have HB4 := Lib.hid (HB.out.trans hb4)
   clear ho4 hb4 HNM HO HB hc
   go_wp2
   go_roundw
   case rel => exact ⟨k + 1, by omega, by go_num, HO4.out, HB4.out⟩
   case measure => simp [intOf] <;> omega
set_option maxHeartbeats 1000000 in
set_option maxRecDepth 100000 in
theorem run26 {A : Option Addr} {B c : Nat} {l : List Nat} (w : World) (h : U64S w B A l) (hB : B ≤ w.heap.size) (hn : l.length < 256) :
  Calls Tryz.prog 141 #[.slice A l.length c] w fun r w' => r = .returned (.int .u64 (ruN l : Int)) ∧ Below w.heap.size w w' := by
 have HU := Lib.hid h
 have hcv := conv_iu8 l.length hn
 have HLT := Lib.hid (ruL_lt hn)
 have HR : Hid (ruL l = [l.length] ++ l.flatMap fun s => leB s 8) := rfl
 have HN : Hid (ruN l = crcN (ruL l)) := rfl
 have HLN : Hid (∀ k, ([l.length] ++ (l.take k).flatMap fun s => leB s 8).length ≤ 10000) := fun k => by
  rw [List.length_append, flat_len, List.length_take]
  simp
  omega
 have HTA : Hid (l.take l.length = l) := List.take_length
 generalize ruN l = S at *
 clear h
 go_enter Tryz.func141, Tryz.ntmps141
 go_upto_region 2 with (fail)
 have hob := (one_byte w l.length).reads
 have hb0 : Below w.heap.size w (w.alloc (.cells #[.int .u8 (l.length : Int)] 5)) := below_laid
 have HB0 := Lib.hid hb0
 have HOB : Hid (BytS (w.alloc (.cells #[.int .u8 (l.length : Int)] 5)) (w.alloc (.cells #[.int .u8 (l.length : Int)] 5)).heap.size (some ⟨w.heap.size, 0, none⟩) [l.length]) := hob
 generalize w.alloc _ = w0 at *
 clear hob hb0
 go_wp2
 go_loopw [3, 4] (fun s3 s4 wr => ∃ k : Nat, k ≤ l.length ∧ s4 = .int .i64 k ∧ ∃ A c, s3 = .slice A ([l.length] ++ (l.take k).flatMap fun s => leB s 8).length c ∧ BytS wr wr.heap.size A ([l.length] ++ (l.take k).flatMap fun s => leB s 8) ∧ Below w.heap.size w wr) (fun _ s4 _ => l.length - (intOf s4).toNat)
 case atStart => exact ⟨0, by omega, rfl, some ⟨w.heap.size, 0, none⟩, 1, by simp, by simpa using HOB.out, HB0.out⟩
 case round =>
  obtain ⟨k, hk, rfl, A2, c2, rfl, hO, hb⟩ := hrel
  have HO := Lib.hid hO
  have HB := Lib.hid hb
  have HLK := Lib.hid (HLN.out k)
  clear hO hb HOB HB0
  by_cases hkn : k < l.length
  case neg =>
   have hkI : ¬ (k : Int) < (l.length : Int) := by omega
   obtain rfl : k = l.length := by omega
   rw [HTA.out, ← HR.out] at HO HLK ⊢
   have HSM := Lib.hid (sum08 (c := c2) wr HO.out HLT.out (by have := HLK.out; omega))
   rw [← HN.out] at HSM
   generalize ruL l = rl at *
   clear HO
   go_wp2_with fail
   refine HSM.out.mono ?_
   rintro r w3 ⟨rfl, rfl⟩
   go_wp2
   go_ret
   exact ⟨rfl, HB.out⟩
  case pos =>
   have hkI : (k : Int) < (l.length : Int) := by omega
   have hk0 : ¬ (k : Int) < 0 := by omega
   obtain ⟨x, hx⟩ : ∃ x, l[k]? = some x := ⟨_, List.getElem?_eq_getElem hkn⟩
   obtain ⟨b, o, rfl, hbB, hc⟩ := U64S.at_ (RdS.below' HU.out HB.out hB) hx
   have HSE : Hid (([l.length] ++ (l.take k).flatMap fun s => leB s 8) ++ leB x 8 = [l.length] ++ (l.take (k + 1)).flatMap fun s => leB s 8) := by rw [Hid, flat_snoc hx, List.append_assoc]
   generalize ([l.length] ++ (l.take k).flatMap fun s => leB s 8) = m at *
   have HNM := Lib.hid (put15v (c := c2) x 8 wr HO.out (by have := HLK.out; omega) (by omega))
   rw [HSE.out] at HNM
   obtain ⟨mn, hmn⟩ : ∃ mn, ([l.length] ++ (l.take (k + 1)).flatMap fun s => leB s 8) = mn := ⟨_, rfl⟩
   rw [hmn] at HNM
   have HMN := Lib.hid hmn
   clear hx HLK HSE hmn
   go_wp2_with fail
   refine HNM.out.mono ?_
   rintro r w4 ⟨⟨A4, c4, rfl, ho4⟩, hb4⟩
   have HO4 := Lib.hid ho4
   have HB4 := Lib.hid (HB.out.trans (hb4.mono HB.out.size))
   clear ho4 hb4 HNM HO HB hc
   go_wp2
   go_roundw
   case rel => exact ⟨k + 1, by omega, by go_num, A4, c4, by rw [HMN.out], by rw [HMN.out]; exact HO4.out, HB4.out⟩
   case measure => simp [intOf] <;> omega
end Go.Proofs.YtjgjofepedcfnaaGreat
