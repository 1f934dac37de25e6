/- States as bytes, on lists; the box of bytes of replay.Encode; walks of replay.Encode's closure and of replay.Encode. -/
import Derived.Test.YtjgjofepedcfnaaGreatRsA
import Derived.Test.YtjgjofepedcfnaaGreatGRo
import Derived.Test.YtjgjofepedcfnaaGreatRpG
import Derived.Test.YtjgjofepedcfnaaGreatGRj
import Derived.Test.YtjgjofepedcfnaaGreatGRv
import Derived.Test.YtjgjofepedcfnaaGreatGRn
namespace Go.Proofs.YtjgjofepedcfnaaGreat
open Go.RowKit
def prE (p : Nat × Nat) : List Nat := uvB p.1 ++ uvB p.2
def lfE (x : Leaf) : List Nat := (x.vs.zip x.ss).flatMap prE
def mvE (m : Mv) : List Nat := uvB m.g.toNat ++ (uvB m.p.toNat ++ (uvB m.to.disk.toNat ++ uvB m.to.block.toNat))
def encS (S : St) (u : List Nat) : List Nat := S.ls.flatMap lfE ++ (uvB S.ms.length ++ (S.ms.flatMap mvE ++ (uvB S.nt.length ++ (S.nt.flatMap bsB ++ bsB u))))
theorem drop_flat {α : Type} (f : α → List Nat) {l : List α} {k : Nat} {x : α} (h : l[k]? = some x) : (l.drop k).flatMap f = f x ++ (l.drop (k + 1)).flatMap f := by
 rw [drop_at h, List.flatMap_cons]
theorem drop_end {α : Type} (f : α → List Nat) {l : List α} : (l.drop l.length).flatMap f = [] := by rw [List.drop_length]; rfl
theorem zip_at {a b : List Nat} {k x y : Nat} (h : a[k]? = some x) (g : b[k]? = some y) : (a.zip b)[k]? = some (x, y) := by
 rw [List.getElem?_zip_eq_some]
 exact ⟨h, g⟩
structure EnB (w0 : World) (p : Nat) (R : List Nat) (A : Option Addr) (c : Nat) (W : World) : Prop where
 agr : Agr (fun k => k = p) w0 W
 lt : p < w0.heap.size
 blk : W.heap[p]? = some (.cells #[.slice A R.length c] 26 (0, 0))
 byt : BytS W W.heap.size A R
 ne : ∀ a, A = some a → a.block ≠ p
section
variable {w0 W W' : World} {p c c1 : Nat} {R R1 : List Nat} {A A1 : Option Addr} {v : Value}
theorem EnB.call (h : EnB w0 p R A c W) (hb : Below W.heap.size W W') : EnB w0 p R A c W' :=
 ⟨h.agr.call hb, h.lt, (hb.block _ (Nat.lt_of_lt_of_le h.lt h.agr.size)).trans h.blk, byt_keep h.byt hb, h.ne⟩
theorem EnB.cell (h : EnB w0 p R A c W) : W.cell? ⟨p, 0, none⟩ = some (.slice A R.length c) := by rw [cell_of_row _ _ _ _ _ _ h.blk]; rfl
theorem EnB.frz (h : EnB w0 p R A c W) : W.frozen? ⟨p, 0, none⟩ = false := frozen_blk h.blk 0
theorem EnB.store {b : Nat} (h : EnB w0 p R A c W) (hb : Below W.heap.size W W') (ho : OwS W' b 5 1 (.slice A1 R1.length c1) (R1.map u8C)) (hb2 : W.heap.size ≤ b) : EnB w0 p R1 A1 c1 (W'.setCell ⟨p, 0, none⟩ (.slice A1 R1.length c1)) := by
 have hz : p < W.heap.size := Nat.lt_of_lt_of_le h.lt h.agr.size
 have hne : ∀ a, A1 = some a → a.block ≠ p := fun a e => by
  have := (ho.lt (k := a.block) (by rw [e]; rfl)).1
  omega
 have ha : Agr (fun k => k = p) W' (W'.setCell ⟨p, 0, none⟩ (.slice A1 R1.length c1)) := Agr.set (F := fun k => k = p) (Agr.refl _ _) (p := ⟨p, 0, none⟩) (.inl rfl) _
 exact ⟨(h.agr.call hb).trans ha, h.lt, heap_setCell_same _ _ 0 _ _ _ ((hb.block _ hz).trans h.blk), RdS.stb (F := fun k => k = p) ho.reads (fun a e => hne a e) _ ha, hne⟩
theorem EnB.base {w2 : World} (h : EnB w2 p R A c W) (ha : Agr (fun k => k = p) w0 w2) (hp : p < w0.heap.size) : EnB w0 p R A c W := ⟨ha.trans h.agr, hp, h.blk, h.byt, h.ne⟩
theorem EnB.up {w2 : World} (h : EnB w0 p R A c w2) (hz : w0.heap.size ≤ w2.heap.size) : EnB w2 p R A c w2 := ⟨Agr.refl _ _, Nat.lt_of_lt_of_le h.lt hz, h.blk, h.byt, h.ne⟩
theorem EnB.low {B : Nat} (h : EnB w0 p R A c W) (hB : B ≤ p) : Below B w0 W := h.agr.below (fun k _ e => by omega) (by have := h.lt; omega)
end
set_option maxHeartbeats 1000000 in
set_option maxRecDepth 100000 in
theorem enNum {w0 : World} {p c : Nat} {R : List Nat} {A : Option Addr} (n : Nat) (w : World) (h : EnB w0 p R A c w) (hn : n < 9223372036854775808) (hl : R.length ≤ 900000) :
  Calls Tryz.prog 75 #[.int .i64 (n : Int), .pointer (some ⟨p, 0, none⟩)] w fun e w' => e = .returned (.tuple #[]) ∧ ∃ A1 c1, EnB w0 p (R ++ uvB n) A1 c1 w' := by
 have HU := Lib.hid (uintO (c := c) n w h.byt (Nat.le_refl _) (by omega) hl)
 have hcv := conv_nn n hn
 have p0 := h.cell
 have HH := Lib.hid h
 generalize R ++ uvB n = R1 at *
 clear h
 go_enter Tryz.func75, Tryz.ntmps75
 go_wp2_with fail
 refine HU.out.mono ?_
 rintro r w1 ⟨⟨v1, rfl, ho1⟩, hb1⟩
 have p1 := (HH.out.call hb1).cell
 have f1 := (HH.out.call hb1).frz
 obtain ⟨A1, c1, rfl, -, -⟩ := ho1.form
 rw [List.length_map] at ho1 ⊢
 have HE := Lib.hid (HH.out.store hb1 ho1 (Nat.le_refl _))
 clear ho1 hb1
 go_wp2
 go_end0
 exact ⟨rfl, A1, c1, HE.out⟩
def MvN (m : Mv) : Prop := ∃ a b c d : Nat, m = ⟨a, b, ⟨c, d⟩⟩ ∧ a < 9223372036854775808 ∧ b < 9223372036854775808 ∧ c < 9223372036854775808 ∧ d < 9223372036854775808
structure EncOk (S : St) (u : List Nat) : Prop where
 ll : S.ls.length ≤ 100000
 ls : ∀ x ∈ S.ls, (x.vs.length = x.ss.length ∧ x.vs.length ≤ 1000) ∧ (∀ n ∈ x.vs, n < 18446744073709551616) ∧ ∀ n ∈ x.ss, n < 18446744073709551616
 ms : ∀ m ∈ S.ms, MvN m
 ml : S.ms.length ≤ 100000
 nt : ∀ n ∈ S.nt, n.length ≤ 90000
 nl : S.nt.length ≤ 100000
 ul : u.length ≤ 90000
 el : (encS S u).length ≤ 900000
set_option maxHeartbeats 4000000 in
set_option maxRecDepth 100000 in
theorem rEncode {B cu : Nat} {v : Value} {S : St} {Au : Option Addr} {u : List Nat} (w : World) (h : StV w B v S) (hB : B ≤ w.heap.size) (hu : BytS w B Au u) (hk : EncOk S u) :
  Calls Tryz.prog 31 #[v, .slice Au u.length cu] w fun r w' => BytP (encS S u) w' r ∧ Below w.heap.size w w' := by
 obtain ⟨A1, c1, A2, c2, A3, c3, rfl, hls, hms, hnt⟩ := h
 obtain ⟨ls, ms, nt⟩ := S
 obtain ⟨k0, k1, k2, k3, k4, k5, k6, k7⟩ := hk
 simp only at hls hms hnt k0 k1 k2 k3 k4 k5 ⊢
 obtain ⟨T5, hT5⟩ : ∃ T, bsB u = T := ⟨_, rfl⟩
 obtain ⟨T4, hT4⟩ : ∃ T, nt.flatMap bsB ++ T5 = T := ⟨_, rfl⟩
 obtain ⟨T3, hT3⟩ : ∃ T, uvB nt.length ++ T4 = T := ⟨_, rfl⟩
 obtain ⟨T2, hT2⟩ : ∃ T, ms.flatMap mvE ++ T3 = T := ⟨_, rfl⟩
 obtain ⟨T1, hT1⟩ : ∃ T, uvB ms.length ++ T2 = T := ⟨_, rfl⟩
 obtain ⟨E, hE⟩ : ∃ E, encS ⟨ls, ms, nt⟩ u = E := ⟨_, rfl⟩
 have HE : Hid (ls.flatMap lfE ++ T1 = E) := by rw [Hid, ← hE, ← hT1, ← hT2, ← hT3, ← hT4, ← hT5]; rfl
 rw [hE] at k7 ⊢
 have HT1 := Lib.hid hT1
 have HT2 := Lib.hid hT2
 have HT3 := Lib.hid hT3
 have HT4 := Lib.hid hT4
 have HT5 := Lib.hid hT5
 have HLE : Hid (∀ R T : List Nat, R ++ T = E → R.length ≤ 900000) := fun R T e => by have := congrArg List.length e; rw [List.length_append] at this; omega
 have HLS := Lib.hid hls
 have HMS := Lib.hid hms
 have HNT := Lib.hid hnt
 have HU := Lib.hid hu
 have K1 := Lib.hid k1
 have K2 := Lib.hid k2
 have K4 := Lib.hid k4
 clear hls hms hnt hu k1 k2 k4 k7 hE hT1 hT2 hT3 hT4 hT5
 go_enter Tryz.func31, Tryz.ntmps31
 go_upto_region 2 with (fail)
 generalize hW0 : (w.alloc _).alloc _ = w0
 have HB0 : Hid (Below w.heap.size w w0) := by rw [← hW0]; exact below_laid.alloc (by simp) _
 have hs0 : w0.heap.size = w.heap.size + 2 := by rw [← hW0]; simp
 have HP0 : Hid (w0.heap[w.heap.size]? = some (.cells #[.slice A1 ls.length c1, .slice A2 ms.length c2, .slice A3 nt.length c3] 41 (0, 0))) := by
  rw [← hW0, Hid]
  rw [below_laid.block _ (by simp)]
  exact heap_alloc_new w _
 have HE0 : Hid (EnB w0 (w.heap.size + 1) [] none 0 w0) := ⟨Agr.refl _ _, by omega, by rw [← hW0]; have := heap_alloc_new (w.alloc (.cells #[.slice A1 ls.length c1, .slice A2 ms.length c2, .slice A3 nt.length c3] 41)) (.cells #[.slice none 0 0] 26); simpa using this, RdS.nil _ _ _ _, by simp⟩
 have HPC : Hid (∀ W, Below (w.heap.size + 1) w0 W → W.cell? ⟨w.heap.size, 0, none⟩ = some (.slice A1 ls.length c1) ∧ W.cell? ⟨w.heap.size, 1, none⟩ = some (.slice A2 ms.length c2) ∧ W.cell? ⟨w.heap.size, 2, none⟩ = some (.slice A3 nt.length c3)) := fun W hW => by
  have hh := (hW.block _ (Nat.lt_succ_self _)).trans HP0.out
  exact ⟨by rw [cell_of_row _ _ _ _ _ _ hh]; rfl, by rw [cell_of_row _ _ _ _ _ _ hh]; rfl, by rw [cell_of_row _ _ _ _ _ _ hh]; rfl⟩
 have HNU : Hid (∀ (R : List Nat) (A : Option Addr) (c n : Nat) (W : World), EnB w0 (w.heap.size + 1) R A c W → n < 9223372036854775808 → R.length ≤ 900000 → Calls Tryz.prog 75 #[.int .i64 (n : Int), .pointer (some ⟨w.heap.size + 1, 0, none⟩)] W fun e w' => e = .returned (.tuple #[]) ∧ ∃ A1 c1, EnB w0 (w.heap.size + 1) (R ++ uvB n) A1 c1 w') := fun R A c n W h1 h2 h3 => enNum n W h1 h2 h3
 obtain ⟨q0, q1, q2⟩ := HPC.out w0 (Below.refl _ _)
 clear hW0
 go_wp2
 clear q0 q1 q2
 go_loopw [18] (fun s18 wr => ∃ k : Nat, k ≤ ls.length ∧ s18 = .int .i64 k ∧ ∃ R A c, R ++ ((ls.drop k).flatMap lfE ++ T1) = E ∧ EnB w0 (w.heap.size + 1) R A c wr) (fun s18 _ => ls.length - (intOf s18).toNat)
 case atStart => exact ⟨0, by omega, rfl, [], none, 0, HE.out, HE0.out⟩
 case round =>
  obtain ⟨k, hk, rfl, R, A, c, he, hen⟩ := hrel
  have HR := Lib.hid he
  have HN := Lib.hid hen
  clear he hen HE HE0
  by_cases hkn : k < ls.length
  case neg =>
   have hkI : ¬ (k : Int) < (ls.length : Int) := by omega
   obtain rfl : k = ls.length := by omega
   rw [drop_end, List.nil_append, ← HT1.out] at HR
   obtain ⟨q0, q1, q2⟩ := HPC.out wr (HN.out.low (Nat.le_refl _))
   have HC1 := Lib.hid (HNU.out R A c ms.length wr HN.out (by omega) (HLE.out _ _ HR.out))
   clear hkn HLS K1
   go_wp2_with fail
   refine HC1.out.mono ?_
   rintro e w1 ⟨rfl, B1, d1, hn1⟩
   have HR1 : Hid ((R ++ uvB ms.length) ++ T2 = E) := by rw [Hid, List.append_assoc]; exact HR.out
   generalize R ++ uvB ms.length = R1 at *
   have HN1 := Lib.hid hn1
   clear hn1 HC1 HR HN q0 q1 q2 HT1
   obtain ⟨q0, q1, q2⟩ := HPC.out w1 (HN1.out.low (Nat.le_refl _))
   go_wp2
   clear q0 q1 q2
   go_loopw [51] (fun s51 wr => ∃ k : Nat, k ≤ ms.length ∧ s51 = .int .i64 k ∧ ∃ R A c, R ++ ((ms.drop k).flatMap mvE ++ T3) = E ∧ EnB w0 (w.heap.size + 1) R A c wr) (fun s51 _ => ms.length - (intOf s51).toNat)
   case atStart => exact ⟨0, by omega, rfl, R1, B1, d1, by have := HR1.out; rw [← HT2.out] at this; exact this, HN1.out⟩
   case round =>
    obtain ⟨k, hk, rfl, R, A, c, he, hen⟩ := hrel
    have HR := Lib.hid he
    have HN := Lib.hid hen
    clear he hen HR1 HN1
    by_cases hkn : k < ms.length
    case neg =>
     have hkI : ¬ (k : Int) < (ms.length : Int) := by omega
     obtain rfl : k = ms.length := by omega
     rw [drop_end, List.nil_append, ← HT3.out] at HR
     obtain ⟨q0, q1, q2⟩ := HPC.out wr (HN.out.low (Nat.le_refl _))
     have HC1 := Lib.hid (HNU.out R A c nt.length wr HN.out (by omega) (HLE.out _ _ HR.out))
     clear hkn HMS K2
     go_wp2_with fail
     refine HC1.out.mono ?_
     rintro e w2 ⟨rfl, B2, d2, hn1⟩
     have HR1 : Hid ((R ++ uvB nt.length) ++ T4 = E) := by rw [Hid, List.append_assoc]; exact HR.out
     generalize R ++ uvB nt.length = R2 at *
     have HN1 := Lib.hid hn1
     clear hn1 HC1 HR HN q0 q1 q2 HT2 HT3
     obtain ⟨q0, q1, q2⟩ := HPC.out w2 (HN1.out.low (Nat.le_refl _))
     go_wp2
     clear q0 q1 q2
     go_loopw [82] (fun s82 wr => ∃ k : Nat, k ≤ nt.length ∧ s82 = .int .i64 k ∧ ∃ R A c, R ++ ((nt.drop k).flatMap bsB ++ T5) = E ∧ EnB w0 (w.heap.size + 1) R A c wr) (fun s82 _ => nt.length - (intOf s82).toNat)
     case atStart => exact ⟨0, by omega, rfl, R2, B2, d2, by have := HR1.out; rw [← HT4.out] at this; exact this, HN1.out⟩
     case round =>
      obtain ⟨k, hk, rfl, R, A, c, he, hen⟩ := hrel
      have HR := Lib.hid he
      have HN := Lib.hid hen
      have HBW : Hid (Below w.heap.size w wr) := HB0.out.trans ((hen.low (Nat.le_succ _)).mono (Nat.le_refl _))
      have p0 := hen.cell
      clear he hen HR1 HN1
      by_cases hkn : k < nt.length
      case neg =>
       have hkI : ¬ (k : Int) < (nt.length : Int) := by omega
       obtain rfl : k = nt.length := by omega
       rw [drop_end, List.nil_append, ← HT5.out] at HR
       have hur : BytS wr wr.heap.size Au u := (HU.out.below' HBW.out hB).more (Nat.le_trans hB HBW.out.size)
       have HC1 := Lib.hid (bytesC (c := c) (cx := cu) wr HN.out.byt hur (Nat.le_refl _) (HLE.out _ _ HR.out) k6)
       rw [HR.out] at HC1
       clear hkn HNT K4 hur
       go_wp2_with fail
       refine HC1.out.mono ?_
       rintro e w3 ⟨⟨A9, c9, rfl, h9, h9'⟩, hb3⟩
       have H9 : Hid (BytP E w3 (.returned (.slice A9 E.length c9))) := ⟨A9, c9, rfl, h9, h9'⟩
       have HB3 := Lib.hid (HBW.out.trans (hb3.mono HBW.out.size))
       clear h9 h9' hb3
       go_wp2
       go_ret
       exact ⟨H9.out, HB3.out⟩
      case pos =>
       have hkI : (k : Int) < (nt.length : Int) := by omega
       have hk0 : ¬ (k : Int) < 0 := by omega
       obtain ⟨x, hx⟩ : ∃ x, nt[k]? = some x := ⟨_, List.getElem?_eq_getElem hkn⟩
       obtain ⟨b, o, Ai, ci, rfl, hbB, hc, hxr⟩ := (HNT.out.below HBW.out hB).at_ hx
       have hxl := K4.out x (List.mem_of_getElem? hx)
       have HDR : Hid ((nt.drop k).flatMap bsB = bsB x ++ (nt.drop (k + 1)).flatMap bsB) := drop_flat bsB hx
       have HRN : Hid ((R ++ bsB x) ++ ((nt.drop (k + 1)).flatMap bsB ++ T5) = E) := by
        rw [Hid, ← HR.out, HDR.out]
        simp only [List.append_assoc]
       have HC1 := Lib.hid (bytesO (c := c) (cx := ci) wr HN.out.byt (hxr.more (Nat.le_trans hB HBW.out.size)) (Nat.le_refl _) (HLE.out _ _ HR.out) hxl)
       generalize R ++ bsB x = R9 at *
       clear hx hxr hxl HDR HR
       go_wp2_with fail
       refine HC1.out.mono ?_
       rintro e w3 ⟨⟨v3, rfl, ho3⟩, hb3⟩
       obtain ⟨A9, c9, rfl, -, -⟩ := ho3.form
       rw [List.length_map] at ho3 ⊢
       have HN9 := Lib.hid (HN.out.store hb3 ho3 (Nat.le_refl _))
       have p3 := (HN.out.call hb3).cell
       have f3 := (HN.out.call hb3).frz
       clear ho3 hb3 HC1 HN
       go_wp2
       go_roundw
       case rel => exact ⟨k + 1, by omega, by go_num, R9, A9, c9, HRN.out, HN9.out⟩
       case measure => simp [intOf] <;> omega
    case pos =>
     have hkI : (k : Int) < (ms.length : Int) := by omega
     have hk0 : ¬ (k : Int) < 0 := by omega
     have HBW : Hid (Below w.heap.size w wr) := HB0.out.trans (HN.out.low (Nat.le_succ _))
     obtain ⟨x, hx⟩ : ∃ x, ms[k]? = some x := ⟨_, List.getElem?_eq_getElem hkn⟩
     obtain ⟨b, o, rfl, hbB, hc0, hc1, hc2, hc3⟩ := MvS.at_ (HMS.out.below' HBW.out hB) hx
     obtain ⟨ma, mb, mc, md, rfl, na, nb, nc, nd⟩ := K2.out x (List.mem_of_getElem? hx)
     have HDR : Hid ((ms.drop k).flatMap mvE = (uvB ma ++ (uvB mb ++ (uvB mc ++ uvB md))) ++ (ms.drop (k + 1)).flatMap mvE) := drop_flat mvE hx
     have HRN : Hid ((R ++ (uvB ma ++ (uvB mb ++ (uvB mc ++ uvB md)))) ++ ((ms.drop (k + 1)).flatMap mvE ++ T3) = E) := by
      rw [Hid, ← HR.out, HDR.out]
      simp only [List.append_assoc]
     simp only at hc0 hc1 hc2 hc3
     clear hx HDR
     go_upto_region 16 with (fail)
     have hbl0 : Below wr.heap.size wr (wr.alloc (.cells #[.int .i64 (ma : Int), .int .i64 (mb : Int), .int .i64 (mc : Int), .int .i64 (md : Int)] 89)) := below_laid
     have hlx := heap_alloc_new wr (.cells #[.int .i64 (ma : Int), .int .i64 (mb : Int), .int .i64 (mc : Int), .int .i64 (md : Int)] 89)
     have hzx : wr.heap.size < (wr.alloc (.cells #[.int .i64 (ma : Int), .int .i64 (mb : Int), .int .i64 (mc : Int), .int .i64 (md : Int)] 89)).heap.size := by simp
     generalize wr.alloc _ = w2 at *
     have hpz : w.heap.size + 1 < wr.heap.size := Nat.lt_of_lt_of_le HN.out.lt HN.out.agr.size
     have HG2 : Hid (Agr (fun k => k = w.heap.size + 1) w0 w2) := HN.out.agr.call hbl0
     have HX2 : Hid (EnB w2 (w.heap.size + 1) R A c w2) := (HN.out.call hbl0).up HG2.out.size
     have HMC : Hid (∀ R A c W, EnB w2 (w.heap.size + 1) R A c W → W.cell? ⟨wr.heap.size, 0, none⟩ = some (.int .i64 (ma : Int)) ∧ W.cell? ⟨wr.heap.size, 1, none⟩ = some (.int .i64 (mb : Int)) ∧ W.cell? ⟨wr.heap.size, 2, none⟩ = some (.int .i64 (mc : Int)) ∧ W.cell? ⟨wr.heap.size, 3, none⟩ = some (.int .i64 (md : Int))) := fun R A c W hW => by
      have hh := (hW.agr.block _ hzx (by omega)).trans hlx
      exact ⟨by rw [cell_of_row _ _ _ _ _ _ hh]; rfl, by rw [cell_of_row _ _ _ _ _ _ hh]; rfl, by rw [cell_of_row _ _ _ _ _ _ hh]; rfl, by rw [cell_of_row _ _ _ _ _ _ hh]; rfl⟩
     have HLT : Hid (w.heap.size + 1 < w0.heap.size) := HN.out.lt
     have h1 := HLE.out _ _ HRN.out
     simp only [List.length_append] at h1
     clear hc0 hc1 hc2 hc3 hbl0 hlx hzx HN HBW hpz
     obtain ⟨m0, m1, m2, m3⟩ := HMC.out _ _ _ _ HX2.out
     have HC1 := Lib.hid (enNum ma w2 HX2.out na (by omega))
     go_wp2_with fail
     refine HC1.out.mono ?_
     rintro e wA ⟨rfl, AA, cA, hA⟩
     obtain ⟨m0, m1, m2, m3⟩ := HMC.out _ _ _ _ hA
     have HC2 := Lib.hid (enNum mb wA hA nb (by rw [List.length_append]; omega))
     clear hA HC1 HX2
     go_wp2_with fail
     refine HC2.out.mono ?_
     rintro e wB ⟨rfl, AB, cB, hA⟩
     obtain ⟨m0, m1, m2, m3⟩ := HMC.out _ _ _ _ hA
     have HC3 := Lib.hid (enNum mc wB hA nc (by simp only [List.length_append]; omega))
     clear hA HC2
     go_wp2_with fail
     refine HC3.out.mono ?_
     rintro e wC ⟨rfl, AC, cC, hA⟩
     obtain ⟨m0, m1, m2, m3⟩ := HMC.out _ _ _ _ hA
     have HC4 := Lib.hid (enNum md wC hA nd (by simp only [List.length_append]; omega))
     clear hA HC3
     go_wp2_with fail
     refine HC4.out.mono ?_
     rintro e wD ⟨rfl, AD, cD, hA⟩
     have HEQ : Hid (R ++ uvB ma ++ uvB mb ++ uvB mc ++ uvB md = R ++ (uvB ma ++ (uvB mb ++ (uvB mc ++ uvB md)))) := by simp only [Hid, List.append_assoc]
     rw [HEQ.out] at hA
     have HNX := Lib.hid (hA.base HG2.out HLT.out)
     clear hA HC4
     go_wp2
     go_roundw
     case rel => exact ⟨k + 1, by omega, by go_num, _, AD, cD, HRN.out, HNX.out⟩
     case measure => simp [intOf] <;> omega
  case pos =>
   have hkI : (k : Int) < (ls.length : Int) := by omega
   have hk0 : ¬ (k : Int) < 0 := by omega
   have HBW : Hid (Below w.heap.size w wr) := HB0.out.trans (HN.out.low (Nat.le_succ _))
   obtain ⟨x, hx⟩ : ∃ x, ls[k]? = some x := ⟨_, List.getElem?_eq_getElem hkn⟩
   obtain ⟨b, o, ua, ub, rfl, hbB, hca, hcb, hlf⟩ := LvS.at_ (HLS.out.below HBW.out hB) hx
   obtain ⟨⟨hx1, hx0⟩, hx2, hx3⟩ := K1.out x (List.mem_of_getElem? hx)
   have HDR : Hid ((ls.drop k).flatMap lfE = lfE x ++ (ls.drop (k + 1)).flatMap lfE) := drop_flat lfE hx
   obtain ⟨vs, ss⟩ := x
   obtain ⟨Av, cv, As, cs, he, hv1, hv2, -, -⟩ := hlf
   simp only at hx0 hx1 hx2 hx3 hv1 hv2 he
   obtain ⟨rfl, rfl⟩ : ua = .slice Av vs.length cv ∧ ub = .slice As ss.length cs := by
    injection he with he
    have e0 := congrArg (fun x => x[0]?) he
    have e1 := congrArg (fun x => x[1]?) he
    simp at e0 e1
    exact ⟨e0, e1⟩
   obtain ⟨T0, hT0⟩ : ∃ T, (ls.drop (k + 1)).flatMap lfE ++ T1 = T := ⟨_, rfl⟩
   have HT0 := Lib.hid hT0
   have HRN : Hid (R ++ ((vs.zip ss).flatMap prE ++ T0) = E) := by
    rw [Hid, ← HR.out, HDR.out, ← hT0]
    simp only [lfE, List.append_assoc]
   have X2 := Lib.hid hx2
   have X3 := Lib.hid hx3
   have X1 := Lib.hid hx1
   clear hT0 HDR he hx hx2 hx3 HR hx1
   go_upto_region 6 with (fail)
   have hbl0 : Below wr.heap.size wr (wr.alloc (.cells #[.slice Av vs.length cv, .slice As ss.length cs] 80)) := below_laid
   have hlx := heap_alloc_new wr (.cells #[.slice Av vs.length cv, .slice As ss.length cs] 80)
   have hzx : wr.heap.size < (wr.alloc (.cells #[.slice Av vs.length cv, .slice As ss.length cs] 80)).heap.size := by simp
   generalize wr.alloc _ = w2 at *
   have hpz : w.heap.size + 1 < wr.heap.size := Nat.lt_of_lt_of_le HN.out.lt HN.out.agr.size
   have HG2 : Hid (Agr (fun k => k = w.heap.size + 1) w0 w2) := HN.out.agr.call hbl0
   have HX2 : Hid (EnB w2 (w.heap.size + 1) R A c w2) := (HN.out.call hbl0).up HG2.out.size
   have HMC : Hid (∀ W, Agr (fun k => k = w.heap.size + 1) w2 W → W.cell? ⟨wr.heap.size, 0, none⟩ = some (.slice Av vs.length cv) ∧ W.cell? ⟨wr.heap.size, 1, none⟩ = some (.slice As ss.length cs)) := fun W hW => by
    have hh := (hW.block _ hzx (by omega)).trans hlx
    exact ⟨by rw [cell_of_row _ _ _ _ _ _ hh]; rfl, by rw [cell_of_row _ _ _ _ _ _ hh]; rfl⟩
   have HLT : Hid (w.heap.size + 1 < w0.heap.size) := HN.out.lt
   have HQZ : Hid (wr.heap.size < w2.heap.size) := hzx
   have hBr : B ≤ wr.heap.size := by omega
   have HV1 : Hid (U64S w2 B Av vs) := RdS.below' hv1 hbl0 hBr
   have HV2 : Hid (U64S w2 B As ss) := RdS.below' hv2 hbl0 hBr
   clear hca hcb hbl0 hlx hzx HN HBW hpz hv1 hv2
   obtain ⟨m0, m1⟩ := HMC.out _ HX2.out.agr
   generalize hq : wr.heap.size = q at *
   clear hq wr
   go_wp2
   clear m0 m1
   go_loopw [25] (fun s25 wr => ∃ j : Nat, j ≤ vs.length ∧ s25 = .int .i64 j ∧ ∃ R A c, R ++ (((vs.zip ss).drop j).flatMap prE ++ T0) = E ∧ EnB w2 (w.heap.size + 1) R A c wr) (fun s25 _ => vs.length - (intOf s25).toNat)
   case atStart => exact ⟨0, by omega, rfl, R, A, c, HRN.out, HX2.out⟩
   case round =>
    obtain ⟨j, hj, rfl, R, A, c, he, hen⟩ := hrel
    have HR := Lib.hid he
    have HN := Lib.hid hen
    clear he hen HRN HX2
    by_cases hjn : j < vs.length
    case neg =>
     have hjI : ¬ (j : Int) < (vs.length : Int) := by omega
     have HRE : Hid (R ++ ((ls.drop (k + 1)).flatMap lfE ++ T1) = E) := by
      rw [Hid, HT0.out, ← HR.out, List.drop_of_length_le (by rw [List.length_zip]; omega)]
      rfl
     have HNX := Lib.hid (HN.out.base HG2.out HLT.out)
     clear HR HN hjn
     go_wp2
     go_roundw
     case rel => exact ⟨k + 1, by omega, by go_num, R, A, c, HRE.out, HNX.out⟩
     case measure => simp [intOf] <;> omega
    case pos =>
     have hjI : (j : Int) < (vs.length : Int) := by omega
     have hj0 : ¬ (j : Int) < 0 := by omega
     have hjS : (j : Int) < (ss.length : Int) := by have := X1.out; omega
     obtain ⟨xv, hxv⟩ : ∃ x, vs[j]? = some x := ⟨_, List.getElem?_eq_getElem hjn⟩
     obtain ⟨xs, hxs⟩ : ∃ x, ss[j]? = some x := ⟨_, List.getElem?_eq_getElem (by have := X1.out; omega)⟩
     obtain ⟨bv, ov, rfl, hbv, hcv⟩ := U64S.at_ (HV1.out.below' (HN.out.low (Nat.le_succ _)) hB) hxv
     obtain ⟨bs, os, rfl, hbs, hcs⟩ := U64S.at_ (HV2.out.below' (HN.out.low (Nat.le_succ _)) hB) hxs
     have hnv := X2.out xv (List.mem_of_getElem? hxv)
     have hns := X3.out xs (List.mem_of_getElem? hxs)
     have HDR : Hid (((vs.zip ss).drop j).flatMap prE = (uvB xv ++ uvB xs) ++ ((vs.zip ss).drop (j + 1)).flatMap prE) := drop_flat prE (zip_at hxv hxs)
     have HRN : Hid ((R ++ uvB xv ++ uvB xs) ++ (((vs.zip ss).drop (j + 1)).flatMap prE ++ T0) = E) := by
      rw [Hid, ← HR.out, HDR.out]
      simp only [List.append_assoc]
     have hl1 := HLE.out _ _ HRN.out
     have hwz : wr.heap.size ≥ w2.heap.size := HN.out.agr.size
     have hqz : q < w2.heap.size := HQZ.out
     have hlz : w.heap.size + 1 < w2.heap.size := HN.out.lt
     obtain ⟨R1, hR1⟩ : ∃ R1, R ++ uvB xv = R1 := ⟨_, rfl⟩
     obtain ⟨R2, hR2⟩ : ∃ R2, R1 ++ uvB xs = R2 := ⟨_, rfl⟩
     rw [hR1, hR2] at HRN hl1
     have hl0 : R.length ≤ R1.length := by rw [← hR1, List.length_append]; omega
     have hl2 : R1.length ≤ R2.length := by rw [← hR2, List.length_append]; omega
     have HS1 : Hid (∀ W, Below wr.heap.size wr W → Calls Tryz.prog 76 #[.slice A R.length c, .int .u64 (xv : Int)] W fun r w' => (∃ A' c', r = .returned (.slice A' R1.length c') ∧ BytS w' w'.heap.size A' R1) ∧ Below wr.heap.size wr w') := fun W hW =>
      (uintC (c := c) xv W (byt_keep HN.out.byt hW) (Nat.le_refl _) hnv (by omega)).mono fun r w' hh => by
       obtain ⟨⟨A', c', rfl, hr, -⟩, hb⟩ := hh
       rw [hR1] at hr ⊢
       exact ⟨⟨A', c', rfl, hr⟩, hW.trans (hb.mono hW.size)⟩
     have HS2 : Hid (∀ (A' : Option Addr) (c' : Nat) (W : World), BytS W W.heap.size A' R1 → Below wr.heap.size wr W → Calls Tryz.prog 76 #[.slice A' R1.length c', .int .u64 (xs : Int)] W fun r w' => (∃ A2 c2, r = .returned (.slice A2 R2.length c2) ∧ OwS w' wr.heap.size 5 1 (.slice A2 R2.length c2) (R2.map u8C)) ∧ Below wr.heap.size wr w') := fun A' c' W h hW =>
      (uintO (c := c') xs W h (Nat.le_refl _) hns (by omega)).mono fun r w' hh => by
       obtain ⟨⟨v, rfl, ho⟩, hb⟩ := hh
       rw [hR2] at ho
       obtain ⟨A2, c2, rfl, -, -⟩ := ho.form
       rw [List.length_map] at ho ⊢
       exact ⟨⟨A2, c2, rfl, ho.mono hW.size⟩, hW.trans (hb.mono hW.size)⟩
     have HSX : Hid (∀ W, Below wr.heap.size wr W → (W.cell? ⟨w.heap.size + 1, 0, none⟩ = some (.slice A R.length c) ∧ W.cell? ⟨q, 0, none⟩ = some (.slice (some ⟨bv, ov, none⟩) vs.length cv) ∧ W.cell? ⟨q, 1, none⟩ = some (.slice (some ⟨bs, os, none⟩) ss.length cs) ∧ W.cell? ⟨bv, ov + j, none⟩ = some (.int .u64 (xv : Int)) ∧ W.cell? ⟨bs, os + j, none⟩ = some (.int .u64 (xs : Int)))) := fun W hW => by
      have hM := HMC.out W (HN.out.agr.call hW)
      exact ⟨(HN.out.call hW).cell, hM.1, hM.2, (hW.cell (p := ⟨bv, ov + j, none⟩) (by show bv < _; omega)).trans hcv, (hW.cell (p := ⟨bs, os + j, none⟩) (by show bs < _; omega)).trans hcs⟩
     have hS0 := HSX.out wr.drew (Below.refl _ _).drew
     clear hcv hcs hxv hxs HDR HR hR1 hR2 hl0 hl1 hl2 hnv hns
     go_upto_region 9 with (fail)
     refine wp_regionT (T := 13) (S := fun W : World => W.cell? ⟨w.heap.size + 1, 0, none⟩ = some (.slice A R.length c) ∧ W.cell? ⟨q, 0, none⟩ = some (.slice (some ⟨bv, ov, none⟩) vs.length cv) ∧ W.cell? ⟨q, 1, none⟩ = some (.slice (some ⟨bs, os, none⟩) ss.length cs) ∧ W.cell? ⟨bv, ov + j, none⟩ = some (.int .u64 (xv : Int)) ∧ W.cell? ⟨bs, os + j, none⟩ = some (.int .u64 (xs : Int))) (by kernel_rfl) ?_
     (try change wpAnyT _ _ _ _ _ _ _ _ _ (World.drew _))
     refine wpAnyT_take (i := 0) (v := ?_) 60 rfl (by kernel_rfl) (by kernel_rfl) (by kernel_rfl) (by kernel_rfl) (by kernel_rfl) (fun _ _ _ h => h) (Or.inl ⟨by rfl, ?_⟩) hS0 ?_
     rotate_left
     ·(intro W hW; (try dsimp only at hW); obtain ⟨hW0, hW1, hW2, hW3, hW4⟩ := hW; go_simp; try with_reducible rfl)
     (simp only [List.getElem_toArray, List.getElem_cons_zero, Act.put, List.setIfInBounds_toArray, List.set_cons_zero, List.set_cons_succ])
     refine wpAnyT_take (i := 1) (v := ?_) 60 rfl (by kernel_rfl) (by kernel_rfl) (by kernel_rfl) (by kernel_rfl) (by kernel_rfl) (fun _ _ _ h => h) (Or.inl ⟨by rfl, ?_⟩) hS0 ?_
     rotate_left
     ·(intro W hW; (try dsimp only at hW); obtain ⟨hW0, hW1, hW2, hW3, hW4⟩ := hW; go_simp; try with_reducible rfl)
     (simp only [List.getElem_toArray, List.getElem_cons_zero, List.getElem_cons_succ, Act.put, List.setIfInBounds_toArray, List.set_cons_zero, List.set_cons_succ])
     refine wpAnyT_take (i := 2) (v := ?_) 60 rfl (by kernel_rfl) (by kernel_rfl) (by kernel_rfl) (by kernel_rfl) (by kernel_rfl) (fun _ _ _ h => h) (Or.inl ⟨by rfl, ?_⟩) hS0 ?_
     rotate_left
     ·(intro W hW; (try dsimp only at hW); obtain ⟨hW0, hW1, hW2, hW3, hW4⟩ := hW; go_simp; try with_reducible rfl)
     (simp only [List.getElem_toArray, List.getElem_cons_zero, List.getElem_cons_succ, Act.put, List.setIfInBounds_toArray, List.set_cons_zero, List.set_cons_succ])
     refine wpAnyT_take (i := 3) (v := ?_) 60 rfl (by kernel_rfl) (by kernel_rfl) (by kernel_rfl) (by kernel_rfl) (by kernel_rfl) (fun _ _ _ h => h) (Or.inl ⟨by rfl, ?_⟩) hS0 ?_
     rotate_left
     ·(intro W hW; (try dsimp only at hW); obtain ⟨hW0, hW1, hW2, hW3, hW4⟩ := hW; go_simp; try with_reducible rfl)
     (simp only [List.getElem_toArray, List.getElem_cons_zero, List.getElem_cons_succ, Act.put, List.setIfInBounds_toArray, List.set_cons_zero, List.set_cons_succ])
     refine wpAnyT_take (i := 4) (v := ?_) 60 rfl (by kernel_rfl) (by kernel_rfl) (by kernel_rfl) (by kernel_rfl) (by kernel_rfl) (fun _ _ _ h => h) (Or.inl ⟨by rfl, ?_⟩) hS0 ?_
     rotate_left
     ·(intro W hW; (try dsimp only at hW); obtain ⟨hW0, hW1, hW2, hW3, hW4⟩ := hW; go_simp; try with_reducible rfl)
     (simp only [List.getElem_toArray, List.getElem_cons_zero, List.getElem_cons_succ, Act.put, List.setIfInBounds_toArray, List.set_cons_zero, List.set_cons_succ])
     refine wpAnyT_take (i := 5) (v := ?_) 60 rfl (by kernel_rfl) (by kernel_rfl) (by kernel_rfl) (by kernel_rfl) (by kernel_rfl) (fun _ _ _ h => h) (Or.inl ⟨by rfl, ?_⟩) hS0 ?_
     rotate_left
     ·(intro W hW; (try dsimp only at hW); obtain ⟨hW0, hW1, hW2, hW3, hW4⟩ := hW; go_simp; try with_reducible rfl)
     (simp only [List.getElem_toArray, List.getElem_cons_zero, List.getElem_cons_succ, Act.put, List.setIfInBounds_toArray, List.set_cons_zero, List.set_cons_succ])
     refine wpAnyT_take (i := 7) (v := ?_) 60 rfl (by kernel_rfl) (by kernel_rfl) (by kernel_rfl) (by kernel_rfl) (by kernel_rfl) (fun _ _ _ h => h) (Or.inl ⟨by rfl, ?_⟩) hS0 ?_
     rotate_left
     ·(intro W hW; (try dsimp only at hW); obtain ⟨hW0, hW1, hW2, hW3, hW4⟩ := hW; go_simp; try with_reducible rfl)
     (simp only [List.getElem_toArray, List.getElem_cons_zero, List.getElem_cons_succ, Act.put, List.setIfInBounds_toArray, List.set_cons_zero, List.set_cons_succ])
     refine wpAnyT_take (i := 8) (v := ?_) 60 rfl (by kernel_rfl) (by kernel_rfl) (by kernel_rfl) (by kernel_rfl) (by kernel_rfl) (fun _ _ _ h => h) (Or.inl ⟨by rfl, ?_⟩) hS0 ?_
     rotate_left
     ·(intro W hW; (try dsimp only at hW); obtain ⟨hW0, hW1, hW2, hW3, hW4⟩ := hW; go_simp; try with_reducible rfl)
     (simp only [List.getElem_toArray, List.getElem_cons_zero, List.getElem_cons_succ, Act.put, List.setIfInBounds_toArray, List.set_cons_zero, List.set_cons_succ])
     refine wpAnyT_take (i := 9) (v := ?_) 60 rfl (by kernel_rfl) (by kernel_rfl) (by kernel_rfl) (by kernel_rfl) (by kernel_rfl) (fun _ _ _ h => h) (Or.inl ⟨by rfl, ?_⟩) hS0 ?_
     rotate_left
     ·(intro W hW; (try dsimp only at hW); obtain ⟨hW0, hW1, hW2, hW3, hW4⟩ := hW; go_simp; try with_reducible rfl)
     (simp only [List.getElem_toArray, List.getElem_cons_zero, List.getElem_cons_succ, Act.put, List.setIfInBounds_toArray, List.set_cons_zero, List.set_cons_succ])
     refine wpAnyT_take (i := 10) (v := ?_) 60 rfl (by kernel_rfl) (by kernel_rfl) (by kernel_rfl) (by kernel_rfl) (by kernel_rfl) (fun _ _ _ h => h) (Or.inl ⟨by rfl, ?_⟩) hS0 ?_
     rotate_left
     ·(intro W hW; (try dsimp only at hW); obtain ⟨hW0, hW1, hW2, hW3, hW4⟩ := hW; go_simp; try with_reducible rfl)
     (simp only [List.getElem_toArray, List.getElem_cons_zero, List.getElem_cons_succ, Act.put, List.setIfInBounds_toArray, List.set_cons_zero, List.set_cons_succ])
     refine wpAnyT_take (i := 11) (v := ?_) 60 rfl (by kernel_rfl) (by kernel_rfl) (by kernel_rfl) (by kernel_rfl) (by kernel_rfl) (fun _ _ _ h => h) (Or.inl ⟨by rfl, ?_⟩) hS0 ?_
     rotate_left
     ·(intro W hW; (try dsimp only at hW); obtain ⟨hW0, hW1, hW2, hW3, hW4⟩ := hW; go_simp; try with_reducible rfl)
     (simp only [List.getElem_toArray, List.getElem_cons_zero, List.getElem_cons_succ, Act.put, List.setIfInBounds_toArray, List.set_cons_zero, List.set_cons_succ])
     refine wpAnyT_one (i := 6) (by kernel_rfl) rfl rfl (fun K hK => ?_)
     (go_simp; go_wp2_with (go_at_call 76; ((with_reducible refine (HS1.out _ (Below.refl _ _).drew).mono ?_); rintro e y1 ⟨⟨A3, c3, rfl, hby1⟩, hb1⟩)))
     have hS1 := HSX.out y1 hb1
     (refine hK _ _ (.inr hS1) ?_)
     (clear hK K)
     (try simp only [List.getElem_toArray, List.getElem_cons_zero, List.getElem_cons_succ, Act.put, List.setIfInBounds_toArray, List.set_cons_zero, List.set_cons_succ])
     refine wpAnyT_one (i := 12) (by kernel_rfl) rfl rfl (fun K hK => ?_)
     (go_simp; go_wp2_with (go_at_call 76; ((with_reducible refine (HS2.out _ _ _ hby1 hb1).mono ?_); rintro e y2 ⟨⟨A4, c4, rfl, ho2⟩, hb2⟩)))
     have hS2 := HSX.out y2 hb2
     have f2 := (HN.out.call hb2).frz
     have HNX := Lib.hid (HN.out.store hb2 ho2 (Nat.le_refl _))
     (refine hK _ _ (.inr hS2) ?_)
     (clear hK K)
     (try simp only [List.getElem_toArray, List.getElem_cons_zero, List.getElem_cons_succ, Act.put, List.setIfInBounds_toArray, List.set_cons_zero, List.set_cons_succ])
     refine wpAnyT_one (i := 13) (by kernel_rfl) rfl rfl (fun K hK => ?_)
     go_simp
     (refine hK _ _ (.inl (by kernel_rfl)) ?_)
     (clear hK K)
     (try simp only [List.getElem_toArray, List.getElem_cons_zero, List.getElem_cons_succ, Act.put, List.setIfInBounds_toArray, List.set_cons_zero, List.set_cons_succ])
     refine wpAnyT_done (by kernel_rfl) ?_ _
     go_wp2
     go_roundw
     case rel => exact ⟨j + 1, by omega, by go_num, R2, A4, c4, HRN.out, HNX.out⟩
     case measure => simp [intOf] <;> omega
end Go.Proofs.YtjgjofepedcfnaaGreat
